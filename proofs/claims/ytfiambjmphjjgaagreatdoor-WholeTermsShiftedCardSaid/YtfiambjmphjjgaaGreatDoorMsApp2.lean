/- Part of a proof: a checked evaluator of the program (append: what becomes of the abstract heap). No condition. -/
import Derived.Test.YtfiambjmphjjgaaGreatDoorMsApp
/-! append: what becomes of the abstract heap -/
noncomputable section
namespace Go.Proofs.YtfiambjmphjjgaaGreatDoor.Ms
set_option linter.unusedVariables false
set_option linter.unusedSimpArgs false
section
variable {P : Program} {g : G} {h : Hp} {nx : Ps} {w : World}
/-- more cells are known, and the block is no longer the only copy -/
theorem WR.loosen (hw : WR g h nx w) {a : Ps} {s k1 k2 : Nat} {sg : Bool} {t t' : T AV} (hg : h.get a = some (.c s sg k1 t)) (hle : k1 ≤ k2) (ht : ∀ m, m < k1 → t'.getN m = t.getN m) :
    WR g (h.put a (.c s false k2 t')) nx w where
  obj := fun c x hc => by
    obtain ⟨ob, o, h1, h2, h3⟩ := hw.obj c x hc
    by_cases e : x.a = a
    · rw [e, hg] at h1
      injection h1 with h1
      subst h1
      obtain ⟨a1, a2, a3, cc, el, fr, e1, e2, e3, e4, e5⟩ := h3
      refine ⟨.c s false k2 t', o, (by rw [e, T.get_put, if_pos rfl]), h2, a1, (by omega), (fun h => by cases h), cc, el, fr, e1, e2, e3, e4, fun i hi => ?_⟩
      obtain ⟨v, u, b1, b2, b3, b4⟩ := e5 i hi
      exact ⟨v, u, by rw [ht i (by omega)]; exact b1, b2, b3, b4⟩
    · exact ⟨ob, o, by rw [T.get_put, if_neg e]; exact h1, h2, h3⟩
  gl := hw.gl
  lt := hw.lt
  one := fun c x c' x' ob hc hc' ha hob hal => by
    rw [T.get_put] at hob
    split at hob
    · injection hob with hob; subst hob; cases hal
    · exact hw.one c x c' x' ob hc hc' ha hob hal
/-- one more copy -/
theorem WR.copy (hw : WR g h nx w) {a : Ps} (ha : a.num < nx.num) {s k2 : Nat} {t : T AV} (hg : h.get a = some (.c s false k2 t)) {l : List AV} {us rest : List Value} (hl : VRs g l us) (ho : ∀ v ∈ l, v.one = true) (hlen : l.length = k2)
    (ht : ∀ i, i < k2 → t.getN i = l[i]?) (el : TypeId) :
    WR (gNew g w.heap.size ⟨a, k2, s, us.length + rest.length⟩) h nx { w with heap := w.heap.push (.cells (us ++ rest).toArray el) } ∧
    Ex g nx w (gNew g w.heap.size ⟨a, k2, s, us.length + rest.length⟩) nx { w with heap := w.heap.push (.cells (us ++ rest).toArray el) } ∨ ∀ c x, g c = some x → x.a ≠ a := by
  by_cases hex : ∃ c x, g c = some x ∧ x.a = a
  · left
    obtain ⟨c0, x0, hc0, ha0⟩ := hex
    have hup : GUp g (gNew g w.heap.size ⟨a, k2, s, us.length + rest.length⟩) := gNew_up hw.fresh
    refine ⟨⟨fun c x hc => ?_, fun c x hc => ?_, fun c x c' x' ob hc hc' hax hob hal => ?_, hw.gl.push _ _⟩, ?_⟩
    · by_cases e : c = w.heap.size
      · subst e
        simp [gNew] at hc
        subst hc
        refine ⟨_, _, hg, heap_push_new w _, rfl, Nat.le_refl _, (fun h => by cases h), _, el, (0, 0), rfl, by simp, by simp [← hlen, hl.length], .inl rfl, fun i hi => ?_⟩
        have hi : i < k2 := hi
        have hi' : i < l.length := by omega
        obtain ⟨u, h1, h2⟩ := hl.get (i := i) (v := l[i]) (by simp [hi'])
        refine ⟨l[i], u, by rw [ht i hi]; simp [hi'], ?_, h2.up hup, ho _ (List.getElem_mem hi')⟩
        have : i < us.length := by rw [hl.length]; exact hi'
        simp [List.getElem?_append_left this, h1]
      · simp [gNew, e] at hc
        obtain ⟨ob, o, h1, h2, h3⟩ := hw.obj c x hc
        exact ⟨ob, o, h1, heap_push_old w _ h2, h3.up hup⟩
    · by_cases e : c = w.heap.size
      · subst e; simp [gNew] at hc; subst hc; exact ha
      · simp [gNew, e] at hc; exact hw.lt c x hc
    · have hna : x.a ≠ a := fun e => by rw [e, hg] at hob; injection hob with hob; subst hob; cases hal
      by_cases e : c = w.heap.size
      · subst e; simp [gNew] at hc; subst hc; exact absurd rfl hna
      · by_cases e' : c' = w.heap.size
        · subst e'; simp [gNew] at hc'; subst hc'; exact absurd hax hna
        · simp [gNew, e] at hc
          simp [gNew, e'] at hc'
          exact hw.one c x c' x' ob hc hc' hax hob hal
    · refine ⟨hup, fun c x hc hn => ?_, fun b o hb _ => heap_push_old w _ hb, by simp, Nat.le_refl _, rfl, rfl, rfl⟩
      by_cases e : c = w.heap.size
      · subst e
        simp [gNew] at hc
        subst hc
        exact ⟨Nat.le_refl _, .inr ⟨c0, x0, hc0, ha0⟩⟩
      · simp [gNew, e, hn] at hc
  · right
    intro c x hc e
    exact hex ⟨c, x, hc, e⟩
/-- more cells are known of one copy -/
def gExt (g : G) (c : Nat) (x : GI) (L : Nat) : G := fun b => if b = c then some { x with L := L } else g b
theorem WR.extend (hw : WR g h nx w) {c : Nat} {x : GI} (hc : g c = some x) {s k1 k2 : Nat} {t : T AV} (hg : h.get x.a = some (.c s false k2 t)) {l : List AV} {us : List Value} (hl : VRs g l us) (ho : ∀ v ∈ l, v.one = true) (hL : x.L = k1) (hlen : k1 + l.length = k2)
    (hT : k2 ≤ x.T) (ht : ∀ i, i < l.length → t.getN (k1 + i) = l[i]?) (P : Program) :
    ∃ w', (storeCells ⟨c, k1, none⟩ us).run P w = .ok () w' ∧ WR (gExt g c x k2) h nx w' ∧ Ex g nx w (gExt g c x k2) nx w' := by
  have hup : GUp g (gExt g c x k2) := fun b y hb => by
    by_cases e : b = c
    · subst e; rw [hc] at hb; injection hb with hb; subst hb
      exact ⟨{ x with L := k2 }, by simp [gExt], rfl, rfl, rfl, (by show x.L ≤ k2; omega)⟩
    · exact ⟨y, by simp [gExt, e, hb], rfl, rfl, rfl, Nat.le_refl _⟩
  have hgl : g GL = none → gExt g c x k2 GL = none := fun h0 => by
    have : ¬ GL = c := fun e => by rw [← e, h0] at hc; cases hc
    simp only [gExt, this, if_false]; exact h0
  obtain ⟨a1, a2, a3, cc, el, fr, h1, h2, h3, h4, h5⟩ := hw.cells hc hg
  have ho' : ∀ u ∈ us, u.oneCell' = true := fun u hu => by
    obtain ⟨i, hi, e⟩ := List.getElem_of_mem hu
    have hi' : i < l.length := by rw [← hl.length]; exact hi
    obtain ⟨u', e', hv⟩ := hl.get (i := i) (v := l[i]) (by simp [hi'])
    have : u' = u := by simpa [hi, e] using e'.symm
    subst this
    rw [hv.one]; exact ho _ (List.getElem_mem hi')
  obtain ⟨w', r1, r2⟩ := run_storeCells_fr P k1 us 0 h1 (by rw [h2]; exact h4) (by rw [hl.length]; omega) ho'
  obtain ⟨cc', d1, d2, d3⟩ := r2.cell
  refine ⟨w', r1, ⟨fun b y hb => ?_, fun b y hb => ?_, fun b y b' y' ob hb hb' hax hob hal => ?_, (hw.gl.write hc r2.oth).keep (hgl hw.gl.1) fun _ h => h⟩, hup, fun b y hb hn => ?_, fun b o hb hn => ?_, Nat.le_of_eq r2.size.symm, Nat.le_refl _, r2.os, r2.tape, r2.output⟩
  · by_cases e : b = c
    · subst e
      simp [gExt] at hb
      subst hb
      refine ⟨_, _, hg, d1, a1, Nat.le_refl _, (fun h => by cases h), cc', el, fr, rfl, d2.trans h2, hT, h4, fun i hi => ?_⟩
      have hi : i < k2 := hi
      rw [d3, Nat.add_zero, hl.length]
      by_cases e : k1 ≤ i ∧ i < k1 + l.length
      · rw [if_pos e]
        have hi' : i - k1 < l.length := by omega
        obtain ⟨u', e', hv⟩ := hl.get (i := i - k1) (v := l[i - k1]) (by simp [hi'])
        refine ⟨l[i - k1], u', ?_, e', hv.up hup, ho _ (List.getElem_mem hi')⟩
        have := ht (i - k1) hi'
        rw [show k1 + (i - k1) = i by omega] at this
        rw [this]; simp [hi']
      · rw [if_neg e]
        obtain ⟨v, u, b1, b2, b3, b4⟩ := h5 i (by omega)
        exact ⟨v, u, b1, b2, b3.up hup, b4⟩
    · simp [gExt, e] at hb
      obtain ⟨ob, o, q1, q2, q3⟩ := hw.obj b y hb
      exact ⟨ob, o, q1, by rw [r2.oth b e]; exact q2, q3.up hup⟩
  · by_cases e : b = c
    · subst e; simp [gExt] at hb; subst hb; exact hw.lt b x hc
    · simp [gExt, e] at hb; exact hw.lt b y hb
  · have hna : y.a ≠ x.a := fun e => by rw [e, hg] at hob; injection hob with hob; subst hob; cases hal
    by_cases e : b = c
    · subst e; simp [gExt] at hb; subst hb; exact absurd rfl hna
    · by_cases e' : b' = c
      · subst e'; simp [gExt] at hb'; subst hb'; exact absurd hax hna
      · simp [gExt, e] at hb
        simp [gExt, e'] at hb'
        exact hw.one b y b' y' ob hb hb' hax hob hal
  · by_cases e : b = c
    · subst e; rw [hc] at hn; cases hn
    · simp [gExt, e, hn] at hb
  · have : b ≠ c := fun e => by rw [e, hc] at hn; cases hn
    rw [r2.oth b this]; exact hb
/-- a loosened block is as it was, but for what is known of it -/
theorem newK_ok {s : Nat} {l : List AV} {k : Nat → Hp → Ps → Bool} (hk : newK h nx s l k = true) : ∃ t, (∀ i, t.getN i = l[i]?) ∧ k l.length (h.put nx (.c s true l.length t)) nx.succ = true := by
  obtain ⟨t, h1, h2⟩ := buildT_ok hk
  simp only [T.setK_eq] at h1
  exact ⟨t, h2, h1⟩
end
end Go.Proofs.YtfiambjmphjjgaaGreatDoor.Ms
