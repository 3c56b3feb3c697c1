/- Part of a proof: a checked evaluator of the program (reading, making, writing blocks). No condition. -/
import Derived.Test.YtfiambjmphjjgaaGreatDoorMsRel
import Derived.Laws.World
import Derived.Laws.Cells
/-! reading, making, writing blocks -/
noncomputable section
namespace Go.Proofs.YtfiambjmphjjgaaGreatDoor.Ms
set_option linter.unusedVariables false
set_option linter.unusedSimpArgs false
variable {g : G} {h : Hp} {nx : Ps} {w : World}

theorem cell_at {c i : Nat} {cc : Array Value} {el : TypeId} {fr : Nat × Nat} (hc : w.heap[c]? = some (.cells cc el fr)) : w.cell? ⟨c, i, none⟩ = cc[i]? := by
  simp [World.cell?, hc]
/-- a block of cells that is known, and its copy -/
theorem WR.cells (hw : WR g h nx w) {c : Nat} {x : GI} (hc : g c = some x) {s n : Nat} {sg : Bool} {t : T AV} (hg : h.get x.a = some (.c s sg n t)) :
    x.s = s ∧ x.L ≤ n ∧ (sg = true → x.L = n) ∧ ∃ cc el fr, w.heap[c]? = some (.cells cc el fr) ∧ cc.size = x.T ∧ x.L ≤ x.T ∧ (fr.1 = fr.2 ∨ x.T ≤ fr.1) ∧
      ∀ i, i < x.L → ∃ v u, t.getN i = some v ∧ cc[i]? = some u ∧ VR g v u ∧ v.one = true := by
  obtain ⟨ob, o, h1, h2, h3⟩ := hw.obj c x hc
  rw [hg] at h1
  injection h1 with h1
  subst h1
  obtain ⟨a1, a2, a3, cc, el, fr, rfl, a4, a5, a6, a7⟩ := h3
  exact ⟨a1, a2, a3, cc, el, fr, h2, a4, a5, a6, a7⟩
/-- n cells from o on are read -/
theorem WR.load (hw : WR g h nx w) (P : Program) {c : Nat} {x : GI} (hc : g c = some x) {s n : Nat} {sg : Bool} {t : T AV} (hg : h.get x.a = some (.c s sg n t))
    {o : Nat} {l : List AV} (hl : o + l.length ≤ x.L) (hg2 : ∀ i, i < l.length → t.getN (o + i) = l[i]?) :
    ∃ us, (loadCells ⟨c, o, none⟩ l.length).run P w = .ok us.toArray w ∧ VRs g l us ∧ (∀ u ∈ us, u.oneCell' = true) ∧ us.length = l.length := by
  obtain ⟨_, _, _, cc, el, fr, h1, h2, h3, _, h5⟩ := hw.cells hc hg
  have hex : ∀ i, i < l.length → ∃ v u, l[i]? = some v ∧ cc[o + i]? = some u ∧ VR g v u ∧ v.one = true := fun i hi => by
    obtain ⟨v, u, a, b, c, d⟩ := h5 (o + i) (by omega)
    exact ⟨v, u, (hg2 i hi).symm.trans a, b, c, d⟩
  refine ⟨(List.range l.length).map (fun i => (cc[o + i]?).getD undef), ?_, ?_, ?_, by simp⟩
  · refine run_loadCells (P := P) w ⟨c, o, none⟩ l.length (fun i => (cc[o + i]?).getD undef) fun j hj => ?_
    obtain ⟨v, u, _, b, _, _⟩ := hex j hj
    have : Addr.add ⟨c, o, none⟩ j = ⟨c, o + j, none⟩ := by
      unfold Addr.add; split
      · rename_i e; subst e; rfl
      · rfl
    rw [this, cell_at h1, b]; rfl
  · refine VRs.of_get (by simp) fun i v hi => ?_
    have hi' : i < l.length := by
      rcases Nat.lt_or_ge i l.length with hlt | hge
      · exact hlt
      · simp [List.getElem?_eq_none hge] at hi
    obtain ⟨v', u, a, b, c, d⟩ := hex i hi'
    rw [hi] at a; cases a
    exact ⟨u, by simp [hi', b], c⟩
  · intro u hu
    obtain ⟨i, hi, rfl⟩ := List.mem_map.1 hu
    obtain ⟨v', u, a, b, c, d⟩ := hex i (by simpa using hi)
    simp [b, c.one, d]
/-- one cell is read -/
theorem WR.load1 (hw : WR g h nx w) {c : Nat} {x : GI} (hc : g c = some x) {s n : Nat} {sg : Bool} {t : T AV} (hg : h.get x.a = some (.c s sg n t))
    {o : Nat} {v : AV} (hl : o < x.L) (hg2 : t.getN o = some v) : ∃ u, w.cell? ⟨c, o, none⟩ = some u ∧ VR g v u ∧ v.one = true := by
  obtain ⟨_, _, _, cc, el, fr, h1, h2, h3, _, h5⟩ := hw.cells hc hg
  obtain ⟨v', u, a, b, c, d⟩ := h5 o hl
  rw [hg2] at a; cases a
  exact ⟨u, by rw [cell_at h1, b], c, d⟩

/-! a new block -/
def gNew (g : G) (c : Nat) (x : GI) : G := fun b => if b = c then some x else g b
theorem gNew_up {c : Nat} {x : GI} (hc : g c = none) : GUp g (gNew g c x) := fun b y hb => by
  have : b ≠ c := fun e => by rw [e, hc] at hb; cases hb
  exact ⟨y, by simp [gNew, this, hb], rfl, rfl, rfl, Nat.le_refl _⟩
theorem GB.push {g : G} {w : World} (h : GB g w) (x : GI) (o : Obj) : GB (gNew g w.heap.size x) { w with heap := w.heap.push o } := by
  obtain ⟨h1, o', h2, h3⟩ := h
  have hlt : GL < w.heap.size := (Array.getElem?_eq_some_iff.1 h2).1
  refine ⟨?_, o', ?_, h3⟩
  · have : ¬ GL = w.heap.size := by omega
    simp only [gNew, this, if_false]; exact h1
  · show (w.heap.push o)[GL]? = _
    rw [Array.getElem?_push_lt hlt]
    simpa [Array.getElem?_eq_getElem hlt] using h2
theorem GB.write {g : G} {w : World} (h : GB g w) {c : Nat} {x : GI} (hc : g c = some x) {w' : World} (hoth : ∀ b, b ≠ c → w'.heap[b]? = w.heap[b]?) : GB g w' := by
  refine h.keep h.1 fun o ho => ?_
  rw [hoth GL fun e => ?_]
  · exact ho
  · rw [← e, h.1] at hc; cases hc
theorem heap_push_old (w : World) (o : Obj) {b : Nat} {o' : Obj} (hb : w.heap[b]? = some o') : ({ w with heap := w.heap.push o } : World).heap[b]? = some o' := by
  have hlt : b < w.heap.size := by
    rcases Nat.lt_or_ge b w.heap.size with hlt | hge
    · exact hlt
    · simp [Array.getElem?_eq_none hge] at hb
  show (w.heap.push o)[b]? = _
  rw [Array.getElem?_push_lt hlt]
  simpa [Array.getElem?_eq_getElem hlt] using hb
theorem heap_push_new (w : World) (o : Obj) : ({ w with heap := w.heap.push o } : World).heap[w.heap.size]? = some o := by simp
theorem Ex.new_ (hw : WR g h nx w) (o : Obj) {x : GI} (hx : nx.num ≤ x.a.num) (nx' : Ps) (hn : nx.num ≤ nx'.num) :
    Ex g nx w (gNew g w.heap.size x) nx' { w with heap := w.heap.push o } where
  up := gNew_up hw.fresh
  new := fun c y hy hn => by
    by_cases e : c = w.heap.size
    · subst e
      simp [gNew] at hy
      subst hy
      exact ⟨Nat.le_refl _, .inl hx⟩
    · simp [gNew, e, hn] at hy
  keep := fun b o' hb _ => heap_push_old w o hb
  size := by simp
  nx := hn
  os := rfl
  tape := rfl
  output := rfl
theorem WR.new_ (hw : WR g h nx w) (ob : Ob) (o : Obj) {x : GI} (hx : x.a = nx) (ho : OR (gNew g w.heap.size x) x ob o) :
    WR (gNew g w.heap.size x) (h.put nx ob) nx.succ { w with heap := w.heap.push o } where
  obj := fun c y hy => by
    by_cases e : c = w.heap.size
    · subst e
      simp [gNew] at hy
      subst hy
      exact ⟨ob, o, by rw [T.get_put, hx]; simp, heap_push_new w o, ho⟩
    · simp [gNew, e] at hy
      obtain ⟨ob', o', h1, h2, h3⟩ := hw.obj c y hy
      refine ⟨ob', o', ?_, heap_push_old w o h2, h3.up (gNew_up hw.fresh)⟩
      rw [T.get_put, if_neg, h1]
      intro e2
      have := hw.lt c y hy
      rw [e2] at this; omega
  gl := hw.gl.push x o
  lt := fun c y hy => by
    rw [Ps.num_succ]
    by_cases e : c = w.heap.size
    · subst e; simp [gNew] at hy; subst hy; rw [hx]; omega
    · simp [gNew, e] at hy
      have := hw.lt c y hy; omega
  one := fun c y c' y' ob' hy hy' ha hg hal => by
    by_cases e : c = w.heap.size
    · by_cases e' : c' = w.heap.size
      · rw [e, e']
      · exfalso
        simp [gNew, e] at hy
        simp [gNew, e'] at hy'
        have := hw.lt c' y' hy'
        rw [← ha, ← hy, hx] at this; omega
    · by_cases e' : c' = w.heap.size
      · exfalso
        simp [gNew, e'] at hy'
        simp [gNew, e] at hy
        have := hw.lt c y hy
        rw [ha, ← hy', hx] at this; omega
      · simp [gNew, e] at hy
        simp [gNew, e'] at hy'
        rw [T.get_put, if_neg] at hg
        · exact hw.one c y c' y' ob' hy hy' ha hg hal
        · intro e2
          have := hw.lt c y hy
          rw [e2] at this; omega
/-- a new block of cells: us, and rest behind them -/
theorem WR.newCells (hw : WR g h nx w) {s : Nat} {l : List AV} {us rest : List Value} {t : T AV} (hl : VRs g l us) (ho : ∀ v ∈ l, v.one = true) (ht : ∀ i, t.getN i = l[i]?) (el : TypeId) :
    WR (gNew g w.heap.size ⟨nx, l.length, s, us.length + rest.length⟩) (h.put nx (.c s true l.length t)) nx.succ { w with heap := w.heap.push (.cells (us ++ rest).toArray el) } := by
  refine hw.new_ _ _ rfl ⟨rfl, Nat.le_refl _, fun _ => rfl, _, el, (0, 0), rfl, by simp, by simp [hl.length], .inl rfl, fun i hi => ?_⟩
  have hi : i < l.length := hi
  obtain ⟨u, h1, h2⟩ := hl.get (i := i) (v := l[i]) (by simp [hi])
  refine ⟨l[i], u, by rw [ht]; simp [hi], ?_, h2.up (gNew_up hw.fresh), ho _ (List.getElem_mem hi)⟩
  have : i < us.length := by rw [hl.length]; exact hi
  simp [List.getElem?_append_left this, h1]
theorem Ex.newCells (hw : WR g h nx w) (s L T : Nat) (o : Obj) : Ex g nx w (gNew g w.heap.size ⟨nx, L, s, T⟩) nx.succ { w with heap := w.heap.push o } :=
  Ex.new_ hw o (Nat.le_refl _) _ (by rw [Ps.num_succ]; omega)
/-- the new block's own pointer -/
theorem VR.newp (w : World) (L s T : Nat) : VR (gNew g w.heap.size ⟨nx, L, s, T⟩) (.p nx 0 L) (.pointer (some ⟨w.heap.size, 0, none⟩)) :=
  .p _ ⟨nx, L, s, T⟩ _ _ _ (by simp [gNew]) rfl (by simp)

/-! a write -/
theorem WR.write (hw : WR g h nx w) {c : Nat} {x : GI} (hc : g c = some x) {s n : Nat} {t t' : T AV} (hg : h.get x.a = some (.c s true n t))
    {w' : World} (hoth : ∀ b, b ≠ c → w'.heap[b]? = w.heap[b]?)
    {cc' : Array Value} {el : TypeId} {fr : Nat × Nat} (hcell : w'.heap[c]? = some (.cells cc' el fr)) (hsz : cc'.size = x.T) (hfr : fr.1 = fr.2 ∨ x.T ≤ fr.1)
    (hv : ∀ i, i < x.L → ∃ v u, t'.getN i = some v ∧ cc'[i]? = some u ∧ VR g v u ∧ v.one = true) :
    WR g (h.put x.a (.c s true n t')) nx w' where
  obj := fun b y hy => by
    obtain ⟨a1, a2, a3, cc, _, _, _, _, a4, _⟩ := hw.cells hc hg
    by_cases e : b = c
    · subst e
      rw [hc] at hy; cases hy
      exact ⟨.c s true n t', .cells cc' el fr, (by rw [T.get_put]; simp), hcell, a1, a2, a3, cc', el, fr, rfl, hsz, a4, hfr, hv⟩
    · obtain ⟨ob', o', h1, h2, h3⟩ := hw.obj b y hy
      refine ⟨ob', o', ?_, by rw [hoth b e]; exact h2, h3⟩
      rw [T.get_put, if_neg, h1]
      intro e2
      exact e (hw.one c x b y _ hc hy e2.symm hg rfl).symm
  gl := hw.gl.write hc hoth
  lt := hw.lt
  one := fun b y b' y' ob' hy hy' ha hg' hal => by
    rw [T.get_put] at hg'
    split at hg'
    · rename_i e
      exact (hw.one c x b y _ hc hy e.symm hg rfl).symm.trans (hw.one c x b' y' _ hc hy' (e.symm.trans ha) hg rfl)
    · exact hw.one b y b' y' ob' hy hy' ha hg' hal
theorem Ex.write {c : Nat} {x : GI} (hc : g c = some x) {w' : World} (hsize : w'.heap.size = w.heap.size) (hoth : ∀ b, b ≠ c → w'.heap[b]? = w.heap[b]?)
    (hos : w'.os = w.os) (ht : w'.tape = w.tape) (ho : w'.output = w.output) : Ex g nx w g nx w' where
  up := .refl g
  new := fun c y hy hn => by rw [hn] at hy; cases hy
  keep := fun b o hb hn => by
    have : b ≠ c := fun e => by rw [e, hc] at hn; cases hn
    rw [hoth b this]; exact hb
  size := Nat.le_of_eq hsize.symm
  nx := Nat.le_refl _
  os := hos
  tape := ht
  output := ho
/-- what the stores of cells leave -/
structure Stored (w : World) (c o : Nat) (us : List Value) (el : TypeId) (fr : Nat × Nat) (cc : Array Value) (w' : World) : Prop where
  size : w'.heap.size = w.heap.size
  oth : ∀ b, b ≠ c → w'.heap[b]? = w.heap[b]?
  os : w'.os = w.os
  tape : w'.tape = w.tape
  output : w'.output = w.output
  cell : ∃ cc', w'.heap[c]? = some (.cells cc' el fr) ∧ cc'.size = cc.size ∧ ∀ i, cc'[i]? = if o ≤ i ∧ i < o + us.length then us[i - o]? else cc[i]?
theorem heap_setCell (w : World) (a : Addr) (v : Value) (b : Nat) : (w.setCell a v).heap[b]? = if b = a.block then (w.heap[b]?).map (fun | .cells c elem frozen => .cells (if a.spot.isSome then c else c.setIfInBounds a.off v) elem frozen | o => o) else w.heap[b]? := by
  unfold World.setCell
  rw [Array.getElem?_modify]
  by_cases e : b = a.block
  · subst e; simp; cases w.heap[a.block]? <;> rfl
  · simp [e, Ne.symm e]
theorem run_storeCells_fr (P : Program) {c : Nat} {el : TypeId} {fr : Nat × Nat} (o : Nat) : ∀ (us : List Value) (k : Nat) {w : World} {cc : Array Value}, w.heap[c]? = some (.cells cc el fr) →
    (fr.1 = fr.2 ∨ cc.size ≤ fr.1) → o + k + us.length ≤ cc.size → (∀ u ∈ us, u.oneCell' = true) →
    ∃ w', (storeCells ⟨c, o, none⟩ us k).run P w = .ok () w' ∧ Stored w c (o + k) us el fr cc w' := by
  intro us
  induction us with
  | nil =>
    intro k w cc hc hfr hl ho
    exact ⟨w, by simp [storeCells], rfl, fun _ _ => rfl, rfl, rfl, rfl, cc, hc, rfl, fun i => by simp; intro _ _; omega⟩
  | cons u us ih =>
    intro k w cc hc hfr hl ho
    have hadd : Addr.add ⟨c, o, none⟩ k = ⟨c, o + k, none⟩ := by
      unfold Addr.add; split
      · rename_i e; subst e; rfl
      · rfl
    have hlt : o + k < cc.size := by simp at hl; omega
    have hcell : w.cell? ⟨c, o + k, none⟩ = some cc[o + k] := by rw [cell_at hc]; simp [hlt]
    have hfz : w.frozen? ⟨c, o + k, none⟩ = false := by
      obtain ⟨f1, f2⟩ := fr
      simp only [World.frozen?, hc]
      simp at hfr ⊢
      omega
    have hrun : (store ⟨c, o + k, none⟩ u).run P w = .ok () (w.setCell ⟨c, o + k, none⟩ u) := by
      rw [run_store P w _ u .plain (ho u (by simp)), hcell]
      simp [hfz]
    have hc2 : (w.setCell ⟨c, o + k, none⟩ u).heap[c]? = some (.cells (cc.setIfInBounds (o + k) u) el fr) := by
      rw [heap_setCell]; simp [hc]
    obtain ⟨w', r1, r2⟩ := ih (k + 1) hc2 (by simpa using hfr) (by simp at hl ⊢; omega) (fun x hx => ho x (by simp [hx]))
    refine ⟨w', ?_, ?_⟩
    · simp only [storeCells, Sem.run_bind, hadd, hrun, Result.andThen_ok, r1]
    · obtain ⟨cc', d1, d2, d3⟩ := r2.cell
      refine ⟨by rw [r2.size]; simp, fun b hb => ?_, r2.os, r2.tape, r2.output, cc', d1, by rw [d2]; simp, fun i => ?_⟩
      · rw [r2.oth b hb, heap_setCell]; simp [hb]
      · rw [d3]
        by_cases e : i = o + k
        · subst e
          have h1 : ¬ (o + (k + 1) ≤ o + k ∧ o + k < o + (k + 1) + us.length) := by omega
          have h2 : o + k ≤ o + k ∧ o + k < o + k + (u :: us).length := by simp
          rw [if_neg h1, if_pos h2]
          simp [hlt]
        · by_cases e1 : o + (k + 1) ≤ i ∧ i < o + (k + 1) + us.length
          · have e2 : o + k ≤ i ∧ i < o + k + (u :: us).length := by simp; omega
            rw [if_pos e1, if_pos e2, show i - (o + k) = (i - (o + (k + 1))) + 1 by omega]; rfl
          · have e2 : ¬ (o + k ≤ i ∧ i < o + k + (u :: us).length) := by simp; omega
            rw [if_neg e1, if_neg e2, Array.getElem?_setIfInBounds_ne (Ne.symm e)]
/-- cells of a block that is the only copy are written -/
theorem WR.store (hw : WR g h nx w) (P : Program) {c : Nat} {x : GI} (hc : g c = some x) {s n : Nat} {t t' : T AV} (hg : h.get x.a = some (.c s true n t))
    {o : Nat} {l : List AV} {us : List Value} (hl : VRs g l us) (ho : ∀ v ∈ l, v.one = true) (hle : o + l.length ≤ x.L)
    (ht : ∀ m, t'.getN m = if o ≤ m ∧ m < o + l.length then l[m - o]? else t.getN m) :
    ∃ w', (storeCells ⟨c, o, none⟩ us).run P w = .ok () w' ∧ WR g (h.put x.a (.c s true n t')) nx w' ∧ Ex g nx w g nx w' := by
  obtain ⟨_, _, _, cc, el, fr, h1, h2, h3, h4, h5⟩ := hw.cells hc hg
  have ho' : ∀ u ∈ us, u.oneCell' = true := fun u hu => by
    obtain ⟨i, hi, e⟩ := List.getElem_of_mem hu
    have hi' : i < l.length := by rw [← hl.length]; exact hi
    obtain ⟨u', e', hv⟩ := hl.get (i := i) (v := l[i]) (by simp [hi'])
    have : u' = u := by simpa [hi, e] using e'.symm
    subst this
    rw [hv.one]; exact ho _ (List.getElem_mem hi')
  obtain ⟨w', r1, r2⟩ := run_storeCells_fr P o us 0 h1 (by rw [h2]; exact h4) (by rw [hl.length]; omega) ho'
  obtain ⟨cc', d1, d2, d3⟩ := r2.cell
  refine ⟨w', r1, hw.write hc hg r2.oth d1 (d2.trans h2) h4 fun i hi => ?_, Ex.write hc r2.size r2.oth r2.os r2.tape r2.output⟩
  rw [ht, d3, hl.length, Nat.add_zero]
  by_cases e : o ≤ i ∧ i < o + l.length
  · have hi' : i - o < l.length := by omega
    obtain ⟨u', e', hv⟩ := hl.get (i := i - o) (v := l[i - o]) (by simp [hi'])
    exact ⟨l[i - o], u', by simp [e, hi'], by rw [if_pos e]; exact e', hv, ho _ (List.getElem_mem hi')⟩
  · rw [if_neg e, if_neg e]; exact h5 i hi
end Go.Proofs.YtfiambjmphjjgaaGreatDoor.Ms
