/- Part of a proof: a checked evaluator of the program (maps: finding a key). No condition. -/
import Derived.Test.YtfiambjmphjjgaaGreatDoorMsCall
import Derived.Laws.StructEq
/-! maps: finding a key -/
noncomputable section
namespace Go.Proofs.YtfiambjmphjjgaaGreatDoor.Ms
set_option linter.unusedVariables false
set_option linter.unusedSimpArgs false
section
variable {P : Program}
theorem keB_ok {x y : AV} {k : Bool → Bool} (h : keB x y k = true) :
    (∃ j a b, x = .i j a ∧ y = .i j b ∧ k (a == b) = true) ∨ (∃ a b, x = .s a ∧ y = .s b ∧ k (decide (a = b)) = true) := by
  cases x with
  | i j a =>
    have h : (y.onI fun j' b => Bool.rec false (k (ieq a b)) (kEq j j')) = true := h
    obtain ⟨j', b, e, h⟩ := onI_ok h
    obtain ⟨h1, h2⟩ := bfalse h
    have := kEq_ok h1
    subst this
    rw [ieq_eq] at h2
    exact .inl ⟨j, a, b, rfl, e, h2⟩
  | s a =>
    have h : (y.onS fun b => k (decide (a = b))) = true := h
    obtain ⟨b, e, h⟩ := onS_ok h
    exact .inr ⟨a, b, rfl, e, h⟩
  | _ => cases h
/-- of which kind a key is -/
def KeyD (x : AV) (d : TypeDesc) : Prop := (∃ k j a, d = .int k ∧ x = .i j a) ∨ (∃ a, d = .string ∧ x = .s a) ∨ (∃ l, x = .agg l)
def findK' (x : AV) (es : List ME) (kn : Bool) (k : Nat → ME → Bool) (i0 : Nat) : Bool :=
  List.rec (motive := fun _ => Nat → Bool) (fun _ => kn)
    (fun e _ ih i => keB x e.k fun b => Bool.rec (ih (Nat.succ i)) (k i e) b) es i0
theorem find_ok {x : AV} {d : TypeDesc} (hd : KeyD x d) : ∀ {es : List ME} {kn : Bool} {k : Nat → ME → Bool} {i0 : Nat}, findK' x es kn k i0 = true →
    (kn = true ∧ ∀ g u es', VR g x u → ER g es es' → Instr.findNow d u es' i0 = some none) ∨
    (∃ i e, es[i]? = some e ∧ k (i0 + i) e = true ∧ ∀ g u es', VR g x u → ER g es es' → ∃ e', es'[i]? = some e' ∧ Instr.findNow d u es' i0 = some (some (i0 + i, e'.val)) ∧ Instr.sameBits 10000 e'.key u = true ∧ e'.key = u) := by
  intro es
  induction es with
  | nil => intro kn k i0 h; exact .inl ⟨h, fun g u es' _ he => by cases he; rfl⟩
  | cons e es ih =>
    intro kn k i0 h
    have h : keB x e.k (fun b => Bool.rec (findK' x es kn k (i0 + 1)) (k i0 e) b) = true := h
    have key : (∃ j a b, x = .i j a ∧ e.k = .i j b ∧ ∃ kk, d = .int kk ∧ Bool.rec (motive := fun _ => Bool) (findK' x es kn k (i0 + 1)) (k i0 e) (a == b) = true) ∨
        (∃ a b, x = .s a ∧ e.k = .s b ∧ d = .string ∧ Bool.rec (motive := fun _ => Bool) (findK' x es kn k (i0 + 1)) (k i0 e) (decide (a = b)) = true) := by
      rcases keB_ok h with ⟨j, a, b, h1, h2, h3⟩ | ⟨a, b, h1, h2, h3⟩
      · rcases hd with ⟨kk, j', a', h4, h5⟩ | ⟨a', h4, h5⟩ | ⟨l, h5⟩
        · exact .inl ⟨j, a, b, h1, h2, kk, h4, h3⟩
        · rw [h5] at h1; cases h1
        · rw [h5] at h1; cases h1
      · rcases hd with ⟨kk, j', a', h4, h5⟩ | ⟨a', h4, h5⟩ | ⟨l, h5⟩
        · rw [h5] at h1; cases h1
        · exact .inr ⟨a, b, h1, h2, h4, h3⟩
        · rw [h5] at h1; cases h1
    -- what stands in the model
    have step : ∃ q : Bool, Bool.rec (motive := fun _ => Bool) (findK' x es kn k (i0 + 1)) (k i0 e) q = true ∧ ∀ g u (e' : MapEntry), VR g x u → VR g e.k e'.key → Instr.sameNow d u e'.key = some q ∧ (q = true → Instr.sameBits 10000 e'.key u = true ∧ e'.key = u) := by
      rcases key with ⟨j, a, b, h1, h2, kk, h4, h3⟩ | ⟨a, b, h1, h2, h4, h3⟩
      · refine ⟨a == b, h3, fun g u e' hu he => ?_⟩
        rw [h1] at hu
        rw [h2] at he
        cases hu
        generalize e'.key = z at he
        cases he
        subst h4
        refine ⟨by simp [Instr.sameNow], fun hq => ?_⟩
        have := eq_of_beq hq
        subst this
        simp [Instr.sameBits]
      · refine ⟨decide (a = b), h3, fun g u e' hu he => ?_⟩
        rw [h1] at hu
        rw [h2] at he
        cases hu
        generalize e'.key = z at he
        cases he
        subst h4
        refine ⟨?_, fun hq => ?_⟩
        · simp only [Instr.sameNow, beq_toListBytes, bytes_eq]
        · have := of_decide_eq_true hq
          subst this
          have hb : (a == a) = true := by rw [beq_toListBytes]; exact beq_self_eq_true _
          exact ⟨by simp only [Instr.sameBits, hb], rfl⟩
    obtain ⟨q, h3, hs⟩ := step
    cases q with
    | true =>
      refine .inr ⟨0, e, rfl, h3, fun g u es' hu he => ?_⟩
      cases he with
      | cons _ e' _ l' hk hv hb he =>
        obtain ⟨h5, h6⟩ := hs g u e' hu hk
        exact ⟨e', rfl, by simp only [Instr.findNow, h5]; rfl, (h6 rfl).1, (h6 rfl).2⟩
    | false =>
      rcases ih h3 with ⟨h4, h5⟩ | ⟨i, e2, h4, h5, h6⟩
      · refine .inl ⟨h4, fun g u es' hu he => ?_⟩
        cases he with
        | cons _ e' _ l' hk hv hb he =>
          simp only [Instr.findNow, (hs g u e' hu hk).1]
          exact h5 g u l' hu he
      · refine .inr ⟨i + 1, e2, h4, by rw [show i0 + (i + 1) = i0 + 1 + i by omega]; exact h5, fun g u es' hu he => ?_⟩
        cases he with
        | cons _ e' _ l' hk hv hb he =>
          obtain ⟨e3, h7, h8, h9⟩ := h6 g u l' hu he
          refine ⟨e3, h7, ?_, h9⟩
          simp only [Instr.findNow, (hs g u e' hu hk).1]
          rw [h8, show i0 + (i + 1) = i0 + 1 + i by omega]
theorem bind_match_int {α : Type} {d : TypeDesc} {k : IntKind} (h : d = .int k) : True := trivial
theorem checkKey_one {em : Bool} {n : Nat} {t : TypeId} {u : Value} {w : World} {d : TypeDesc} (hd : P.underlying t = some d) (h : (∃ k, d = .int k) ∨ d = .string ∨ d = .bool) : (Instr.checkKey em (n + 1) t u).run P w = .ok () w := by
  simp only [Instr.checkKey, Sem.run_bind, run_und hd, Result.andThen_ok]
  rcases h with ⟨k, rfl⟩ | rfl | rfl <;> rfl
/-- the key is such as the type wants -/
theorem key_ok {kt : TypeId} {ky : Kk} (hk : kkT P kt = some ky) {x : AV} {k : Bool} (h : dKk ky x k = true) :
    k = true ∧ ∃ d, P.underlying kt = some d ∧ KeyD x d ∧ ∀ g u em w, VR g x u → (Instr.checkKey em 10000 kt u).run P w = .ok () w := by
  unfold kkT at hk
  split at hk
  · rename_i kk hu
    injection hk with hk; subst hk
    have h : (x.onI fun _ _ => k) = true := h
    obtain ⟨j, a, e, h⟩ := onI_ok h
    exact ⟨h, _, hu, .inl ⟨kk, j, a, rfl, e⟩, fun g u em w _ => checkKey_one hu (.inl ⟨kk, rfl⟩)⟩
  · rename_i hu
    injection hk with hk; subst hk
    have h : (x.onS fun _ => k) = true := h
    obtain ⟨a, e, h⟩ := onS_ok h
    exact ⟨h, _, hu, .inr (.inl ⟨a, rfl, e⟩), fun g u em w _ => checkKey_one hu (.inr (.inl rfl))⟩
  · rename_i fs hu
    obtain ⟨n, hn, hk⟩ := obind hk
    split at hk
    · rename_i hf
      injection hk with hk; subst hk
      have h : (x.onAgg fun l => lenL l fun m => Bool.rec false k (Nat.beq m n)) = true := h
      obtain ⟨l, e, h⟩ := onAgg_ok h
      rw [lenL_eq] at h
      obtain ⟨h1, h⟩ := bfalse h
      have h1 := Nat.eq_of_beq_eq_true h1
      refine ⟨h, _, hu, .inr (.inr ⟨l, e⟩), fun g u em w hv => ?_⟩
      rw [e] at hv
      cases hv with
      | agg _ us hs ho =>
        show (Instr.checkKey em (9998 + 1 + 1) kt (.agg ⟨us⟩)).run P w = .ok () w
        rw [Instr.checkKey]
        simp only [Sem.run_bind, run_und hu, Result.andThen_ok]
        rw [← Array.forIn_toList]
        have hall : ∀ f ∈ fs.toList, (∃ d, P.underlying f.type = some d ∧ ((∃ k, d = .int k) ∨ d = .string ∨ d = .bool)) ∧ f.offset < us.length := by
          intro f hm
          rw [Array.all_eq_true_iff_forall_mem] at hf
          have h2 := hf f (by simpa using hm)
          split at h2
          · rename_i k' hu'
            simp only [Bool.and_eq_true, decide_eq_true_eq] at h2
            exact ⟨⟨_, hu', .inl ⟨_, rfl⟩⟩, by rw [hs.length]; omega⟩
          · rename_i hu'
            simp only [Bool.and_eq_true, decide_eq_true_eq] at h2
            exact ⟨⟨_, hu', .inr (.inr rfl)⟩, by rw [hs.length]; omega⟩
          · cases h2
        generalize fs.toList = fl at hall
        induction fl with
        | nil => rfl
        | cons f fl ih =>
          obtain ⟨⟨d, hd, hdd⟩, hlt⟩ := hall f (by simp)
          have hagg : aggT P f.type = some false := by
            unfold aggT
            rw [hd]
            rcases hdd with ⟨k, rfl⟩ | rfl | rfl <;> rfl
          have hpart : (part f.type ⟨us⟩ f.offset).run P w = .ok us[f.offset] w := by
            simp only [part, Sem.run_bind, run_agg hagg, Result.andThen_ok, Bool.false_eq_true, if_false]
            have : (Array.mk us)[f.offset]? = some us[f.offset] := by simp [hlt]
            rw [this]; rfl
          have ih := ih fun f hf => hall f (by simp [hf])
          rw [List.forIn_cons, Sem.run_bind]
          by_cases hnm : f.name = "_"
          · simp only [hnm, ne_eq, not_true_eq_false, if_false, Sem.run_pure, Result.andThen_ok, Sem.run_bind]
            exact ih
          · simp only [hnm, ne_eq, not_false_eq_true, if_true, Sem.run_bind, hpart, checkKey_one (em := em) hd hdd, Result.andThen_ok, Sem.run_pure]
            exact ih
    · cases hk
  · cases hk
/-- a key found, or not -/
theorem keyfind_ok {kt : TypeId} {ky : Kk} (hk : kkT P kt = some ky) {x : AV} {es : List ME} {kn : Bool} {k : Nat → ME → Bool} (h : dKk ky x (findK x es kn k) = true) :
    (∀ g u em w, VR g x u → (Instr.checkKey em 10000 kt u).run P w = .ok () w) ∧
    ((kn = true ∧ ∀ g u es' w, VR g x u → ER g es es' → (Instr.findKey kt u es').run P w = .ok none w) ∨
    (∃ i e, es[i]? = some e ∧ k i e = true ∧ ∀ g u es' w, VR g x u → ER g es es' → ∃ e', es'[i]? = some e' ∧ (Instr.findKey kt u es').run P w = .ok (some (i, e'.val)) w ∧ Instr.sameBits 10000 e'.key u = true)) := by
  obtain ⟨h1, d, h2, h3, h4⟩ := key_ok hk h
  have h1 : findK' x es kn k 0 = true := h1
  refine ⟨h4, ?_⟩
  rcases find_ok h3 h1 with ⟨h5, h6⟩ | ⟨i, e, h5, h6, h7⟩
  · refine .inl ⟨h5, fun g u es' w hu he => ?_⟩
    simp only [Instr.findKey, Sem.run_bind, run_und h2, Result.andThen_ok, h6 g u es' hu he, Sem.run_pure]
  · rw [Nat.zero_add] at h6
    refine .inr ⟨i, e, h5, h6, fun g u es' w hu he => ?_⟩
    obtain ⟨e', h8, h9, h10, _⟩ := h7 g u es' hu he
    rw [Nat.zero_add] at h9
    refine ⟨e', h8, ?_, h10⟩
    simp only [Instr.findKey, Sem.run_bind, run_und h2, Result.andThen_ok, h9, Sem.run_pure]
theorem ER.get {g : G} {l : List ME} {l' : List MapEntry} (h : ER g l l') : ∀ {i : Nat} {e : ME} {e' : MapEntry}, l[i]? = some e → l'[i]? = some e' → VR g e.k e'.key ∧ VR g e.v e'.val ∧ e.born = e'.born := by
  induction h with
  | nil => intro i e e' h; simp at h
  | cons e e' l l' hk hv hb _ ih =>
    intro i e1 e1' h h'
    cases i with
    | zero => simp at h h'; subst h; subst h'; exact ⟨hk, hv, hb⟩
    | succ i => exact ih (by simpa using h) (by simpa using h')
theorem ER.length {g : G} {l : List ME} {l' : List MapEntry} (h : ER g l l') : l'.length = l.length := by
  induction h with
  | nil => rfl
  | cons _ _ _ _ _ _ _ _ ih => simp [ih]
theorem WR.map {g : G} {h : Hp} {nx : Ps} {w : World} (hw : WR g h nx w) {c : Nat} {x : GI} (hc : g c = some x) {es : List ME} {clk : Nat} (hg : h.get x.a = some (.m es clk)) :
    ∃ es', w.heap[c]? = some (.map es' clk) ∧ ER g es es'.toList := by
  obtain ⟨ob, o, h1, h2, h3⟩ := hw.obj c x hc
  rw [hg] at h1
  injection h1 with h1
  subst h1
  obtain ⟨es', rfl, he⟩ := h3
  exact ⟨es', h2, he⟩
end
end Go.Proofs.YtfiambjmphjjgaaGreatDoor.Ms
