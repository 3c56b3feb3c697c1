/- Part of a proof: a checked evaluator of the program (any order of a region: it goes as the canonical one). No condition. -/
import Derived.Test.YtfiambjmphjjgaaGreatDoorMsReg
/-! any order of a region: it goes as the canonical one -/
noncomputable section
namespace Go.Proofs.YtfiambjmphjjgaaGreatDoor.Ms
set_option linter.unusedVariables false
set_option linter.unusedSimpArgs false
/-- one step of the canonical order -/
structure Rc where
  ix : Nat
  st : Nat
  dst : Option Nat
  names : List Nat
  v : AV
  act : Bool
  tied : Bool
  rep : Nat
  id : Option Ps
  lo : Nat
def Rc.dk (r : Rc) : Nat := if r.act then 1 else 0
def upd (f : Nat → AV) (d : Option Nat) (v : AV) : Nat → AV := fun t => if d = some t then v else f t
def valS (L : Nat → Bool) : (Nat → AV) → List Rc → Nat → AV
  | f, [] => f
  | f, r :: rs => valS L (if L r.ix then upd f r.dst r.v else f) rs
abbrev Fs := Nat → Hp × Ps
section
variable (P : Program) (N : Nat) (ops : Array Oper) (F : Fs) (nx0 : Ps) (M : Nat)
def StepAt (f : Nat → AV) (r : Rc) (K : Nat) : Prop :=
  ∀ g (a : Act) w (Kc : Act → World → Prop) Q,
    (∀ t ∈ r.names, t < 256 → VR g (f t) (a.tmps.getD t undef)) → N ≤ a.tmps.size → WR g (F K).1 (F K).2 w →
    (∀ p, r.id = some p → ∀ c x, g c = some x → x.a ≠ p) →
    (∀ g' u w', VR g' r.v u → WR g' (F (K + r.dk)).1 (F (K + r.dk)).2 w' → Ex g nx0 w g' nx0 w' →
      (∀ c x, g' c = some x → g c = none → r.id = some x.a ∨ (F K).2.num ≤ x.a.num ∨ ∃ c0 x0, g c0 = some x0 ∧ x0.a = x.a) →
      (r.act = true → ∀ c x, g' c = some x → x.a.num < r.lo) → Kc (a.put r.dst u) w') →
    wpOp P ops Q r.ix Kc a w
inductive Chain : (Nat → AV) → Nat → Nat → List Rc → Prop
  | nil (f : Nat → AV) (n : Nat) : Chain f M n []
  | cons (r : Rc) (rs : List Rc) (f : Nat → AV) (k n n' : Nat) (hst : r.st = k) (hd : ∀ d, r.dst = some d → d < 256 ∧ d < N)
      (hs : ∀ K, k ≤ K → (r.tied = true → K ≤ k + r.rep) → K ≤ M → StepAt P N ops F nx0 f r K)
      (hid : ∀ p, r.id = some p → r.act = false ∧ n ≤ p.num ∧ p.num < n' ∧ ∀ K, k ≤ K → K ≤ M → p.num < (F K).2.num) (hn : n ≤ n') (hlo : r.act = true → r.lo ≤ n')
      (h : Chain (upd f r.dst r.v) (k + r.dk) n' rs) : Chain f k n (r :: rs)
variable {P N ops F nx0 M}
theorem Chain.le {f : Nat → AV} {k n : Nat} {rs : List Rc} (h : Chain P N ops F nx0 M f k n rs) : k ≤ M := by
  induction h with
  | nil => exact Nat.le_refl _
  | cons r rs f k n n' _ _ _ _ _ _ _ ih => omega
theorem Chain.st_ge {f : Nat → AV} {k n : Nat} {rs : List Rc} (h : Chain P N ops F nx0 M f k n rs) : ∀ r ∈ rs, k ≤ r.st := by
  induction h with
  | nil => intro r h; cases h
  | cons r rs f k n n' hst _ _ _ _ _ _ ih =>
    intro x hx
    rcases List.mem_cons.1 hx with rfl | hx
    · omega
    · have := ih x hx; omega
theorem Chain.id_ge {f : Nat → AV} {k n : Nat} {rs : List Rc} (h : Chain P N ops F nx0 M f k n rs) : ∀ r ∈ rs, ∀ p, r.id = some p → n ≤ p.num := by
  induction h with
  | nil => intro r h; cases h
  | cons r rs f k n n' hst _ _ hid hn _ _ ih =>
    intro x hx p hp
    rcases List.mem_cons.1 hx with rfl | hx
    · exact (hid p hp).2.1
    · exact Nat.le_trans hn (ih x hx p hp)
theorem Chain.act_lt {f : Nat → AV} {k n : Nat} {rs : List Rc} (h : Chain P N ops F nx0 M f k n rs) : ∀ r ∈ rs, r.act = true → r.st < M := by
  induction h with
  | nil => intro r h; cases h
  | cons r rs f k n n' hst _ _ hid hn _ h ih =>
    intro x hx ha
    rcases List.mem_cons.1 hx with rfl | hx
    · have := h.le; simp [Rc.dk, ha] at this; omega
    · exact ih x hx ha
/-- there is an act at each stage -/
theorem Chain.ex_act {f : Nat → AV} {k n : Nat} {rs : List Rc} (h : Chain P N ops F nx0 M f k n rs) : ∀ K, k ≤ K → K < M → ∃ y ∈ rs, y.act = true ∧ y.st = K := by
  induction h with
  | nil => intro K h1 h2; omega
  | cons r rs f k n n' hst _ _ hid hn _ h ih =>
    intro K h1 h2
    by_cases ha : r.act = true
    · by_cases e : K = k
      · exact ⟨r, by simp, ha, by omega⟩
      · obtain ⟨y, h3, h4⟩ := ih K (by simp [Rc.dk, ha]; omega) h2
        exact ⟨y, by simp [h3], h4⟩
    · obtain ⟨y, h3, h4⟩ := ih K (by simp [Rc.dk, ha]; omega) h2
      exact ⟨y, by simp [h3], h4⟩
/-- what a step of the chain knows -/
theorem Chain.split {f : Nat → AV} {k n : Nat} {pre post : List Rc} {r : Rc} (h : Chain P N ops F nx0 M f k n (pre ++ r :: post)) :
    (∀ x ∈ pre, x.st ≤ r.st) ∧ (∀ d, r.dst = some d → d < 256 ∧ d < N) ∧ (∀ K, r.st ≤ K → (r.tied = true → K ≤ r.st + r.rep) → K ≤ M → StepAt P N ops F nx0 (valS (fun _ => true) f pre) r K) ∧
    (∀ p, r.id = some p → r.act = false ∧ (∀ K, r.st ≤ K → K ≤ M → p.num < (F K).2.num) ∧ (∀ x ∈ pre, ∀ q, x.id = some q → q.num < p.num) ∧ (∀ x ∈ post, ∀ q, x.id = some q → p.num < q.num)) ∧
    (r.act = true → ∀ x ∈ post, ∀ q, x.id = some q → r.lo ≤ q.num) := by
  induction pre generalizing f k n with
  | nil =>
    cases h with
    | cons r rs f k n n' hst hd hs hid hn hlo h =>
      subst hst
      refine ⟨by simp, hd, hs, fun p hp => ?_, fun ha x hx q hq => Nat.le_trans (hlo ha) (h.id_ge x hx q hq)⟩
      obtain ⟨h1, h2, h3, h4⟩ := hid p hp
      exact ⟨h1, h4, by simp, fun x hx q hq => Nat.lt_of_lt_of_le h3 (h.id_ge x hx q hq)⟩
  | cons y pre ih =>
    cases h with
    | cons _ _ _ _ _ n' hst hd hs hid hn hlo h =>
      obtain ⟨h1, h2, h3, h4, h5⟩ := ih h
      have hge := h.st_ge r (by simp)
      refine ⟨fun x hx => ?_, h2, h3, fun p hp => ?_, h5⟩
      · rcases List.mem_cons.1 hx with rfl | hx
        · omega
        · exact h1 x hx
      · obtain ⟨a1, a2, a3, a4⟩ := h4 p hp
        refine ⟨a1, a2, fun x hx q hq => ?_, a4⟩
        rcases List.mem_cons.1 hx with rfl | hx
        · exact Nat.lt_of_lt_of_le (hid q hq).2.2.1 (h.id_ge r (by simp) p hp)
        · exact a3 x hx q hq
theorem valS_append (L : Nat → Bool) (f : Nat → AV) (pre post : List Rc) : valS L f (pre ++ post) = valS L (valS L f pre) post := by
  induction pre generalizing f with
  | nil => rfl
  | cons r pre ih => exact ih _
theorem valS_none (L : Nat → Bool) (f : Nat → AV) (t : Nat) (rs : List Rc) (h : ∀ x ∈ rs, x.dst = some t → L x.ix = false) : valS L f rs t = f t := by
  induction rs generalizing f with
  | nil => rfl
  | cons r rs ih =>
    rw [valS, ih _ fun x hx => h x (by simp [hx])]
    by_cases e : r.dst = some t
    · rw [h r (by simp) e]; rfl
    · split <;> simp [upd, e]
theorem valS_congr (L L' : Nat → Bool) (f f' : Nat → AV) (t : Nat) (rs : List Rc) (hf : f t = f' t) (h : ∀ x ∈ rs, x.dst = some t → L x.ix = L' x.ix) : valS L f rs t = valS L' f' rs t := by
  induction rs generalizing f f' with
  | nil => exact hf
  | cons r rs ih =>
    refine ih _ _ ?_ fun x hx => h x (by simp [hx])
    by_cases e : r.dst = some t
    · rw [h r (by simp) e]; split <;> simp [upd, e, hf]
    · split <;> split <;> simp [upd, e, hf]
end
end Go.Proofs.YtfiambjmphjjgaaGreatDoor.Ms
