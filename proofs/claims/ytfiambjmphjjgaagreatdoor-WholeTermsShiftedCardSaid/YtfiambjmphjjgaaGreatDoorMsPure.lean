/- Part of a proof: a checked evaluator of the program (operations that only compute). No condition. -/
import Derived.Test.YtfiambjmphjjgaaGreatDoorMsDen
import Derived.Test.YtfiambjmphjjgaaGreatDoorMsMem
import Derived.Laws.Entries
/-! operations that only compute -/
noncomputable section
namespace Go.Proofs.YtfiambjmphjjgaaGreatDoor.Ms
set_option linter.unusedVariables false
set_option linter.unusedSimpArgs false
def EV (g : G) (env : Env) (a : Act) : Prop := ∀ n, n < 256 → VR g (Env.at env n) (a.tmps.getD n undef)
/-- an operand's two values -/
def OpR (g : G) (env : Env) (a : Act) (x : Operand) : Prop := ∀ y, trO x = some y → VR g (dO y env) (a.eval x)
theorem VRs.of_flat {g : G} {l : List AV} : ∀ {us : List Value}, us.mapM cvF = some l → VRs g l us ∧ ∀ u ∈ us, u.oneCell' = true := by
  intro us
  induction us generalizing l with
  | nil => intro h; simp at h; subst h; exact ⟨.nil, by simp⟩
  | cons u us ih =>
    intro h
    simp only [List.mapM_cons, Option.bind_eq_bind, Option.bind_eq_some_iff] at h
    obtain ⟨v, hv, l', hl, h⟩ := h
    injection h with h; subst h
    obtain ⟨h1, h2⟩ := ih hl
    have : VR g v u ∧ u.oneCell' = true := by
      unfold cvF at hv
      split at hv <;> first | (injection hv with hv; subst hv; exact ⟨by constructor, rfl⟩) | cases hv
    exact ⟨.cons v u _ _ this.1 h1, by simp [this.2]; exact h2⟩
theorem cvF_ok {g : G} {u : Value} {v : AV} (h : cvF u = some v) : VR g v u ∧ v.one = true := by
  unfold cvF at h
  split at h <;> first | (injection h with h; subst h; exact ⟨by constructor, rfl⟩) | cases h
theorem cvV_ok {g : G} {u : Value} {v : AV} (h : cvV u = some v) : VR g v u := by
  unfold cvV at h
  split at h
  · rename_i cs
    simp only [Option.map_eq_some_iff] at h
    obtain ⟨l, hl, rfl⟩ := h
    obtain ⟨h1, h2⟩ := VRs.of_flat (g := g) hl
    exact .agg l cs.toList h1 h2
  · exact (cvF_ok h).1
theorem opR_of_EV {g : G} {env : Env} {a : Act} (h : EV g env a) (x : Operand) : OpR g env a x := by
  intro y hy
  cases x with
  | tmp t =>
    simp only [trO] at hy
    split at hy
    · rename_i ht
      injection hy with hy; subst hy
      show VR g (tT t env) _
      rw [tAll t ht]
      exact h t ht
    · cases hy
  | const v =>
    simp only [trO, Option.map_eq_some_iff] at hy
    obtain ⟨u, hu, rfl⟩ := hy
    exact cvV_ok hu
  | func f =>
    simp only [trO] at hy
    injection hy with hy; subst hy
    exact .f _ [] [] [] [] .nil .nil
  | global _ => cases hy
theorem mapM_opR {g : G} {env : Env} {a : Act} : ∀ {xs : List Operand} {ys : List O}, xs.mapM trO = some ys → (∀ x ∈ xs, OpR g env a x) → VRs g (ys.map (dO · env)) (xs.map a.eval) := by
  intro xs
  induction xs with
  | nil => intro ys h _; simp at h; subst h; exact .nil
  | cons x xs ih =>
    intro ys h hx
    simp only [List.mapM_cons, Option.bind_eq_bind, Option.bind_eq_some_iff] at h
    obtain ⟨y, hy, ys', hys, h⟩ := h
    injection h with h; subst h
    exact .cons _ _ _ _ (hx x (by simp) y hy) (ih hys fun z hz => hx z (by simp [hz]))
section
variable (P : Program)
/-- an operation that only computes does what p does -/
def PvS (op : Op) (p : Pv) : Prop :=
  ∀ env k, p env k = true → ∃ v, k v = true ∧ ∀ g (a : Act) w (o : Oper), o.op = op → (∀ x ∈ op.operands, OpR g env a x) →
    ∃ u, (execOp a.eval o).run P w = .ok (.value u) w ∧ VR g v u
variable {P}
theorem run_info {t : TypeId} {i : TypeInfo} (h : P.info? t = some i) (w : World) : (typeInfo t).run P w = .ok i w := by simp [typeInfo, h]
theorem run_size {t : TypeId} {s : Nat} (h : szT P t = some s) (w : World) : (sizeOf t).run P w = .ok s w := by
  simp only [szT, Option.map_eq_some_iff] at h
  obtain ⟨i, hi, rfl⟩ := h
  simp [sizeOf, run_info hi]
theorem run_und {t : TypeId} {d : TypeDesc} (h : P.underlying t = some d) (w : World) : (underlying t).run P w = .ok d w := by simp [underlying, h]
theorem run_agg {t : TypeId} {b : Bool} (h : aggT P t = some b) (w : World) : (isAgg t).run P w = .ok b w := by
  simp only [aggT, Option.map_eq_some_iff] at h
  obtain ⟨d, hd, rfl⟩ := h
  simp only [isAgg, Sem.run_bind, run_und hd, Result.andThen_ok]
  cases d <;> rfl
theorem ret_int' {k : IntKind} {a b : Int} (h : a = b) : Value.int k a = .int k b := by rw [h]
theorem wrap_small (k : IntKind) (n : Nat) (h : n ≤ mxN k) : k.wrap n = n := by
  cases k <;> simp only [mxN] at h
  · show IntKind.i8.wrap n = n; simp [IntKind.wrap, IntKind.bits, IntKind.signed]; omega
  · show IntKind.i16.wrap n = n; simp [IntKind.wrap, IntKind.bits, IntKind.signed]; omega
  · rw [IntKind.wrap_i32]; omega
  · exact IntWalk.i64_in _ (by omega)
  · exact IntWalk.u8_in _ (by omega)
  · exact IntWalk.u16_in _ (by omega)
  · rw [IntKind.wrap_u32]; omega
  · exact IntWalk.u64_in _ (by omega)
theorem mxN_lt (k : IntKind) : mxN k < 2 ^ k.bits := by cases k <;> decide
theorem nn_ok {a b : Int} {k : Nat → Nat → Bool} (h : nn a b k = true) : ∃ m n : Nat, a = m ∧ b = n ∧ k m n = true := by
  cases a <;> cases b <;> first | exact ⟨_, _, rfl, rfl, h⟩ | cases h
theorem and_ok {a b : Bool} (h : (a && b) = true) : a = true ∧ b = true := by simpa using h
theorem bits_nat (k : IntKind) (m : Nat) (h : m ≤ mxN k) : (BitVec.ofInt k.bits (m : Int)).toNat = m := by
  have := mxN_lt k
  rw [BitVec.ofInt_natCast, BitVec.toNat_ofNat]
  exact Nat.mod_eq_of_lt (by omega)
/-- what an arithmetic operation gives -/
def ArS (op : BinOp) (f : Ari) : Prop := ∀ k a b c, f k a b c = true → ∃ n, c n = true ∧ ∀ (t : TypeId) w, (binOp op t (.int k a) (.int k b)).run P w = .ok (.int k n) w
theorem ar_add : ArS (P := P) .add aAdd := fun k a b c h => ⟨_, by rw [aAdd, fI_eq] at h; exact h, fun t w => by simp [binOp, Op.intArith, wr_eq]⟩
theorem ar_sub : ArS (P := P) .sub aSub := fun k a b c h => ⟨_, by rw [aSub, fI_eq] at h; exact h, fun t w => by simp [binOp, Op.intArith, wr_eq]; rfl⟩
theorem ar_mul : ArS (P := P) .mul aMul := fun k a b c h => ⟨_, by rw [aMul, fI_eq] at h; exact h, fun t w => by simp [binOp, Op.intArith, wr_eq]⟩
theorem ar_and : ArS (P := P) .and aAnd := fun k a b c h => by
  obtain ⟨m, n, rfl, rfl, h⟩ := nn_ok h
  obtain ⟨h0, h⟩ := bfalse h
  obtain ⟨h1, h2⟩ := and_ok h0
  have h1 := Nat.le_of_ble_eq_true h1
  have h2 := Nat.le_of_ble_eq_true h2
  rw [fN_eq] at h
  refine ⟨_, h, fun t w => ?_⟩
  simp only [binOp, Op.intBits, ne_eq, not_true_eq_false, if_false]
  simp only [BitVec.toNat_and, bits_nat k m h1, bits_nat k n h2]
  exact congrArg (fun z => Result.ok (Value.int k z) w) (wrap_small k _ (Nat.le_trans Nat.and_le_left h1))
theorem ar_or : ArS (P := P) .or aOr := fun k a b c h => by
  obtain ⟨m, n, rfl, rfl, h⟩ := nn_ok h
  obtain ⟨h0, h⟩ := bfalse h
  obtain ⟨h1, h2⟩ := and_ok h0
  have h1 := Nat.le_of_ble_eq_true h1
  have h2 := Nat.le_of_ble_eq_true h2
  rw [fN_eq] at h
  refine ⟨_, h, fun t w => ?_⟩
  simp only [binOp, Op.intBits, ne_eq, not_true_eq_false, if_false]
  simp only [BitVec.toNat_or, bits_nat k m h1, bits_nat k n h2]
  refine congrArg (fun z => Result.ok (Value.int k z) w) (wrap_small k _ ?_)
  have hp : ∃ e, mxN k + 1 = 2 ^ e := by cases k <;> first | exact ⟨7, rfl⟩ | exact ⟨15, rfl⟩ | exact ⟨31, rfl⟩ | exact ⟨63, rfl⟩ | exact ⟨8, rfl⟩ | exact ⟨16, rfl⟩ | exact ⟨32, rfl⟩ | exact ⟨64, rfl⟩
  obtain ⟨e, he⟩ := hp
  have := Nat.or_lt_two_pow (x := m) (y := n) (n := e) (by omega) (by omega)
  omega
theorem ar_andn : ArS (P := P) .andNot aAndn := fun k a b c h => by
  obtain ⟨m, n, rfl, rfl, h⟩ := nn_ok h
  obtain ⟨h0, h⟩ := bfalse h
  obtain ⟨h1, h2⟩ := and_ok h0
  have h1 := Nat.le_of_ble_eq_true h1
  have h2 := Nat.le_of_ble_eq_true h2
  rw [fN_eq] at h
  refine ⟨_, h, fun t w => ?_⟩
  simp only [binOp, Op.intBits, ne_eq, not_true_eq_false, if_false]
  have e : BitVec.ofInt k.bits (m : Int) &&& ~~~ BitVec.ofInt k.bits (n : Int) = BitVec.ofInt k.bits (m : Int) ^^^ (BitVec.ofInt k.bits (m : Int) &&& BitVec.ofInt k.bits (n : Int)) := by
    ext i hi
    simp only [BitVec.getElem_and, BitVec.getElem_not, BitVec.getElem_xor]
    cases (BitVec.ofInt k.bits (m : Int))[i] <;> cases (BitVec.ofInt k.bits (n : Int))[i] <;> rfl
  rw [e]
  simp only [BitVec.toNat_xor, BitVec.toNat_and, bits_nat k m h1, bits_nat k n h2]
  refine congrArg (fun z => Result.ok (Value.int k z) w) (wrap_small k _ ?_)
  have hp : ∃ e, mxN k + 1 = 2 ^ e := by cases k <;> first | exact ⟨7, rfl⟩ | exact ⟨15, rfl⟩ | exact ⟨31, rfl⟩ | exact ⟨63, rfl⟩ | exact ⟨8, rfl⟩ | exact ⟨16, rfl⟩ | exact ⟨32, rfl⟩ | exact ⟨64, rfl⟩
  obtain ⟨e, he⟩ := hp
  have := Nat.xor_lt_two_pow (x := m) (y := m &&& n) (n := e) (by omega) (by have := @Nat.and_le_left m n; omega)
  show m ^^^ (m &&& n) ≤ _
  omega
theorem btrue {b x : Bool} (h : Bool.rec (motive := fun _ => Bool) x false b = true) : b = false ∧ x = true := by
  cases b with
  | true => cases h
  | false => exact ⟨rfl, h⟩
theorem ar_quo : ArS (P := P) .quo aQuo := fun k a b c h => by
  obtain ⟨h0, h⟩ := btrue h
  rw [fI_eq] at h
  rw [ieq_eq] at h0
  have h0 : b ≠ 0 := by simpa using h0
  exact ⟨_, h, fun t w => by simp [binOp, Op.intDiv, h0, wr_eq]⟩
theorem ar_rem : ArS (P := P) .rem aRem := fun k a b c h => by
  obtain ⟨h0, h⟩ := btrue h
  rw [fI_eq] at h
  rw [ieq_eq] at h0
  have h0 : b ≠ 0 := by simpa using h0
  exact ⟨_, h, fun t w => by simp [binOp, Op.intDiv, h0]⟩
/-- what a shift gives -/
def ShS (op : BinOp) (f : Ari) : Prop := ∀ k a b c, f k a b c = true → ∃ n, c n = true ∧ ∀ (t : TypeId) (j : IntKind) w, (binOp op t (.int k a) (.int j b)).run P w = .ok (.int k n) w
theorem bits_ge (k : IntKind) : 8 ≤ k.bits := by cases k <;> decide
theorem or_ok {a b : Bool} (h : (a || b) = true) : a = true ∨ b = true := by simpa using h
theorem sh_shl : ShS (P := P) .shl aShl := fun k a b c h => by
  obtain ⟨n, rfl, h⟩ := onNat_ok h
  obtain ⟨h0, h⟩ := bfalse h
  rw [fI_eq] at h
  refine ⟨_, h, fun t j w => ?_⟩
  have hm : min n k.bits = n := by
    rcases or_ok h0 with h0 | h0
    · have : n ≤ 7 := Nat.le_of_ble_eq_true h0; have := bits_ge k; omega
    · obtain ⟨h1, h2⟩ := and_ok h0
      have : n ≤ 63 := Nat.le_of_ble_eq_true h1
      rw [kEq_ok h2]; show min n 64 = n; omega
  have hneg : ¬ ((n : Int) < 0) := by omega
  simp only [binOp, Op.shift, hneg, if_false, Int.toNat_natCast, hm, wr_eq]
  exact congrArg (fun z => Result.ok (Value.int k (k.wrap (a * z))) w) (Int.natCast_pow 2 n).symm
theorem sh_shr : ShS (P := P) .shr aShr := fun k a b c h => by
  obtain ⟨m, n, rfl, rfl, h⟩ := nn_ok h
  obtain ⟨h0, h⟩ := bfalse h
  rw [fN_eq] at h
  refine ⟨_, h, fun t j w => ?_⟩
  have hm : min n k.bits = n := by
    rcases or_ok h0 with h0 | h0
    · have : n ≤ 7 := Nat.le_of_ble_eq_true h0; have := bits_ge k; omega
    · obtain ⟨h1, h2⟩ := and_ok h0
      obtain ⟨h1, _⟩ := and_ok h1
      have : n ≤ 63 := Nat.le_of_ble_eq_true h1
      rcases or_ok h2 with h2 | h2
      · rw [kEq_ok h2]; show min n 64 = n; omega
      · rw [kEq_ok h2]; show min n 64 = n; omega
  have hneg : ¬ ((n : Int) < 0) := by omega
  simp only [binOp, Op.shift, hneg, if_false, Int.toNat_natCast, hm]
  refine congrArg (fun z => Result.ok (Value.int k z) w) ?_
  rw [Int.fdiv_eq_ediv_of_nonneg _ (by exact_mod_cast Nat.zero_le _)]
  exact_mod_cast rfl
/-- what a comparison gives -/
def CmS (op : BinOp) (f : Cmp) : Prop := ∀ (t : TypeId) k a b w, (binOp op t (.int k a) (.int k b)).run P w = .ok (.bool (f a b)) w
theorem cm_all (c : Cm) (op : BinOp) (h : cmOf op = some c) : CmS (P := P) op (dCm c) := by
  intro t k a b w
  cases op <;> simp only [cmOf] at h <;> first | (injection h with h; subst h; simp only [binOp, Op.intCmp, ne_eq, not_true_eq_false, if_false, dCm]; rw [Sem.run_pure]; congr 2) | cases h
  · exact (ieq_eq a b).symm
  · show (a != b) = Bool.rec (motive := fun _ => Bool) true false (ieq a b); rw [ieq_eq]; unfold bne; cases (a == b) <;> rfl
  · exact (ilt_eq a b).symm
  · show decide (a ≤ b) = Bool.rec (motive := fun _ => Bool) true false (ilt b a); rw [ilt_eq]
    by_cases e : b < a
    · have : ¬ a ≤ b := by omega
      simp [e, this]
    · have : a ≤ b := by omega
      simp [e, this]
  · exact (ilt_eq b a).symm
  · show decide (b ≤ a) = Bool.rec (motive := fun _ => Bool) true false (ilt a b); rw [ilt_eq]
    by_cases e : a < b
    · have : ¬ b ≤ a := by omega
      simp [e, this]
    · have : b ≤ a := by omega
      simp [e, this]
end
end Go.Proofs.YtfiambjmphjjgaaGreatDoor.Ms
