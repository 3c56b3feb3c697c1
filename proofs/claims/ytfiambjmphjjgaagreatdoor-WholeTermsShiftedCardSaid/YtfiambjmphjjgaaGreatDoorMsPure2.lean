/- Part of a proof: a checked evaluator of the program (operations that only compute: one by one). No condition. -/
import Derived.Test.YtfiambjmphjjgaaGreatDoorMsPure
import Derived.Laws.Small
import Derived.Laws.Slices
import Derived.Laws.Strings
/-! operations that only compute: one by one -/
noncomputable section
namespace Go.Proofs.YtfiambjmphjjgaaGreatDoor.Ms
set_option linter.unusedVariables false
set_option linter.unusedSimpArgs false
section
variable {P : Program} {cands : List Nat} {mnames : List String}
theorem obind {α β : Type} {x : Option α} {f : α → Option β} {b : β} (h : (x >>= f) = some b) : ∃ a, x = some a ∧ f a = some b := by
  cases x with
  | none => cases h
  | some a => exact ⟨a, rfl, h⟩
theorem omap {α β : Type} {x : Option α} {f : α → β} {b : β} (h : x.map f = some b) : ∃ a, x = some a ∧ f a = b := by
  cases x with
  | none => cases h
  | some a => exact ⟨a, rfl, by injection h⟩
theorem pv_mv {op : Op} {x : Operand} {y : O} (hop : op = .move x ∨ op = .assign x) (hy : trO x = some y) : PvS P op (p_mv (dO y)) := by
  intro env k h
  refine ⟨_, h, fun g a w o ho hx => ⟨a.eval x, ?_, ?_⟩⟩
  · rcases hop with rfl | rfl <;> simp [execOp, ho]
  · exact hx x (by rcases hop with rfl | rfl <;> simp [Op.operands]) y hy
theorem pv_pick {c a b : Operand} {c' a' b' : O} (hc : trO c = some c') (ha : trO a = some a') (hb : trO b = some b') : PvS P (.pick c a b) (p_pick (dO c') (dO a') (dO b')) := by
  intro env k h
  obtain ⟨t, e, h⟩ := onB_ok h
  cases t with
  | true =>
    refine ⟨_, h, fun g s w o ho hx => ⟨s.eval a, ?_, hx a (by simp [Op.operands]) a' ha⟩⟩
    have h1 := hx c (by simp [Op.operands]) c' hc
    rw [e] at h1
    generalize hz : s.eval c = z at h1
    cases h1
    simp [execOp, ho, hz, asBool]
  | false =>
    refine ⟨_, h, fun g s w o ho hx => ⟨s.eval b, ?_, hx b (by simp [Op.operands]) b' hb⟩⟩
    have h1 := hx c (by simp [Op.operands]) c' hc
    rw [e] at h1
    generalize hz : s.eval c = z at h1
    cases h1
    simp [execOp, ho, hz, asBool]
theorem brec' {b : Bool} {v1 v2 : AV} {k : AV → Bool} (h : Bool.rec (motive := fun _ => Bool) (k v1) (k v2) b = true) : k (if b then v2 else v1) = true := by cases b <;> exact h
theorem brecB {b : Bool} {k : AV → Bool} (h : Bool.rec (motive := fun _ => Bool) (k (.b false)) (k (.b true)) b = true) : k (.b b) = true := by cases b <;> exact h
theorem eqGuard_int (op : BinOp) (t : TypeId) (x y : Operand) (k : IntKind) (n : Int) (v : Value) : eqGuard op t x y (.int k n) v = pure () := eqGuard_at_int ..
theorem pv_ar {op : BinOp} {t : TypeId} {x y : Operand} {z : TypeId} {x' y' : O} (hx' : trO x = some x') (hy' : trO y = some y') {f : Ari} (hf : ArS (P := P) op f) :
    PvS P (.binOp op t x y z) (p_ar f (dO x') (dO y')) := by
  intro env k h
  obtain ⟨j, m, e1, h⟩ := onI_ok h
  obtain ⟨j', n, e2, h⟩ := onI_ok h
  obtain ⟨hk, h9⟩ := bfalse h
  have hk' := kEq_ok hk
  subst hk'
  obtain ⟨r, hr, hf⟩ := hf _ _ _ _ h9
  refine ⟨_, hr, fun g a w o ho hx => ⟨_, ?_, .i _ _⟩⟩
  have h1 := hx x (by simp [Op.operands]) x' hx'
  have h2 := hx y (by simp [Op.operands]) y' hy'
  rw [e1] at h1
  rw [e2] at h2
  generalize hu : a.eval x = u at h1
  generalize hv : a.eval y = v at h2
  cases h1
  cases h2
  simp only [execOp, ho, hu, hv, eqGuard_int, Sem.run_bind, Sem.run_pure, Result.andThen_ok, hf]
theorem pv_sh {op : BinOp} {t : TypeId} {x y : Operand} {z : TypeId} {x' y' : O} (hx' : trO x = some x') (hy' : trO y = some y') {f : Ari} (hf : ShS (P := P) op f) :
    PvS P (.binOp op t x y z) (p_sh f (dO x') (dO y')) := by
  intro env k h
  obtain ⟨j, m, e1, h⟩ := onI_ok h
  obtain ⟨j', n, e2, h⟩ := onI_ok h
  obtain ⟨r, hr, hf⟩ := hf _ _ _ _ h
  refine ⟨_, hr, fun g a w o ho hx => ⟨_, ?_, .i _ _⟩⟩
  have h1 := hx x (by simp [Op.operands]) x' hx'
  have h2 := hx y (by simp [Op.operands]) y' hy'
  rw [e1] at h1
  rw [e2] at h2
  generalize hu : a.eval x = u at h1
  generalize hv : a.eval y = v at h2
  cases h1
  cases h2
  simp only [execOp, ho, hu, hv, eqGuard_int, Sem.run_bind, Sem.run_pure, Result.andThen_ok, hf]
theorem pv_cm {op : BinOp} {t : TypeId} {x y : Operand} {z : TypeId} {x' y' : O} (hx' : trO x = some x') (hy' : trO y = some y') {f : Cmp} (hf : CmS (P := P) op f) :
    PvS P (.binOp op t x y z) (p_cm f (dO x') (dO y')) := by
  intro env k h
  obtain ⟨j, m, e1, h⟩ := onI_ok h
  obtain ⟨j', n, e2, h⟩ := onI_ok h
  obtain ⟨hk, h9⟩ := bfalse h
  have hk' := kEq_ok hk
  subst hk'
  refine ⟨_, brecB h9, fun g a w o ho hx => ⟨_, ?_, .b _⟩⟩
  have h1 := hx x (by simp [Op.operands]) x' hx'
  have h2 := hx y (by simp [Op.operands]) y' hy'
  rw [e1] at h1
  rw [e2] at h2
  generalize hu : a.eval x = u at h1
  generalize hv : a.eval y = v at h2
  cases h1
  cases h2
  simp only [execOp, ho, hu, hv, eqGuard_int, Sem.run_bind, Sem.run_pure, Result.andThen_ok, hf t]
theorem pv_eqb {op : BinOp} {t : TypeId} {x y : Operand} {z : TypeId} {x' y' : O} {ng : Bool} (hu : P.underlying t = some .bool) (hn : ngOf op = some ng) (hx' : trO x = some x') (hy' : trO y = some y') :
    PvS P (.binOp op t x y z) (p_eqb ng (dO x') (dO y')) := by
  intro env k h
  obtain ⟨m, e1, h⟩ := onB_ok h
  obtain ⟨n, e2, h⟩ := onB_ok h
  refine ⟨_, brecB h, fun g a w o ho hx => ⟨_, ?_, .b _⟩⟩
  have h1 := hx x (by simp [Op.operands]) x' hx'
  have h2 := hx y (by simp [Op.operands]) y' hy'
  rw [e1] at h1
  rw [e2] at h2
  generalize hp : a.eval x = p at h1
  generalize hq : a.eval y = q at h2
  cases h1
  cases h2
  have hg : ∀ v, eqGuard op t x y (.bool m) v = pure () := fun v => eqGuard_at_bool ..
  cases op <;> simp only [ngOf] at hn <;> first | (injection hn with hn; subst hn) | cases hn
  · simp only [execOp, ho, hp, hq, hg, Sem.run_bind, Sem.run_pure, Result.andThen_ok, run_eql_bool w t m n hu]; cases m <;> cases n <;> rfl
  · simp only [execOp, ho, hp, hq, hg, Sem.run_bind, Sem.run_pure, Result.andThen_ok, run_neq_bool w t m n hu]; cases m <;> cases n <;> rfl
theorem bytes_eq (a b : ByteArray) : (a.toList == b.toList) = decide (a = b) := by
  rw [Bool.eq_iff_iff, beq_iff_eq, decide_eq_true_iff, ByteArray.toList_eq, ByteArray.toList_eq]
  constructor
  · intro h1
    cases a; cases b; simp at h1; subst h1; rfl
  · intro h; rw [h]
theorem pv_eqst {op : BinOp} {t : TypeId} {x y : Operand} {z : TypeId} {x' y' : O} {ng : Bool} (hn : ngOf op = some ng) (hx' : trO x = some x') (hy' : trO y = some y') :
    PvS P (.binOp op t x y z) (p_eqst ng (dO x') (dO y')) := by
  intro env k h
  obtain ⟨m, e1, h⟩ := onS_ok h
  obtain ⟨n, e2, h⟩ := onS_ok h
  refine ⟨_, brecB h, fun g a w o ho hx => ⟨_, ?_, .b _⟩⟩
  have h1 := hx x (by simp [Op.operands]) x' hx'
  have h2 := hx y (by simp [Op.operands]) y' hy'
  rw [e1] at h1
  rw [e2] at h2
  generalize hp : a.eval x = p at h1
  generalize hq : a.eval y = q at h2
  cases h1
  cases h2
  have hg : ∀ v, eqGuard op t x y (.string m) v = pure () := fun v => eqGuard_at_string ..
  cases op <;> simp only [ngOf] at hn <;> first | (injection hn with hn; subst hn) | cases hn
  · simp only [execOp, ho, hp, hq, hg, Sem.run_bind, Sem.run_pure, Result.andThen_ok, binOp_string_eql, bytes_eq]; cases decide (m = n) <;> rfl
  · simp only [execOp, ho, hp, hq, hg, Sem.run_bind, Sem.run_pure, Result.andThen_ok, binOp_string_neq, bytes_eq]; cases decide (m = n) <;> rfl
def isNe : BinOp → Bool
  | .neq => true
  | _ => false
/-- one side is nil -/
theorem nilSide_ok {z : Value → Bool} {x y : Operand} {v : O} (h : nilSide z x y = some v) : (∃ c, y = .const c ∧ z c = true ∧ trO x = some v) ∨ (∃ c, x = .const c ∧ z c = true ∧ trO y = some v) := by
  unfold nilSide at h
  split at h
  · split at h
    · rename_i c hz; exact .inl ⟨_, rfl, hz, h⟩
    · cases h
  · split at h
    · rename_i c hz; exact .inr ⟨_, rfl, hz, h⟩
    · cases h
  · cases h
/-- of a value held against nil: what is there -/
structure NilS (t : TypeId) (z : Value → Bool) (f : AV → (Bool → Bool) → Bool) : Prop where
  ok : ∀ v k, f v k = true → ∃ b, k b = true ∧ ∀ g u c w (x y : Operand), VR g v u → z c = true →
    (∀ op, op = .eql ∨ op = .neq → (do eqGuard op t x (.const c) u c; binOp op t u c : Sem Value).run P w = .ok (.bool (xor b (isNe op))) w) ∧
    (∀ op, op = .eql ∨ op = .neq → (do eqGuard op t (.const c) y c u; binOp op t c u : Sem Value).run P w = .ok (.bool (xor b (isNe op))) w)
theorem pv_nil {op : BinOp} {t : TypeId} {x y : Operand} {tz : TypeId} {v : O} {ng : Bool} {z : Value → Bool} {f : AV → (Bool → Bool) → Bool} (hz : NilS (P := P) t z f) (hn : ngOf op = some ng) (hv : nilSide z x y = some v) :
    PvS P (.binOp op t x y tz) (p_nil f ng (dO v)) := by
  intro env k h
  obtain ⟨b, h1, h2⟩ := hz.ok _ _ h
  have hop : (op = .eql ∨ op = .neq) ∧ ng = (isNe op) := by
    cases op <;> simp only [ngOf] at hn <;> first | (injection hn with hn; subst hn; exact ⟨by simp, rfl⟩) | cases hn
  obtain ⟨hop, rfl⟩ := hop
  refine ⟨_, brecB h1, fun g a w o ho hx => ⟨_, ?_, .b _⟩⟩
  rcases nilSide_ok hv with ⟨c, rfl, hc, hxv⟩ | ⟨c, rfl, hc, hxv⟩
  · have h3 := hx x (by simp [Op.operands]) v hxv
    have h4 := (h2 g (a.eval x) c w x x h3 hc).1 op hop
    simp only [execOp, ho]
    rw [Sem.run_bind]
    show (Sem.run P (do eqGuard op t x (.const c) (a.eval x) c; binOp op t (a.eval x) c) w).andThen _ = _
    rw [h4]; rfl
  · have h3 := hx y (by simp [Op.operands]) v hxv
    have h4 := (h2 g (a.eval y) c w y y h3 hc).2 op hop
    simp only [execOp, ho]
    rw [Sem.run_bind]
    show (Sem.run P (do eqGuard op t (.const c) y c (a.eval y); binOp op t c (a.eval y)) w).andThen _ = _
    rw [h4]; rfl
theorem maxDepth_eq : Op.maxDepth = 9999 + 1 := rfl
theorem run_eql' (t : TypeId) (x y : Value) (w : World) {b : Bool} (hne : ∀ op, (op = BinOp.eql ∨ op = .neq) → binOp op t x y = (if isNe op then (do pure (.bool (!(← Op.equal t x y)))) else (do pure (.bool (← Op.equal t x y)))))
    (he : (Op.equal t x y).run P w = .ok b w) (op : BinOp) (hop : op = .eql ∨ op = .neq) : (binOp op t x y).run P w = .ok (.bool (xor b (isNe op))) w := by
  rw [hne op hop]
  rcases hop with rfl | rfl
  · simp [he, isNe]
  · simp [he, isNe]
theorem nil_p {t e : TypeId} (hu : P.underlying t = some (.pointer e)) : NilS (P := P) t zP nilP := by
  constructor
  intro v k h
  have hv : (v = .pn ∧ k true = true) ∨ (∃ a o e, v = .p a o e) ∧ k false = true := by
    cases v <;> first | exact .inl ⟨rfl, h⟩ | exact .inr ⟨⟨_, _, _, rfl⟩, h⟩ | cases h
  rcases hv with ⟨rfl, h⟩ | ⟨⟨a, o, e', rfl⟩, h⟩
  · refine ⟨true, h, fun g u c w x y hr hc => ?_⟩
    cases hr
    have : c = .pointer none := by unfold zP at hc; split at hc <;> first | rfl | cases hc
    subst this
    have he : (Op.equal t (.pointer none) (.pointer none)).run P w = .ok true w := by
      rw [Op.equal, maxDepth_eq, Op.equalIn]; simp only [Sem.run_bind, run_und hu, Result.andThen_ok]; rfl
    have hb := run_eql' t (.pointer none) (.pointer none) w (fun op hop => by rcases hop with rfl | rfl <;> rfl) he
    constructor <;> intro op hop <;> rw [eqGuard_at_pointer] <;> simpa using hb op hop
  · refine ⟨false, h, fun g u c w x y hr hc => ?_⟩
    cases hr
    rename_i c' x' _ _ _
    have : c = .pointer none := by unfold zP at hc; split at hc <;> first | rfl | cases hc
    subst this
    have he : (Op.equal t (.pointer (some ⟨c', o, none⟩)) (.pointer none)).run P w = .ok false w := by
      rw [Op.equal, maxDepth_eq, Op.equalIn]; simp only [Sem.run_bind, run_und hu, Result.andThen_ok]; rfl
    have he' : (Op.equal t (.pointer none) (.pointer (some ⟨c', o, none⟩))).run P w = .ok false w := by
      rw [Op.equal, maxDepth_eq, Op.equalIn]; simp only [Sem.run_bind, run_und hu, Result.andThen_ok]; rfl
    have hb := run_eql' t _ _ w (fun op hop => by rcases hop with rfl | rfl <;> rfl) he
    have hb' := run_eql' t _ _ w (fun op hop => by rcases hop with rfl | rfl <;> rfl) he'
    constructor <;> intro op hop <;> rw [eqGuard_at_pointer]
    · simpa using hb op hop
    · simpa using hb' op hop
theorem nil_s {t e : TypeId} (hu : P.underlying t = some (.slice e)) : NilS (P := P) t zS nilS := by
  constructor
  intro v k h
  have hsome : ∀ (a : Addr) (n m : Nat) (c : Value) (w : World), zS c = true → (∀ op, op = .eql ∨ op = .neq → (binOp op t (.slice (some a) n m) c).run P w = .ok (.bool (xor false (isNe op))) w) ∧ (∀ op, op = .eql ∨ op = .neq → (binOp op t c (.slice (some a) n m)).run P w = .ok (.bool (xor false (isNe op))) w) := by
    intro a n m c w hc
    obtain ⟨i, j, rfl⟩ : ∃ i j, c = .slice none i j := by unfold zS at hc; split at hc <;> first | exact ⟨_, _, rfl⟩ | cases hc
    have he : (Op.equal t (.slice (some a) n m) (.slice none i j)).run P w = .ok false w := by
      rw [Op.equal, maxDepth_eq, Op.equalIn]; simp only [Sem.run_bind, run_und hu, Result.andThen_ok]; rfl
    have he' : (Op.equal t (.slice none i j) (.slice (some a) n m)).run P w = .ok false w := by
      rw [Op.equal, maxDepth_eq, Op.equalIn]; simp only [Sem.run_bind, run_und hu, Result.andThen_ok]; rfl
    exact ⟨run_eql' t _ _ w (fun op hop => by rcases hop with rfl | rfl <;> rfl) he, run_eql' t _ _ w (fun op hop => by rcases hop with rfl | rfl <;> rfl) he'⟩
  have hgd : ∀ op x y a n m v, eqGuard op t x y (.slice a n m) v = pure () := fun op x y a n m v => eqGuard_at_slice ..
  have hz : ∀ c, zS c = true → ∃ i j, c = .slice none i j := fun c hc => by unfold zS at hc; split at hc <;> first | exact ⟨_, _, rfl⟩ | cases hc
  rcases onSl_ok h with ⟨rfl, h⟩ | ⟨s, rfl, h⟩ | ⟨_, _, _, _, _, rfl, h⟩ | ⟨_, _, _, _, rfl, h⟩
  · refine ⟨true, h, fun g u c w x y hr hc => ?_⟩
    cases hr
    obtain ⟨i, j, rfl⟩ := hz c hc
    have he : (Op.equal t (.slice none 0 0) (.slice none i j)).run P w = .ok true w := by
      rw [Op.equal, maxDepth_eq, Op.equalIn]; simp only [Sem.run_bind, run_und hu, Result.andThen_ok]; rfl
    have he' : (Op.equal t (.slice none i j) (.slice none 0 0)).run P w = .ok true w := by
      rw [Op.equal, maxDepth_eq, Op.equalIn]; simp only [Sem.run_bind, run_und hu, Result.andThen_ok]; rfl
    have hb := run_eql' t _ _ w (fun op hop => by rcases hop with rfl | rfl <;> rfl) he
    have hb' := run_eql' t _ _ w (fun op hop => by rcases hop with rfl | rfl <;> rfl) he'
    constructor <;> intro op hop <;> rw [hgd]
    · simpa using hb op hop
    · simpa using hb' op hop
  all_goals
    refine ⟨false, h, fun g u c w x y hr hc => ?_⟩
    cases hr
    obtain ⟨i, j, rfl⟩ := hz c hc
    obtain ⟨h1, h2⟩ := hsome _ _ _ _ w hc
    constructor <;> intro op hop <;> rw [hgd]
    · simpa using h1 op hop
    · simpa using h2 op hop
theorem nil_f {t : TypeId} {ps rs : Array TypeId} {vr : Bool} (hu : P.underlying t = some (.func ps rs vr)) : NilS (P := P) t zF nilF := by
  constructor
  intro v k h
  have hv : (v = .fz ∧ k true = true) ∨ (∃ a o e, v = .f a o e) ∧ k false = true := by
    cases v <;> first | exact .inl ⟨rfl, h⟩ | exact .inr ⟨⟨_, _, _, rfl⟩, h⟩ | cases h
  have hz : ∀ c, zF c = true → c = .nilFunc := fun c hc => by unfold zF at hc; split at hc <;> first | rfl | cases hc
  have hg1 : ∀ op x y v, eqGuard op t x y .nilFunc v = pure () := fun op x y v => eqGuard_at_nilFunc ..
  have hg2 : ∀ op x y f a c v, eqGuard op t x y (.func f a c) v = pure () := fun op x y f a c v => eqGuard_at_func ..
  rcases hv with ⟨rfl, h⟩ | ⟨⟨a, o, e', rfl⟩, h⟩
  · refine ⟨true, h, fun g u c w x y hr hc => ?_⟩
    cases hr
    have := hz c hc
    subst this
    have he : (Op.equal t .nilFunc .nilFunc).run P w = .ok true w := by
      rw [Op.equal, maxDepth_eq, Op.equalIn]; simp only [Sem.run_bind, run_und hu, Result.andThen_ok]; rfl
    have hb := run_eql' t _ _ w (fun op hop => by rcases hop with rfl | rfl <;> rfl) he
    constructor <;> intro op hop <;> rw [hg1] <;> simpa using hb op hop
  · refine ⟨false, h, fun g u c w x y hr hc => ?_⟩
    cases hr
    rename_i us ds _ _
    have := hz c hc
    subst this
    have he : (Op.equal t (.func a ⟨us⟩ ⟨ds⟩) .nilFunc).run P w = .ok false w := by
      rw [Op.equal, maxDepth_eq, Op.equalIn]; simp only [Sem.run_bind, run_und hu, Result.andThen_ok]; rfl
    have he' : (Op.equal t .nilFunc (.func a ⟨us⟩ ⟨ds⟩)).run P w = .ok false w := by
      rw [Op.equal, maxDepth_eq, Op.equalIn]; simp only [Sem.run_bind, run_und hu, Result.andThen_ok]; rfl
    have hb := run_eql' t _ _ w (fun op hop => by rcases hop with rfl | rfl <;> rfl) he
    have hb' := run_eql' t _ _ w (fun op hop => by rcases hop with rfl | rfl <;> rfl) he'
    constructor <;> intro op hop
    · rw [hg2]; simpa using hb op hop
    · rw [hg1]; simpa using hb' op hop
theorem nil_i {t : TypeId} {ms : Array (String × TypeId)} (hu : P.underlying t = some (.interface ms)) : NilS (P := P) t zI nilI := by
  constructor
  intro v k h
  have hz : ∀ c, zI c = true → c = .nilIface := fun c hc => by unfold zI at hc; split at hc <;> first | rfl | cases hc
  have hg2 : ∀ op x y d u v, eqGuard op t x y (.iface d u) v = pure () := fun op x y d u v => eqGuard_at_iface ..
  rcases onIf_ok h with ⟨rfl, h⟩ | ⟨d, v', rfl, h⟩
  · refine ⟨true, h, fun g u c w x y hr hc => ?_⟩
    cases hr
    have := hz c hc
    subst this
    have he : (Op.equal t .nilIface .nilIface).run P w = .ok true w := by
      rw [Op.equal, maxDepth_eq, Op.equalIn]; simp only [Sem.run_bind, run_und hu, Result.andThen_ok]; rfl
    have hb := run_eql' t _ _ w (fun op hop => by rcases hop with rfl | rfl <;> rfl) he
    have g1 : ∀ op, op = .eql ∨ op = .neq → (eqGuard op t x (.const .nilIface) .nilIface .nilIface).run P w = .ok () w := by
      intro op hop; rcases hop with rfl | rfl <;> simp [eqGuard]
    have g2 : ∀ op, op = .eql ∨ op = .neq → (eqGuard op t (.const .nilIface) y .nilIface .nilIface).run P w = .ok () w := by
      intro op hop; rcases hop with rfl | rfl <;> simp [eqGuard]
    constructor <;> intro op hop <;> rw [Sem.run_bind]
    · rw [g1 op hop]; simpa using hb op hop
    · rw [g2 op hop]; simpa using hb op hop
  · refine ⟨false, h, fun g u c w x y hr hc => ?_⟩
    cases hr
    rename_i u hvu
    have := hz c hc
    subst this
    have he : (Op.equal t (.iface d u) .nilIface).run P w = .ok false w := by
      rw [Op.equal, maxDepth_eq, Op.equalIn]; simp only [Sem.run_bind, run_und hu, Result.andThen_ok]; rfl
    have he' : (Op.equal t .nilIface (.iface d u)).run P w = .ok false w := by
      rw [Op.equal, maxDepth_eq, Op.equalIn]; simp only [Sem.run_bind, run_und hu, Result.andThen_ok]; rfl
    have hb := run_eql' t _ _ w (fun op hop => by rcases hop with rfl | rfl <;> rfl) he
    have hb' := run_eql' t _ _ w (fun op hop => by rcases hop with rfl | rfl <;> rfl) he'
    have g1 : ∀ op y, op = .eql ∨ op = .neq → (eqGuard op t (.const .nilIface) y .nilIface (.iface d u)).run P w = .ok () w := by
      intro op y hop; rcases hop with rfl | rfl <;> simp [eqGuard]
    constructor <;> intro op hop
    · rw [hg2]; simpa using hb op hop
    · rw [Sem.run_bind, g1 op y hop]; simpa using hb' op hop
end
end Go.Proofs.YtfiambjmphjjgaaGreatDoor.Ms
