/- Part of a proof: a checked evaluator of the program (operations that only compute: all together). No condition. -/
import Derived.Test.YtfiambjmphjjgaaGreatDoorMsPure4
/-! operations that only compute: all together -/
noncomputable section
namespace Go.Proofs.YtfiambjmphjjgaaGreatDoor.Ms
set_option linter.unusedVariables false
set_option linter.unusedSimpArgs false
section
variable {P : Program} {cands : List Nat} {mnames : List String}
theorem miss_none {want : Array (String × TypeId)} {got : Array Method} (h : missB want got = true) : (Instr.missingMethod want got).isNone = true := by
  have e : want.toList.filter (fun x => !got.any fun m => m.name == x.1 && m.sig == x.2) = [] := List.isEmpty_iff.1 h
  have key : ∀ (p : String → Bool) (f : String → String) (l : List String), l = [] → ((Instr.least (l.partition p).2 <|> Instr.least ((l.partition p).1.map f))).isNone = true := by
    rintro p f _ rfl
    rfl
  exact key _ _ _ (congrArg (List.map (·.1)) e)
theorem miss_some {want : Array (String × TypeId)} {got : Array Method} (h : missB want got = false) : (Instr.missingMethod want got).isSome = true := by
  have e : want.toList.filter (fun x => !got.any fun m => m.name == x.1 && m.sig == x.2) ≠ [] := fun e => by
    have : missB want got = true := List.isEmpty_iff.2 e
    rw [h] at this; cases this
  have key : ∀ (p : String → Bool) (f : String → String) (l : List String), l ≠ [] → ((Instr.least (l.partition p).2 <|> Instr.least ((l.partition p).1.map f))).isSome = true := by
    intro p f l hl
    rw [List.partition_eq_filter_filter]
    cases h2 : l.filter (not ∘ p) with
    | cons a r => rfl
    | nil =>
      cases h1 : l.filter p with
      | cons a r => rfl
      | nil =>
        refine absurd ?_ hl
        cases l with
        | nil => rfl
        | cons a r =>
          rw [List.filter_eq_nil_iff] at h1 h2
          have h3 := h1 a (by simp)
          have h4 := h2 a (by simp)
          simp at h3 h4
          rw [h3] at h4; cases h4
  exact key _ _ _ (fun e2 => e (List.map_eq_nil_iff.1 e2))
theorem miss_yes {t : Nat} {want : Array (String × TypeId)} (h : ((P.info? t).map fun i => missB want i.methods) = some true) : ((P.info? t).map fun i => (Instr.missingMethod want i.methods).isNone) = some true := by
  cases hi : P.info? t with
  | none => rw [hi] at h; cases h
  | some i =>
    rw [hi] at h
    have h : some (missB want i.methods) = some true := h
    injection h with h
    exact congrArg some (miss_none h)
theorem miss_no {t : Nat} {want : Array (String × TypeId)} (h : ((P.info? t).map fun i => missB want i.methods) = some false) : ((P.info? t).map fun i => (Instr.missingMethod want i.methods).isSome) = some true := by
  cases hi : P.info? t with
  | none => rw [hi] at h; cases h
  | some i =>
    rw [hi] at h
    have h : some (missB want i.methods) = some false := h
    injection h with h
    exact congrArg some (miss_some h)
theorem pv_ta {x : Operand} {y : O} {xt b : TypeId} {want : Array (String × TypeId)} (hb : P.underlying b = some (.interface want)) (hz : (((P.info? b).bind (·.zero)).map zI) = some true) (hy : trO x = some y)
    {yes no : List Nat} (hyes : ∀ t ∈ yes, ((P.info? t).map fun i => (Instr.missingMethod want i.methods).isNone) = some true) (hno : ∀ t ∈ no, ((P.info? t).map fun i => (Instr.missingMethod want i.methods).isSome) = some true) :
    PvS P (.typeAssert x xt b true) (p_ta yes no (dO y)) := by
  have hzero : ∀ w, (zeroValue b).run P w = .ok .nilIface w := by
    intro w
    cases hi : P.info? b with
    | none => simp [hi] at hz
    | some i =>
      cases hv : i.zero with
      | none => simp [hi, hv] at hz
      | some v =>
        simp [hi, hv] at hz
        have : v = .nilIface := by unfold zI at hz; split at hz <;> first | rfl | cases hz
        subst this
        simp [zeroValue, run_info hi, hv]
  intro env k h
  rcases onIf_ok h with ⟨e, h⟩ | ⟨t, v, e, h⟩
  · refine ⟨_, h, fun g a w o ho hx => ⟨.tuple #[.nilIface, .bool false], ?_, .tup _ [.nilIface, .bool false] (.cons _ _ _ _ .iz (.cons _ _ _ _ (.b _) .nil))⟩⟩
    have h1 := hx x (by simp [Op.operands]) y hy
    rw [e] at h1
    generalize hu : a.eval x = u at h1
    cases h1
    simp [execOp, ho, hu, Instr.typeAssert, run_und hb, hzero]
  · by_cases hm : memN t yes = true
    · rw [hm] at h
      refine ⟨_, h, fun g a w o ho hx => ⟨.tuple #[a.eval x, .bool true], ?_, .tup _ [a.eval x, .bool true] (.cons _ _ _ _ (hx x (by simp [Op.operands]) y hy) (.cons _ _ _ _ (.b _) .nil))⟩⟩
      have h1 := hx x (by simp [Op.operands]) y hy
      rw [e] at h1
      generalize hu : a.eval x = u at h1
      cases h1
      have h2 := hyes t (memN_ok hm)
      cases hi : P.info? t with
      | none => simp [hi] at h2
      | some i =>
        simp [hi] at h2
        simp [execOp, ho, hu, Instr.typeAssert, run_und hb, run_info hi, h2]
    · have hm : memN t yes = false := by simpa using hm
      rw [hm] at h
      obtain ⟨hm2, h9⟩ := bfalse h
      refine ⟨_, h9, fun g a w o ho hx => ⟨.tuple #[.nilIface, .bool false], ?_, .tup _ [.nilIface, .bool false] (.cons _ _ _ _ .iz (.cons _ _ _ _ (.b _) .nil))⟩⟩
      have h1 := hx x (by simp [Op.operands]) y hy
      rw [e] at h1
      generalize hu : a.eval x = u at h1
      cases h1
      have h2 := hno t (memN_ok hm2)
      cases hi : P.info? t with
      | none => simp [hi] at h2
      | some i =>
        simp [hi] at h2
        obtain ⟨m, hmm⟩ := Option.isSome_iff_exists.1 h2
        simp [execOp, ho, hu, Instr.typeAssert, run_und hb, run_info hi, hmm, hzero]
theorem args_of {c : Call} {l : List Operand} (h : c.args.toList = l) : c.args = l.toArray := by rw [← h]
theorem pv_len {c : Call} {x : Operand} {y : O} {t : TypeId} {e : TypeId} (hc : c.callee = .builtin .len) (ha : c.args.toList = [x]) (ht : c.argTypes[0]? = some t) (hu : P.underlying t = some (.slice e)) (hy : trO x = some y) :
    PvS P (.call c) (p_len (dO y)) := by
  intro env k h
  have hrun : ∀ (a : Act) (w : World) (o : Oper) b n m, o.op = .call c → a.eval x = .slice b n m → (execOp a.eval o).run P w = .ok (.value (.int .i64 n)) w := by
    intro a w o b n m ho hx
    simp [execOp, ho, resolve, hc, invoke, builtin, Builtin.len_, args_of ha, ht, hx, run_und hu, goInt]
  have hmem : x ∈ (Op.call c).operands := by simp [Op.operands, Call.operands, hc, args_of ha]
  rcases onSl_ok h with ⟨e, h⟩ | ⟨s, e, h⟩ | ⟨a0, s, o0, n, cap, e, h⟩ | ⟨a0, s, o0, n, e, h⟩
  all_goals
    refine ⟨_, h, fun g a w o ho hx => ⟨_, ?_, .i _ _⟩⟩
    have h1 := hx x hmem y hy
    rw [e] at h1
    generalize hz : a.eval x = z at h1
    cases h1
    exact hrun a w o _ _ _ ho hz
theorem pv_lens {c : Call} {x : Operand} {y : O} {t : TypeId} (hc : c.callee = .builtin .len) (ha : c.args.toList = [x]) (ht : c.argTypes[0]? = some t) (hu : P.underlying t = some .string) (hy : trO x = some y) :
    PvS P (.call c) (p_lens (dO y)) := by
  intro env k h
  have hmem : x ∈ (Op.call c).operands := by simp [Op.operands, Call.operands, hc, args_of ha]
  obtain ⟨b, e, h⟩ := onS_ok h
  rw [fN_eq] at h
  refine ⟨_, h, fun g a w o ho hx => ⟨_, ?_, .i _ _⟩⟩
  have h1 := hx x hmem y hy
  rw [e] at h1
  generalize hz : a.eval x = z at h1
  cases h1
  simp [execOp, ho, resolve, hc, invoke, builtin, Builtin.len_, args_of ha, ht, hz, run_und hu, goInt]
theorem pv_mx {c : Call} {x y : Operand} {x' y' : O} (hx' : trO x = some x') (hy' : trO y = some y') (ha : c.args.toList = [x, y]) (up : Bool) (hc : c.callee = .builtin (if up then .max else .min)) :
    PvS P (.call c) (if up then p_max (dO x') (dO y') else p_min (dO x') (dO y')) := by
  intro env k h
  have hm1 : x ∈ (Op.call c).operands := by simp [Op.operands, Call.operands, hc, args_of ha]
  have hm2 : y ∈ (Op.call c).operands := by simp [Op.operands, Call.operands, hc, args_of ha]
  cases up with
  | true =>
    obtain ⟨j, m, e1, h⟩ := onI_ok h
    obtain ⟨j', n, e2, h⟩ := onI_ok h
    refine ⟨.i j (if m < n then n else m), ?_, fun g a w o ho hx => ⟨_, ?_, .i _ _⟩⟩
    · rw [ilt_eq] at h
      by_cases e : m < n
      · simp only [e, decide_true, if_true] at h ⊢; exact h
      · simp only [e, decide_false, if_false] at h ⊢; exact h
    have h1 := hx x hm1 x' hx'
    have h2 := hx y hm2 y' hy'
    rw [e1] at h1
    rw [e2] at h2
    generalize hz : a.eval x = z at h1
    generalize hv : a.eval y = v at h2
    cases h1
    cases h2
    simp [execOp, ho, resolve, hc, invoke, builtin, Builtin.max_, Builtin.max2, args_of ha, hz, hv]
  | false =>
    obtain ⟨j, m, e1, h⟩ := onI_ok h
    obtain ⟨j', n, e2, h⟩ := onI_ok h
    refine ⟨.i j (if n < m then n else m), ?_, fun g a w o ho hx => ⟨_, ?_, .i _ _⟩⟩
    · rw [ilt_eq] at h
      by_cases e : n < m
      · simp only [e, decide_true, if_true] at h ⊢; exact h
      · simp only [e, decide_false, if_false] at h ⊢; exact h
    have h1 := hx x hm1 x' hx'
    have h2 := hx y hm2 y' hy'
    rw [e1] at h1
    rw [e2] at h2
    generalize hz : a.eval x = z at h1
    generalize hv : a.eval y = v at h2
    cases h1
    cases h2
    simp [execOp, ho, resolve, hc, invoke, builtin, Builtin.min_, Builtin.min2, args_of ha, hz, hv]
/-- a bound of a slice -/
theorem nv_ok {lo : Option Operand} {lo' : Option O} {env : Env} {k : Option Nat → Bool} (hl : trOpt lo = some lo') (h : dN lo' env k = true) :
    ∃ r : Option Nat, k r = true ∧ (r.isSome = lo.isSome) ∧ ∀ g (a : Act), (∀ x, lo = some x → OpR g env a x) → ∃ j, lo.map a.eval = r.map fun (n : Nat) => .int j (n : Int) := by
  cases lo with
  | none =>
    simp only [trOpt] at hl
    injection hl with hl; subst hl
    exact ⟨none, h, rfl, fun g a _ => ⟨.i64, rfl⟩⟩
  | some x =>
    simp only [trOpt] at hl
    obtain ⟨y, hy, rfl⟩ := omap hl
    obtain ⟨j, n, e, h⟩ := onN_ok h
    refine ⟨some n, h, rfl, fun g a hx => ⟨j, ?_⟩⟩
    have h1 := hx x rfl y hy
    rw [e] at h1
    generalize hz : a.eval x = z at h1
    cases h1
    simp [hz]
theorem run_bounds (len cap l h m : Nat) (lo hi mx : Option Nat) (jl jh jm : IntKind) (w : World) (hm : mx.getD cap = m) (hh : hi.getD len = h) (hl : lo.getD 0 = l) (h1 : m ≤ cap) (h2 : h ≤ m) (h3 : l ≤ h) (hb : ¬ (hi.isSome = false ∧ mx.isSome = true)) :
    (Instr.sliceBounds true len cap (lo.map fun (n : Nat) => .int jl (n : Int)) (hi.map fun (n : Nat) => .int jh (n : Int)) (mx.map fun (n : Nat) => .int jm (n : Int))).run P w = .ok (l, h, m) w := by
  have hbnd : ∀ (j : IntKind) (n y : Nat) (code : BoundsCode), n ≤ y → (Instr.sliceBound (.int j (n : Int)) y code).run P w = .ok n w := by
    intro j n y code hle
    have : (0 : Int) ≤ (n : Int) ∧ (n : Int) ≤ (y : Int) := by omega
    simp [Instr.sliceBound, asIntOf, this]
  cases mx with
  | none =>
    simp at hm; subst hm
    cases hi with
    | none =>
      simp at hh; subst hh
      cases lo with
      | none => simp at hl; subst hl; simp [Instr.sliceBounds]
      | some l' => simp at hl; subst hl; simp [Instr.sliceBounds, hbnd _ _ _ _ h3]
    | some h' =>
      simp at hh; subst hh
      cases lo with
      | none => simp at hl; subst hl; simp [Instr.sliceBounds, hbnd _ _ _ _ h2]
      | some l' => simp at hl; subst hl; simp [Instr.sliceBounds, hbnd _ _ _ _ h2, hbnd _ _ _ _ h3]
  | some m' =>
    simp at hm; subst hm
    cases hi with
    | none => exact absurd ⟨rfl, rfl⟩ hb
    | some h' =>
      simp at hh; subst hh
      cases lo with
      | none => simp at hl; subst hl; simp [Instr.sliceBounds, hbnd _ _ _ _ h1, hbnd _ _ _ _ h2]
      | some l' => simp at hl; subst hl; simp [Instr.sliceBounds, hbnd _ _ _ _ h1, hbnd _ _ _ _ h2, hbnd _ _ _ _ h3]
theorem slA_ok {a : Ps} {s o l h m : Nat} {k : KA} (e : slA a s o l h m k = true) : k (if m = l then .sl a s o (h - l) 0 else .sl a s (o + l * s) (h - l) (m - l)) = true := by
  unfold slA at e
  rw [fN_eq] at e
  by_cases hm : m = l
  · subst hm
    simp only [Nat.beq_refl, if_true] at e ⊢
    exact e
  · have : Nat.beq m l = false := Bool.eq_false_iff.2 fun h => hm (Nat.eq_of_beq_eq_true h)
    rw [this] at e
    simp only [fN_eq] at e
    rw [if_neg hm]
    exact e
theorem run_slc {t e : TypeId} {s : Nat} (ht : P.underlying t = some (.slice e)) (hs : szT P e = some s) (ad : Option Addr) (n cap L H M : Nat) (lo hi mx : Option Value) (w : World)
    (hbr : (Instr.sliceBounds true n cap lo hi mx).run P w = .ok (L, H, M) w) : (Instr.sliceAt t (.slice ad n cap) lo hi mx).run P w = .ok (.slice (if M = L then ad else ad.map (·.add (L * s))) (H - L) (M - L)) w := by
  have h1 : (Instr.slice t (.slice ad n cap) lo hi mx).run P w = .ok (.slice (if M = L then ad else ad.map (·.add (L * s))) (H - L) (M - L)) w := by
    unfold Instr.slice
    rw [Sem.run_bind, run_und ht, Result.andThen_ok]
    show ((Instr.sliceBounds true n cap lo hi mx >>= fun (x : Nat × Nat × Nat) => sizeOf e >>= fun size => pure (Value.slice (if x.2.2 = x.1 then ad else ad.map (·.add (x.1 * size))) (x.2.1 - x.1) (x.2.2 - x.1))) : Sem Value).run P w = _
    rw [Sem.run_bind, hbr, Result.andThen_ok, Sem.run_bind, run_size hs]
    rfl
  unfold Instr.sliceAt
  rw [Sem.run_bind, run_und ht, Result.andThen_ok]
  exact h1
theorem pv_slc {t e : TypeId} {x : Operand} {lo hi mx : Option Operand} {x' : O} {lo' hi' mx' : Option O} {s : Nat} (ht : P.underlying t = some (.slice e)) (hs : szT P e = some s) (hb : ¬ (hi.isSome = false ∧ mx.isSome = true))
    (hx' : trO x = some x') (hl : trOpt lo = some lo') (hh : trOpt hi = some hi') (hm : trOpt mx = some mx') : PvS P (.slice t x lo hi mx) (p_slc s (dO x') (dN lo') (dN hi') (dN mx')) := by
  intro env k h
  obtain ⟨l, h, hl1, hl2⟩ := nv_ok hl h
  obtain ⟨hh1, h, hh2, hh3⟩ := nv_ok hh h
  obtain ⟨m, h, hm2, hm3⟩ := nv_ok hm h
  have hb' : ¬ (hh1.isSome = false ∧ m.isSome = true) := by rw [hh2, hm2]; exact hb
  have hrun : ∀ (g : G) (a : Act) (w : World) (o : Oper) (ad : Option Addr) (n cap L H M : Nat), o.op = .slice t x lo hi mx → (∀ x_1 ∈ (Op.slice t x lo hi mx).operands, OpR g env a x_1) → a.eval x = .slice ad n cap →
      m.getD cap = M → hh1.getD n = H → l.getD 0 = L → M ≤ cap → H ≤ M → L ≤ H →
      (execOp a.eval o).run P w = .ok (.value (.slice (if M = L then ad else ad.map (·.add (L * s))) (H - L) (M - L))) w := by
    intro g a w o ad n cap L H M ho hx hz e1 e2 e3 e4 e5 e6
    obtain ⟨jl, el⟩ := hl2 g a (fun y hy => hx y (by simp [Op.operands, hy]))
    obtain ⟨jh, eh⟩ := hh3 g a (fun y hy => hx y (by simp [Op.operands, hy]))
    obtain ⟨jm, em⟩ := hm3 g a (fun y hy => hx y (by simp [Op.operands, hy]))
    have hbr := run_bounds (P := P) n cap L H M l hh1 m jl jh jm w e1 e2 e3 e4 e5 e6 hb'
    have hr : (Instr.sliceAt t (.slice ad n cap) (lo.map a.eval) (hi.map a.eval) (mx.map a.eval)).run P w = .ok (.slice (if M = L then ad else ad.map (·.add (L * s))) (H - L) (M - L)) w := by
      rw [el, eh, em]
      exact run_slc ht hs ad n cap L H M _ _ _ w hbr
    simp only [execOp, ho, hz, hr, Sem.run_bind, Result.andThen_ok, Sem.run_pure]
  rcases onSl_ok h with ⟨e1, h⟩ | ⟨_, _, h⟩ | ⟨a0, s', o0, n, cap, e1, h⟩ | ⟨a0, s', o0, n, e1, h⟩
  · obtain ⟨hc, h9⟩ := bfalse h
    obtain ⟨hc, hc3⟩ := and_ok hc
    obtain ⟨hc1, hc2⟩ := and_ok hc
    have hc1 : l.getD 0 = 0 := Nat.eq_of_beq_eq_true hc1
    have hc2 : hh1.getD 0 = 0 := Nat.eq_of_beq_eq_true hc2
    have hc3 : m.getD 0 = 0 := Nat.eq_of_beq_eq_true hc3
    refine ⟨_, h9, fun g a w o ho hx => ⟨_, ?_, .sn⟩⟩
    have h1 := hx x (by simp [Op.operands]) x' hx'
    rw [e1] at h1
    generalize hz : a.eval x = z at h1
    cases h1
    have := hrun g a w o none 0 0 0 0 0 ho hx hz hc3 hc2 hc1 (by omega) (by omega) (by omega)
    simpa using this
  · cases h
  · obtain ⟨hc, h9⟩ := bfalse h
    obtain ⟨hc, hc4⟩ := and_ok hc
    obtain ⟨hc, hc3⟩ := and_ok hc
    obtain ⟨hc1, hc2⟩ := and_ok hc
    have hc1 : m.getD cap ≤ cap := Nat.le_of_ble_eq_true hc1
    have hc2 : hh1.getD n ≤ m.getD cap := Nat.le_of_ble_eq_true hc2
    have hc3 : l.getD 0 ≤ hh1.getD n := Nat.le_of_ble_eq_true hc3
    have hc4 : s = s' := Nat.eq_of_beq_eq_true hc4
    subst hc4
    have h9 : k (if m.getD cap = l.getD 0 then .sl a0 s o0 (hh1.getD n - l.getD 0) 0 else .sl a0 s (o0 + l.getD 0 * s) (hh1.getD n - l.getD 0) (m.getD cap - l.getD 0)) = true := slA_ok h9
    refine ⟨_, h9, fun g a w o ho hx => ?_⟩
    have h1 := hx x (by simp [Op.operands]) x' hx'
    rw [e1] at h1
    generalize hz : a.eval x = z at h1
    cases h1 with
    | sl c gx _ _ _ _ _ hg ha hs' hn hL =>
      refine ⟨_, hrun g a w o _ n cap _ _ _ ho hx hz rfl rfl rfl hc1 hc2 hc3, ?_⟩
      have hmul : m.getD cap * s ≤ cap * s := Nat.mul_le_mul_right s hc1
      by_cases e : m.getD cap = l.getD 0
      · rw [if_pos e, if_pos e, show m.getD cap - l.getD 0 = 0 by omega]
        exact .sl c gx a0 s o0 _ 0 hg ha hs' (by omega) (by omega)
      · rw [if_neg e, if_neg e]
        simp only [Option.map_some, addr_add]
        refine .sl c gx a0 s _ _ _ hg ha hs' (by omega) ?_
        have : l.getD 0 * s + (m.getD cap - l.getD 0) * s = m.getD cap * s := by rw [← Nat.add_mul]; congr 1; omega
        omega
  · cases m with
    | none =>
      obtain ⟨hc, h9⟩ := bfalse h
      obtain ⟨hc, hc4⟩ := and_ok hc
      obtain ⟨hc1, hc2⟩ := and_ok hc
      have hc1 : hh1.getD n ≤ n := Nat.le_of_ble_eq_true hc1
      have hc2 : l.getD 0 ≤ hh1.getD n := Nat.le_of_ble_eq_true hc2
      have hc4 : s = s' := Nat.eq_of_beq_eq_true hc4
      subst hc4
      by_cases e : l.getD 0 = n
      · have hbe : Nat.beq (l.getD 0) n = true := by rw [e]; exact Nat.beq_refl n
        have h9 : k (.se s) = true := by
          have h9' : Bool.rec (motive := fun _ => Bool) (fN (Nat.add o0 (Nat.mul (l.getD 0) s)) fun o => fN (Nat.sub (hh1.getD n) (l.getD 0)) fun n => k (.so a0 s o n)) (k (.se s)) (Nat.beq (l.getD 0) n) = true := h9
          rw [hbe] at h9'; exact h9'
        refine ⟨_, h9, fun g a w o ho hx => ?_⟩
        have h1 := hx x (by simp [Op.operands]) x' hx'
        rw [e1] at h1
        generalize hz : a.eval x = z at h1
        cases h1 with
        | so c gx _ _ _ _ cap hg ha hs' hn hL hT =>
          refine ⟨_, hrun g a w o _ n cap _ _ cap ho hx hz rfl rfl rfl (Nat.le_refl _) (by omega) hc2, ?_⟩
          rw [show hh1.getD n - l.getD 0 = 0 by omega]
          split
          · exact .se s c o0 _
          · simp only [Option.map_some, addr_add]; exact .se s c _ _
      · have hbe : Nat.beq (l.getD 0) n = false := Bool.eq_false_iff.2 fun h => e (Nat.eq_of_beq_eq_true h)
        have h9 : k (.so a0 s (o0 + l.getD 0 * s) (hh1.getD n - l.getD 0)) = true := by
          have h9' : Bool.rec (motive := fun _ => Bool) (fN (Nat.add o0 (Nat.mul (l.getD 0) s)) fun o => fN (Nat.sub (hh1.getD n) (l.getD 0)) fun n => k (.so a0 s o n)) (k (.se s)) (Nat.beq (l.getD 0) n) = true := h9
          rw [hbe] at h9'
          simp only [fN_eq] at h9'
          exact h9'
        refine ⟨_, h9, fun g a w o ho hx => ?_⟩
        have h1 := hx x (by simp [Op.operands]) x' hx'
        rw [e1] at h1
        generalize hz : a.eval x = z at h1
        cases h1 with
        | so c gx _ _ _ _ cap hg ha hs' hn hL hT =>
          refine ⟨_, hrun g a w o _ n cap _ _ cap ho hx hz rfl rfl rfl (Nat.le_refl _) (by omega) hc2, ?_⟩
          have hne : ¬ cap = l.getD 0 := by omega
          rw [if_neg hne]
          simp only [Option.map_some, addr_add]
          have hm1 : l.getD 0 * s + (hh1.getD n - l.getD 0) * s = hh1.getD n * s := by rw [← Nat.add_mul]; congr 1; omega
          have hm2 : l.getD 0 * s + (cap - l.getD 0) * s = cap * s := by rw [← Nat.add_mul]; congr 1; omega
          have hm3 : hh1.getD n * s ≤ n * s := Nat.mul_le_mul_right s hc1
          exact .so c gx a0 s _ _ _ hg ha hs' (by omega) (by omega) (by omega)
    | some m =>
      obtain ⟨hc, h9⟩ := bfalse h
      obtain ⟨hc, hc4⟩ := and_ok hc
      obtain ⟨hc, hc3⟩ := and_ok hc
      obtain ⟨hc1, hc2⟩ := and_ok hc
      have hc1 : m ≤ n := Nat.le_of_ble_eq_true hc1
      have hc2 : hh1.getD n ≤ m := Nat.le_of_ble_eq_true hc2
      have hc3 : l.getD 0 ≤ hh1.getD n := Nat.le_of_ble_eq_true hc3
      have hc4 : s = s' := Nat.eq_of_beq_eq_true hc4
      subst hc4
      have h9 : k (if m = l.getD 0 then .sl a0 s o0 (hh1.getD n - l.getD 0) 0 else .sl a0 s (o0 + l.getD 0 * s) (hh1.getD n - l.getD 0) (m - l.getD 0)) = true := slA_ok h9
      refine ⟨_, h9, fun g a w o ho hx => ?_⟩
      have h1 := hx x (by simp [Op.operands]) x' hx'
      rw [e1] at h1
      generalize hz : a.eval x = z at h1
      cases h1 with
      | so c gx _ _ _ _ cap hg ha hs' hn hL hT =>
        refine ⟨_, hrun g a w o _ n cap _ _ m ho hx hz rfl rfl rfl (by omega) hc2 hc3, ?_⟩
        have hmul : m * s ≤ n * s := Nat.mul_le_mul_right s hc1
        by_cases e : m = l.getD 0
        · rw [if_pos e, if_pos e, show m - l.getD 0 = 0 by omega]
          exact .sl c gx a0 s o0 _ 0 hg ha hs' (by omega) (by omega)
        · rw [if_neg e, if_neg e]
          simp only [Option.map_some, addr_add]
          refine .sl c gx a0 s _ _ _ hg ha hs' (by omega) ?_
          have : l.getD 0 * s + (m - l.getD 0) * s = m * s := by rw [← Nat.add_mul]; congr 1; omega
          omega
end
end Go.Proofs.YtfiambjmphjjgaaGreatDoor.Ms
