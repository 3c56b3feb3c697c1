/- Part of a proof: a checked evaluator of the program (operations that only compute: the last ones, and all together). No condition. -/
import Derived.Test.YtfiambjmphjjgaaGreatDoorMsPure3
/-! operations that only compute: the last ones, and all together -/
noncomputable section
namespace Go.Proofs.YtfiambjmphjjgaaGreatDoor.Ms
set_option linter.unusedVariables false
set_option linter.unusedSimpArgs false
section
variable {P : Program} {cands : List Nat} {mnames : List String}
theorem un_op {g : G} {env : Env} {a : Act} {op : Op} {x : Operand} {y : O} (h : ∀ x ∈ op.operands, OpR g env a x) (hm : x ∈ op.operands) (hy : trO x = some y) : VR g (dO y env) (a.eval x) := h x hm y hy
theorem pv_no {t : TypeId} {x : Operand} {y : O} (hy : trO x = some y) : PvS P (.unOp .not t x) (p_no (dO y)) := by
  intro env k h
  obtain ⟨b, e, h⟩ := onB_ok h
  refine ⟨.b (!b), by cases b <;> exact h, fun g a w o ho hx => ⟨_, ?_, .b _⟩⟩
  have h1 := hx x (by simp [Op.operands]) y hy
  rw [e] at h1
  generalize hz : a.eval x = z at h1
  cases h1
  simp [execOp, ho, hz, Op.unary]
theorem pv_neg {t : TypeId} {x : Operand} {y : O} (hy : trO x = some y) : PvS P (.unOp .neg t x) (p_neg (dO y)) := by
  intro env k h
  obtain ⟨j, n, e, h⟩ := onI_ok h
  rw [fI_eq] at h
  refine ⟨_, h, fun g a w o ho hx => ⟨_, ?_, .i _ _⟩⟩
  have h1 := hx x (by simp [Op.operands]) y hy
  rw [e] at h1
  generalize hz : a.eval x = z at h1
  cases h1
  simp only [execOp, ho, hz, Op.unary, Op.intArith, Sem.run_bind, Sem.run_pure, Result.andThen_ok, wr_eq]
  rfl
theorem pv_cv {s t : TypeId} {x : Operand} {y : O} {j k0 : IntKind} (hs : P.underlying s = some (.int j)) (ht : P.underlying t = some (.int k0)) (hy : trO x = some y) : PvS P (.convert s t x) (p_cv k0 (dO y)) := by
  intro env k h
  obtain ⟨j', n, e, h⟩ := onI_ok h
  rw [fI_eq] at h
  refine ⟨_, h, fun g a w o ho hx => ⟨_, ?_, .i _ _⟩⟩
  have h1 := hx x (by simp [Op.operands]) y hy
  rw [e] at h1
  generalize hz : a.eval x = z at h1
  cases h1
  simp only [execOp, ho, hz, convert, run_und hs, run_und ht, Conv.intToInt, Sem.run_bind, Sem.run_pure, Result.andThen_ok, wr_eq]
theorem pv_mi {t : TypeId} {x : Operand} {y : O} {d : TypeDesc} (ht : P.underlying t = some d) (hd : ∀ m, d ≠ .interface m) (hy : trO x = some y) : PvS P (.makeInterface t x) (p_mi t (dO y)) := by
  intro env k h
  refine ⟨_, h, fun g a w o ho hx => ⟨_, ?_, .ifc t _ _ (hx x (by simp [Op.operands]) y hy)⟩⟩
  have : (Instr.makeInterface t (a.eval x)).run P w = .ok (.iface t (a.eval x)) w := by
    simp only [Instr.makeInterface, Sem.run_bind, run_und ht, Result.andThen_ok]
    cases d <;> first | rfl | exact absurd rfl (hd _)
  simp only [execOp, ho, Sem.run_bind, this, Result.andThen_ok, Sem.run_pure]
theorem pv_mf {fn : Fn} {fs cs : Array Operand} {fs' cs' : List O} (hf : fs.toList.mapM trO = some fs') (hc : cs.toList.mapM trO = some cs') : PvS P (.makeFunc fn fs cs) (p_mf fn (fs'.map dO) (cs'.map dO)) := by
  intro env k h
  have h' : evs env (fs'.map dO) (fun fs => evs env (cs'.map dO) fun cs => k (.f fn fs cs)) = true := h
  rw [evs_eq, evs_eq] at h'
  refine ⟨_, h', fun g a w o ho hx => ⟨_, ?_, .f fn _ _ (fs.map a.eval).toList (cs.map a.eval).toList ?_ ?_⟩⟩
  · simp [execOp, ho, Instr.makeFunc]
    constructor <;> exact Array.ext' (by simp)
  · have := mapM_opR (g := g) (env := env) (a := a) hf (fun x hx' => hx x (by simp [Op.operands]; exact .inl (by simpa using hx')))
    rw [List.map_map]; simpa [Function.comp_def] using this
  · have := mapM_opR (g := g) (env := env) (a := a) hc (fun x hx' => hx x (by simp [Op.operands]; exact .inr (by simpa using hx')))
    rw [List.map_map]; simpa [Function.comp_def] using this
theorem addr_add (c o n : Nat) : Addr.add ⟨c, o, none⟩ n = ⟨c, o + n, none⟩ := by
  unfold Addr.add; split
  · rename_i e; subst e; rfl
  · rfl
theorem pv_fa {t : TypeId} {x : Operand} {y : O} {i : Nat} {fs : Array Field} {f : Field} {s : Nat} (ht : P.underlying t = some (.struct fs)) (hf : fs[i]? = some f) (hs : szT P f.type = some s) (h0 : s ≠ 0) (hy : trO x = some y) :
    PvS P (.fieldAddr t x i) (p_fa f.offset s (dO y)) := by
  intro env k h
  obtain ⟨a0, o0, e0, e, h⟩ := onP_ok h
  obtain ⟨hle, h⟩ := bfalse h
  have hle : o0 * 0 + f.offset + s ≤ e0 := by simpa using Nat.le_of_ble_eq_true hle
  rw [fN_eq] at h
  refine ⟨_, h, fun g a w o ho hx => ?_⟩
  have h1 := hx x (by simp [Op.operands]) y hy
  rw [e] at h1
  generalize hz : a.eval x = z at h1
  cases h1 with
  | p c gx _ _ _ hc ha he =>
    refine ⟨_, ?_, .p c gx a0 (o0 + f.offset) s hc ha (by simp at hle; omega)⟩
    have hr : (Instr.fieldAt t (.pointer (some ⟨c, o0, none⟩)) i).run P w = .ok (.pointer (some ⟨c, o0 + f.offset, none⟩)) w := by
      simp only [Instr.fieldAt, Sem.run_bind, run_und ht, Result.andThen_ok, hf, Instr.sureAddr, Sem.run_pure, fieldPlace, run_size hs, if_neg h0, addr_add]
    simp only [execOp, ho, hz, Sem.run_bind, hr, Result.andThen_ok, Sem.run_pure]
theorem drop_head {α : Type} {l : List α} {n : Nat} {x : α} {r : List α} (h : dropN n l = x :: r) : l[n]? = some x := by
  rw [dropN_eq] at h
  have := congrArg (fun l => l[0]?) h
  simpa using this
theorem pv_fld {t : TypeId} {x : Operand} {y : O} {i : Nat} {fs : Array Field} {f : Field} (ht : P.underlying t = some (.struct fs)) (hf : fs[i]? = some f) (hb : aggT P f.type = some false) (hy : trO x = some y) :
    PvS P (.field t x i) (p_fld f.offset (dO y)) := by
  intro env k h
  obtain ⟨l, e, h⟩ := onAgg_ok h
  obtain ⟨v, r, hd, h⟩ := headK_ok h
  refine ⟨_, h, fun g a w o ho hx => ?_⟩
  have h1 := hx x (by simp [Op.operands]) y hy
  rw [e] at h1
  generalize hz : a.eval x = z at h1
  cases h1 with
  | agg _ us hl hone =>
    obtain ⟨u, hu, hv⟩ := hl.get (drop_head hd)
    refine ⟨u, ?_, hv⟩
    have hr : (Instr.field t (.agg ⟨us⟩) i).run P w = .ok u w := by
      simp only [Instr.field, Sem.run_bind, run_und ht, Result.andThen_ok, hf, asAgg, Sem.run_pure, part, run_agg hb]
      simp [hu]
    simp only [execOp, ho, hz, Sem.run_bind, hr, Result.andThen_ok, Sem.run_pure]
theorem pv_flds {t : TypeId} {x : Operand} {y : O} {i : Nat} {fs : Array Field} {f : Field} {s : Nat} (ht : P.underlying t = some (.struct fs)) (hf : fs[i]? = some f) (hs : szT P f.type = some s) (hb : aggT P f.type = some true) (hy : trO x = some y) :
    PvS P (.field t x i) (p_flds f.offset s (dO y)) := by
  intro env k h
  obtain ⟨l, e, h⟩ := onAgg_ok h
  obtain ⟨hle, h⟩ := takeK_ok h
  rw [dropN_eq] at h
  refine ⟨_, h, fun g a w o ho hx => ?_⟩
  have h1 := hx x (by simp [Op.operands]) y hy
  rw [e] at h1
  generalize hz : a.eval x = z at h1
  cases h1 with
  | agg _ us hl hone =>
    refine ⟨.agg ⟨(us.drop f.offset).take s⟩, ?_, .agg _ _ ((hl.drop _).take _) fun u hu => hone u (List.mem_of_mem_drop (List.mem_of_mem_take hu))⟩
    have hr : (Instr.field t (.agg ⟨us⟩) i).run P w = .ok (.agg ⟨(us.drop f.offset).take s⟩) w := by
      simp only [Instr.field, Sem.run_bind, run_und ht, Result.andThen_ok, hf, asAgg, Sem.run_pure, part, run_agg hb]
      simp only [if_true, Sem.run_bind, run_size hs, Result.andThen_ok, Sem.run_pure]
      have : (Array.mk us).extract f.offset (f.offset + s) = ⟨(us.drop f.offset).take s⟩ := by
        apply Array.ext'
        simp
      rw [this]
    simp only [execOp, ho, hz, Sem.run_bind, hr, Result.andThen_ok, Sem.run_pure]
theorem pv_ixs {t e' : TypeId} {x i : Operand} {x' i' : O} {s : Nat} (ht : P.underlying t = some (.slice e')) (hs : szT P e' = some s) (hx' : trO x = some x') (hi' : trO i = some i') :
    PvS P (.indexAddr t x i) (p_ixs s (dO x') (dO i')) := by
  intro env k h
  obtain ⟨j, n, e1, h⟩ := onN_ok h
  have hrun : ∀ (w : World) (c o0 len cap : Nat), n < len → (Instr.indexAt t (.slice (some ⟨c, o0, none⟩) len cap) (.int j n)).run P w = .ok (.pointer (some ⟨c, o0 + n * s, none⟩)) w := by
    intro w c o0 len cap hlt
    have h1 : (0 : Int) ≤ (n : Int) ∧ (n : Int) < (len : Int) := by omega
    simp only [Instr.indexAt, asIntOf, Sem.run_bind, Sem.run_pure, Result.andThen_ok, run_und ht]
    by_cases hl : len ≤ 1
    · simp only [decide_eq_true hl, Bool.true_and, Sem.run_bind, Result.andThen_ok, Sem.run_pure, h1, and_self, if_true, run_size hs, Int.toNat_natCast, addr_add]
    · simp [h1, run_size hs, addr_add]
  rcases onSl_ok h with ⟨_, h⟩ | ⟨_, _, h⟩ | ⟨a0, s0, o0, len, cap, e2, h⟩ | ⟨a0, s0, o0, len, e2, h⟩
  · cases h
  · cases h
  · obtain ⟨hc, h9⟩ := bfalse h
    obtain ⟨hc1, hc2⟩ := and_ok hc
    have hc1 : s = s0 := Nat.eq_of_beq_eq_true hc1
    have hc2 : n + 1 ≤ len := Nat.le_of_ble_eq_true hc2
    subst hc1
    rw [fN_eq] at h9
    refine ⟨_, h9, fun g a w o ho hx => ?_⟩
    have h1 := hx x (by simp [Op.operands]) x' hx'
    have h2 := hx i (by simp [Op.operands]) i' hi'
    rw [e2] at h1
    rw [e1] at h2
    generalize hz : a.eval x = z at h1
    generalize hy : a.eval i = y at h2
    cases h2
    cases h1 with
    | sl c gx _ _ _ _ _ hg ha hs' hn hL =>
      refine ⟨_, ?_, .p c gx a0 (o0 + n * s) s hg ha ?_⟩
      · simp only [execOp, ho, hz, hy, Sem.run_bind, hrun w c o0 len cap (by omega), Result.andThen_ok, Sem.run_pure]
      · have : (n + 1) * s ≤ cap * s := Nat.mul_le_mul_right s (by omega)
        rw [Nat.add_mul] at this; omega
  · obtain ⟨hc, h9⟩ := bfalse h
    obtain ⟨hc1, hc2⟩ := and_ok hc
    have hc1 : s = s0 := Nat.eq_of_beq_eq_true hc1
    have hc2 : n + 1 ≤ len := Nat.le_of_ble_eq_true hc2
    subst hc1
    rw [fN_eq] at h9
    refine ⟨_, h9, fun g a w o ho hx => ?_⟩
    have h1 := hx x (by simp [Op.operands]) x' hx'
    have h2 := hx i (by simp [Op.operands]) i' hi'
    rw [e2] at h1
    rw [e1] at h2
    generalize hz : a.eval x = z at h1
    generalize hy : a.eval i = y at h2
    cases h2
    cases h1 with
    | so c gx _ _ _ _ cap hg ha hs' hn hL hT =>
      refine ⟨_, ?_, .p c gx a0 (o0 + n * s) s hg ha ?_⟩
      · simp only [execOp, ho, hz, hy, Sem.run_bind, hrun w c o0 len cap (by omega), Result.andThen_ok, Sem.run_pure]
      · have : (n + 1) * s ≤ len * s := Nat.mul_le_mul_right s (by omega)
        rw [Nat.add_mul] at this; omega
theorem pv_ixa {t e' : TypeId} {x i : Operand} {x' i' : O} {s len : Nat} (ht : P.underlying t = some (.array len e')) (hs : szT P e' = some s) (hx' : trO x = some x') (hi' : trO i = some i') :
    PvS P (.indexAddr t x i) (p_ixa len s (dO x') (dO i')) := by
  intro env k h
  obtain ⟨j, n, e1, h⟩ := onN_ok h
  obtain ⟨a0, o0, e0, e2, h⟩ := onP_ok h
  obtain ⟨hc, h⟩ := bfalse h
  obtain ⟨hc1, hc2⟩ := and_ok hc
  have hc1 : len * s ≤ e0 := Nat.le_of_ble_eq_true hc1
  have hc2 : n + 1 ≤ len := Nat.le_of_ble_eq_true hc2
  rw [fN_eq] at h
  refine ⟨_, h, fun g a w o ho hx => ?_⟩
  have h1 := hx x (by simp [Op.operands]) x' hx'
  have h2 := hx i (by simp [Op.operands]) i' hi'
  rw [e2] at h1
  rw [e1] at h2
  generalize hz : a.eval x = z at h1
  generalize hy : a.eval i = y at h2
  cases h2
  cases h1 with
  | p c gx _ _ _ hg ha he =>
    refine ⟨_, ?_, .p c gx a0 (o0 + n * s) s hg ha ?_⟩
    · have hi : (0 : Int) ≤ (n : Int) ∧ (n : Int) < (len : Int) := by omega
      have hr : (Instr.indexAt t (.pointer (some ⟨c, o0, none⟩)) (.int j n)).run P w = .ok (.pointer (some ⟨c, o0 + n * s, none⟩)) w := by
        simp only [Instr.indexAt, asIntOf, Sem.run_bind, Sem.run_pure, Result.andThen_ok, run_und ht, Instr.sureAddr]
        by_cases hl : len ≤ 1
        · simp [run_und ht, hi, run_size hs, addr_add]
        · simp [hi, run_size hs, addr_add]
      simp only [execOp, ho, hz, hy, Sem.run_bind, hr, Result.andThen_ok, Sem.run_pure]
    · have : (n + 1) * s ≤ len * s := Nat.mul_le_mul_right s (by omega)
      rw [Nat.add_mul] at this; omega
theorem pv_ixv {t e' : TypeId} {x i : Operand} {x' i' : O} {len : Nat} (ht : P.underlying t = some (.array len e')) (hs : szT P e' = some 1) (hb : aggT P e' = some false) (hx' : trO x = some x') (hi' : trO i = some i') :
    PvS P (.index t x i) (p_ixv len (dO x') (dO i')) := by
  intro env k h
  obtain ⟨j, n, e1, h⟩ := onN_ok h
  obtain ⟨l, e2, h⟩ := onAgg_ok h
  obtain ⟨hc2, h⟩ := bfalse h
  have hc2 : n + 1 ≤ len := Nat.le_of_ble_eq_true hc2
  obtain ⟨v, r, hd, h⟩ := headK_ok h
  refine ⟨_, h, fun g a w o ho hx => ?_⟩
  have h1 := hx x (by simp [Op.operands]) x' hx'
  have h2 := hx i (by simp [Op.operands]) i' hi'
  rw [e2] at h1
  rw [e1] at h2
  generalize hz : a.eval x = z at h1
  generalize hy : a.eval i = y at h2
  cases h2
  cases h1 with
  | agg _ us hl hone =>
    obtain ⟨u, hu, hv⟩ := hl.get (drop_head hd)
    refine ⟨u, ?_, hv⟩
    have hi : (0 : Int) ≤ (n : Int) ∧ (n : Int) < (len : Int) := by omega
    have hr : (Instr.index t (.agg ⟨us⟩) (.int j n)).run P w = .ok u w := by
      simp only [Instr.index, asIntOf, Sem.run_bind, Sem.run_pure, Result.andThen_ok, run_und ht, hi, and_self, if_true, run_size hs, part, run_agg hb]
      simp [hu]
    simp only [execOp, ho, hz, hy, Sem.run_bind, hr, Result.andThen_ok, Sem.run_pure]
theorem pv_ext {x : Operand} {y : O} {i : Nat} (hy : trO x = some y) : PvS P (.extract x i) (p_ext i (dO y)) := by
  intro env k h
  obtain ⟨l, e, h⟩ := onTup_ok h
  obtain ⟨v, r, hd, h⟩ := headK_ok h
  refine ⟨_, h, fun g a w o ho hx => ?_⟩
  have h1 := hx x (by simp [Op.operands]) y hy
  rw [e] at h1
  generalize hz : a.eval x = z at h1
  cases h1 with
  | tup _ us hl =>
    obtain ⟨u, hu, hv⟩ := hl.get (drop_head hd)
    refine ⟨u, ?_, hv⟩
    simp [execOp, ho, hz, Instr.extract, hu]
theorem pv_nc {x : Operand} {y : O} (hy : trO x = some y) : PvS P (.nilCheck x) (p_nc (tb256 P cands mnames) (dO y)) := by
  intro env k h
  have hv : (∃ a o e, dO y env = .p a o e ∧ k (.p a o e) = true) ∨ (∃ t v, dO y env = .ifc t v ∧ k (.ifc t v) = true) ∨
      (∃ f fs cs, dO y env = .f f fs cs ∧ fnK f (k (.f f fs cs)) (fun nm => headK fs fun v => v.onIf false fun t _ => Bool.rec (motive := fun _ => Bool) false (k (.f f fs cs)) (memS nm t (tb256 P cands mnames))) = true) := by
    unfold p_nc at h
    cases hd : dO y env <;> rw [hd] at h <;> first
      | exact .inl ⟨_, _, _, rfl, h⟩
      | exact .inr (.inl ⟨_, _, rfl, h⟩)
      | exact .inr (.inr ⟨_, _, _, rfl, h⟩)
      | cases h
  rcases hv with ⟨a0, o0, e0, e, h⟩ | ⟨t, v, e, h⟩ | ⟨f, fs, cs, e, h⟩
  · refine ⟨_, h, fun g a w o ho hx => ?_⟩
    have h1 := hx x (by simp [Op.operands]) y hy
    rw [e] at h1
    refine ⟨a.eval x, ?_, h1⟩
    generalize hz : a.eval x = z at h1
    cases h1
    simp [execOp, ho, hz]
  · refine ⟨_, h, fun g a w o ho hx => ?_⟩
    have h1 := hx x (by simp [Op.operands]) y hy
    rw [e] at h1
    refine ⟨a.eval x, ?_, h1⟩
    generalize hz : a.eval x = z at h1
    cases h1
    simp [execOp, ho, hz]
  · cases f with
    | func f =>
      refine ⟨_, h, fun g a w o ho hx => ?_⟩
      have h1 := hx x (by simp [Op.operands]) y hy
      rw [e] at h1
      refine ⟨a.eval x, ?_, h1⟩
      generalize hz : a.eval x = z at h1
      cases h1
      simp [execOp, ho, hz]
    | method nm =>
      obtain ⟨v, r, rfl, h⟩ := headK_ok h
      rcases onIf_ok h with ⟨_, h⟩ | ⟨t, v', rfl, h⟩
      · cases h
      · obtain ⟨hm, h⟩ := bfalse h
        have hm := memS_ok hm
        refine ⟨_, h, fun g a w o ho hx => ?_⟩
        have h1 := hx x (by simp [Op.operands]) y hy
        rw [e] at h1
        refine ⟨a.eval x, ?_, h1⟩
        generalize hz : a.eval x = z at h1
        cases h1 with
        | f _ _ _ us ds hf hc =>
          cases hf with
          | cons _ u _ us' hu hs =>
            cases hu with
            | ifc _ _ u' hu' =>
              have hok : okAhead P nm t = true := by
                unfold tb256 at hm
                simp only [List.mem_flatMap, List.mem_map, List.mem_filter] at hm
                obtain ⟨s, _, t', ⟨_, h2⟩, h3⟩ := hm
                injection h3 with h3 h4; subst h3; subst h4; exact h2
              have hna : (nilAhead (P.types.size + Made.depth) t u' nm).run P w = .ok (some false) w := by
                unfold okAhead at hok
                split at hok
                · rename_i i hi
                  split at hok
                  · rename_i m hm'
                    simp only [Bool.and_eq_true] at hok
                    obtain ⟨hp, hf'⟩ := hok
                    split at hf'
                    · rename_i f' hfn
                      obtain ⟨n, hn⟩ : ∃ n, P.types.size + Made.depth = n + 1 := ⟨P.types.size + Made.depth - 1, by unfold Made.depth; omega⟩
                      have hpe : m.path = #[] := by simpa using hp
                      rw [hn]
                      simp only [nilAhead, Sem.run_bind, run_info hi, Result.andThen_ok, hm', hpe, followBlind, Sem.run_pure, hfn]
                    · cases hf'
                  · cases hok
                · cases hok
              simp only [execOp, ho, hz]
              simp [hna]
    | _ => cases h
end
end Go.Proofs.YtfiambjmphjjgaaGreatDoor.Ms
