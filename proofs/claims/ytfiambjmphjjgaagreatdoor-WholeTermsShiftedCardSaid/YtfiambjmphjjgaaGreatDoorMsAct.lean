/- Part of a proof: a checked evaluator of the program (operations that act). No condition. -/
import Derived.Test.YtfiambjmphjjgaaGreatDoorMsRead
/-! operations that act -/
noncomputable section
namespace Go.Proofs.YtfiambjmphjjgaaGreatDoor.Ms
set_option linter.unusedVariables false
set_option linter.unusedSimpArgs false
section
variable (P : Program)
/-- one operation, or a call, does what R says -/
def StepR (s : Sem Next) (w : World) (R : Value → World → Prop) : Prop :=
  (∃ u w', (s.run P w = .ok (.value u) w' ∨ (s.run P w = .ok .skip w' ∧ u = undef)) ∧ R u w') ∨
  (∃ f args, s.run P w = .ok (.enter f args) w ∧ Calls P f args w fun e w' => ∃ u, e = .returned u ∧ R u w')
/-- what an act is to do -/
def Does (g : G) (nx : Ps) (w : World) (v : AV) (h' : Hp) (nx' : Ps) (u : Value) (w' : World) : Prop := ∃ g', VR g' v u ∧ WR g' h' nx' w' ∧ Ex g nx w g' nx' w'
def CallsOK (cf : CF) : Prop :=
  ∀ f vs h nx k, cf f vs h nx k = true → ∃ v h' nx', k v h' nx' = true ∧ ∀ g us w, VRs g vs us → WR g h nx w → StepR P (callFunc f us.toArray) w (Does g nx w v h' nx')
def AcS (op : Op) (ac : Ac) : Prop :=
  ∀ cf, CallsOK P cf → ∀ env h nx k, ac cf env h nx k = true → ∃ v h' nx', k v h' nx' = true ∧
    ∀ g (a : Act) w (o : Oper), o.op = op → (∀ x ∈ op.operands, OpR g env a x) → WR g h nx w → StepR P (execOp a.eval o) w (Does g nx w v h' nx')
variable {P} {cands : List Nat}
theorem cells_one {g : G} {v : AV} {u : Value} (h : VR g v u) (h1 : v.one = true) : u.cells = #[u] := by cases h <;> first | rfl | cases h1
theorem setN_list {t t' : T AV} {o : Nat} {v : AV} (h : ∀ m, t'.getN m = if m = o then some v else t.getN m) (m : Nat) : t'.getN m = if o ≤ m ∧ m < o + [v].length then [v][m - o]? else t.getN m := by
  rw [h]
  by_cases e : m = o
  · subst e; simp
  · have : ¬ (o ≤ m ∧ m < o + [v].length) := by simp; omega
    rw [if_neg e, if_neg this]
theorem ac_st {t : TypeId} {x v : Operand} {x' v' : O} (_hb : aggT P t = some false) (hs : szT P t = some 1) (hx' : trO x = some x') (hv' : trO v = some v') : AcS P (.store t x v) (a_st (dO x') (dO v')) := by
  intro cf _ env h nx k hk
  obtain ⟨a0, o0, e0, e, hk⟩ := onP_ok hk
  obtain ⟨s, sg, n, t0, hg, hk⟩ := hC_ok hk
  obtain ⟨hc, hk9⟩ := bfalse hk
  obtain ⟨hc1, hc2⟩ := and_ok hc
  subst hc1
  obtain ⟨hc2, hc3⟩ := and_ok hc2
  have hc2 : 1 ≤ e0 := Nat.le_of_ble_eq_true hc2
  obtain ⟨t1, hk, ht1⟩ := T.setN_ok hk9
  simp only [T.setK_eq] at hk
  refine ⟨_, _, _, hk, fun g a w o ho hx hw => ?_⟩
  have h1 := hx x (by simp [Op.operands]) x' hx'
  have h2 := hx v (by simp [Op.operands]) v' hv'
  rw [e] at h1
  generalize hz : a.eval x = z at h1
  cases h1 with
  | p c gx _ _ _ hcg ha he =>
    subst ha
    obtain ⟨w', r1, r2, r3⟩ := hw.store P hcg hg (o := o0) (l := [dO v' env]) (us := [a.eval v]) (.cons _ _ _ _ h2 .nil) (by simpa using hc3) (by simp; omega) (setN_list ht1)
    refine .inl ⟨undef, w', .inr ⟨?_, rfl⟩, g, .tup [] [] .nil, r2, r3⟩
    have hr : (Instr.storeAt t (.pointer (some ⟨c, o0, none⟩)) (a.eval v)).run P w = .ok () w' := by
      simp only [Instr.storeAt, Instr.sureAddr, storeVar, Sem.run_bind, Sem.run_pure, Result.andThen_ok, run_size hs, cells_one h2 hc3]
      simpa using r1
    simp only [execOp, ho, hz, Sem.run_bind, hr, Result.andThen_ok, Sem.run_pure]
theorem ac_stn {t : TypeId} {x v : Operand} {x' v' : O} {s0 : Nat} (hs : szT P t = some s0) (hx' : trO x = some x') (hv' : trO v = some v') : AcS P (.store t x v) (a_stn s0 (dO x') (dO v')) := by
  intro cf _ env h nx k hk
  obtain ⟨a0, o0, e0, e, hk⟩ := onP_ok hk
  obtain ⟨l, e2, hk⟩ := onAgg_ok hk
  obtain ⟨s, sg, n, t0, hg, hk⟩ := hC_ok hk
  rw [lenL_eq] at hk
  obtain ⟨hc, hk9⟩ := bfalse hk
  obtain ⟨hc1, hc2⟩ := and_ok hc
  subst hc1
  obtain ⟨hc2, hc3⟩ := and_ok hc2
  have hc2 : s0 ≤ e0 := Nat.le_of_ble_eq_true hc2
  have hc3 : l.length = s0 := Nat.eq_of_beq_eq_true hc3
  obtain ⟨t1, hk, ht1⟩ := stK_ok hk9
  simp only [T.setK_eq] at hk
  refine ⟨_, _, _, hk, fun g a w o ho hx hw => ?_⟩
  have h1 := hx x (by simp [Op.operands]) x' hx'
  have h2 := hx v (by simp [Op.operands]) v' hv'
  rw [e] at h1
  rw [e2] at h2
  generalize hz : a.eval x = z at h1
  generalize hy : a.eval v = y at h2
  cases h1 with
  | p c gx _ _ _ hcg ha he =>
    subst ha
    cases h2 with
    | agg _ us hl hone =>
      have hone' : ∀ x ∈ l, x.one = true := fun x hx => by
        obtain ⟨i, hi, e⟩ := List.getElem_of_mem hx
        obtain ⟨u', e', hv⟩ := hl.get (i := i) (v := x) (by simp [hi, e])
        rw [← hv.one]; exact hone _ (List.mem_of_getElem? e')
      obtain ⟨w', r1, r2, r3⟩ := hw.store P hcg hg (o := o0) hl hone' (by omega) ht1
      refine .inl ⟨undef, w', .inr ⟨?_, rfl⟩, g, .tup [] [] .nil, r2, r3⟩
      have hsz : (Value.agg ⟨us⟩).cells.size = s0 := by show us.length = s0; rw [hl.length, hc3]
      have hr : (Instr.storeAt t (.pointer (some ⟨c, o0, none⟩)) (.agg ⟨us⟩)).run P w = .ok () w' := by
        have hcl : (Value.agg ⟨us⟩).cells.toList = us := rfl
        simp only [Instr.storeAt, Instr.sureAddr, storeVar, Sem.run_bind, Sem.run_pure, Result.andThen_ok, run_size hs, hsz, hcl]
        simpa using r1
      simp only [execOp, ho, hz, hy, Sem.run_bind, hr, Result.andThen_ok, Sem.run_pure]
/-- cells that may not be written behind a block's end: nothing turns -/
theorem WR.freeze {g : G} {h : Hp} {nx : Ps} {w : World} (hw : WR g h nx w) {c : Nat} {cc : Array Value} {el : TypeId} {fr : Nat × Nat} (hc : w.heap[c]? = some (.cells cc el fr)) :
    WR g h nx (w.freeze ⟨c, cc.size, none⟩ 1) ∧ (∀ x, g c = some x → Ex g nx w g nx (w.freeze ⟨c, cc.size, none⟩ 1)) := by
  have hh : ∀ b, (w.freeze ⟨c, cc.size, none⟩ 1).heap[b]? = if b = c then some (.cells cc el (if fr.1 == fr.2 then (cc.size, cc.size + 1) else (min fr.1 cc.size, max fr.2 (cc.size + 1)))) else w.heap[b]? := by
    intro b
    obtain ⟨f1, f2⟩ := fr
    unfold World.freeze
    simp only [Nat.one_ne_zero, if_false]
    rw [Array.getElem?_modify]
    by_cases e : b = c
    · subst e; simp [hc]
    · simp [e, Ne.symm e]
  have hgl : GB g (w.freeze ⟨c, cc.size, none⟩ 1) := by
    obtain ⟨q0, o, q1, q2⟩ := hw.gl
    by_cases e : GL = c
    · rw [e, hc] at q1
      injection q1 with q1
      obtain ⟨cc', el', fr', q3, q4⟩ := q2
      rw [← q1] at q3
      injection q3 with q3 q5 q6
      exact ⟨q0, _, by rw [hh, if_pos e], cc, el, _, rfl, by rw [q3]; exact q4⟩
    · exact ⟨q0, o, by rw [hh, if_neg e]; exact q1, q2⟩
  constructor
  · refine ⟨fun b x hb => ?_, hw.lt, hw.one, hgl⟩
    obtain ⟨ob, o, h1, h2, h3⟩ := hw.obj b x hb
    by_cases e : b = c
    · subst e
      rw [hc] at h2; injection h2 with h2; subst h2
      refine ⟨ob, _, h1, by rw [hh, if_pos rfl], ?_⟩
      cases ob with
      | c s sg n t =>
        obtain ⟨a1, a2, a3, cc', el', fr', e1, e2, e3, e4, e5⟩ := h3
        injection e1 with e1 e1' e1''; subst e1; subst e1'; subst e1''
        refine ⟨a1, a2, a3, cc, el, _, rfl, e2, e3, ?_, e5⟩
        obtain ⟨f1, f2⟩ := fr
        simp at e4 ⊢
        split
        · right; simp; omega
        · right; simp; omega
      | m es clk => obtain ⟨es', e1, _⟩ := h3; cases e1
      | si s pos => obtain ⟨_, e1⟩ := h3; cases e1
      | mi => exact h3.elim
    · exact ⟨ob, o, h1, by rw [hh, if_neg e]; exact h2, h3⟩
  · intro x hx
    refine ⟨.refl g, (fun c x h h' => by rw [h] at h'; cases h'), fun b o hb hn => ?_, by simp [World.freeze], Nat.le_refl _, rfl, rfl, rfl⟩
    have : b ≠ c := fun e => by rw [e, hx] at hn; cases hn
    rw [hh, if_neg this]; exact hb
theorem ac_mkb {t e : TypeId} {x : Operand} {x' : O} (ht : P.underlying t = some (.slice e)) (he : P.underlying e = some (.int .u8)) (hx' : trO x = some x') : AcS P (.convert t t x) (a_mkb (dO x')) := by
  intro cf _ env h nx k hk
  rcases onSl_ok hk with ⟨_, hk⟩ | ⟨_, _, hk⟩ | ⟨a0, s, o0, n, cap, e1, hk⟩ | ⟨_, _, _, _, _, hk⟩
  · cases hk
  · cases hk
  · refine ⟨_, _, _, hk, fun g a w o ho hx hw => ?_⟩
    have h1 := hx x (by simp [Op.operands]) x' hx'
    have h1' := h1
    rw [e1] at h1
    generalize hz : a.eval x = z at h1 h1'
    cases h1 with
    | sl c gx _ _ _ _ _ hcg ha hs hn hL =>
      obtain ⟨ob, o', g1, g2, g3⟩ := hw.obj c gx hcg
      have hcell : ∃ cc el fr, w.heap[c]? = some (.cells cc el fr) ∨ w.shape? c = none := by
        cases ob with
        | c s sg n t => obtain ⟨_, _, _, cc, el, fr, e1, _⟩ := g3; exact ⟨cc, el, fr, .inl (by rw [g2, e1])⟩
        | m es clk => obtain ⟨es', e1, _⟩ := g3; exact ⟨#[], 0, (0, 0), .inr (by simp [World.shape?, g2, e1])⟩
        | si s pos => obtain ⟨_, e1⟩ := g3; exact ⟨#[], 0, (0, 0), .inr (by simp [World.shape?, g2, e1])⟩
        | mi => exact g3.elim
      have hgo : ∀ w', (markStringish ⟨c, o0, none⟩).run P w = .ok () w' → (execOp a.eval o).run P w = .ok (.value (.slice (some ⟨c, o0, none⟩) n cap)) w' := by
        intro w' hm
        have hr : (convert t t (.slice (some ⟨c, o0, none⟩) n cap)).run P w = .ok (.slice (some ⟨c, o0, none⟩) n cap) w' := by
          simp [convert, run_und ht, run_und he, hm]
        simp only [execOp, ho, hz, Sem.run_bind, hr, Result.andThen_ok, Sem.run_pure]
      obtain ⟨cc, el, fr, hcell⟩ := hcell
      rcases hcell with hcell | hcell
      · obtain ⟨f1, f2⟩ := hw.freeze hcell
        refine .inl ⟨_, _, .inl (hgo (w.freeze ⟨c, cc.size, none⟩ 1) ?_), g, h1', f1, f2 gx hcg⟩
        simp [markStringish, World.shape?, hcell]
      · refine .inl ⟨_, _, .inl (hgo w ?_), g, h1', hw, .refl _ _ _⟩
        simp [markStringish, hcell]
  · cases hk
end
end Go.Proofs.YtfiambjmphjjgaaGreatDoor.Ms
