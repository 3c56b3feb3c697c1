/- Part of a proof: a checked evaluator of the program (code). No condition. -/
import Derived.Test.YtfiambjmphjjgaaGreatDoorMsDraw3
import Derived.Scope
/-! code -/
noncomputable section
namespace Go.Proofs.YtfiambjmphjjgaaGreatDoor.Ms
set_option linter.unusedVariables false
set_option linter.unusedSimpArgs false
def XR : X → Exit
  | .nrm => .normal
  | .exit id => .exit id
  | .ret => .ret
def LoopWp (P : Program) (c : Code) (Q : Exit → Act → World → Prop) (a : Act) (w : World) : Prop :=
  ∀ (b : Frame) (k : List Item) (cs : List Frame), ∃ e a' w', Q e a' w' ∧ Arrives P (lone (b.at a (.code c :: .inLoop c :: k)) cs w) b k cs e a' w'
section
variable {P : Program} {Q : Exit → Act → World → Prop} {a : Act} {w : World}
theorem loop_round {c : Code} (h : c.wp P (Exit.then (LoopWp P c Q) Q) a w) : LoopWp P c Q a w := by
  intro b k cs
  obtain ⟨e, a₁, w₁, hq, harr⟩ := h b (.inLoop c :: k) cs
  cases e with
  | normal =>
    obtain ⟨e₂, a₂, w₂, hq₂, harr₂⟩ := hq b k cs
    exact ⟨e₂, a₂, w₂, hq₂, .of_steps (Steps.trans harr (.one step_inLoop)) harr₂⟩
  | exit id => exact ⟨_, a₁, w₁, hq, .pass (x := .inLoop c) rfl (fun _ _ => .inl (by simp)) harr⟩
  | goto l => exact ⟨_, a₁, w₁, hq, .pass (x := .inLoop c) rfl (fun _ _ => .inl (by simp)) harr⟩
  | ret => exact ⟨_, a₁, w₁, hq, .pass (x := .inLoop c) rfl (fun _ _ => .inl (by simp)) harr⟩
  | panic ch => exact ⟨_, a₁, w₁, hq, .pass (x := .inLoop c) rfl (fun _ _ => .inl (by simp)) harr⟩
  | outgrown => exact ⟨_, a₁, w₁, hq, .pass (x := .inLoop c) rfl (fun _ _ => .inl (by simp)) harr⟩
theorem loop_of {c : Code} (h : LoopWp P c Q a w) : (Code.loop c).wp P Q a w := by
  intro b k cs
  obtain ⟨e, a', w', hq, harr⟩ := h b k cs
  exact ⟨e, a', w', hq, .of_steps (.one step_loop) harr⟩
end
section
variable {P : Program} {cands : List Nat} {mnames : List String} {N : Nat}
/-- what a piece of code does -/
def CodeOK (P : Program) (N : Nat) (h : Hp) (nx : Ps) (env : Env) (x : X) (env' : Env) (h' : Hp) (nx' : Ps) (wp : (Exit → Act → World → Prop) → Act → World → Prop) : Prop :=
  ∀ g (a : Act) w (Q : Exit → Act → World → Prop), FR N g env a → WR g h nx w →
    (∀ g' a' w', FR N g' env' a' → a'.defers = a.defers → a'.tmps.size = a.tmps.size → WR g' h' nx' w' → Ex g nx w g' nx' w' → Q (XR x) a' w') → wp Q a w
theorem onBcond {v : AV} {x y : Bool} (h : (v.onB fun c => Bool.rec (motive := fun _ => Bool) y x c) = true) : (v = .b true ∧ x = true) ∨ (v = .b false ∧ y = true) := by
  obtain ⟨b, e, h⟩ := onB_ok h
  cases b
  · exact .inr ⟨e, h⟩
  · exact .inl ⟨e, h⟩
theorem ic_ok (hmix : P.follows .mixedOrders = true) {cf : CF} (hcf : CallsOK P cf) {lf : Nat} : ∀ {c : Code} {d : DC}, trC P cands mnames N c = some d → ∀ {env : Env} {h : Hp} {nx : Ps} {k : X → KE}, icK cf lf (dC d) env h nx k = true →
    ∃ x env' h' nx', k x env' h' nx' = true ∧ CodeOK P N h nx env x env' h' nx' (c.wp P) := by
  intro c
  induction c with
  | skip =>
    intro d htr env h nx k hk
    simp only [trC] at htr
    injection htr with htr; subst htr
    exact ⟨.nrm, env, h, nx, hk, fun g a w Q hf hw hK => wp_skip (hK g a w hf rfl rfl hw (.refl _ _ _))⟩
  | label l =>
    intro d htr env h nx k hk
    simp only [trC] at htr
    injection htr with htr; subst htr
    exact ⟨.nrm, env, h, nx, hk, fun g a w Q hf hw hK => wp_label (hK g a w hf rfl rfl hw (.refl _ _ _))⟩
  | region id ops dr =>
    intro d htr env h nx k hk
    cases dr with
    | false =>
      simp only [trC] at htr
      obtain ⟨ios, h1, rfl⟩ := omap htr
      have hk : opsK cf (ios.map dIo) env h nx (k .nrm) = true := hk
      obtain ⟨env', h', nx', h2, h3⟩ := ops_ok (pairs_range h1) hcf hk
      exact ⟨.nrm, env', h', nx', h2, fun g a w Q hf hw hK => wp_region (h3 g a w Q hf hw hK)⟩
    | true =>
      simp only [trC] at htr
      obtain ⟨ds, h1, rfl⟩ := omap htr
      have hk : drawK cf (ds.map dDI) env h nx (k .nrm) = true := hk
      obtain ⟨env', h', nx', h2, h3⟩ := draw_ok h1 hcf hk
      refine ⟨.nrm, env', h', nx', h2, fun g a w Q hf hw hK => wp_region_any hmix (h3 g a _ Q hf (hw.drawn _) fun g' a' w' q1 q2 q3 q4 q5 => hK g' a' w' q1 q2 q3 q4 ((Ex.drawn _ _ _ _).trans q5))⟩
  | seq x y ihx ihy =>
    intro d htr env h nx k hk
    simp only [trC] at htr
    obtain ⟨dx, h1, htr⟩ := obind htr
    obtain ⟨dy, h2, htr⟩ := obind htr
    injection htr with htr; subst htr
    have hk : icK cf lf (dC dx) env h nx (fun x env h nx => X.rec (icK cf lf (dC dy) env h nx k) (fun id => k (.exit id) env h nx) (k .ret env h nx) x) = true := hk
    obtain ⟨x1, env1, h1', nx1, hk1, hs1⟩ := ihx h1 hk
    cases x1 with
    | nrm =>
      obtain ⟨x2, env2, h2', nx2, hk2, hs2⟩ := ihy h2 hk1
      refine ⟨x2, env2, h2', nx2, hk2, fun g a w Q hf hw hK => wp_seq (hs1 g a w _ hf hw fun g1 a1 w1 f1 d1 z1 w1' e1 => hs2 g1 a1 w1 Q f1 w1' fun g2 a2 w2 f2 d2 z2 w2' e2 => hK g2 a2 w2 f2 (d2.trans d1) (z2.trans z1) w2' (e1.trans e2))⟩
    | exit id => exact ⟨.exit id, env1, h1', nx1, hk1, fun g a w Q hf hw hK => wp_seq (hs1 g a w _ hf hw hK)⟩
    | ret => exact ⟨.ret, env1, h1', nx1, hk1, fun g a w Q hf hw hK => wp_seq (hs1 g a w _ hf hw hK)⟩
  | cond c x y ihx ihy =>
    intro d htr env h nx k hk
    simp only [trC] at htr
    obtain ⟨o, h0, htr⟩ := obind htr
    obtain ⟨dx, h1, htr⟩ := obind htr
    obtain ⟨dy, h2, htr⟩ := obind htr
    injection htr with htr; subst htr
    have hk : ((dO o env).onB fun c => Bool.rec (icK cf lf (dC dy) env h nx k) (icK cf lf (dC dx) env h nx k) c) = true := hk
    have hev : ∀ (b : Bool), dO o env = .b b → ∀ g (a : Act), EV g env a → a.eval c = .bool b := fun b e g a hev => by
      have := opR_of_EV hev c o h0
      rw [e] at this
      generalize a.eval c = z at this
      cases this
      rfl
    rcases onBcond hk with ⟨e, hk⟩ | ⟨e, hk⟩
    · obtain ⟨x1, env1, h1', nx1, hk1, hs1⟩ := ihx h1 hk
      exact ⟨x1, env1, h1', nx1, hk1, fun g a w Q hf hw hK => wp_cond_true (hev _ e g a hf.ev) (hs1 g a w Q hf hw hK)⟩
    · obtain ⟨x1, env1, h1', nx1, hk1, hs1⟩ := ihy h2 hk
      exact ⟨x1, env1, h1', nx1, hk1, fun g a w Q hf hw hK => wp_cond_false (hev _ e g a hf.ev) (hs1 g a w Q hf hw hK)⟩
  | block id b ih =>
    intro d htr env h nx k hk
    simp only [trC] at htr
    obtain ⟨db, h1, htr⟩ := obind htr
    injection htr with htr; subst htr
    have hk : icK cf lf (dC db) env h nx (fun x env h nx => X.rec (k .nrm env h nx) (fun j => Bool.rec (k (.exit j) env h nx) (k .nrm env h nx) (Nat.beq j id)) (k .ret env h nx) x) = true := hk
    obtain ⟨x1, env1, h1', nx1, hk1, hs1⟩ := ih h1 hk
    cases x1 with
    | nrm => exact ⟨.nrm, env1, h1', nx1, hk1, fun g a w Q hf hw hK => wp_block (hs1 g a w _ hf hw hK)⟩
    | exit j =>
      have hk1 : Bool.rec (motive := fun _ => Bool) (k (.exit j) env1 h1' nx1) (k .nrm env1 h1' nx1) (Nat.beq j id) = true := hk1
      by_cases e : j = id
      · subst e
        have : Nat.beq j j = true := Nat.beq_refl j
        rw [this] at hk1
        refine ⟨.nrm, env1, h1', nx1, hk1, fun g a w Q hf hw hK => wp_block (hs1 g a w _ hf hw fun g' a' w' q1 q2 q3 q4 q5 => ?_)⟩
        show (if j = j then Q .normal a' w' else Q (.exit j) a' w')
        rw [if_pos rfl]
        exact hK g' a' w' q1 q2 q3 q4 q5
      · have : Nat.beq j id = false := by
          cases hb : Nat.beq j id with
          | false => rfl
          | true => exact absurd (Nat.eq_of_beq_eq_true hb) e
        rw [this] at hk1
        refine ⟨.exit j, env1, h1', nx1, hk1, fun g a w Q hf hw hK => wp_block (hs1 g a w _ hf hw fun g' a' w' q1 q2 q3 q4 q5 => ?_)⟩
        show (if j = id then Q .normal a' w' else Q (.exit j) a' w')
        rw [if_neg e]
        exact hK g' a' w' q1 q2 q3 q4 q5
    | ret => exact ⟨.ret, env1, h1', nx1, hk1, fun g a w Q hf hw hK => wp_block (hs1 g a w _ hf hw hK)⟩
  | loop b ih =>
    intro d htr env h nx k hk
    simp only [trC] at htr
    obtain ⟨db, h1, htr⟩ := obind htr
    injection htr with htr; subst htr
    have key : ∀ (n : Nat) (env : Env) (h : Hp) (nx : Ps), Nat.rec (motive := fun _ => Env → Hp → Ps → Bool) (fun _ _ _ => false) (fun _ again env h nx => icK cf lf (dC db) env h nx fun x env h nx => X.rec (again env h nx) (fun id => k (.exit id) env h nx) (k .ret env h nx) x) n env h nx = true →
        ∃ x env' h' nx', k x env' h' nx' = true ∧ CodeOK P N h nx env x env' h' nx' (LoopWp P b) := by
      intro n
      induction n with
      | zero => intro env h nx hk; cases hk
      | succ n ihn =>
        intro env h nx hk
        obtain ⟨x1, env1, h1', nx1, hk1, hs1⟩ := ih h1 hk
        cases x1 with
        | nrm =>
          obtain ⟨x2, env2, h2', nx2, hk2, hs2⟩ := ihn env1 h1' nx1 hk1
          refine ⟨x2, env2, h2', nx2, hk2, fun g a w Q hf hw hK => loop_round (hs1 g a w _ hf hw fun g1 a1 w1 f1 d1 z1 w1' e1 => hs2 g1 a1 w1 Q f1 w1' fun g2 a2 w2 f2 d2 z2 w2' e2 => hK g2 a2 w2 f2 (d2.trans d1) (z2.trans z1) w2' (e1.trans e2))⟩
        | exit id => exact ⟨.exit id, env1, h1', nx1, hk1, fun g a w Q hf hw hK => loop_round (hs1 g a w _ hf hw hK)⟩
        | ret => exact ⟨.ret, env1, h1', nx1, hk1, fun g a w Q hf hw hK => loop_round (hs1 g a w _ hf hw hK)⟩
    obtain ⟨x, env', h', nx', hk1, hs⟩ := key lf env h nx hk
    exact ⟨x, env', h', nx', hk1, fun g a w Q hf hw hK => loop_of (hs g a w Q hf hw hK)⟩
  | scope b ih =>
    intro d htr env h nx k hk
    simp only [trC] at htr
    obtain ⟨x1, env1, h1', nx1, hk1, hs1⟩ := ih htr hk
    refine ⟨x1, env1, h1', nx1, hk1, fun g a w Q hf hw hK => wp_scope_straight (hs1 g a w _ hf hw fun g' a' w' q1 q2 q3 q4 q5 => ?_)⟩
    have := hK g' a' w' q1 q2 q3 q4 q5
    cases x1 <;> exact this
  | exit id =>
    intro d htr env h nx k hk
    simp only [trC] at htr
    injection htr with htr; subst htr
    exact ⟨.exit id, env, h, nx, hk, fun g a w Q hf hw hK => wp_exit (hK g a w hf rfl rfl hw (.refl _ _ _))⟩
  | ret =>
    intro d htr env h nx k hk
    simp only [trC] at htr
    injection htr with htr; subst htr
    exact ⟨.ret, env, h, nx, hk, fun g a w Q hf hw hK => wp_ret (hK g a w hf rfl rfl hw (.refl _ _ _))⟩
  | _ =>
    intro d htr
    simp only [trC] at htr
    cases htr
end
end Go.Proofs.YtfiambjmphjjgaaGreatDoor.Ms
