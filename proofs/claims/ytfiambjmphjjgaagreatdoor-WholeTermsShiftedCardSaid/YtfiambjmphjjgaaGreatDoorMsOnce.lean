/- Part of a proof: a checked evaluator of the program (deferred calls: (*sync.Once).doSlow). No condition. -/
import Derived.Test.YtfiambjmphjjgaaGreatDoorMsExt
/-! deferred calls: (*sync.Once).doSlow -/
noncomputable section
namespace Go.Proofs.YtfiambjmphjjgaaGreatDoor.Ms
set_option linter.unusedVariables false
set_option linter.unusedSimpArgs false
section
variable {P : Program} {cands : List Nat} {mnames : List String} {N : Nat}
theorem ops_ok' {ops : Array Oper} {is : List Nat} {ios : List DIo} (hp : Pairs P cands mnames N ops is ios) {cf : CF} (hcf : CallsOK P cf) : ∀ {env : Env} {h : Hp} {nx : Ps} {k : KE}, opsK cf (ios.map dIo) env h nx k = true →
    ∃ env' h' nx', k env' h' nx' = true ∧ ∀ g (a : Act) w Q rest, FR N g env a → WR g h nx w →
      (∀ g' a' w', FR N g' env' a' → a'.defers = a.defers → a'.tmps.size = a.tmps.size → WR g' h' nx' w' → Ex g nx w g' nx' w' → wpOps P ops Q rest a' w') → wpOps P ops Q (is ++ rest) a w := by
  induction hp with
  | nil =>
    intro env h nx k hk
    exact ⟨env, h, nx, hk, fun g a w Q rest hf hw hK => hK g a w hf rfl rfl hw (.refl _ _ _)⟩
  | cons i o io is ios hi htr _ ih =>
    intro env h nx k hk
    have hk' : dIo io cf env h nx (fun env h nx => opsK cf (ios.map dIo) env h nx k) = true := hk
    obtain ⟨env1, h1, nx1, hk1, hs1⟩ := io_ok hi htr hcf hk'
    obtain ⟨env2, h2, nx2, hk2, hs2⟩ := ih hk1
    refine ⟨env2, h2, nx2, hk2, fun g a w Q rest hf hw hK => ?_⟩
    rw [List.cons_append, wpOps_cons]
    refine hs1 g a w _ Q hf hw fun g1 a1 w1 hf1 hd1 hz1 hw1 hx1 => ?_
    refine hs2 g1 a1 w1 Q rest hf1 hw1 fun g2 a2 w2 hf2 hd2 hz2 hw2 hx2 => ?_
    exact hK g2 a2 w2 hf2 (hd2.trans hd1) (hz2.trans hz1) hw2 (hx1.trans hx2)
/-- a region that ends in a deferred call of a function -/
def DfrOK (P : Program) (cands : List Nat) (mnames : List String) (N : Nat) (ops : Array Oper) (ios : List DIo) (f : Nat) (ys : List O) : Prop :=
  ∃ n c o, Pairs P cands mnames N ops (List.range n) ios ∧ ops.size = n + 1 ∧ ops[n]? = some o ∧ o.op = .defer c ∧ o.dst = none ∧ o.guard = none ∧ c.callee = .value (.func f) ∧ c.args.toList.mapM trO = some ys
theorem dfr_ok {ops : Array Oper} {ios : List DIo} {f : Nat} {ys : List O} (hd : DfrOK P cands mnames N ops ios f ys) {cf : CF} (hcf : CallsOK P cf) {env : Env} {h : Hp} {nx : Ps} {k : List AV → KE}
    (hk : opsK cf (ios.map dIo) env h nx (fun env h nx => evs env (ys.map dO) fun vs => k vs env h nx) = true) :
    ∃ vs env' h' nx', k vs env' h' nx' = true ∧ ∀ id g (a : Act) w (Q : Exit → Act → World → Prop), FR N g env a → WR g h nx w →
      (∀ g' a' w' us, FR N g' env' a' → VRs g' vs us → a'.defers = ⟨.fn (.func f) #[], us.toArray⟩ :: a.defers → WR g' h' nx' w' → Ex g nx w g' nx' w' → Q .normal a' w') → (Code.region id ops false).wp P Q a w := by
  obtain ⟨n, c, o, hp, hsz, hat, hop, hdst, hgd, hcal, hargs⟩ := hd
  obtain ⟨env', h', nx', hk, hs⟩ := ops_ok' hp hcf hk
  rw [evs_eq] at hk
  refine ⟨_, env', h', nx', hk, fun id g a w Q hf hw hK => wp_region ?_⟩
  rw [hsz, List.range_succ]
  refine hs g a w Q [n] hf hw fun g' a' w' q1 q2 q3 q4 q5 => ?_
  have hwant : Region.wanted o (yielded ops a'.tmps) = true := by unfold Region.wanted; rw [hgd]
  have hv := args_vrs (g := g') (env := env') (a := a') hargs (fun x _ => opR_of_EV q1.ev x)
  have harr : (c.args.toList.map a'.eval).toArray = c.args.map a'.eval := Array.ext' (by simp)
  have hrun : (execOp a'.eval o).run P w' = .ok (.defer ⟨.fn (.func f) #[], (c.args.toList.map a'.eval).toArray⟩) w' := by
    rw [harr]
    simp [execOp, hop, resolve, hcal, Act.eval, Deferred.ofValue, Result.andThen]
  simp only [wpOps, hat, hwant, if_true]
  refine .inl ?_
  unfold Oper.wp
  rw [hrun, Oper.upon_defer, hdst]
  exact hK g' _ w' _ ⟨q1.ev, q1.sz⟩ hv (by show _ :: a'.defers = _; rw [q2]) q4 q5
theorem nrmK_ok {x : X} {y : Bool} (h : nrmK x y = true) : x = .nrm ∧ y = true := by
  cases x with
  | nrm => exact ⟨rfl, h⟩
  | exit _ => cases h
  | ret => cases h
theorem once_ok (hmix : P.follows .mixedOrders = true) {ds : List Nat} {f : Nat} {fn : Func} (hfn : P.funcs[f]? = some fn) (hname : (fn.name == "runtime.NumGoroutine") = false)
    {r0 r2 r4 : Code} {i1 i3 tc : Nat} {ops1 ops3 : Array Oper}
    (hbody : fn.body = some (.seq r0 (.seq (.region i1 ops1 false) (.seq r2 (.cond (.tmp tc) (.seq (.region i3 ops3 false) r4) .skip))))) (hpar : fn.params.size + fn.nfree = 2) (hres : fn.results = #[])
    {d0 d2 d4 : DC} (h0 : trC P cands mnames fn.ntmps r0 = some d0) (h2 : trC P cands mnames fn.ntmps r2 = some d2) (h4 : trC P cands mnames fn.ntmps r4 = some d4)
    {ios1 ios3 : List DIo} {fU fS : Nat} {ys1 ys3 : List O} (hd1 : DfrOK P cands mnames fn.ntmps ops1 ios1 fU ys1) (hd3 : DfrOK P cands mnames fn.ntmps ops3 ios3 fS ys3) (htc : tc < 256)
    (hU : fU ∈ ds) (hS : fS ∈ ds) (hcU : ∀ args w, (callFunc fU args).run P w = .ok (.enter fU args) w) (hcS : ∀ args w, (callFunc fS args).run P w = .ok (.enter fS args) w) :
    ExtD P ds f (x_once (dC d0) (ios1.map dIo) (ys1.map dO) (dC d2) (tT tc) (ios3.map dIo) (ys3.map dO) (dC d4) fU fS) := by
  intro cf hcf hdok vs h nx k hk
  have hk : bindK ((List.range' 0 2).map sT) vs env0 (fun env => icK cf 1 (dC d0) env h nx fun x env h nx => nrmK x (opsK cf (ios1.map dIo) env h nx fun env h nx => evs env (ys1.map dO) fun v1 =>
    icK cf 1 (dC d2) env h nx fun x env h nx => nrmK x ((tT tc env).onB fun b => Bool.rec false (opsK cf (ios3.map dIo) env h nx fun env h nx => evs env (ys3.map dO) fun v3 =>
      icK cf 1 (dC d4) env h nx fun x _ h nx => nrmK x (cf fS v3 h nx fun _ h nx => cf fU v1 h nx fun _ h nx => k undA h nx)) b))) = true := hk
  obtain ⟨hlen, env, k1, henv⟩ := bindK_ok 2 0 (by decide) hk
  obtain ⟨x0, env0', h0', nx0', k2, hs0⟩ := ic_ok hmix hcf h0 k1
  obtain ⟨q0, k3⟩ := nrmK_ok k2
  subst q0
  obtain ⟨v1, env1, h1', nx1', k4, hs1⟩ := dfr_ok (k := fun v1 env h nx => icK cf 1 (dC d2) env h nx fun x env h nx => nrmK x ((tT tc env).onB fun b => Bool.rec false (opsK cf (ios3.map dIo) env h nx fun env h nx => evs env (ys3.map dO) fun v3 =>
      icK cf 1 (dC d4) env h nx fun x _ h nx => nrmK x (cf fS v3 h nx fun _ h nx => cf fU v1 h nx fun _ h nx => k undA h nx)) b)) hd1 hcf k3
  obtain ⟨x2, env2, h2', nx2', k5, hs2⟩ := ic_ok hmix hcf h2 k4
  obtain ⟨q2, k6⟩ := nrmK_ok k5
  subst q2
  obtain ⟨b, hb, k7⟩ := onB_ok k6
  cases b with
  | false => cases k7
  | true =>
    obtain ⟨v3, env3, h3', nx3', k8, hs3⟩ := dfr_ok (k := fun v3 env h nx => icK cf 1 (dC d4) env h nx fun x _ h nx => nrmK x (cf fS v3 h nx fun _ h nx => cf fU v1 h nx fun _ h nx => k undA h nx)) hd3 hcf k7
    obtain ⟨x4, env4, h4', nx4', k9, hs4⟩ := ic_ok hmix hcf h4 k8
    obtain ⟨q4, k10⟩ := nrmK_ok k9
    subst q4
    obtain ⟨r5, h5', nx5', k11, hs5⟩ := hdok fS hS _ _ _ _ k10
    obtain ⟨r6, h6', nx6', k12, hs6⟩ := hdok fU hU _ _ _ _ k11
    refine ⟨undA, h6', nx6', k12, fun g us w hv hw => .inr ⟨f, us.toArray, ?_, ?_⟩⟩
    · simp only [callFunc, Sem.run_bind, run_program, Result.andThen_ok, hfn, hname, hbody, Option.isNone_some, Bool.false_eq_true, if_false, Sem.run_pure]
    · refine calls_of_wp_defers hfn hbody (wp_seq (hs0 g _ w _ ⟨fun n hn => ?_, ?_⟩ hw fun g1 a1 w1 f1 d1 z1 w1' e1 => ?_))
      · rw [henv n hn, env0_at n hn]
        have hl := hv.length
        by_cases e : n < 2
        · rw [if_pos (by omega), Nat.sub_zero]
          have hnv : n < vs.length := by omega
          obtain ⟨u, h5, h6⟩ := hv.get (i := n) (v := vs[n]) (by simp [hnv])
          have h7 : vs.getD n undA = vs[n] := by simp [List.getD, hnv]
          have h8 : (us.toArray ++ Array.replicate (fn.ntmps - us.toArray.size) undef).getD n undef = u := by
            rw [Array.getD_eq_getD_getElem?, Array.getElem?_append_left (by simp; omega)]
            simp [h5]
          rw [h7, h8]; exact h6
        · rw [if_neg (by omega)]
          have h8 : (us.toArray ++ Array.replicate (fn.ntmps - us.toArray.size) undef).getD n undef = undef := by
            rw [Array.getD_eq_getD_getElem?, Array.getElem?_append_right (by simp; omega)]
            rw [Array.getElem?_replicate]
            split <;> rfl
          rw [h8]
          exact .tup [] [] .nil
      · simp; omega
      · refine wp_seq (hs1 i1 g1 a1 w1 _ f1 w1' fun g2 a2 w2 us1 f2 vu1 d2 w2' e2 => wp_seq (hs2 g2 a2 w2 _ f2 w2' fun g3 a3 w3 f3 d3 z3 w3' e3 => ?_))
        have hcond : a3.eval (.tmp tc) = .bool true := by
          have := f3.ev tc htc
          rw [tAll tc htc] at hb
          have hb : Env.at env2 tc = .b true := hb
          rw [hb] at this
          show a3.tmps.getD tc undef = _
          generalize a3.tmps.getD tc undef = z at this
          cases this
          rfl
        refine wp_cond_true hcond (wp_seq (hs3 i3 g3 a3 w3 _ f3 w3' fun g4 a4 w4 us3 f4 vu3 d4 w4' e4 => hs4 g4 a4 w4 _ f4 w4' fun g5 a5 w5 f5 d5 z5 w5' e5 => ?_))
        have hdef : a5.defers = ⟨.fn (.func fS) #[], us3.toArray⟩ :: ⟨.fn (.func fU) #[], us1.toArray⟩ :: [] := by
          rw [d5, d4, d3, d2, d1]
        show Leaves P fn a5.tmps _ a5.defers .returning w5
        rw [hdef]
        have hi : ∀ (ff : Nat) (args : Array Value) w, (∀ args w, (callFunc ff args).run P w = .ok (.enter ff args) w) → (invoke (.fn (.func ff) #[]) args).run P w = .ok (.enter ff args) w := fun ff args w hc => by
          simp only [invoke, Array.append_empty, hc]
        refine leaves_cons (by simp) (hi fS _ w5 hcS) ((hs5 g5 us3 w5 .returning (vu3.up e5.up) w5').mono fun e u' w6 he => ?_)
        obtain ⟨rfl, z6, rfl, g6, _, w6', e6⟩ := he
        show Leaves P fn a5.tmps _ [⟨.fn (.func fU) #[], us1.toArray⟩] (settle .returning) w6
        refine leaves_cons (by simp [settle]) (hi fU _ w6 hcU) ((hs6 g6 us1 w6 _ (vu1.up ((((e3.up).trans e4.up).trans e5.up).trans e6.up)) w6').mono fun e u' w7 he => ?_)
        obtain ⟨rfl, z7, rfl, g7, _, w7', e7⟩ := he
        refine ⟨.tuple #[], ?_, undef, rfl, g7, .tup [] [] .nil, w7', (((((((e1.trans e2).trans e3).trans e4).trans e5).trans e6).trans e7))⟩
        simp [results, hres]
end
end Go.Proofs.YtfiambjmphjjgaaGreatDoor.Ms
