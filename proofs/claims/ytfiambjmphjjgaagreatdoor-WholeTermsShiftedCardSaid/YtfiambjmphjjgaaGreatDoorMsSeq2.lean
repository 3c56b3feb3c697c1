/- Part of a proof: a checked evaluator of the program (slices.AppendSeq over maps.Keys, of a map of one entry at most). No condition. -/
import Derived.Test.YtfiambjmphjjgaaGreatDoorMsSeq
/-! slices.AppendSeq over maps.Keys, of a map of one entry at most -/
noncomputable section
namespace Go.Proofs.YtfiambjmphjjgaaGreatDoor.Ms
set_option linter.unusedVariables false
set_option linter.unusedSimpArgs false
section
variable {P : Program} {cands : List Nat} {mnames : List String}
/-- a function: code, a range over a function, code -/
def x_rng (np : List Dv) (R0 R1 : IC) (tq : Ev) (d7 : Dv) (Ra Rb : List Run) (fK ks : Nat) (R4 : IC) (res : List Rd) : Xf := fun cf vs h nx k =>
  bindK np vs env0 fun env => icK cf (nat_lit 1) R0 env h nx fun x env h nx => nrmK x (icK cf (nat_lit 1) R1 env h nx fun x env h nx => nrmK x (rngK cf tq d7 Ra Rb fK ks env h nx fun h nx =>
    icK cf (nat_lit 1) R4 env h nx fun x env h nx => nrmK x (resK res env h fun rs => k (resV rs) h nx)))
theorem seq_ok (hmix : P.follows .mixedOrders = true) {f : Nat} {fn : Func} (hfn : P.funcs[f]? = some fn) (hname : (fn.name == "runtime.NumGoroutine") = false)
    {r0 r1 r4 : Code} {b0 bB ia ib tq td : Nat} {opsA opsB : Array Oper}
    (hbody : fn.body = some (.seq r0 (.seq (.seq r1 (.block b0 (.rangeFunc (.tmp tq) #[td] (.region ia opsA false) (.block bB (.region ib opsB false))))) (.seq r4 .ret)))) (hpar : fn.params.size + fn.nfree ≤ 256)
    {d0 d1 d4 : DC} (h0 : trC P cands mnames fn.ntmps r0 = some d0) (h1 : trC P cands mnames fn.ntmps r1 = some d1) (h4 : trC P cands mnames fn.ntmps r4 = some d4) {dv : List DV} (hdv : fn.results.toList.mapM (trV P) = some dv)
    (htq : tq < 256) (htd : td < 256 ∧ td < fn.ntmps) {iosA iosB : List DIo} (hpA : opsA.toList.mapM (trIo P cands mnames fn.ntmps opsA) = some iosA) (hpB : opsB.toList.mapM (trIo P cands mnames fn.ntmps opsB) = some iosB)
    (hdA : quietOps opsA = true) (hdB : quietOps opsB = true) {fK ks : Nat} (hcK : ∀ args w, (callFunc fK args).run P w = .ok (.enter fK args) w) (hK0 : KeysNone P fK) (hK1 : KeysOne P fK ks) :
    ExtOK P f (x_rng ((List.range (fn.params.size + fn.nfree)).map sT) (dC d0) (dC d1) (tT tq) (sT td) (iosA.map dIo) (iosB.map dIo) fK ks (dC d4) (dv.map dV)) := by
  intro cf hcf vs h nx k hk
  rw [List.range_eq_range'] at hk
  obtain ⟨hlen, env, k1, henv⟩ := bindK_ok _ 0 (by omega) hk
  obtain ⟨x0, env0', h0', nx0', k2, hs0⟩ := ic_ok hmix hcf h0 k1
  obtain ⟨q0, k3⟩ := nrmK_ok k2
  subst q0
  obtain ⟨x1, env1, h1', nx1', k4, hs1⟩ := ic_ok hmix hcf h1 k3
  obtain ⟨q1, k5⟩ := nrmK_ok k4
  subst q1
  obtain ⟨h2', nx2', k6, hs2⟩ := rng_ok hcf htq htd (ia := ia) (ib := ib) (bB := bB) (pairs_range hpA) (pairs_range hpB) hdA hdB hcK hK0 hK1 k5
  obtain ⟨x4, env4, h4', nx4', k7, hs4⟩ := ic_ok hmix hcf h4 k6
  obtain ⟨q4, k8⟩ := nrmK_ok k7
  subst q4
  obtain ⟨rs, k9, hrs⟩ := resK_ok hdv k8
  refine ⟨resV rs, h4', nx4', k9, fun g us w hv hw => .inr ⟨f, us.toArray, ?_, ?_⟩⟩
  · simp only [callFunc, Sem.run_bind, run_program, Result.andThen_ok, hfn, hname, hbody, Option.isNone_some, Bool.false_eq_true, if_false, Sem.run_pure]
  · refine (callsIn_wide (n := 5)).1 (callsIn_of_wp_marks hfn hbody trivial (wpIn_seq (wpIn_wide.2 (hs0 g _ w _ ⟨fun n hn => ?_, ?_⟩ hw fun g1 a1 w1 f1 d1 z1 w1' e1 => wpIn_seq (wpIn_seq (wpIn_wide.2 (hs1 g1 a1 w1 _ f1 w1' fun g2 a2 w2 f2 d2 z2 w2' e2 =>
      wpIn_block (hs2 g2 a2 w2 _ f2 w2' fun g3 a3 w3 f3 d3 z3 w3' e3 m3 n3 => wpIn_seq (wpIn_wide.2 (hs4 g3 a3 w3 _ f3 w3' fun g4 a4 w4 f4 d4 z4 w4' e4 => wpIn_ret ?_))))))))))
    · rw [henv n hn, env0_at n hn]
      have hl := hv.length
      by_cases e : n < fn.params.size + fn.nfree
      · rw [if_pos (by omega), Nat.sub_zero]
        have hnv : n < vs.length := by omega
        obtain ⟨u, h5, h6⟩ := hv.get (i := n) (v := vs[n]) (by simp [hnv])
        have h7 : vs.getD n undA = vs[n] := by simp [List.getD, hnv]
        have h8 : (us.toArray ++ Array.replicate (fn.ntmps - us.toArray.size) undef).getD n undef = u := by
          rw [Array.getD_eq_getD_getElem?, Array.getElem?_append_left (by simp; omega)]
          simp [h5]
        rw [h7, h8]; exact h6
      · rw [if_neg (by omega)]
        have h8 : (us.toArray ++ Array.replicate (fn.ntmps - us.toArray.size) undef).getD n undef = undef := by
          rw [Array.getD_eq_getD_getElem?, Array.getElem?_append_right (by simp; omega)]
          rw [Array.getElem?_replicate]
          split <;> rfl
        rw [h8]
        exact .tup [] [] .nil
    · simp; omega
    · have hdef : a4.defers = [⟨.collected w2.heap.size, #[]⟩] := by rw [d4, d3, d2, d1]
      have hlt : w2.heap.size < w3.heap.size := hlt' m3
      have hm4 : w4.heap[w2.heap.size]? = some (.deferred (some [])) := e4.keep _ _ m3 n3
      have hn4 : g4 w2.heap.size = none := e4.none_ hlt n3
      have hgl : GL < w2.heap.size := let ⟨_, o, h1, _⟩ := w2'.gl; hlt' h1
      show LeavesInM Fence.wide 5 P fn a4.tmps _ a4.defers .returning w4
      rw [hdef]
      have ho : ∀ b o, b ≠ w2.heap.size → w4.heap[b]? = some o → (w4.putObj w2.heap.size (.deferred none)).heap[b]? = some o := fun b o hb h => by
        rw [World.putObj_heap_other hb]; exact h
      have hw5 : WR g4 h4' nx4' (w4.putObj w2.heap.size (.deferred none)) := w4'.outside fun b hb o h => ho b o (by
        rintro rfl
        rcases hb with hb | hb
        · exact hb hn4
        · omega) h
      obtain ⟨ws, r1, r2⟩ := hrs g4 nx4' a4.tmps _ f4.ev hw5
      refine ⟨by simp, .inl ⟨w2.heap.size, _, rfl, run_takeDeferred hm4, ?_⟩⟩
      have r3 : (results fn a4.tmps).run P (w4.putObj w2.heap.size (.deferred none)) = .ok (if h : ws.toArray.size = 1 then ws.toArray[0] else .tuple ws.toArray) (w4.putObj w2.heap.size (.deferred none)) := by
        unfold results
        rw [Sem.run_bind]
        have : (fn.results.mapM fun r => (match r with | .tmp t => pure (a4.tmps.getD t undef) | .cell a t => do loadVar t (← asAddr (a4.tmps.getD a undef)) : Sem Value)).run P (w4.putObj w2.heap.size (.deferred none)) = .ok ws.toArray (w4.putObj w2.heap.size (.deferred none)) := by
          rw [Array.mapM_eq_mapM_toList, Sem.run_map]
          erw [r1]
          rfl
        erw [this]
        rfl
      have y1 := (e1.trans e2).size
      have y2 := e4.size
      have x3 : ExB w.heap.size g2 nx1' w2 g3 nx2' w3 := ⟨e3.up, fun c x h1 h2 => ⟨Nat.le_trans y1 (e3.new c x h1 h2).1, (e3.new c x h1 h2).2⟩, fun b o hb => e3.keep b o (by omega), e3.size, e3.nx, e3.os, e3.tape, e3.output⟩
      have x5 : ExB w.heap.size g4 nx4' w4 g4 nx4' (w4.putObj w2.heap.size (.deferred none)) := .junk (fun b o hb h => ho b o (by omega) h) (by simp) rfl rfl rfl
      exact ⟨_, r3, _, rfl, g4, resV_ok r2, hw5, (((e1.trans e2).b (Nat.le_refl _)).trans (x3.trans ((e4.b (by omega)).trans x5))).ex⟩
end
end Go.Proofs.YtfiambjmphjjgaaGreatDoor.Ms
