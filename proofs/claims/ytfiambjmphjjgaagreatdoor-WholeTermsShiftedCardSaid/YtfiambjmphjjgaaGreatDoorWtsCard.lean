/- WholeTermsShifted, proved: whatever the six numbers, the law returns true and the numbers read as they did. Condition: the table of math/bits.TrailingZeros64 reads as the program lays it (the card ties it to the program's text). -/
import Derived.Test.YtfiambjmphjjgaaGreatDoorCards
import Derived.Test.YtfiambjmphjjgaaGreatDoorTie
import Derived.Test.YtfiambjmphjjgaaGreatDoorWtsWalk
import Derived.Test.YtfiambjmphjjgaaGreatDoorMsOld
import Derived.Test.YtfiambjmphjjgaaGreatDoorWtsFacts
namespace Go.Proofs.YtfiambjmphjjgaaGreatDoor.wts
set_option linter.unusedVariables false
open Go.ChangeShapes Go.WideShapes Go.ChangeAt Go.RowKit
open Ms (Old wakes tab_stands tab_cells tab_old tz64 post_of_old tabWorld tabZ)
theorem own : ownKnob Tryz.prog.godebug = none := by kernel_rfl
theorem stands {W : World} (h : laidMetH Tryz.prog Rows.wholeTermsShiftedRow.laid W) : ∃ o, W.heap[Ms.GL]? = some o ∧ Ms.TabO o := tab_stands (rest := []) h
theorem law (t i o s p b : Int) (w : World) (hT : ∃ o, w.heap[Ms.GL]? = some o ∧ Ms.TabO o) :
    Calls Tryz.prog 3 #[.int .i32 t, .int .i32 i, .int .i64 o, .int .i64 s, .int .i64 p, .int .i32 b] w fun e w' => e = .returned (.bool true) ∧ Old w w' := by
  cases h : isW p s with
  | false => exact law_bad t i o s p b w _ (wakes hT) h
  | true => exact law_good t i o s p b w _ (wakes hT) h fun w1 hO n h1 h2 => tz64 n h1 h2 w1 (tab_cells (tab_old hT hO))
set_option maxRecDepth 100000 in
theorem contract (H : Type) (enc : TypeId × Value → H) (W : World) (base : Nat) (args : Array Value) (ds gs : List (DataW H)) (before : List MemPlace)
    (hval : ∀ (j : Nat) t v, Tryz.f3.params[j]? = some t → args[j]? = some v → Value.okWide Tryz.prog W .any base t v)
    (hW : DataW.Whole enc Tryz.prog Tryz.f3.params.toList Rows.wholeTermsShiftedSpec.vars false W args.toList ds gs before) (hL : laidMetH Tryz.prog Rows.wholeTermsShiftedRow.laid W) :
    Calls Tryz.prog 3 args W fun e W' => ∃ v, e = .returned v ∧ Rows.wholeTermsShiftedSpec.post enc Tryz.prog Tryz.f3 false true false false W args v W' := by
  have hW' := hW
  obtain ⟨p, q, hA0, hV, rfl, hfz, hnd⟩ := hW
  have hA : DataW.TrodAll enc Tryz.prog W 0 (fun _ => true) true Tryz.f3.params.toList args.toList ds p := hA0
  rw [Tryz.params3] at hA hval
  obtain ⟨v0, vs0, d0, ds0, p0, q0, hargs, rfl, rfl, h0, r0⟩ := trodAll_cons hA
  obtain ⟨v1, vs1, d1, ds1, p1, q1, rfl, rfl, rfl, h1, r1⟩ := trodAll_cons r0
  obtain ⟨v2, vs2, d2, ds2, p2, q2, rfl, rfl, rfl, h2, r2⟩ := trodAll_cons r1
  obtain ⟨v3, vs3, d3, ds3, p3, q3, rfl, rfl, rfl, h3, r3⟩ := trodAll_cons r2
  obtain ⟨v4, vs4, d4, ds4, p4, q4, rfl, rfl, rfl, h4, r4⟩ := trodAll_cons r3
  obtain ⟨v5, vs5, d5, ds5, p5, q5, rfl, rfl, rfl, h5, r5⟩ := trodAll_cons r4
  obtain ⟨rfl, rfl, rfl⟩ := trodAll_nil r5
  have hargs' : args = #[v0, v1, v2, v3, v4, v5] := Array.ext' (by rw [hargs])
  clear hargs
  subst hargs'
  obtain ⟨rfl, rfl⟩ := trodVars_none hV
  obtain ⟨a0, rfl, rfl, rfl, w0⟩ := open_int Tryz.underlying21 (hval 0 21 v0 rfl rfl) h0
  obtain ⟨a1, rfl, rfl, rfl, w1⟩ := open_int Tryz.underlying21 (hval 1 21 v1 rfl rfl) h1
  obtain ⟨a2, rfl, rfl, rfl, w2⟩ := open_int Tryz.underlying2 (hval 2 2 v2 rfl rfl) h2
  obtain ⟨a3, rfl, rfl, rfl, w3⟩ := open_int Tryz.underlying2 (hval 3 2 v3 rfl rfl) h3
  obtain ⟨a4, rfl, rfl, rfl, w4⟩ := open_int Tryz.underlying2 (hval 4 2 v4 rfl rfl) h4
  obtain ⟨a5, rfl, rfl, rfl, w5⟩ := open_int Tryz.underlying21 (hval 5 21 v5 rfl rfl) h5
  clear hA0
  simp only [List.append_nil] at hW'
  refine (law a0 a1 a2 a3 a4 a5 W (stands hL)).mono fun e W' ⟨he, hg⟩ => ?_
  subst he
  exact ⟨_, rfl, post_of_old (pa := []) (pv := []) hW' hg rfl (fun _ _ _ => trodAll_cons_mk (shut_bool Tryz.underlying4 _) trodAll_mk0)
    (fun _ _ => trodAll_cons_mk (shut_int Tryz.underlying21 w0) (trodAll_cons_mk (shut_int Tryz.underlying21 w1) (trodAll_cons_mk (shut_int Tryz.underlying2 w2) (trodAll_cons_mk (shut_int Tryz.underlying2 w3) (trodAll_cons_mk (shut_int Tryz.underlying2 w4) (trodAll_cons_mk (shut_int Tryz.underlying21 w5) trodAll_mk0))))))
    (fun _ _ => rfl) (ok_one (by kernel_rfl) rfl (okWide_bool_mk Tryz.underlying4 _))⟩
noncomputable abbrev wArgs : Array Value := #[.int .i32 0, .int .i32 0, .int .i64 0, .int .i64 0, .int .i64 0, .int .i32 0]
theorem laid_met (os : Os) : laidMet Tryz.prog Rows.wholeTermsShiftedRow.laid ((tabWorld os).forCall (fun _ _ => 0) ⟨#[], wArgs, []⟩).memory :=
  laidMet_of_run' 8 (by kernel_rfl) (by kernel_rfl)
theorem reads (os : Os) {H : Type} (enc : TypeId × Value → H) : ∃ places, DataW.whole enc Tryz.prog ((tabWorld os).forCall (fun _ _ => 0) ⟨#[], wArgs, []⟩).memory Tryz.f3.params.toList Rows.wholeTermsShiftedSpec.vars false wArgs.toList 8 = some ([.lit (.int .i32 0), .lit (.int .i32 0), .lit (.int .i64 0), .lit (.int .i64 0), .lit (.int .i64 0), .lit (.int .i32 0)], [], places) :=
  ⟨[], by kernel_rfl⟩
set_option maxRecDepth 100000 in
theorem lifted (os : Os) (started : os.Started) (H : Type) (enc : TypeId × Value → H) (F : Stop.Interp) :
    ReturnsInHanded {} Tryz.checked os 3 .any ((OpenSpec.ofChange Rows.wholeTermsShiftedSpec).preRow enc Tryz.prog Tryz.f3 Rows.wholeTermsShiftedRow.domain false Rows.wholeTermsShiftedRow.laid) (((OpenSpec.ofChange Rows.wholeTermsShiftedSpec).at F).post enc Tryz.prog Tryz.f3 false true false false) := by
  obtain ⟨places, hx⟩ := reads os enc
  refine returnsInHanded_of_row (C := Tryz.checked) (s := OpenSpec.ofChange Rows.wholeTermsShiftedSpec) own started (by kernel_rfl) Tryz.func3
    (witness_row_at (enc := enc) (C := Tryz.checked) false (tabWorld os) wArgs rfl (by kernel_rfl) (by kernel_rfl) (by kernel_rfl)
      (OpenSpec.preRow_of_cond 8 hx (by kernel_rfl) (fun k hk => by cases hk) (by kernel_rfl) (laid_met os))) ?_
  intro W base args ds gs before hval hW _ _ _ hL _ _
  exact contract H enc W base args ds gs before hval hW hL
theorem said : Rows.WholeTermsShiftedSaid :=
  OpenClaim.holds_of_cond 3 Tryz.f3 rfl rfl rfl rfl rfl rfl rfl ⟨rfl, rfl, rfl, rfl, rfl⟩ rfl rfl rfl rfl rfl (by kernel_rfl) Tryz.func3 closed
    (of_decide_eq_true (by kernel_rfl)) (by unfold Func.isWrapper; first | (rw [if_pos (by decide +kernel)]; kernel_rfl) | (rw [if_neg (by decide +kernel)]; exact ⟨rfl, rfl⟩))
    (fun os started H enc _ F => by rw [OpenClaim.pre_eq_preRow]; exact lifted os started H enc F)
theorem plain (f : FuncId) (fn : Func) (hf : Tryz.pinned.checked.prog.funcNamed "millstream/millstreamtop.WholeTermsShifted" = some f) (hfn : Tryz.pinned.checked.prog.funcs[f]? = some fn) :
    true = Tryz.pinned.checked.prog.looks [] ∧ ∀ (j : Nat) t, fn.params[j]? = some t → Tryz.pinned.checked.prog.wantsStandIn t = false := by
  obtain rfl : f = 3 := Option.some.inj ((show Tryz.prog.funcNamed "millstream/millstreamtop.WholeTermsShifted" = some 3 by kernel_rfl).symm.trans hf) |>.symm
  obtain rfl : fn = Tryz.f3 := (Option.some.inj (Tryz.func3.symm.trans hfn)).symm
  refine ⟨by kernel_rfl, fun j t ht => ?_⟩
  rw [Tryz.params3] at ht
  have hm := Array.mem_of_getElem? ht
  simp at hm
  have h2 : Tryz.prog.wantsStandIn 21 = false := by kernel_rfl
  have h3 : Tryz.prog.wantsStandIn 2 = false := by kernel_rfl
  rcases hm with e | e | e
  · rw [e]; exact h2
  · rw [e]; exact h3
  · rw [e]; exact h2
end Go.Proofs.YtfiambjmphjjgaaGreatDoor.wts
namespace Go.Proofs.YtfiambjmphjjgaaGreatDoor
/-- THE CARD -/
theorem wholeTermsShifted_holds : Rows.WholeTermsShiftedCardSaid :=
  Claim7.holds_tied_plain_at .later [] _ _ _ _ wts.said (fun _ h => by cases h) (by kernel_rfl) (fun _ h => by cases h) wholeTermsShifted_row_tie rfl ⟨rfl, rfl⟩ (by kernel_rfl) rfl wts.plain (by kernel_rfl)
#print axioms wholeTermsShifted_holds
end Go.Proofs.YtfiambjmphjjgaaGreatDoor
