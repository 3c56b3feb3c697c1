/- The closed facts of WholeTermsShifted's row: what the row says of the program's text is so. No condition. -/
import Derived.Test.YtfiambjmphjjgaaGreatDoorCards
import Derived.JoinedCond
import Derived.KernelRfl
namespace Go.Proofs.YtfiambjmphjjgaaGreatDoor.wts
set_option linter.unusedVariables false
set_option maxRecDepth 100000
theorem k1 : (Rows.wholeTermsShiftedRow.wf (OpenSpec.ofChange (OpenSpec.ofChange Rows.wholeTermsShiftedSpec).bare)) = true := by kernel_rfl
theorem k2 : (laidOutB Tryz.checked.prog) = true := by kernel_rfl
theorem k3 : (mapsRowed Tryz.checked.prog) = true := by kernel_rfl
theorem k4 : (Tryz.f3.params.all (Tryz.checked.prog.readableRec ·)) = true := by kernel_rfl
theorem k5 : (namedTie Tryz.checked.prog Rows.wholeTermsShiftedRow.named (OpenSpec.ofChange Rows.wholeTermsShiftedSpec).bare.vars) = true := by kernel_rfl
theorem k6 : (Rows.wholeTermsShiftedRow.stops == []) = true := by kernel_rfl
theorem k7 : (Tryz.checked.prog.stops == []) = true := by kernel_rfl
theorem k8 : (Rows.wholeTermsShiftedRow.knobs == []) = true := by kernel_rfl
theorem k9 : (Tryz.checked.prog.stopKnobs == []) = true := by kernel_rfl
theorem k10 : (Rows.wholeTermsShiftedRow.inPlace == Tryz.checked.prog.inPlace 3) = true := by kernel_rfl
theorem k11 : (Rows.wholeTermsShiftedRow.unfollowed == Tryz.checked.prog.unfollowed 3) = true := by kernel_rfl
theorem k12 : (Rows.wholeTermsShiftedRow.recurses == Tryz.checked.prog.recurses 3) = true := by kernel_rfl
theorem k13 : (Rows.wholeTermsShiftedRow.named == Tryz.checked.prog.varsNamed 3) = true := by kernel_rfl
theorem k14 : (Rows.wholeTermsShiftedRow.maps == (Tryz.f3.params.toList ++ (OpenSpec.ofChange Rows.wholeTermsShiftedSpec).bare.plain.varTypes Tryz.checked.prog).any (Tryz.checked.prog.mapsRec ·)) = true := by kernel_rfl
theorem k15 : (Rows.wholeTermsShiftedRow.ifaces == (Tryz.f3.params.toList ++ (OpenSpec.ofChange Rows.wholeTermsShiftedSpec).bare.plain.varTypes Tryz.checked.prog).any (Tryz.checked.prog.ifacesRec ·)) = true := by kernel_rfl
theorem k16 : (Rows.wholeTermsShiftedRow.mapsOut == Tryz.checked.prog.mapsAmong Tryz.f3.resultTypes.toList) = true := by kernel_rfl
theorem k17 : (Rows.wholeTermsShiftedRow.loops == (Tryz.f3.params.toList ++ (OpenSpec.ofChange Rows.wholeTermsShiftedSpec).bare.plain.varTypes Tryz.checked.prog).any (Tryz.checked.prog.loopsFrom ·)) = true := by kernel_rfl
theorem k18 : (Rows.wholeTermsShiftedRow.wideKeys == (Tryz.f3.params.toList ++ (OpenSpec.ofChange Rows.wholeTermsShiftedSpec).bare.plain.varTypes Tryz.checked.prog ++ Tryz.f3.resultTypes.toList).any (Tryz.checked.prog.wideKeysFrom ·)) = true := by kernel_rfl
theorem k19 : ((OpenSpec.ofChange Rows.wholeTermsShiftedSpec).bare.vars.all (Tryz.checked.prog.varReadable ·)) = true := by kernel_rfl
theorem k20 : (Tryz.f3.resultTypes.all (fun t => Tryz.checked.prog.readableRec t && decide (t < Tryz.checked.prog.types.size))) = true := by kernel_rfl
theorem k21 : (Rows.wholeTermsShiftedRow.ifacesOut == Tryz.f3.resultTypes.toList.any (Tryz.checked.prog.ifacesRec ·)) = true := by kernel_rfl
theorem k22 : (Rows.wholeTermsShiftedRow.loopsOut == Tryz.f3.resultTypes.toList.any (Tryz.checked.prog.loopsFrom ·)) = true := by kernel_rfl
theorem k23 : (Rows.wholeTermsShiftedRow.plainKeys == Tryz.checked.prog.plainKeys) = true := by kernel_rfl
theorem k24 : (Rows.wholeTermsShiftedRow.shortTexts.isNone) = true := by kernel_rfl
theorem k25 : (Tryz.checked.prog.stopsHeard) = true := by kernel_rfl
theorem k26 : (Tryz.checked.prog.mayEnter) = true := by kernel_rfl
theorem k27 : (Rows.wholeTermsShiftedRow.lifted == Tryz.checked.prog.liftsFinal) = true := by kernel_rfl
theorem k28 : (Tryz.checked.prog.make == some Rows.wholeTermsShiftedRow.make) = true := by kernel_rfl
theorem k29 : (Rows.wholeTermsShiftedRow.kinds == (if Rows.wholeTermsShiftedRow.domain.isEmpty then [] else Tryz.f3.params.toList.map fun t => match Tryz.checked.prog.underlying t with | some (.int k) => some k | _ => none)) = true := by kernel_rfl
theorem k30 : (Rows.wholeTermsShiftedRow.pinned == Rows.wholeTermsShiftedRow.pinnedBy) = true := by kernel_rfl
theorem k31 : (Rows.wholeTermsShiftedRow.veiled == (Tryz.f3.params.toList ++ (OpenSpec.ofChange Rows.wholeTermsShiftedSpec).bare.plain.varTypes Tryz.checked.prog ++ Tryz.f3.resultTypes.toList).any (Tryz.checked.prog.veiledRec ·)) = true := by kernel_rfl
theorem k32 : (Rows.wholeTermsShiftedRow.veiledFits Tryz.checked.prog Tryz.f3.params.toList (Tryz.f3.params.toList ++ (OpenSpec.ofChange Rows.wholeTermsShiftedSpec).bare.plain.varTypes Tryz.checked.prog ++ Tryz.f3.resultTypes.toList)) = true := by kernel_rfl
theorem andI {a b : Bool} (ha : a = true) (hb : b = true) : (a && b) = true := by rw [ha, hb]; rfl
theorem closed : joinedFacts Tryz.checked.prog 3 Tryz.f3 (OpenSpec.ofChange Rows.wholeTermsShiftedSpec).bare Rows.wholeTermsShiftedRow = true := by
  unfold joinedFacts
  exact andI (andI (andI (andI (andI (andI (andI (andI (andI (andI (andI (andI (andI (andI (andI (andI (andI (andI (andI (andI (andI (andI (andI (andI (andI (andI (andI (andI (andI (andI (andI k1 k2) k3) k4) k5) k6) k7) k8) k9) k10) k11) k12) k13) k14) k15) k16) k17) k18) k19) k20) k21) k22) k23) k24) k25) k26) k27) k28) k29) k30) k31) k32
end Go.Proofs.YtfiambjmphjjgaaGreatDoor.wts
