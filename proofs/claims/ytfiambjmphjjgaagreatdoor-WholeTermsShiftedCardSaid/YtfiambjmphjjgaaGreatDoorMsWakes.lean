/- Part of a proof over this seat's program: wakes33 hands back true, and what stood stands on. Condition: the table of math/bits.TrailingZeros64 stands. -/
import Derived.Test.YtfiambjmphjjgaaGreatDoorMsSeat
noncomputable section
namespace Go.Proofs.YtfiambjmphjjgaaGreatDoor.Ms
set_option linter.unusedVariables false
set_option linter.unusedSimpArgs false
set_option maxRecDepth 100000
theorem wakes_run : runT allFs 100000 1000 4 = true := by kernel_rfl
theorem wakes {w : World} (hw : ∃ o, w.heap[GL]? = some o ∧ TabO o) : Calls PP 4 #[] w fun e w' => e = .returned (.bool true) ∧ Old w w' :=
  run_ok mixed allFs_ok wakes_run callW hw
end Go.Proofs.YtfiambjmphjjgaaGreatDoor.Ms
