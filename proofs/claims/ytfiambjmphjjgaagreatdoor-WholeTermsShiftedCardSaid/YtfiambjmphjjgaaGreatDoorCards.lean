/-
  DERIVED. GIVEN WITH THE SEED: THE CARDS: each row of YtfiambjmphjjgaaGreatDoorRows.lean that lists a variable, with what it lists TIED to the program's text (the seventh form; the later family's looks); each row that meets fmt, with fmt's text TOLD by the authors' own Lean function (tested against real Go, not proved from fmt's source: count such statements apart). THE CARD IS WHAT COUNTS. Prove the row's statement (the work); the ties are given (YtfiambjmphjjgaaGreatDoorTie.lean); close each card by the builder's one call (the guide's Derived/Test/ToyasCard.lean, 'card_holds'). Laid BY PROGRAM, IN A SANDBOX (cutbox-door.mjs). By AI agents, Wed Nov 11 2026. No macro, syntax, notation, axiom, sorry.
-/
import Derived.Test.YtfiambjmphjjgaaGreatDoorRows
import GoSem.ClaimSeven
namespace Go.Proofs.YtfiambjmphjjgaaGreatDoor
namespace Rows

/-- THE TIED CARD OF 'millstreamtop.WholeTermsShifted'. -/
def wholeTermsShiftedCard : Claim7 := { stood := { row := wholeTermsShiftedRow, standIns := [], harness := (true, "1974c88a8b67b5cfe645e984ac19778d84574fd1429749f519c1b68db57cf985"), looks := true }, kinds := [], alts := [], laidByText := true, laidKinds := [.data], laidTests := true, laidLooks := .later }
def WholeTermsShiftedCardSaid : Prop := Claim7.holds Tryz.pinned (.plain (OpenSpec.ofChange wholeTermsShiftedSpec)) wholeTermsShiftedCard

/-- THE SECOND FORM's CARD OF 'millstreamtop.WholeTermsShifted'. -/
def wholeTermsShiftedUptoCard : Claim7 := { stood := { row := wholeTermsShiftedUptoRow, standIns := [], harness := (true, "1974c88a8b67b5cfe645e984ac19778d84574fd1429749f519c1b68db57cf985"), looks := true }, kinds := [], alts := [], laidByText := true, laidKinds := [.data], laidTests := true, laidLooks := .later }
def WholeTermsShiftedUptoCardSaid : Prop := Claim7.holds Tryz.pinned (.plain (OpenSpec.upto wholeTermsShiftedSpec)) wholeTermsShiftedUptoCard
end Rows
end Go.Proofs.YtfiambjmphjjgaaGreatDoor
