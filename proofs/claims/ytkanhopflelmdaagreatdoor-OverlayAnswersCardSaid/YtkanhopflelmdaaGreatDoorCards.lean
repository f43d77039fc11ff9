/-
  DERIVED. GIVEN WITH THE SEED: THE CARDS: each row of YtkanhopflelmdaaGreatDoorRows.lean that lists a variable, with what it lists TIED to the program's text (the seventh form; the later family's looks); each row that meets fmt, with fmt's text TOLD by the authors' own Lean function (tested against real Go, not proved from fmt's source: count such statements apart). THE CARD IS WHAT COUNTS. Prove the row's statement (the work); the ties are given (YtkanhopflelmdaaGreatDoorTie.lean); close each card by the builder's one call (the guide's Derived/Test/ToyasCard.lean, 'card_holds'). Laid BY PROGRAM, IN A SANDBOX (cutbox-door.mjs). By AI agents, Wed Nov 11 2026. No macro, syntax, notation, axiom, sorry.
-/
import Derived.Test.YtkanhopflelmdaaGreatDoorRows
import GoSem.ClaimSeven
namespace Go.Proofs.YtkanhopflelmdaaGreatDoor
namespace Rows

/-- THE TIED CARD OF 'bitcastlaw27.OverlayAnswers'. -/
def overlayAnswersCard : Claim7 := { stood := { row := overlayAnswersRow, standIns := [], harness := (true, "6cd0f2e4a22ca7bf5681623821b1aa6fedfb1637adc5c6799891a2a015d57449"), looks := false }, kinds := [], alts := [], laidByText := true, laidKinds := [.data, .data, .data, .data], laidTests := true, laidLooks := .later }
def OverlayAnswersCardSaid : Prop := Claim7.holds Tryz.pinned (.plain (OpenSpec.ofChange overlayAnswersSpec)) overlayAnswersCard

/-- THE SECOND FORM's CARD OF 'bitcastlaw27.OverlayAnswers'. -/
def overlayAnswersUptoCard : Claim7 := { stood := { row := overlayAnswersUptoRow, standIns := [], harness := (true, "6cd0f2e4a22ca7bf5681623821b1aa6fedfb1637adc5c6799891a2a015d57449"), looks := false }, kinds := [], alts := [], laidByText := true, laidKinds := [.data, .data, .data, .data], laidTests := true, laidLooks := .later }
def OverlayAnswersUptoCardSaid : Prop := Claim7.holds Tryz.pinned (.plain (OpenSpec.upto overlayAnswersSpec)) overlayAnswersUptoCard
end Rows
end Go.Proofs.YtkanhopflelmdaaGreatDoor
