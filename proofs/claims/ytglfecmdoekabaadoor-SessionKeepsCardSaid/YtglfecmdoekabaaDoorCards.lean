/-
  DERIVED. GIVEN WITH THE SEED: THE CARDS: each row of YtglfecmdoekabaaDoorRows.lean that lists a variable, with what it lists TIED to the program's text (the seventh form; the later family's looks); each row that meets fmt, with fmt's text TOLD by the authors' own Lean function (tested against real Go, not proved from fmt's source: count such statements apart). THE CARD IS WHAT COUNTS. Prove the row's statement (the work); the ties are given (YtglfecmdoekabaaDoorTie.lean); close each card by the builder's one call (the guide's Derived/Test/ToyasCard.lean, 'card_holds'). Laid BY PROGRAM, IN A SANDBOX (cutbox-door.mjs). By AI agents, Wed Nov 11 2026. No macro, syntax, notation, axiom, sorry.
-/
import Derived.Test.YtglfecmdoekabaaDoorRows
import GoSem.ClaimSeven
namespace Go.Proofs.YtglfecmdoekabaaDoor
namespace Rows

/-- THE TIED CARD OF 'bitcastlaw26.SessionKeeps'. -/
def sessionKeepsCard : Claim7 := { stood := { row := sessionKeepsRow, standIns := [], harness := (true, "33def808f3923fb7ce159d6f1cf14c5c5214b26f866def81b54ebf9bba869844"), looks := false }, kinds := [], alts := [], laidByText := true, laidKinds := [.data, .data, .data, .data], laidTests := true, laidLooks := .later }
def SessionKeepsCardSaid : Prop := Claim7.holds Tryd.pinned (.plain (OpenSpec.ofChange sessionKeepsSpec)) sessionKeepsCard

/-- THE SECOND FORM's CARD OF 'bitcastlaw26.SessionKeeps'. -/
def sessionKeepsUptoCard : Claim7 := { stood := { row := sessionKeepsUptoRow, standIns := [], harness := (true, "33def808f3923fb7ce159d6f1cf14c5c5214b26f866def81b54ebf9bba869844"), looks := false }, kinds := [], alts := [], laidByText := true, laidKinds := [.data, .data, .data, .data], laidTests := true, laidLooks := .later }
def SessionKeepsUptoCardSaid : Prop := Claim7.holds Tryd.pinned (.plain (OpenSpec.upto sessionKeepsSpec)) sessionKeepsUptoCard
end Rows
end Go.Proofs.YtglfecmdoekabaaDoor
