/-
  DERIVED. GIVEN WITH THE SEED: THE CARDS: each row of YteooglpnechplaaDoorRows.lean that lists a variable, with what it lists TIED to the program's text (the seventh form; the later family's looks); each row that meets fmt, with fmt's text TOLD by the authors' own Lean function (tested against real Go, not proved from fmt's source: count such statements apart). THE CARD IS WHAT COUNTS. Prove the row's statement (the work); the ties are given (YteooglpnechplaaDoorTie.lean); close each card by the builder's one call (the guide's Derived/Test/ToyasCard.lean, 'card_holds'). Laid BY PROGRAM, IN A SANDBOX (cutbox-door.mjs). By AI agents, Wed Nov 11 2026. No macro, syntax, notation, axiom, sorry.
-/
import Derived.Test.YteooglpnechplaaDoorRows
import GoSem.ClaimSeven
namespace Go.Proofs.YteooglpnechplaaDoor
namespace Rows

/-- THE TIED CARD OF 'bitcastlaw42.ConsoleDiffers'. -/
def consoleDiffersCard : Claim7 := { stood := { row := consoleDiffersRow, standIns := [], harness := (true, "d11e07935560fa9f1c4e4fbdfb896a141ac870b5a36eb61aa4c7ec4e9eee0555"), looks := true }, kinds := [], alts := [], laidByText := true, laidKinds := [.data, .data, .data], laidTests := true, laidLooks := .later }
def ConsoleDiffersCardSaid : Prop := Claim7.holds Tryd.pinned (.plain (OpenSpec.ofChange consoleDiffersSpec)) consoleDiffersCard

/-- THE TIED CARD OF 'bitcastlaw42.ConsoleTraces'. -/
def consoleTracesCard : Claim7 := { stood := { row := consoleTracesRow, standIns := [], harness := (true, "d11e07935560fa9f1c4e4fbdfb896a141ac870b5a36eb61aa4c7ec4e9eee0555"), looks := true }, kinds := [], alts := [], laidByText := true, laidKinds := [.data, .data, .data], laidTests := true, laidLooks := .later }
def ConsoleTracesCardSaid : Prop := Claim7.holds Tryd.pinned (.plain (OpenSpec.ofChange consoleTracesSpec)) consoleTracesCard

/-- THE TIED CARD OF 'bitcastlaw42.ConsoleTexts'. -/
def consoleTextsCard : Claim7 := { stood := { row := consoleTextsRow, standIns := [], harness := (true, "d11e07935560fa9f1c4e4fbdfb896a141ac870b5a36eb61aa4c7ec4e9eee0555"), looks := true }, kinds := [], alts := [], laidByText := true, laidKinds := [.data, .data, .data], laidTests := true, laidLooks := .later }
def ConsoleTextsCardSaid : Prop := Claim7.holds Tryd.pinned (.plain (OpenSpec.ofChange consoleTextsSpec)) consoleTextsCard

/-- THE SECOND FORM's CARD OF 'bitcastlaw42.ConsoleDiffers'. -/
def consoleDiffersUptoCard : Claim7 := { stood := { row := consoleDiffersUptoRow, standIns := [], harness := (true, "d11e07935560fa9f1c4e4fbdfb896a141ac870b5a36eb61aa4c7ec4e9eee0555"), looks := true }, kinds := [], alts := [], laidByText := true, laidKinds := [.data, .data, .data], laidTests := true, laidLooks := .later }
def ConsoleDiffersUptoCardSaid : Prop := Claim7.holds Tryd.pinned (.plain (OpenSpec.upto consoleDiffersSpec)) consoleDiffersUptoCard

/-- THE SECOND FORM's CARD OF 'bitcastlaw42.ConsoleTraces'. -/
def consoleTracesUptoCard : Claim7 := { stood := { row := consoleTracesUptoRow, standIns := [], harness := (true, "d11e07935560fa9f1c4e4fbdfb896a141ac870b5a36eb61aa4c7ec4e9eee0555"), looks := true }, kinds := [], alts := [], laidByText := true, laidKinds := [.data, .data, .data], laidTests := true, laidLooks := .later }
def ConsoleTracesUptoCardSaid : Prop := Claim7.holds Tryd.pinned (.plain (OpenSpec.upto consoleTracesSpec)) consoleTracesUptoCard

/-- THE SECOND FORM's CARD OF 'bitcastlaw42.ConsoleTexts'. -/
def consoleTextsUptoCard : Claim7 := { stood := { row := consoleTextsUptoRow, standIns := [], harness := (true, "d11e07935560fa9f1c4e4fbdfb896a141ac870b5a36eb61aa4c7ec4e9eee0555"), looks := true }, kinds := [], alts := [], laidByText := true, laidKinds := [.data, .data, .data], laidTests := true, laidLooks := .later }
def ConsoleTextsUptoCardSaid : Prop := Claim7.holds Tryd.pinned (.plain (OpenSpec.upto consoleTextsSpec)) consoleTextsUptoCard
end Rows
end Go.Proofs.YteooglpnechplaaDoor
