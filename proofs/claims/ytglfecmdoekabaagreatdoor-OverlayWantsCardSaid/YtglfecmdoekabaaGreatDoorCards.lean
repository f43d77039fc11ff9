/-
  DERIVED. GIVEN WITH THE SEED: THE CARDS: each row of YtglfecmdoekabaaGreatDoorRows.lean that lists a variable, with what it lists TIED to the program's text (the seventh form; the later family's looks); each row that meets fmt, with fmt's text TOLD by the authors' own Lean function (tested against real Go, not proved from fmt's source: count such statements apart). THE CARD IS WHAT COUNTS. Prove the row's statement (the work); the ties are given (YtglfecmdoekabaaGreatDoorTie.lean); close each card by the builder's one call (the guide's Derived/Test/ToyasCard.lean, 'card_holds'). Laid BY PROGRAM, IN A SANDBOX (cutbox-door.mjs). By AI agents, Wed Nov 11 2026. No macro, syntax, notation, axiom, sorry.
-/
import Derived.Test.YtglfecmdoekabaaGreatDoorRows
import GoSem.ClaimSeven
namespace Go.Proofs.YtglfecmdoekabaaGreatDoor
namespace Rows

/-- THE TIED CARD OF 'bitcastlaw26.SessionHears'. -/
def sessionHearsCard : Claim7 := { stood := { row := sessionHearsRow, standIns := [], harness := (true, "78d9e2baf8be3e00a4cb0dc2d22123492687be9a14711a013ba695e994db2ca9"), looks := false }, kinds := [], alts := [], laidByText := true, laidKinds := [.data, .data, .data, .data], laidTests := true, laidLooks := .later }
def SessionHearsCardSaid : Prop := Claim7.holds Tryz.pinned (.plain (OpenSpec.ofChange sessionHearsSpec)) sessionHearsCard

/-- THE TIED CARD OF 'bitcastlaw26.SessionSettles'. -/
def sessionSettlesCard : Claim7 := { stood := { row := sessionSettlesRow, standIns := [], harness := (true, "78d9e2baf8be3e00a4cb0dc2d22123492687be9a14711a013ba695e994db2ca9"), looks := false }, kinds := [], alts := [], laidByText := true, laidKinds := [.data, .data, .data, .data], laidTests := true, laidLooks := .later }
def SessionSettlesCardSaid : Prop := Claim7.holds Tryz.pinned (.plain (OpenSpec.ofChange sessionSettlesSpec)) sessionSettlesCard

/-- THE TIED CARD OF 'bitcastlaw27.OverlayQuiet'. -/
def overlayQuietCard : Claim7 := { stood := { row := overlayQuietRow, standIns := [], harness := (true, "78d9e2baf8be3e00a4cb0dc2d22123492687be9a14711a013ba695e994db2ca9"), looks := false }, kinds := [], alts := [], laidByText := true, laidKinds := [.data, .data, .data, .data], laidTests := true, laidLooks := .later }
def OverlayQuietCardSaid : Prop := Claim7.holds Tryz.pinned (.plain (OpenSpec.ofChange overlayQuietSpec)) overlayQuietCard

/-- THE TIED CARD OF 'bitcastlaw27.OverlayStays'. -/
def overlayStaysCard : Claim7 := { stood := { row := overlayStaysRow, standIns := [], harness := (true, "78d9e2baf8be3e00a4cb0dc2d22123492687be9a14711a013ba695e994db2ca9"), looks := false }, kinds := [], alts := [], laidByText := true, laidKinds := [.data, .data, .data, .data], laidTests := true, laidLooks := .later }
def OverlayStaysCardSaid : Prop := Claim7.holds Tryz.pinned (.plain (OpenSpec.ofChange overlayStaysSpec)) overlayStaysCard

/-- THE TIED CARD OF 'bitcastlaw27.OverlayWants'. -/
def overlayWantsCard : Claim7 := { stood := { row := overlayWantsRow, standIns := [], harness := (true, "78d9e2baf8be3e00a4cb0dc2d22123492687be9a14711a013ba695e994db2ca9"), looks := false }, kinds := [], alts := [], laidByText := true, laidKinds := [.data, .data, .data, .data], laidTests := true, laidLooks := .later }
def OverlayWantsCardSaid : Prop := Claim7.holds Tryz.pinned (.plain (OpenSpec.ofChange overlayWantsSpec)) overlayWantsCard

/-- THE TIED CARD OF 'bitcastlaw27.OverlayAlone'. -/
def overlayAloneCard : Claim7 := { stood := { row := overlayAloneRow, standIns := [], harness := (true, "78d9e2baf8be3e00a4cb0dc2d22123492687be9a14711a013ba695e994db2ca9"), looks := false }, kinds := [], alts := [], laidByText := true, laidKinds := [.data, .data, .data, .data], laidTests := true, laidLooks := .later }
def OverlayAloneCardSaid : Prop := Claim7.holds Tryz.pinned (.plain (OpenSpec.ofChange overlayAloneSpec)) overlayAloneCard

/-- THE TIED CARD OF 'bitcastlaw27.OverlayAnswers'. -/
def overlayAnswersCard : Claim7 := { stood := { row := overlayAnswersRow, standIns := [], harness := (true, "78d9e2baf8be3e00a4cb0dc2d22123492687be9a14711a013ba695e994db2ca9"), looks := false }, kinds := [], alts := [], laidByText := true, laidKinds := [.data, .data, .data, .data], laidTests := true, laidLooks := .later }
def OverlayAnswersCardSaid : Prop := Claim7.holds Tryz.pinned (.plain (OpenSpec.ofChange overlayAnswersSpec)) overlayAnswersCard

/-- THE SECOND FORM's CARD OF 'bitcastlaw26.SessionHears'. -/
def sessionHearsUptoCard : Claim7 := { stood := { row := sessionHearsUptoRow, standIns := [], harness := (true, "78d9e2baf8be3e00a4cb0dc2d22123492687be9a14711a013ba695e994db2ca9"), looks := false }, kinds := [], alts := [], laidByText := true, laidKinds := [.data, .data, .data, .data], laidTests := true, laidLooks := .later }
def SessionHearsUptoCardSaid : Prop := Claim7.holds Tryz.pinned (.plain (OpenSpec.upto sessionHearsSpec)) sessionHearsUptoCard

/-- THE SECOND FORM's CARD OF 'bitcastlaw26.SessionSettles'. -/
def sessionSettlesUptoCard : Claim7 := { stood := { row := sessionSettlesUptoRow, standIns := [], harness := (true, "78d9e2baf8be3e00a4cb0dc2d22123492687be9a14711a013ba695e994db2ca9"), looks := false }, kinds := [], alts := [], laidByText := true, laidKinds := [.data, .data, .data, .data], laidTests := true, laidLooks := .later }
def SessionSettlesUptoCardSaid : Prop := Claim7.holds Tryz.pinned (.plain (OpenSpec.upto sessionSettlesSpec)) sessionSettlesUptoCard

/-- THE SECOND FORM's CARD OF 'bitcastlaw27.OverlayQuiet'. -/
def overlayQuietUptoCard : Claim7 := { stood := { row := overlayQuietUptoRow, standIns := [], harness := (true, "78d9e2baf8be3e00a4cb0dc2d22123492687be9a14711a013ba695e994db2ca9"), looks := false }, kinds := [], alts := [], laidByText := true, laidKinds := [.data, .data, .data, .data], laidTests := true, laidLooks := .later }
def OverlayQuietUptoCardSaid : Prop := Claim7.holds Tryz.pinned (.plain (OpenSpec.upto overlayQuietSpec)) overlayQuietUptoCard

/-- THE SECOND FORM's CARD OF 'bitcastlaw27.OverlayStays'. -/
def overlayStaysUptoCard : Claim7 := { stood := { row := overlayStaysUptoRow, standIns := [], harness := (true, "78d9e2baf8be3e00a4cb0dc2d22123492687be9a14711a013ba695e994db2ca9"), looks := false }, kinds := [], alts := [], laidByText := true, laidKinds := [.data, .data, .data, .data], laidTests := true, laidLooks := .later }
def OverlayStaysUptoCardSaid : Prop := Claim7.holds Tryz.pinned (.plain (OpenSpec.upto overlayStaysSpec)) overlayStaysUptoCard

/-- THE SECOND FORM's CARD OF 'bitcastlaw27.OverlayWants'. -/
def overlayWantsUptoCard : Claim7 := { stood := { row := overlayWantsUptoRow, standIns := [], harness := (true, "78d9e2baf8be3e00a4cb0dc2d22123492687be9a14711a013ba695e994db2ca9"), looks := false }, kinds := [], alts := [], laidByText := true, laidKinds := [.data, .data, .data, .data], laidTests := true, laidLooks := .later }
def OverlayWantsUptoCardSaid : Prop := Claim7.holds Tryz.pinned (.plain (OpenSpec.upto overlayWantsSpec)) overlayWantsUptoCard

/-- THE SECOND FORM's CARD OF 'bitcastlaw27.OverlayAlone'. -/
def overlayAloneUptoCard : Claim7 := { stood := { row := overlayAloneUptoRow, standIns := [], harness := (true, "78d9e2baf8be3e00a4cb0dc2d22123492687be9a14711a013ba695e994db2ca9"), looks := false }, kinds := [], alts := [], laidByText := true, laidKinds := [.data, .data, .data, .data], laidTests := true, laidLooks := .later }
def OverlayAloneUptoCardSaid : Prop := Claim7.holds Tryz.pinned (.plain (OpenSpec.upto overlayAloneSpec)) overlayAloneUptoCard

/-- THE SECOND FORM's CARD OF 'bitcastlaw27.OverlayAnswers'. -/
def overlayAnswersUptoCard : Claim7 := { stood := { row := overlayAnswersUptoRow, standIns := [], harness := (true, "78d9e2baf8be3e00a4cb0dc2d22123492687be9a14711a013ba695e994db2ca9"), looks := false }, kinds := [], alts := [], laidByText := true, laidKinds := [.data, .data, .data, .data], laidTests := true, laidLooks := .later }
def OverlayAnswersUptoCardSaid : Prop := Claim7.holds Tryz.pinned (.plain (OpenSpec.upto overlayAnswersSpec)) overlayAnswersUptoCard
end Rows
end Go.Proofs.YtglfecmdoekabaaGreatDoor
