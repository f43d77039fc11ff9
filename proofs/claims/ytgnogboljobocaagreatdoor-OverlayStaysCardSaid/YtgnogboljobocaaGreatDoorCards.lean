/-
  DERIVED. GIVEN WITH THE SEED: THE CARDS: each row of YtgnogboljobocaaGreatDoorRows.lean that lists a variable, with what it lists TIED to the program's text (the seventh form; the later family's looks); each row that meets fmt, with fmt's text TOLD by the authors' own Lean function (tested against real Go, not proved from fmt's source: count such statements apart). THE CARD IS WHAT COUNTS. Prove the row's statement (the work); the ties are given (YtgnogboljobocaaGreatDoorTie.lean); close each card by the builder's one call (the guide's Derived/Test/ToyasCard.lean, 'card_holds'). Laid BY PROGRAM, IN A SANDBOX (cutbox-door.mjs). By AI agents, Wed Nov 11 2026. No macro, syntax, notation, axiom, sorry.
-/
import Derived.Test.YtgnogboljobocaaGreatDoorRows
import GoSem.ClaimSeven
namespace Go.Proofs.YtgnogboljobocaaGreatDoor
namespace Rows

/-- THE TIED CARD OF 'bitcastlaw28.FlowsSettled'. -/
def flowsSettledCard : Claim7 := { stood := { row := flowsSettledRow, standIns := [], harness := (true, "e5393dccc3bc36fc5032da711ab207554e675af374f3e8cf271812cad3976732"), looks := false }, kinds := [], alts := [], laidByText := true, laidKinds := [.data, .data, .data, .data], laidTests := true, laidLooks := .later }
def FlowsSettledCardSaid : Prop := Claim7.holds Tryz.pinned (.plain (OpenSpec.ofChange flowsSettledSpec)) flowsSettledCard

/-- THE TIED CARD OF 'bitcastlaw28.FlowsPackets'. -/
def flowsPacketsCard : Claim7 := { stood := { row := flowsPacketsRow, standIns := [], harness := (true, "e5393dccc3bc36fc5032da711ab207554e675af374f3e8cf271812cad3976732"), looks := false }, kinds := [], alts := [], laidByText := true, laidKinds := [.data, .data, .data, .data], laidTests := true, laidLooks := .later }
def FlowsPacketsCardSaid : Prop := Claim7.holds Tryz.pinned (.plain (OpenSpec.ofChange flowsPacketsSpec)) flowsPacketsCard

/-- THE TIED CARD OF 'bitcastlaw28.FlowsAnswers'. -/
def flowsAnswersCard : Claim7 := { stood := { row := flowsAnswersRow, standIns := [], harness := (true, "e5393dccc3bc36fc5032da711ab207554e675af374f3e8cf271812cad3976732"), looks := false }, kinds := [], alts := [], laidByText := true, laidKinds := [.data, .data, .data, .data], laidTests := true, laidLooks := .later }
def FlowsAnswersCardSaid : Prop := Claim7.holds Tryz.pinned (.plain (OpenSpec.ofChange flowsAnswersSpec)) flowsAnswersCard

/-- THE TIED CARD OF 'bitcastlaw26.SessionHears'. -/
def sessionHearsCard : Claim7 := { stood := { row := sessionHearsRow, standIns := [], harness := (true, "e5393dccc3bc36fc5032da711ab207554e675af374f3e8cf271812cad3976732"), looks := false }, kinds := [], alts := [], laidByText := true, laidKinds := [.data, .data, .data, .data], laidTests := true, laidLooks := .later }
def SessionHearsCardSaid : Prop := Claim7.holds Tryz.pinned (.plain (OpenSpec.ofChange sessionHearsSpec)) sessionHearsCard

/-- THE TIED CARD OF 'bitcastlaw26.SessionSettles'. -/
def sessionSettlesCard : Claim7 := { stood := { row := sessionSettlesRow, standIns := [], harness := (true, "e5393dccc3bc36fc5032da711ab207554e675af374f3e8cf271812cad3976732"), looks := false }, kinds := [], alts := [], laidByText := true, laidKinds := [.data, .data, .data, .data], laidTests := true, laidLooks := .later }
def SessionSettlesCardSaid : Prop := Claim7.holds Tryz.pinned (.plain (OpenSpec.ofChange sessionSettlesSpec)) sessionSettlesCard

/-- THE TIED CARD OF 'bitcastlaw27.OverlayQuiet'. -/
def overlayQuietCard : Claim7 := { stood := { row := overlayQuietRow, standIns := [], harness := (true, "e5393dccc3bc36fc5032da711ab207554e675af374f3e8cf271812cad3976732"), looks := false }, kinds := [], alts := [], laidByText := true, laidKinds := [.data, .data, .data, .data], laidTests := true, laidLooks := .later }
def OverlayQuietCardSaid : Prop := Claim7.holds Tryz.pinned (.plain (OpenSpec.ofChange overlayQuietSpec)) overlayQuietCard

/-- THE TIED CARD OF 'bitcastlaw27.OverlayStays'. -/
def overlayStaysCard : Claim7 := { stood := { row := overlayStaysRow, standIns := [], harness := (true, "e5393dccc3bc36fc5032da711ab207554e675af374f3e8cf271812cad3976732"), looks := false }, kinds := [], alts := [], laidByText := true, laidKinds := [.data, .data, .data, .data], laidTests := true, laidLooks := .later }
def OverlayStaysCardSaid : Prop := Claim7.holds Tryz.pinned (.plain (OpenSpec.ofChange overlayStaysSpec)) overlayStaysCard

/-- THE TIED CARD OF 'bitcastlaw27.OverlayAnswers'. -/
def overlayAnswersCard : Claim7 := { stood := { row := overlayAnswersRow, standIns := [], harness := (true, "e5393dccc3bc36fc5032da711ab207554e675af374f3e8cf271812cad3976732"), looks := false }, kinds := [], alts := [], laidByText := true, laidKinds := [.data, .data, .data, .data], laidTests := true, laidLooks := .later }
def OverlayAnswersCardSaid : Prop := Claim7.holds Tryz.pinned (.plain (OpenSpec.ofChange overlayAnswersSpec)) overlayAnswersCard

/-- THE SECOND FORM's CARD OF 'bitcastlaw28.FlowsSettled'. -/
def flowsSettledUptoCard : Claim7 := { stood := { row := flowsSettledUptoRow, standIns := [], harness := (true, "e5393dccc3bc36fc5032da711ab207554e675af374f3e8cf271812cad3976732"), looks := false }, kinds := [], alts := [], laidByText := true, laidKinds := [.data, .data, .data, .data], laidTests := true, laidLooks := .later }
def FlowsSettledUptoCardSaid : Prop := Claim7.holds Tryz.pinned (.plain (OpenSpec.upto flowsSettledSpec)) flowsSettledUptoCard

/-- THE SECOND FORM's CARD OF 'bitcastlaw28.FlowsPackets'. -/
def flowsPacketsUptoCard : Claim7 := { stood := { row := flowsPacketsUptoRow, standIns := [], harness := (true, "e5393dccc3bc36fc5032da711ab207554e675af374f3e8cf271812cad3976732"), looks := false }, kinds := [], alts := [], laidByText := true, laidKinds := [.data, .data, .data, .data], laidTests := true, laidLooks := .later }
def FlowsPacketsUptoCardSaid : Prop := Claim7.holds Tryz.pinned (.plain (OpenSpec.upto flowsPacketsSpec)) flowsPacketsUptoCard

/-- THE SECOND FORM's CARD OF 'bitcastlaw28.FlowsAnswers'. -/
def flowsAnswersUptoCard : Claim7 := { stood := { row := flowsAnswersUptoRow, standIns := [], harness := (true, "e5393dccc3bc36fc5032da711ab207554e675af374f3e8cf271812cad3976732"), looks := false }, kinds := [], alts := [], laidByText := true, laidKinds := [.data, .data, .data, .data], laidTests := true, laidLooks := .later }
def FlowsAnswersUptoCardSaid : Prop := Claim7.holds Tryz.pinned (.plain (OpenSpec.upto flowsAnswersSpec)) flowsAnswersUptoCard

/-- THE SECOND FORM's CARD OF 'bitcastlaw26.SessionHears'. -/
def sessionHearsUptoCard : Claim7 := { stood := { row := sessionHearsUptoRow, standIns := [], harness := (true, "e5393dccc3bc36fc5032da711ab207554e675af374f3e8cf271812cad3976732"), looks := false }, kinds := [], alts := [], laidByText := true, laidKinds := [.data, .data, .data, .data], laidTests := true, laidLooks := .later }
def SessionHearsUptoCardSaid : Prop := Claim7.holds Tryz.pinned (.plain (OpenSpec.upto sessionHearsSpec)) sessionHearsUptoCard

/-- THE SECOND FORM's CARD OF 'bitcastlaw26.SessionSettles'. -/
def sessionSettlesUptoCard : Claim7 := { stood := { row := sessionSettlesUptoRow, standIns := [], harness := (true, "e5393dccc3bc36fc5032da711ab207554e675af374f3e8cf271812cad3976732"), looks := false }, kinds := [], alts := [], laidByText := true, laidKinds := [.data, .data, .data, .data], laidTests := true, laidLooks := .later }
def SessionSettlesUptoCardSaid : Prop := Claim7.holds Tryz.pinned (.plain (OpenSpec.upto sessionSettlesSpec)) sessionSettlesUptoCard

/-- THE SECOND FORM's CARD OF 'bitcastlaw27.OverlayQuiet'. -/
def overlayQuietUptoCard : Claim7 := { stood := { row := overlayQuietUptoRow, standIns := [], harness := (true, "e5393dccc3bc36fc5032da711ab207554e675af374f3e8cf271812cad3976732"), looks := false }, kinds := [], alts := [], laidByText := true, laidKinds := [.data, .data, .data, .data], laidTests := true, laidLooks := .later }
def OverlayQuietUptoCardSaid : Prop := Claim7.holds Tryz.pinned (.plain (OpenSpec.upto overlayQuietSpec)) overlayQuietUptoCard

/-- THE SECOND FORM's CARD OF 'bitcastlaw27.OverlayStays'. -/
def overlayStaysUptoCard : Claim7 := { stood := { row := overlayStaysUptoRow, standIns := [], harness := (true, "e5393dccc3bc36fc5032da711ab207554e675af374f3e8cf271812cad3976732"), looks := false }, kinds := [], alts := [], laidByText := true, laidKinds := [.data, .data, .data, .data], laidTests := true, laidLooks := .later }
def OverlayStaysUptoCardSaid : Prop := Claim7.holds Tryz.pinned (.plain (OpenSpec.upto overlayStaysSpec)) overlayStaysUptoCard

/-- THE SECOND FORM's CARD OF 'bitcastlaw27.OverlayAnswers'. -/
def overlayAnswersUptoCard : Claim7 := { stood := { row := overlayAnswersUptoRow, standIns := [], harness := (true, "e5393dccc3bc36fc5032da711ab207554e675af374f3e8cf271812cad3976732"), looks := false }, kinds := [], alts := [], laidByText := true, laidKinds := [.data, .data, .data, .data], laidTests := true, laidLooks := .later }
def OverlayAnswersUptoCardSaid : Prop := Claim7.holds Tryz.pinned (.plain (OpenSpec.upto overlayAnswersSpec)) overlayAnswersUptoCard
end Rows
end Go.Proofs.YtgnogboljobocaaGreatDoor
