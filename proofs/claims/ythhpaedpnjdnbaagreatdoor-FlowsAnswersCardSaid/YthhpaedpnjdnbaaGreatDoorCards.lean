/-
  DERIVED. GIVEN WITH THE SEED: THE CARDS: each row of YthhpaedpnjdnbaaGreatDoorRows.lean that lists a variable, with what it lists TIED to the program's text (the seventh form; the later family's looks); each row that meets fmt, with fmt's text TOLD by the authors' own Lean function (tested against real Go, not proved from fmt's source: count such statements apart). THE CARD IS WHAT COUNTS. Prove the row's statement (the work); the ties are given (YthhpaedpnjdnbaaGreatDoorTie.lean); close each card by the builder's one call (the guide's Derived/Test/ToyasCard.lean, 'card_holds'). Laid BY PROGRAM, IN A SANDBOX (cutbox-door.mjs). By AI agents, Wed Nov 11 2026. No macro, syntax, notation, axiom, sorry.
-/
import Derived.Test.YthhpaedpnjdnbaaGreatDoorRows
import GoSem.ClaimSeven
namespace Go.Proofs.YthhpaedpnjdnbaaGreatDoor
namespace Rows

/-- THE TIED CARD OF 'bitcastlaw28.FlowsSettled'. -/
def flowsSettledCard : Claim7 := { stood := { row := flowsSettledRow, standIns := [], harness := (true, "a0c41f22254e635db999fa9c408104b79e077eff96f6cc0b4777808c91166b5d"), looks := false }, kinds := [], alts := [], laidByText := true, laidKinds := [.data, .data, .data, .data], laidTests := true, laidLooks := .later }
def FlowsSettledCardSaid : Prop := Claim7.holds Tryz.pinned (.plain (OpenSpec.ofChange flowsSettledSpec)) flowsSettledCard

/-- THE TIED CARD OF 'bitcastlaw28.FlowsPackets'. -/
def flowsPacketsCard : Claim7 := { stood := { row := flowsPacketsRow, standIns := [], harness := (true, "a0c41f22254e635db999fa9c408104b79e077eff96f6cc0b4777808c91166b5d"), looks := false }, kinds := [], alts := [], laidByText := true, laidKinds := [.data, .data, .data, .data], laidTests := true, laidLooks := .later }
def FlowsPacketsCardSaid : Prop := Claim7.holds Tryz.pinned (.plain (OpenSpec.ofChange flowsPacketsSpec)) flowsPacketsCard

/-- THE TIED CARD OF 'bitcastlaw28.FlowsAnswers'. -/
def flowsAnswersCard : Claim7 := { stood := { row := flowsAnswersRow, standIns := [], harness := (true, "a0c41f22254e635db999fa9c408104b79e077eff96f6cc0b4777808c91166b5d"), looks := false }, kinds := [], alts := [], laidByText := true, laidKinds := [.data, .data, .data, .data], laidTests := true, laidLooks := .later }
def FlowsAnswersCardSaid : Prop := Claim7.holds Tryz.pinned (.plain (OpenSpec.ofChange flowsAnswersSpec)) flowsAnswersCard

/-- THE SECOND FORM's CARD OF 'bitcastlaw28.FlowsSettled'. -/
def flowsSettledUptoCard : Claim7 := { stood := { row := flowsSettledUptoRow, standIns := [], harness := (true, "a0c41f22254e635db999fa9c408104b79e077eff96f6cc0b4777808c91166b5d"), looks := false }, kinds := [], alts := [], laidByText := true, laidKinds := [.data, .data, .data, .data], laidTests := true, laidLooks := .later }
def FlowsSettledUptoCardSaid : Prop := Claim7.holds Tryz.pinned (.plain (OpenSpec.upto flowsSettledSpec)) flowsSettledUptoCard

/-- THE SECOND FORM's CARD OF 'bitcastlaw28.FlowsPackets'. -/
def flowsPacketsUptoCard : Claim7 := { stood := { row := flowsPacketsUptoRow, standIns := [], harness := (true, "a0c41f22254e635db999fa9c408104b79e077eff96f6cc0b4777808c91166b5d"), looks := false }, kinds := [], alts := [], laidByText := true, laidKinds := [.data, .data, .data, .data], laidTests := true, laidLooks := .later }
def FlowsPacketsUptoCardSaid : Prop := Claim7.holds Tryz.pinned (.plain (OpenSpec.upto flowsPacketsSpec)) flowsPacketsUptoCard

/-- THE SECOND FORM's CARD OF 'bitcastlaw28.FlowsAnswers'. -/
def flowsAnswersUptoCard : Claim7 := { stood := { row := flowsAnswersUptoRow, standIns := [], harness := (true, "a0c41f22254e635db999fa9c408104b79e077eff96f6cc0b4777808c91166b5d"), looks := false }, kinds := [], alts := [], laidByText := true, laidKinds := [.data, .data, .data, .data], laidTests := true, laidLooks := .later }
def FlowsAnswersUptoCardSaid : Prop := Claim7.holds Tryz.pinned (.plain (OpenSpec.upto flowsAnswersSpec)) flowsAnswersUptoCard
end Rows
end Go.Proofs.YthhpaedpnjdnbaaGreatDoor
