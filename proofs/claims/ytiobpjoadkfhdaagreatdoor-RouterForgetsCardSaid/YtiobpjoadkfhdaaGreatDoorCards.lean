/-
  DERIVED. GIVEN WITH THE SEED: THE CARDS: each row of YtiobpjoadkfhdaaGreatDoorRows.lean that lists a variable, with what it lists TIED to the program's text (the seventh form; the later family's looks); each row that meets fmt, with fmt's text TOLD by the authors' own Lean function (tested against real Go, not proved from fmt's source: count such statements apart). THE CARD IS WHAT COUNTS. Prove the row's statement (the work); the ties are given (YtiobpjoadkfhdaaGreatDoorTie.lean); close each card by the builder's one call (the guide's Derived/Test/ToyasCard.lean, 'card_holds'). Laid BY PROGRAM, IN A SANDBOX (cutbox-door.mjs). By AI agents, Wed Nov 11 2026. No macro, syntax, notation, axiom, sorry.
-/
import Derived.Test.YtiobpjoadkfhdaaGreatDoorRows
import GoSem.ClaimSeven
namespace Go.Proofs.YtiobpjoadkfhdaaGreatDoor
namespace Rows

/-- THE TIED CARD OF 'bitcastlaw38.RouterTells'. -/
def routerTellsCard : Claim7 := { stood := { row := routerTellsRow, standIns := [], harness := (true, "20e9a2daf5e3d25ed6a24cbd5cb09845b16972e0125d1d8c08e0272980ee3240"), looks := false }, kinds := [], alts := [], laidByText := true, laidKinds := [.data, .data, .data, .data], laidTests := true, laidLooks := .later }
def RouterTellsCardSaid : Prop := Claim7.holds Tryz.pinned (.plain (OpenSpec.ofChange routerTellsSpec)) routerTellsCard

/-- THE TIED CARD OF 'bitcastlaw38.RouterForgets'. -/
def routerForgetsCard : Claim7 := { stood := { row := routerForgetsRow, standIns := [], harness := (true, "20e9a2daf5e3d25ed6a24cbd5cb09845b16972e0125d1d8c08e0272980ee3240"), looks := false }, kinds := [], alts := [], laidByText := true, laidKinds := [.data, .data, .data, .data], laidTests := true, laidLooks := .later }
def RouterForgetsCardSaid : Prop := Claim7.holds Tryz.pinned (.plain (OpenSpec.ofChange routerForgetsSpec)) routerForgetsCard

/-- THE TIED CARD OF 'bitcastlaw20.ProtectIntact'. -/
def protectIntactCard : Claim7 := { stood := { row := protectIntactRow, standIns := [], harness := (true, "20e9a2daf5e3d25ed6a24cbd5cb09845b16972e0125d1d8c08e0272980ee3240"), looks := false }, kinds := [], alts := [], laidByText := true, laidKinds := [.data], laidTests := true, laidLooks := .later }
def ProtectIntactCardSaid : Prop := Claim7.holds Tryz.pinned (.plain (OpenSpec.ofChange protectIntactSpec)) protectIntactCard

/-- THE TIED CARD OF 'bitcastlaw21.RecoveryUnaware'. -/
def recoveryUnawareCard : Claim7 := { stood := { row := recoveryUnawareRow, standIns := [], harness := (true, "20e9a2daf5e3d25ed6a24cbd5cb09845b16972e0125d1d8c08e0272980ee3240"), looks := false }, kinds := [], alts := [], laidByText := true, laidKinds := [.data], laidTests := true, laidLooks := .later }
def RecoveryUnawareCardSaid : Prop := Claim7.holds Tryz.pinned (.plain (OpenSpec.ofChange recoveryUnawareSpec)) recoveryUnawareCard

/-- THE TIED CARD OF 'bitcastlaw21.RecoveryNever'. -/
def recoveryNeverCard : Claim7 := { stood := { row := recoveryNeverRow, standIns := [], harness := (true, "20e9a2daf5e3d25ed6a24cbd5cb09845b16972e0125d1d8c08e0272980ee3240"), looks := false }, kinds := [], alts := [], laidByText := true, laidKinds := [.data], laidTests := true, laidLooks := .later }
def RecoveryNeverCardSaid : Prop := Claim7.holds Tryz.pinned (.plain (OpenSpec.ofChange recoveryNeverSpec)) recoveryNeverCard

/-- THE SECOND FORM's CARD OF 'bitcastlaw38.RouterTells'. -/
def routerTellsUptoCard : Claim7 := { stood := { row := routerTellsUptoRow, standIns := [], harness := (true, "20e9a2daf5e3d25ed6a24cbd5cb09845b16972e0125d1d8c08e0272980ee3240"), looks := false }, kinds := [], alts := [], laidByText := true, laidKinds := [.data, .data, .data, .data], laidTests := true, laidLooks := .later }
def RouterTellsUptoCardSaid : Prop := Claim7.holds Tryz.pinned (.plain (OpenSpec.upto routerTellsSpec)) routerTellsUptoCard

/-- THE SECOND FORM's CARD OF 'bitcastlaw38.RouterForgets'. -/
def routerForgetsUptoCard : Claim7 := { stood := { row := routerForgetsUptoRow, standIns := [], harness := (true, "20e9a2daf5e3d25ed6a24cbd5cb09845b16972e0125d1d8c08e0272980ee3240"), looks := false }, kinds := [], alts := [], laidByText := true, laidKinds := [.data, .data, .data, .data], laidTests := true, laidLooks := .later }
def RouterForgetsUptoCardSaid : Prop := Claim7.holds Tryz.pinned (.plain (OpenSpec.upto routerForgetsSpec)) routerForgetsUptoCard

/-- THE SECOND FORM's CARD OF 'bitcastlaw20.ProtectIntact'. -/
def protectIntactUptoCard : Claim7 := { stood := { row := protectIntactUptoRow, standIns := [], harness := (true, "20e9a2daf5e3d25ed6a24cbd5cb09845b16972e0125d1d8c08e0272980ee3240"), looks := false }, kinds := [], alts := [], laidByText := true, laidKinds := [.data], laidTests := true, laidLooks := .later }
def ProtectIntactUptoCardSaid : Prop := Claim7.holds Tryz.pinned (.plain (OpenSpec.upto protectIntactSpec)) protectIntactUptoCard

/-- THE SECOND FORM's CARD OF 'bitcastlaw21.RecoveryUnaware'. -/
def recoveryUnawareUptoCard : Claim7 := { stood := { row := recoveryUnawareUptoRow, standIns := [], harness := (true, "20e9a2daf5e3d25ed6a24cbd5cb09845b16972e0125d1d8c08e0272980ee3240"), looks := false }, kinds := [], alts := [], laidByText := true, laidKinds := [.data], laidTests := true, laidLooks := .later }
def RecoveryUnawareUptoCardSaid : Prop := Claim7.holds Tryz.pinned (.plain (OpenSpec.upto recoveryUnawareSpec)) recoveryUnawareUptoCard

/-- THE SECOND FORM's CARD OF 'bitcastlaw21.RecoveryNever'. -/
def recoveryNeverUptoCard : Claim7 := { stood := { row := recoveryNeverUptoRow, standIns := [], harness := (true, "20e9a2daf5e3d25ed6a24cbd5cb09845b16972e0125d1d8c08e0272980ee3240"), looks := false }, kinds := [], alts := [], laidByText := true, laidKinds := [.data], laidTests := true, laidLooks := .later }
def RecoveryNeverUptoCardSaid : Prop := Claim7.holds Tryz.pinned (.plain (OpenSpec.upto recoveryNeverSpec)) recoveryNeverUptoCard
end Rows
end Go.Proofs.YtiobpjoadkfhdaaGreatDoor
