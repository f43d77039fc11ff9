/-
  DERIVED. GIVEN WITH THE SEED: THE CARDS: each row of YtdbdndmdbbihbaaGreatDoorRows.lean that lists a variable, with what it lists TIED to the program's text (the seventh form; the later family's looks); each row that meets fmt, with fmt's text TOLD by the authors' own Lean function (tested against real Go, not proved from fmt's source: count such statements apart). THE CARD IS WHAT COUNTS. Prove the row's statement (the work); the ties are given (YtdbdndmdbbihbaaGreatDoorTie.lean); close each card by the builder's one call (the guide's Derived/Test/ToyasCard.lean, 'card_holds'). Laid BY PROGRAM, IN A SANDBOX (cutbox-door.mjs). By AI agents, Wed Nov 11 2026. No macro, syntax, notation, axiom, sorry.
-/
import Derived.Test.YtdbdndmdbbihbaaGreatDoorRows
import GoSem.ClaimSeven
namespace Go.Proofs.YtdbdndmdbbihbaaGreatDoor
namespace Rows

/-- THE TIED CARD OF 'bitcastlaw20.ProtectPackets'. -/
def protectPacketsCard : Claim7 := { stood := { row := protectPacketsRow, standIns := [], harness := (true, "d7f16a0610c8e4ecf5b0beaf66e79da4aaf84d38838264e377be1773dd6ba194"), looks := false }, kinds := [], alts := [], laidByText := true, laidKinds := [.data], laidTests := true, laidLooks := .later }
def ProtectPacketsCardSaid : Prop := Claim7.holds Tryz.pinned (.plain (OpenSpec.ofChange protectPacketsSpec)) protectPacketsCard

/-- THE TIED CARD OF 'bitcastlaw20.ProtectIntact'. -/
def protectIntactCard : Claim7 := { stood := { row := protectIntactRow, standIns := [], harness := (true, "d7f16a0610c8e4ecf5b0beaf66e79da4aaf84d38838264e377be1773dd6ba194"), looks := false }, kinds := [], alts := [], laidByText := true, laidKinds := [.data], laidTests := true, laidLooks := .later }
def ProtectIntactCardSaid : Prop := Claim7.holds Tryz.pinned (.plain (OpenSpec.ofChange protectIntactSpec)) protectIntactCard

/-- THE SECOND FORM's CARD OF 'bitcastlaw20.ProtectPackets'. -/
def protectPacketsUptoCard : Claim7 := { stood := { row := protectPacketsUptoRow, standIns := [], harness := (true, "d7f16a0610c8e4ecf5b0beaf66e79da4aaf84d38838264e377be1773dd6ba194"), looks := false }, kinds := [], alts := [], laidByText := true, laidKinds := [.data], laidTests := true, laidLooks := .later }
def ProtectPacketsUptoCardSaid : Prop := Claim7.holds Tryz.pinned (.plain (OpenSpec.upto protectPacketsSpec)) protectPacketsUptoCard

/-- THE SECOND FORM's CARD OF 'bitcastlaw20.ProtectIntact'. -/
def protectIntactUptoCard : Claim7 := { stood := { row := protectIntactUptoRow, standIns := [], harness := (true, "d7f16a0610c8e4ecf5b0beaf66e79da4aaf84d38838264e377be1773dd6ba194"), looks := false }, kinds := [], alts := [], laidByText := true, laidKinds := [.data], laidTests := true, laidLooks := .later }
def ProtectIntactUptoCardSaid : Prop := Claim7.holds Tryz.pinned (.plain (OpenSpec.upto protectIntactSpec)) protectIntactUptoCard
end Rows
end Go.Proofs.YtdbdndmdbbihbaaGreatDoor
