/-
  NARROWER THAN 'FOR EVERY INPUT', by the rows' own cells (each row's printed sentence says how): RouterTells: laid · RouterForgets: laid · ProtectIntact: laid · RecoveryUnaware: laid · RecoveryNever: laid.
  DERIVED. THE GIVEN ROWS OF THIS SEAT. 5 by the template 'for every input the law returns true; each argument reads behind the call as it read before'; 0 by the template 'total and deterministic' (their statements: YtiobpjoadkfhdaaGreatDoorTotals.lean).
  GIVEN WITH THE SEED: the statements are not yours to turn. If you find one false, say at which input.
  Laid BY PROGRAM, IN A SANDBOX (cutbox-rows.mjs): the forced cells as the released guide's own fill.sh prints them over the translation f867b268b6454cbc… (all of the seat's roots in one cut). By AI agents, Wed Nov 11 2026. No macro, syntax, notation, axiom, sorry.
-/
import Derived.Test.YtiobpjoadkfhdaaGreatDoorChecked
import GoSem.Claim
import GoSem.ClaimJoined
import GoSem.ClaimMapViews
import Derived.JoinedTies
import Derived.KernelRfl
namespace Go.Proofs.YtiobpjoadkfhdaaGreatDoor
/- THE CELL 'sum', in the pinned program and in every row, IS THE sha256 OF THE DUMP (.gsa) THAT YtiobpjoadkfhdaaGreatDoorProg.lean LOADS. Nothing in Lean hashes anything: it is a label: what it is worth is what the hold of that sum in a sandbox is worth. -/
noncomputable def Tryz.pinned : Pinned := { name := "ytiobpjoadkfhdaagreatdoor", sum := "f867b268b6454cbccda472cb8697414f3e981d06120dae7cf3e132ed196d20e5", checked := Tryz.checked }
namespace Rows
def none {H : Type} : Left H := { results := [], args := [] }

/- WHAT THE LISTED PACKAGE-LEVEL VARIABLES READ AS WHEN THE CALL BEGINS. Each datum BY PROGRAM (the guide's laid-datum.mjs) off the statement by which the dump's own 'gosem.cut.vars' lays the variable. In a bare row this is a premise. The card (YtiobpjoadkfhdaaGreatDoorCards.lean) ties it to the program's text. -/
def laid_bitcast_signal_zero {H : Type} : DataW H := .agg [.lit (.int .i64 0), .lit (.int .i64 0)]
def laid_bitcast_signal_number {H : Type} : DataW H := .agg [.lit (.int .i64 0), .lit (.int .i64 1000000)]
def laid_bitcast_signal_first {H : Type} : DataW H := .agg [.lit (.int .i64 1), .lit (.int .i64 1000000)]
def laid_bitcast_signal_group {H : Type} : DataW H := .agg [.lit (.int .i64 1), .lit (.int .i64 99)]
def laid_math_bits_deBruijn64tab {H : Type} : DataW H := .agg [.lit (.int .u8 0), .lit (.int .u8 1), .lit (.int .u8 56), .lit (.int .u8 2), .lit (.int .u8 57), .lit (.int .u8 49), .lit (.int .u8 28), .lit (.int .u8 3), .lit (.int .u8 61), .lit (.int .u8 58), .lit (.int .u8 42), .lit (.int .u8 50), .lit (.int .u8 38), .lit (.int .u8 29), .lit (.int .u8 17), .lit (.int .u8 4), .lit (.int .u8 62), .lit (.int .u8 47), .lit (.int .u8 59), .lit (.int .u8 36), .lit (.int .u8 45), .lit (.int .u8 43), .lit (.int .u8 51), .lit (.int .u8 22), .lit (.int .u8 53), .lit (.int .u8 39), .lit (.int .u8 33), .lit (.int .u8 30), .lit (.int .u8 24), .lit (.int .u8 18), .lit (.int .u8 12), .lit (.int .u8 5), .lit (.int .u8 63), .lit (.int .u8 55), .lit (.int .u8 48), .lit (.int .u8 27), .lit (.int .u8 60), .lit (.int .u8 41), .lit (.int .u8 37), .lit (.int .u8 16), .lit (.int .u8 46), .lit (.int .u8 35), .lit (.int .u8 44), .lit (.int .u8 21), .lit (.int .u8 52), .lit (.int .u8 32), .lit (.int .u8 23), .lit (.int .u8 11), .lit (.int .u8 54), .lit (.int .u8 26), .lit (.int .u8 40), .lit (.int .u8 15), .lit (.int .u8 34), .lit (.int .u8 20), .lit (.int .u8 31), .lit (.int .u8 10), .lit (.int .u8 25), .lit (.int .u8 14), .lit (.int .u8 19), .lit (.int .u8 9), .lit (.int .u8 13), .lit (.int .u8 8), .lit (.int .u8 7), .lit (.int .u8 6)]

/-- 'bitcastlaw38.RouterTells': WHATEVER THE INPUT: true; the input reads as it did. -/
def routerTellsSpec : ChangeSpec := { name := "routerTells", fn := fun _ => fun
  | [d] => { results := [.lit (.bool true)], args := [d] }
  | _ => none }
def routerTellsRow : OpenClaim := { program := "ytiobpjoadkfhdaagreatdoor", sum := "f867b268b6454cbccda472cb8697414f3e981d06120dae7cf3e132ed196d20e5", func := "bitcast/bitcastlaw38.RouterTells", spec := "routerTells", unfollowed := true, recurses := true, named := ["bitcast/signal.first", "bitcast/signal.number", "bitcast/signal.zero", "bitcast/signal.group"], plainKeys := false, apart := false, laid := [("bitcast/signal.zero", laid_bitcast_signal_zero), ("bitcast/signal.number", laid_bitcast_signal_number), ("bitcast/signal.first", laid_bitcast_signal_first), ("bitcast/signal.group", laid_bitcast_signal_group)] }
def RouterTellsSaid : Prop := routerTellsRow.holds Tryz.pinned (OpenSpec.ofChange routerTellsSpec)

/-- ITS FALSE NEIGHBOUR: 'it returns false'. Refute it at one input. -/
def routerTellsWrong : ChangeSpec := { name := "routerTells", fn := fun _ => fun
  | [d] => { results := [.lit (.bool false)], args := [d] }
  | _ => none }
def RouterTellsWrongFalsely : Prop := routerTellsRow.holds Tryz.pinned (OpenSpec.ofChange routerTellsWrong)

/-- 'bitcastlaw38.RouterForgets': WHATEVER THE INPUT: true; the input reads as it did. -/
def routerForgetsSpec : ChangeSpec := { name := "routerForgets", fn := fun _ => fun
  | [d] => { results := [.lit (.bool true)], args := [d] }
  | _ => none }
def routerForgetsRow : OpenClaim := { program := "ytiobpjoadkfhdaagreatdoor", sum := "f867b268b6454cbccda472cb8697414f3e981d06120dae7cf3e132ed196d20e5", func := "bitcast/bitcastlaw38.RouterForgets", spec := "routerForgets", unfollowed := true, recurses := true, named := ["bitcast/signal.first", "bitcast/signal.number", "bitcast/signal.zero", "bitcast/signal.group"], plainKeys := false, apart := false, laid := [("bitcast/signal.zero", laid_bitcast_signal_zero), ("bitcast/signal.number", laid_bitcast_signal_number), ("bitcast/signal.first", laid_bitcast_signal_first), ("bitcast/signal.group", laid_bitcast_signal_group)] }
def RouterForgetsSaid : Prop := routerForgetsRow.holds Tryz.pinned (OpenSpec.ofChange routerForgetsSpec)

/-- ITS FALSE NEIGHBOUR: 'it returns false'. Refute it at one input. -/
def routerForgetsWrong : ChangeSpec := { name := "routerForgets", fn := fun _ => fun
  | [d] => { results := [.lit (.bool false)], args := [d] }
  | _ => none }
def RouterForgetsWrongFalsely : Prop := routerForgetsRow.holds Tryz.pinned (OpenSpec.ofChange routerForgetsWrong)

/-- 'bitcastlaw20.ProtectIntact': WHATEVER THE INPUT: true; the input reads as it did. -/
def protectIntactSpec : ChangeSpec := { name := "protectIntact", fn := fun _ => fun
  | [d] => { results := [.lit (.bool true)], args := [d] }
  | _ => none }
def protectIntactRow : OpenClaim := { program := "ytiobpjoadkfhdaagreatdoor", sum := "f867b268b6454cbccda472cb8697414f3e981d06120dae7cf3e132ed196d20e5", func := "bitcast/bitcastlaw20.ProtectIntact", spec := "protectIntact", unfollowed := true, recurses := true, named := ["math/bits.deBruijn64tab"], plainKeys := false, apart := false, laid := [("math/bits.deBruijn64tab", laid_math_bits_deBruijn64tab)] }
def ProtectIntactSaid : Prop := protectIntactRow.holds Tryz.pinned (OpenSpec.ofChange protectIntactSpec)

/-- ITS FALSE NEIGHBOUR: 'it returns false'. Refute it at one input. -/
def protectIntactWrong : ChangeSpec := { name := "protectIntact", fn := fun _ => fun
  | [d] => { results := [.lit (.bool false)], args := [d] }
  | _ => none }
def ProtectIntactWrongFalsely : Prop := protectIntactRow.holds Tryz.pinned (OpenSpec.ofChange protectIntactWrong)

/-- 'bitcastlaw21.RecoveryUnaware': WHATEVER THE INPUT: true; the input reads as it did. -/
def recoveryUnawareSpec : ChangeSpec := { name := "recoveryUnaware", fn := fun _ => fun
  | [d] => { results := [.lit (.bool true)], args := [d] }
  | _ => none }
def recoveryUnawareRow : OpenClaim := { program := "ytiobpjoadkfhdaagreatdoor", sum := "f867b268b6454cbccda472cb8697414f3e981d06120dae7cf3e132ed196d20e5", func := "bitcast/bitcastlaw21.RecoveryUnaware", spec := "recoveryUnaware", inPlace := ["slices.overlaps[bitcast/api.Link]"], unfollowed := true, recurses := true, named := ["math/bits.deBruijn64tab"], plainKeys := false, apart := false, laid := [("math/bits.deBruijn64tab", laid_math_bits_deBruijn64tab)] }
def RecoveryUnawareSaid : Prop := recoveryUnawareRow.holds Tryz.pinned (OpenSpec.ofChange recoveryUnawareSpec)

/-- ITS FALSE NEIGHBOUR: 'it returns false'. Refute it at one input. -/
def recoveryUnawareWrong : ChangeSpec := { name := "recoveryUnaware", fn := fun _ => fun
  | [d] => { results := [.lit (.bool false)], args := [d] }
  | _ => none }
def RecoveryUnawareWrongFalsely : Prop := recoveryUnawareRow.holds Tryz.pinned (OpenSpec.ofChange recoveryUnawareWrong)

/-- 'bitcastlaw21.RecoveryNever': WHATEVER THE INPUT: true; the input reads as it did. -/
def recoveryNeverSpec : ChangeSpec := { name := "recoveryNever", fn := fun _ => fun
  | [d1, d2] => { results := [.lit (.bool true)], args := [d1, d2] }
  | _ => none }
def recoveryNeverRow : OpenClaim := { program := "ytiobpjoadkfhdaagreatdoor", sum := "f867b268b6454cbccda472cb8697414f3e981d06120dae7cf3e132ed196d20e5", func := "bitcast/bitcastlaw21.RecoveryNever", spec := "recoveryNever", inPlace := ["slices.overlaps[bitcast/api.Link]"], unfollowed := true, recurses := true, named := ["math/bits.deBruijn64tab"], plainKeys := false, apart := false, laid := [("math/bits.deBruijn64tab", laid_math_bits_deBruijn64tab)] }
def RecoveryNeverSaid : Prop := recoveryNeverRow.holds Tryz.pinned (OpenSpec.ofChange recoveryNeverSpec)

/-- ITS FALSE NEIGHBOUR: 'it returns false'. Refute it at one input. -/
def recoveryNeverWrong : ChangeSpec := { name := "recoveryNever", fn := fun _ => fun
  | [d1, d2] => { results := [.lit (.bool false)], args := [d1, d2] }
  | _ => none }
def RecoveryNeverWrongFalsely : Prop := recoveryNeverRow.holds Tryz.pinned (OpenSpec.ofChange recoveryNeverWrong)

/- THE SECOND FORM. 'bulk': how many values and letters a reading holds, each counted each time it is reached (what is shared counts as often as it is met; a slice's spare places count too). A statement '..UptoSaid' is the law's where the arguments, and the package variables that the reading takes, are together of bulk at most 1048576: NARROWER than '..Said'. Prove '..Said' where nothing that the law and all that it calls make is longer than what came in: it says more and counts as full. Else prove '..UptoSaid'. A law counts once. -/
mutual
def uptoBulk {H : Type} : DataW H → Nat
  | .lit (.string bytes) => bytes.length + 1
  | .lit _ => 1
  | .nil => 1
  | .ptr d => uptoBulk d + 1
  | .slice elems spare => uptoBulkAll elems + uptoBulkAll spare + 1
  | .agg parts => uptoBulkAll parts + 1
  | .iface _ d => uptoBulk d + 1
  | .map entries => uptoBulkEntries entries + 1
  | .held _ => 1
def uptoBulkAll {H : Type} : List (DataW H) → Nat
  | [] => 0
  | d :: r => uptoBulk d + uptoBulkAll r
def uptoBulkEntries {H : Type} : List (Lit × DataW H) → Nat
  | [] => 0
  | x :: r => uptoBulkEntry x + uptoBulkEntries r
def uptoBulkEntry {H : Type} : Lit × DataW H → Nat
  | (.string bytes, d) => bytes.length + uptoBulk d + 1
  | (_, d) => uptoBulk d + 1
 end
def uptoSmall : (H : Type) → List (DataW H) → Bool := fun _ ds => decide (uptoBulkAll ds ≤ 1048576)
def OpenSpec.upto (s : _root_.Go.ChangeSpec) : _root_.Go.OpenSpec := { _root_.Go.OpenSpec.ofChange s with cond := some uptoSmall }

/-- 'bitcastlaw38.RouterTells', WHERE WHAT IT READS IS OF BULK AT MOST 1048576: true; the input reads as it did. -/
def routerTellsUptoRow : OpenClaim := { program := "ytiobpjoadkfhdaagreatdoor", sum := "f867b268b6454cbccda472cb8697414f3e981d06120dae7cf3e132ed196d20e5", func := "bitcast/bitcastlaw38.RouterTells", spec := "routerTells", unfollowed := true, recurses := true, named := ["bitcast/signal.first", "bitcast/signal.number", "bitcast/signal.zero", "bitcast/signal.group"], plainKeys := false, apart := false, laid := [("bitcast/signal.zero", laid_bitcast_signal_zero), ("bitcast/signal.number", laid_bitcast_signal_number), ("bitcast/signal.first", laid_bitcast_signal_first), ("bitcast/signal.group", laid_bitcast_signal_group)], narrowed := true }
def RouterTellsUptoSaid : Prop := routerTellsUptoRow.holds Tryz.pinned (OpenSpec.upto routerTellsSpec)

/-- 'bitcastlaw38.RouterForgets', WHERE WHAT IT READS IS OF BULK AT MOST 1048576: true; the input reads as it did. -/
def routerForgetsUptoRow : OpenClaim := { program := "ytiobpjoadkfhdaagreatdoor", sum := "f867b268b6454cbccda472cb8697414f3e981d06120dae7cf3e132ed196d20e5", func := "bitcast/bitcastlaw38.RouterForgets", spec := "routerForgets", unfollowed := true, recurses := true, named := ["bitcast/signal.first", "bitcast/signal.number", "bitcast/signal.zero", "bitcast/signal.group"], plainKeys := false, apart := false, laid := [("bitcast/signal.zero", laid_bitcast_signal_zero), ("bitcast/signal.number", laid_bitcast_signal_number), ("bitcast/signal.first", laid_bitcast_signal_first), ("bitcast/signal.group", laid_bitcast_signal_group)], narrowed := true }
def RouterForgetsUptoSaid : Prop := routerForgetsUptoRow.holds Tryz.pinned (OpenSpec.upto routerForgetsSpec)

/-- 'bitcastlaw20.ProtectIntact', WHERE WHAT IT READS IS OF BULK AT MOST 1048576: true; the input reads as it did. -/
def protectIntactUptoRow : OpenClaim := { program := "ytiobpjoadkfhdaagreatdoor", sum := "f867b268b6454cbccda472cb8697414f3e981d06120dae7cf3e132ed196d20e5", func := "bitcast/bitcastlaw20.ProtectIntact", spec := "protectIntact", unfollowed := true, recurses := true, named := ["math/bits.deBruijn64tab"], plainKeys := false, apart := false, laid := [("math/bits.deBruijn64tab", laid_math_bits_deBruijn64tab)], narrowed := true }
def ProtectIntactUptoSaid : Prop := protectIntactUptoRow.holds Tryz.pinned (OpenSpec.upto protectIntactSpec)

/-- 'bitcastlaw21.RecoveryUnaware', WHERE WHAT IT READS IS OF BULK AT MOST 1048576: true; the input reads as it did. -/
def recoveryUnawareUptoRow : OpenClaim := { program := "ytiobpjoadkfhdaagreatdoor", sum := "f867b268b6454cbccda472cb8697414f3e981d06120dae7cf3e132ed196d20e5", func := "bitcast/bitcastlaw21.RecoveryUnaware", spec := "recoveryUnaware", inPlace := ["slices.overlaps[bitcast/api.Link]"], unfollowed := true, recurses := true, named := ["math/bits.deBruijn64tab"], plainKeys := false, apart := false, laid := [("math/bits.deBruijn64tab", laid_math_bits_deBruijn64tab)], narrowed := true }
def RecoveryUnawareUptoSaid : Prop := recoveryUnawareUptoRow.holds Tryz.pinned (OpenSpec.upto recoveryUnawareSpec)

/-- 'bitcastlaw21.RecoveryNever', WHERE WHAT IT READS IS OF BULK AT MOST 1048576: true; the input reads as it did. -/
def recoveryNeverUptoRow : OpenClaim := { program := "ytiobpjoadkfhdaagreatdoor", sum := "f867b268b6454cbccda472cb8697414f3e981d06120dae7cf3e132ed196d20e5", func := "bitcast/bitcastlaw21.RecoveryNever", spec := "recoveryNever", inPlace := ["slices.overlaps[bitcast/api.Link]"], unfollowed := true, recurses := true, named := ["math/bits.deBruijn64tab"], plainKeys := false, apart := false, laid := [("math/bits.deBruijn64tab", laid_math_bits_deBruijn64tab)], narrowed := true }
def RecoveryNeverUptoSaid : Prop := recoveryNeverUptoRow.holds Tryz.pinned (OpenSpec.upto recoveryNeverSpec)

end Rows
end Go.Proofs.YtiobpjoadkfhdaaGreatDoor
