/-
  NARROWER THAN 'FOR EVERY INPUT', by the rows' own cells (each row's printed sentence says how): FlowsSettled: laid · FlowsPackets: laid · FlowsAnswers: laid.
  DERIVED. THE GIVEN ROWS OF THIS SEAT. 3 by the template 'for every input the law returns true; each argument reads behind the call as it read before'; 0 by the template 'total and deterministic' (their statements: YthhpaedpnjdnbaaGreatDoorTotals.lean).
  GIVEN WITH THE SEED: the statements are not yours to turn. If you find one false, say at which input.
  Laid BY PROGRAM, IN A SANDBOX (cutbox-rows.mjs): the forced cells as the released guide's own fill.sh prints them over the translation e811ea33acb9731e… (all of the seat's roots in one cut). By AI agents, Wed Nov 11 2026. No macro, syntax, notation, axiom, sorry.
-/
import Derived.Test.YthhpaedpnjdnbaaGreatDoorChecked
import GoSem.Claim
import GoSem.ClaimJoined
import GoSem.ClaimMapViews
import Derived.JoinedTies
import Derived.KernelRfl
namespace Go.Proofs.YthhpaedpnjdnbaaGreatDoor
/- THE CELL 'sum', in the pinned program and in every row, IS THE sha256 OF THE DUMP (.gsa) THAT YthhpaedpnjdnbaaGreatDoorProg.lean LOADS. Nothing in Lean hashes anything: it is a label: what it is worth is what the hold of that sum in a sandbox is worth. -/
noncomputable def Tryz.pinned : Pinned := { name := "ythhpaedpnjdnbaagreatdoor", sum := "e811ea33acb9731ee0d1ad19a734bd517e6385303afededa61bfd7fd6ef52f18", checked := Tryz.checked }
namespace Rows
def none {H : Type} : Left H := { results := [], args := [] }

/- WHAT THE LISTED PACKAGE-LEVEL VARIABLES READ AS WHEN THE CALL BEGINS. Each datum BY PROGRAM (the guide's laid-datum.mjs) off the statement by which the dump's own 'gosem.cut.vars' lays the variable. In a bare row this is a premise. The card (YthhpaedpnjdnbaaGreatDoorCards.lean) ties it to the program's text. -/
def laid_bitcast_signal_zero {H : Type} : DataW H := .agg [.lit (.int .i64 0), .lit (.int .i64 0)]
def laid_bitcast_signal_number {H : Type} : DataW H := .agg [.lit (.int .i64 0), .lit (.int .i64 1000000)]
def laid_bitcast_signal_first {H : Type} : DataW H := .agg [.lit (.int .i64 1), .lit (.int .i64 1000000)]
def laid_bitcast_signal_group {H : Type} : DataW H := .agg [.lit (.int .i64 1), .lit (.int .i64 99)]

/-- 'bitcastlaw28.FlowsSettled': WHATEVER THE INPUT: true; the input reads as it did. -/
def flowsSettledSpec : ChangeSpec := { name := "flowsSettled", fn := fun _ => fun
  | [d] => { results := [.lit (.bool true)], args := [d] }
  | _ => none }
def flowsSettledRow : OpenClaim := { program := "ythhpaedpnjdnbaagreatdoor", sum := "e811ea33acb9731ee0d1ad19a734bd517e6385303afededa61bfd7fd6ef52f18", func := "bitcast/bitcastlaw28.FlowsSettled", spec := "flowsSettled", unfollowed := true, recurses := true, named := ["bitcast/signal.first", "bitcast/signal.number", "bitcast/signal.zero", "bitcast/signal.group"], apart := false, laid := [("bitcast/signal.zero", laid_bitcast_signal_zero), ("bitcast/signal.number", laid_bitcast_signal_number), ("bitcast/signal.first", laid_bitcast_signal_first), ("bitcast/signal.group", laid_bitcast_signal_group)] }
def FlowsSettledSaid : Prop := flowsSettledRow.holds Tryz.pinned (OpenSpec.ofChange flowsSettledSpec)

/-- ITS FALSE NEIGHBOUR: 'it returns false'. Refute it at one input. -/
def flowsSettledWrong : ChangeSpec := { name := "flowsSettled", fn := fun _ => fun
  | [d] => { results := [.lit (.bool false)], args := [d] }
  | _ => none }
def FlowsSettledWrongFalsely : Prop := flowsSettledRow.holds Tryz.pinned (OpenSpec.ofChange flowsSettledWrong)

/-- 'bitcastlaw28.FlowsPackets': WHATEVER THE INPUT: true; the input reads as it did. -/
def flowsPacketsSpec : ChangeSpec := { name := "flowsPackets", fn := fun _ => fun
  | [d] => { results := [.lit (.bool true)], args := [d] }
  | _ => none }
def flowsPacketsRow : OpenClaim := { program := "ythhpaedpnjdnbaagreatdoor", sum := "e811ea33acb9731ee0d1ad19a734bd517e6385303afededa61bfd7fd6ef52f18", func := "bitcast/bitcastlaw28.FlowsPackets", spec := "flowsPackets", unfollowed := true, recurses := true, named := ["bitcast/signal.first", "bitcast/signal.number", "bitcast/signal.zero", "bitcast/signal.group"], apart := false, laid := [("bitcast/signal.zero", laid_bitcast_signal_zero), ("bitcast/signal.number", laid_bitcast_signal_number), ("bitcast/signal.first", laid_bitcast_signal_first), ("bitcast/signal.group", laid_bitcast_signal_group)] }
def FlowsPacketsSaid : Prop := flowsPacketsRow.holds Tryz.pinned (OpenSpec.ofChange flowsPacketsSpec)

/-- ITS FALSE NEIGHBOUR: 'it returns false'. Refute it at one input. -/
def flowsPacketsWrong : ChangeSpec := { name := "flowsPackets", fn := fun _ => fun
  | [d] => { results := [.lit (.bool false)], args := [d] }
  | _ => none }
def FlowsPacketsWrongFalsely : Prop := flowsPacketsRow.holds Tryz.pinned (OpenSpec.ofChange flowsPacketsWrong)

/-- 'bitcastlaw28.FlowsAnswers': WHATEVER THE INPUT: true; the input reads as it did. -/
def flowsAnswersSpec : ChangeSpec := { name := "flowsAnswers", fn := fun _ => fun
  | [d1, d2, d3, d4, d5, d6] => { results := [.lit (.bool true)], args := [d1, d2, d3, d4, d5, d6] }
  | _ => none }
def flowsAnswersRow : OpenClaim := { program := "ythhpaedpnjdnbaagreatdoor", sum := "e811ea33acb9731ee0d1ad19a734bd517e6385303afededa61bfd7fd6ef52f18", func := "bitcast/bitcastlaw28.FlowsAnswers", spec := "flowsAnswers", unfollowed := true, recurses := true, named := ["bitcast/signal.first", "bitcast/signal.number", "bitcast/signal.zero", "bitcast/signal.group"], apart := false, laid := [("bitcast/signal.zero", laid_bitcast_signal_zero), ("bitcast/signal.number", laid_bitcast_signal_number), ("bitcast/signal.first", laid_bitcast_signal_first), ("bitcast/signal.group", laid_bitcast_signal_group)] }
def FlowsAnswersSaid : Prop := flowsAnswersRow.holds Tryz.pinned (OpenSpec.ofChange flowsAnswersSpec)

/-- ITS FALSE NEIGHBOUR: 'it returns false'. Refute it at one input. -/
def flowsAnswersWrong : ChangeSpec := { name := "flowsAnswers", fn := fun _ => fun
  | [d1, d2, d3, d4, d5, d6] => { results := [.lit (.bool false)], args := [d1, d2, d3, d4, d5, d6] }
  | _ => none }
def FlowsAnswersWrongFalsely : Prop := flowsAnswersRow.holds Tryz.pinned (OpenSpec.ofChange flowsAnswersWrong)

/- THE SECOND FORM. 'bulk': how many values and letters a reading holds, each counted each time it is reached (what is shared counts as often as it is met; a slice's spare places count too). A statement '..UptoSaid' is the law's where the arguments, and the package variables that the reading takes, are together of bulk at most 1048576: NARROWER than '..Said'. Prove '..Said' where nothing that the law and all that it calls make is longer than what came in: it says more and counts as full. Else prove '..UptoSaid'. A law counts once. -/
mutual
def uptoBulk {H : Type} : DataW H → Nat
  | .lit (.string bytes) => bytes.length + 1
  | .lit _ => 1
  | .nil => 1
  | .ptr d => uptoBulk d + 1
  | .slice elems spare => uptoBulkAll elems + uptoBulkAll spare + 1
  | .agg parts => uptoBulkAll parts + 1
  | .iface _ d => uptoBulk d + 1
  | .map entries => uptoBulkEntries entries + 1
  | .held _ => 1
def uptoBulkAll {H : Type} : List (DataW H) → Nat
  | [] => 0
  | d :: r => uptoBulk d + uptoBulkAll r
def uptoBulkEntries {H : Type} : List (Lit × DataW H) → Nat
  | [] => 0
  | x :: r => uptoBulkEntry x + uptoBulkEntries r
def uptoBulkEntry {H : Type} : Lit × DataW H → Nat
  | (.string bytes, d) => bytes.length + uptoBulk d + 1
  | (_, d) => uptoBulk d + 1
 end
def uptoSmall : (H : Type) → List (DataW H) → Bool := fun _ ds => decide (uptoBulkAll ds ≤ 1048576)
def OpenSpec.upto (s : _root_.Go.ChangeSpec) : _root_.Go.OpenSpec := { _root_.Go.OpenSpec.ofChange s with cond := some uptoSmall }

/-- 'bitcastlaw28.FlowsSettled', WHERE WHAT IT READS IS OF BULK AT MOST 1048576: true; the input reads as it did. -/
def flowsSettledUptoRow : OpenClaim := { program := "ythhpaedpnjdnbaagreatdoor", sum := "e811ea33acb9731ee0d1ad19a734bd517e6385303afededa61bfd7fd6ef52f18", func := "bitcast/bitcastlaw28.FlowsSettled", spec := "flowsSettled", unfollowed := true, recurses := true, named := ["bitcast/signal.first", "bitcast/signal.number", "bitcast/signal.zero", "bitcast/signal.group"], apart := false, laid := [("bitcast/signal.zero", laid_bitcast_signal_zero), ("bitcast/signal.number", laid_bitcast_signal_number), ("bitcast/signal.first", laid_bitcast_signal_first), ("bitcast/signal.group", laid_bitcast_signal_group)], narrowed := true }
def FlowsSettledUptoSaid : Prop := flowsSettledUptoRow.holds Tryz.pinned (OpenSpec.upto flowsSettledSpec)

/-- 'bitcastlaw28.FlowsPackets', WHERE WHAT IT READS IS OF BULK AT MOST 1048576: true; the input reads as it did. -/
def flowsPacketsUptoRow : OpenClaim := { program := "ythhpaedpnjdnbaagreatdoor", sum := "e811ea33acb9731ee0d1ad19a734bd517e6385303afededa61bfd7fd6ef52f18", func := "bitcast/bitcastlaw28.FlowsPackets", spec := "flowsPackets", unfollowed := true, recurses := true, named := ["bitcast/signal.first", "bitcast/signal.number", "bitcast/signal.zero", "bitcast/signal.group"], apart := false, laid := [("bitcast/signal.zero", laid_bitcast_signal_zero), ("bitcast/signal.number", laid_bitcast_signal_number), ("bitcast/signal.first", laid_bitcast_signal_first), ("bitcast/signal.group", laid_bitcast_signal_group)], narrowed := true }
def FlowsPacketsUptoSaid : Prop := flowsPacketsUptoRow.holds Tryz.pinned (OpenSpec.upto flowsPacketsSpec)

/-- 'bitcastlaw28.FlowsAnswers', WHERE WHAT IT READS IS OF BULK AT MOST 1048576: true; the input reads as it did. -/
def flowsAnswersUptoRow : OpenClaim := { program := "ythhpaedpnjdnbaagreatdoor", sum := "e811ea33acb9731ee0d1ad19a734bd517e6385303afededa61bfd7fd6ef52f18", func := "bitcast/bitcastlaw28.FlowsAnswers", spec := "flowsAnswers", unfollowed := true, recurses := true, named := ["bitcast/signal.first", "bitcast/signal.number", "bitcast/signal.zero", "bitcast/signal.group"], apart := false, laid := [("bitcast/signal.zero", laid_bitcast_signal_zero), ("bitcast/signal.number", laid_bitcast_signal_number), ("bitcast/signal.first", laid_bitcast_signal_first), ("bitcast/signal.group", laid_bitcast_signal_group)], narrowed := true }
def FlowsAnswersUptoSaid : Prop := flowsAnswersUptoRow.holds Tryz.pinned (OpenSpec.upto flowsAnswersSpec)

end Rows
end Go.Proofs.YthhpaedpnjdnbaaGreatDoor
