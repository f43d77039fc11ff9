/-
  No cell of these rows narrows 'for every input' (looked for: loops, veiled, ifaces, maps, wideKeys, modest, calm, conditions, laid).
  DERIVED. THE GIVEN ROWS OF THIS SEAT. 6 by the template 'for every input the law returns true; each argument reads behind the call as it read before'; 0 by the template 'total and deterministic' (their statements: YtaboolnmkfenlaaTotals.lean).
  GIVEN WITH THE SEED: the statements are not yours to turn. If you find one false, say at which input.
  Laid BY PROGRAM, IN A SANDBOX (cutbox-rows.mjs): the forced cells as the released guide's own fill.sh prints them over the translation c5e82748a757cc88… (all of the seat's roots in one cut). By AI agents, Wed Nov 11 2026. No macro, syntax, notation, axiom, sorry.
-/
import Derived.Test.YtaboolnmkfenlaaChecked
import GoSem.Claim
import GoSem.ClaimJoined
import GoSem.ClaimMapViews
import Derived.JoinedTies
import Derived.KernelRfl
namespace Go.Proofs.Ytaboolnmkfenlaa
/- THE CELL 'sum', in the pinned program and in every row, IS THE sha256 OF THE DUMP (.gsa) THAT YtaboolnmkfenlaaProg.lean LOADS. Nothing in Lean hashes anything: it is a label: what it is worth is what the hold of that sum in a sandbox is worth. -/
noncomputable def Try.pinned : Pinned := { name := "ytaboolnmkfenlaa", sum := "c5e82748a757cc884d522283ade23562f34422f83041edc0024f6e2acafde2c9", checked := Try.checked }
namespace Rows
def none {H : Type} : Left H := { results := [], args := [] }

/-- 'bitcastlaw28.FlowsBack': WHATEVER THE INPUT: true; the input reads as it did. -/
def flowsBackSpec : ChangeSpec := { name := "flowsBack", fn := fun _ => fun
  | [d1, d2] => { results := [.lit (.bool true)], args := [d1, d2] }
  | _ => none }
def flowsBackRow : OpenClaim := { program := "ytaboolnmkfenlaa", sum := "c5e82748a757cc884d522283ade23562f34422f83041edc0024f6e2acafde2c9", func := "bitcast/bitcastlaw28.FlowsBack", spec := "flowsBack", apart := false }
def FlowsBackSaid : Prop := flowsBackRow.holds Try.pinned (OpenSpec.ofChange flowsBackSpec)

/-- ITS FALSE NEIGHBOUR: 'it returns false'. Refute it at one input. -/
def flowsBackWrong : ChangeSpec := { name := "flowsBack", fn := fun _ => fun
  | [d1, d2] => { results := [.lit (.bool false)], args := [d1, d2] }
  | _ => none }
def FlowsBackWrongFalsely : Prop := flowsBackRow.holds Try.pinned (OpenSpec.ofChange flowsBackWrong)

/-- 'bitcastlaw23.MemberLimit': WHATEVER THE INPUT: true; the input reads as it did. -/
def memberLimitSpec : ChangeSpec := { name := "memberLimit", fn := fun _ => fun
  | [d1, d2] => { results := [.lit (.bool true)], args := [d1, d2] }
  | _ => none }
def memberLimitRow : OpenClaim := { program := "ytaboolnmkfenlaa", sum := "c5e82748a757cc884d522283ade23562f34422f83041edc0024f6e2acafde2c9", func := "bitcast/bitcastlaw23.MemberLimit", spec := "memberLimit", inPlace := ["slices.overlaps[bitcast/api.Member]"], unfollowed := true, recurses := true, apart := false }
def MemberLimitSaid : Prop := memberLimitRow.holds Try.pinned (OpenSpec.ofChange memberLimitSpec)

/-- ITS FALSE NEIGHBOUR: 'it returns false'. Refute it at one input. -/
def memberLimitWrong : ChangeSpec := { name := "memberLimit", fn := fun _ => fun
  | [d1, d2] => { results := [.lit (.bool false)], args := [d1, d2] }
  | _ => none }
def MemberLimitWrongFalsely : Prop := memberLimitRow.holds Try.pinned (OpenSpec.ofChange memberLimitWrong)

/-- 'bitcastlaw23.MemberOrder': WHATEVER THE INPUT: true; the input reads as it did. -/
def memberOrderSpec : ChangeSpec := { name := "memberOrder", fn := fun _ => fun
  | [d] => { results := [.lit (.bool true)], args := [d] }
  | _ => none }
def memberOrderRow : OpenClaim := { program := "ytaboolnmkfenlaa", sum := "c5e82748a757cc884d522283ade23562f34422f83041edc0024f6e2acafde2c9", func := "bitcast/bitcastlaw23.MemberOrder", spec := "memberOrder", inPlace := ["slices.overlaps[bitcast/api.Member]"], unfollowed := true, recurses := true, apart := false }
def MemberOrderSaid : Prop := memberOrderRow.holds Try.pinned (OpenSpec.ofChange memberOrderSpec)

/-- ITS FALSE NEIGHBOUR: 'it returns false'. Refute it at one input. -/
def memberOrderWrong : ChangeSpec := { name := "memberOrder", fn := fun _ => fun
  | [d] => { results := [.lit (.bool false)], args := [d] }
  | _ => none }
def MemberOrderWrongFalsely : Prop := memberOrderRow.holds Try.pinned (OpenSpec.ofChange memberOrderWrong)

/-- 'bitcastlaw23.MemberRobust': WHATEVER THE INPUT: true; the input reads as it did. -/
def memberRobustSpec : ChangeSpec := { name := "memberRobust", fn := fun _ => fun
  | [d1, d2] => { results := [.lit (.bool true)], args := [d1, d2] }
  | _ => none }
def memberRobustRow : OpenClaim := { program := "ytaboolnmkfenlaa", sum := "c5e82748a757cc884d522283ade23562f34422f83041edc0024f6e2acafde2c9", func := "bitcast/bitcastlaw23.MemberRobust", spec := "memberRobust", inPlace := ["slices.overlaps[bitcast/api.Member]"], unfollowed := true, recurses := true, apart := false }
def MemberRobustSaid : Prop := memberRobustRow.holds Try.pinned (OpenSpec.ofChange memberRobustSpec)

/-- ITS FALSE NEIGHBOUR: 'it returns false'. Refute it at one input. -/
def memberRobustWrong : ChangeSpec := { name := "memberRobust", fn := fun _ => fun
  | [d1, d2] => { results := [.lit (.bool false)], args := [d1, d2] }
  | _ => none }
def MemberRobustWrongFalsely : Prop := memberRobustRow.holds Try.pinned (OpenSpec.ofChange memberRobustWrong)

/-- 'bitcastlaw23.MemberLeaves': WHATEVER THE INPUT: true; the input reads as it did. -/
def memberLeavesSpec : ChangeSpec := { name := "memberLeaves", fn := fun _ => fun
  | [d] => { results := [.lit (.bool true)], args := [d] }
  | _ => none }
def memberLeavesRow : OpenClaim := { program := "ytaboolnmkfenlaa", sum := "c5e82748a757cc884d522283ade23562f34422f83041edc0024f6e2acafde2c9", func := "bitcast/bitcastlaw23.MemberLeaves", spec := "memberLeaves", inPlace := ["slices.overlaps[bitcast/api.Member]"], unfollowed := true, recurses := true, apart := false }
def MemberLeavesSaid : Prop := memberLeavesRow.holds Try.pinned (OpenSpec.ofChange memberLeavesSpec)

/-- ITS FALSE NEIGHBOUR: 'it returns false'. Refute it at one input. -/
def memberLeavesWrong : ChangeSpec := { name := "memberLeaves", fn := fun _ => fun
  | [d] => { results := [.lit (.bool false)], args := [d] }
  | _ => none }
def MemberLeavesWrongFalsely : Prop := memberLeavesRow.holds Try.pinned (OpenSpec.ofChange memberLeavesWrong)

/-- 'bitcastlaw23.MemberAnswers': WHATEVER THE INPUT: true; the input reads as it did. -/
def memberAnswersSpec : ChangeSpec := { name := "memberAnswers", fn := fun _ => fun
  | [d1, d2, d3, d4, d5, d6] => { results := [.lit (.bool true)], args := [d1, d2, d3, d4, d5, d6] }
  | _ => none }
def memberAnswersRow : OpenClaim := { program := "ytaboolnmkfenlaa", sum := "c5e82748a757cc884d522283ade23562f34422f83041edc0024f6e2acafde2c9", func := "bitcast/bitcastlaw23.MemberAnswers", spec := "memberAnswers", inPlace := ["slices.overlaps[bitcast/api.Member]"], unfollowed := true, recurses := true, apart := false }
def MemberAnswersSaid : Prop := memberAnswersRow.holds Try.pinned (OpenSpec.ofChange memberAnswersSpec)

/-- ITS FALSE NEIGHBOUR: 'it returns false'. Refute it at one input. -/
def memberAnswersWrong : ChangeSpec := { name := "memberAnswers", fn := fun _ => fun
  | [d1, d2, d3, d4, d5, d6] => { results := [.lit (.bool false)], args := [d1, d2, d3, d4, d5, d6] }
  | _ => none }
def MemberAnswersWrongFalsely : Prop := memberAnswersRow.holds Try.pinned (OpenSpec.ofChange memberAnswersWrong)

/- THE SECOND FORM. 'bulk': how many values and letters a reading holds, each counted each time it is reached (what is shared counts as often as it is met; a slice's spare places count too). A statement '..UptoSaid' is the law's where the arguments, and the package variables that the reading takes, are together of bulk at most 1048576: NARROWER than '..Said'. Prove '..Said' where nothing that the law and all that it calls make is longer than what came in: it says more and counts as full. Else prove '..UptoSaid'. A law counts once. -/
mutual
def uptoBulk {H : Type} : DataW H → Nat
  | .lit (.string bytes) => bytes.length + 1
  | .lit _ => 1
  | .nil => 1
  | .ptr d => uptoBulk d + 1
  | .slice elems spare => uptoBulkAll elems + uptoBulkAll spare + 1
  | .agg parts => uptoBulkAll parts + 1
  | .iface _ d => uptoBulk d + 1
  | .map entries => uptoBulkEntries entries + 1
  | .held _ => 1
def uptoBulkAll {H : Type} : List (DataW H) → Nat
  | [] => 0
  | d :: r => uptoBulk d + uptoBulkAll r
def uptoBulkEntries {H : Type} : List (Lit × DataW H) → Nat
  | [] => 0
  | x :: r => uptoBulkEntry x + uptoBulkEntries r
def uptoBulkEntry {H : Type} : Lit × DataW H → Nat
  | (.string bytes, d) => bytes.length + uptoBulk d + 1
  | (_, d) => uptoBulk d + 1
 end
def uptoSmall : (H : Type) → List (DataW H) → Bool := fun _ ds => decide (uptoBulkAll ds ≤ 1048576)
def OpenSpec.upto (s : _root_.Go.ChangeSpec) : _root_.Go.OpenSpec := { _root_.Go.OpenSpec.ofChange s with cond := some uptoSmall }

/-- 'bitcastlaw28.FlowsBack', WHERE WHAT IT READS IS OF BULK AT MOST 1048576: true; the input reads as it did. -/
def flowsBackUptoRow : OpenClaim := { program := "ytaboolnmkfenlaa", sum := "c5e82748a757cc884d522283ade23562f34422f83041edc0024f6e2acafde2c9", func := "bitcast/bitcastlaw28.FlowsBack", spec := "flowsBack", apart := false, narrowed := true }
def FlowsBackUptoSaid : Prop := flowsBackUptoRow.holds Try.pinned (OpenSpec.upto flowsBackSpec)

/-- 'bitcastlaw23.MemberLimit', WHERE WHAT IT READS IS OF BULK AT MOST 1048576: true; the input reads as it did. -/
def memberLimitUptoRow : OpenClaim := { program := "ytaboolnmkfenlaa", sum := "c5e82748a757cc884d522283ade23562f34422f83041edc0024f6e2acafde2c9", func := "bitcast/bitcastlaw23.MemberLimit", spec := "memberLimit", inPlace := ["slices.overlaps[bitcast/api.Member]"], unfollowed := true, recurses := true, apart := false, narrowed := true }
def MemberLimitUptoSaid : Prop := memberLimitUptoRow.holds Try.pinned (OpenSpec.upto memberLimitSpec)

/-- 'bitcastlaw23.MemberOrder', WHERE WHAT IT READS IS OF BULK AT MOST 1048576: true; the input reads as it did. -/
def memberOrderUptoRow : OpenClaim := { program := "ytaboolnmkfenlaa", sum := "c5e82748a757cc884d522283ade23562f34422f83041edc0024f6e2acafde2c9", func := "bitcast/bitcastlaw23.MemberOrder", spec := "memberOrder", inPlace := ["slices.overlaps[bitcast/api.Member]"], unfollowed := true, recurses := true, apart := false, narrowed := true }
def MemberOrderUptoSaid : Prop := memberOrderUptoRow.holds Try.pinned (OpenSpec.upto memberOrderSpec)

/-- 'bitcastlaw23.MemberRobust', WHERE WHAT IT READS IS OF BULK AT MOST 1048576: true; the input reads as it did. -/
def memberRobustUptoRow : OpenClaim := { program := "ytaboolnmkfenlaa", sum := "c5e82748a757cc884d522283ade23562f34422f83041edc0024f6e2acafde2c9", func := "bitcast/bitcastlaw23.MemberRobust", spec := "memberRobust", inPlace := ["slices.overlaps[bitcast/api.Member]"], unfollowed := true, recurses := true, apart := false, narrowed := true }
def MemberRobustUptoSaid : Prop := memberRobustUptoRow.holds Try.pinned (OpenSpec.upto memberRobustSpec)

/-- 'bitcastlaw23.MemberLeaves', WHERE WHAT IT READS IS OF BULK AT MOST 1048576: true; the input reads as it did. -/
def memberLeavesUptoRow : OpenClaim := { program := "ytaboolnmkfenlaa", sum := "c5e82748a757cc884d522283ade23562f34422f83041edc0024f6e2acafde2c9", func := "bitcast/bitcastlaw23.MemberLeaves", spec := "memberLeaves", inPlace := ["slices.overlaps[bitcast/api.Member]"], unfollowed := true, recurses := true, apart := false, narrowed := true }
def MemberLeavesUptoSaid : Prop := memberLeavesUptoRow.holds Try.pinned (OpenSpec.upto memberLeavesSpec)

/-- 'bitcastlaw23.MemberAnswers', WHERE WHAT IT READS IS OF BULK AT MOST 1048576: true; the input reads as it did. -/
def memberAnswersUptoRow : OpenClaim := { program := "ytaboolnmkfenlaa", sum := "c5e82748a757cc884d522283ade23562f34422f83041edc0024f6e2acafde2c9", func := "bitcast/bitcastlaw23.MemberAnswers", spec := "memberAnswers", inPlace := ["slices.overlaps[bitcast/api.Member]"], unfollowed := true, recurses := true, apart := false, narrowed := true }
def MemberAnswersUptoSaid : Prop := memberAnswersUptoRow.holds Try.pinned (OpenSpec.upto memberAnswersSpec)

end Rows
end Go.Proofs.Ytaboolnmkfenlaa
