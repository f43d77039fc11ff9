/-
  No cell of these rows narrows 'for every input' (looked for: loops, veiled, ifaces, maps, wideKeys, modest, calm, conditions, laid).
  DERIVED. THE GIVEN ROWS OF THIS SEAT. 4 by the template 'for every input the law returns true; each argument reads behind the call as it read before'; 0 by the template 'total and deterministic' (their statements: YtdoacjojljgdcaaGreatTotals.lean).
  GIVEN WITH THE SEED: the statements are not yours to turn. If you find one false, say at which input.
  Laid BY PROGRAM, IN A SANDBOX (cutbox-rows.mjs): the forced cells as the released guide's own fill.sh prints them over the translation b0007afd6e8551d8… (all of the seat's roots in one cut). By AI agents, Wed Nov 11 2026. No macro, syntax, notation, axiom, sorry.
-/
import Derived.Test.YtdoacjojljgdcaaGreatChecked
import GoSem.Claim
import GoSem.ClaimJoined
import GoSem.ClaimMapViews
import Derived.JoinedTies
import Derived.KernelRfl
namespace Go.Proofs.YtdoacjojljgdcaaGreat
/- THE CELL 'sum', in the pinned program and in every row, IS THE sha256 OF THE DUMP (.gsa) THAT YtdoacjojljgdcaaGreatProg.lean LOADS. Nothing in Lean hashes anything: it is a label: what it is worth is what the hold of that sum in a sandbox is worth. -/
noncomputable def Tryz.pinned : Pinned := { name := "ytdoacjojljgdcaagreat", sum := "b0007afd6e8551d80c99b89078a1ffc0d5ccb52b8833350fd007f89218d6cc5a", checked := Tryz.checked }
namespace Rows
def none {H : Type} : Left H := { results := [], args := [] }

/-- 'bitcastlaw18.TransitionRanks': WHATEVER THE INPUT: true; the input reads as it did. -/
def transitionRanksSpec : ChangeSpec := { name := "transitionRanks", fn := fun _ => fun
  | [d1, d2] => { results := [.lit (.bool true)], args := [d1, d2] }
  | _ => none }
def transitionRanksRow : OpenClaim := { program := "ytdoacjojljgdcaagreat", sum := "b0007afd6e8551d80c99b89078a1ffc0d5ccb52b8833350fd007f89218d6cc5a", func := "bitcast/bitcastlaw18.TransitionRanks", spec := "transitionRanks", inPlace := ["slices.overlaps[bitcast/api.Link]"], unfollowed := true, recurses := true, plainKeys := false, apart := false }
def TransitionRanksSaid : Prop := transitionRanksRow.holds Tryz.pinned (OpenSpec.ofChange transitionRanksSpec)

/-- ITS FALSE NEIGHBOUR: 'it returns false'. Refute it at one input. -/
def transitionRanksWrong : ChangeSpec := { name := "transitionRanks", fn := fun _ => fun
  | [d1, d2] => { results := [.lit (.bool false)], args := [d1, d2] }
  | _ => none }
def TransitionRanksWrongFalsely : Prop := transitionRanksRow.holds Tryz.pinned (OpenSpec.ofChange transitionRanksWrong)

/-- 'bitcastlaw18.TransitionKeeps': WHATEVER THE INPUT: true; the input reads as it did. -/
def transitionKeepsSpec : ChangeSpec := { name := "transitionKeeps", fn := fun _ => fun
  | [d] => { results := [.lit (.bool true)], args := [d] }
  | _ => none }
def transitionKeepsRow : OpenClaim := { program := "ytdoacjojljgdcaagreat", sum := "b0007afd6e8551d80c99b89078a1ffc0d5ccb52b8833350fd007f89218d6cc5a", func := "bitcast/bitcastlaw18.TransitionKeeps", spec := "transitionKeeps", inPlace := ["slices.overlaps[bitcast/api.Link]"], unfollowed := true, recurses := true, plainKeys := false, apart := false }
def TransitionKeepsSaid : Prop := transitionKeepsRow.holds Tryz.pinned (OpenSpec.ofChange transitionKeepsSpec)

/-- ITS FALSE NEIGHBOUR: 'it returns false'. Refute it at one input. -/
def transitionKeepsWrong : ChangeSpec := { name := "transitionKeeps", fn := fun _ => fun
  | [d] => { results := [.lit (.bool false)], args := [d] }
  | _ => none }
def TransitionKeepsWrongFalsely : Prop := transitionKeepsRow.holds Tryz.pinned (OpenSpec.ofChange transitionKeepsWrong)

/-- 'bitcastlaw18.TransitionSafe': WHATEVER THE INPUT: true; the input reads as it did. -/
def transitionSafeSpec : ChangeSpec := { name := "transitionSafe", fn := fun _ => fun
  | [d] => { results := [.lit (.bool true)], args := [d] }
  | _ => none }
def transitionSafeRow : OpenClaim := { program := "ytdoacjojljgdcaagreat", sum := "b0007afd6e8551d80c99b89078a1ffc0d5ccb52b8833350fd007f89218d6cc5a", func := "bitcast/bitcastlaw18.TransitionSafe", spec := "transitionSafe", inPlace := ["slices.overlaps[bitcast/api.Link]"], unfollowed := true, recurses := true, plainKeys := false, apart := false }
def TransitionSafeSaid : Prop := transitionSafeRow.holds Tryz.pinned (OpenSpec.ofChange transitionSafeSpec)

/-- ITS FALSE NEIGHBOUR: 'it returns false'. Refute it at one input. -/
def transitionSafeWrong : ChangeSpec := { name := "transitionSafe", fn := fun _ => fun
  | [d] => { results := [.lit (.bool false)], args := [d] }
  | _ => none }
def TransitionSafeWrongFalsely : Prop := transitionSafeRow.holds Tryz.pinned (OpenSpec.ofChange transitionSafeWrong)

/-- 'bitcastlaw18.TransitionMixes': WHATEVER THE INPUT: true; the input reads as it did. -/
def transitionMixesSpec : ChangeSpec := { name := "transitionMixes", fn := fun _ => fun
  | [d1, d2, d3, d4] => { results := [.lit (.bool true)], args := [d1, d2, d3, d4] }
  | _ => none }
def transitionMixesRow : OpenClaim := { program := "ytdoacjojljgdcaagreat", sum := "b0007afd6e8551d80c99b89078a1ffc0d5ccb52b8833350fd007f89218d6cc5a", func := "bitcast/bitcastlaw18.TransitionMixes", spec := "transitionMixes", inPlace := ["slices.overlaps[bitcast/api.Link]"], unfollowed := true, recurses := true, plainKeys := false, apart := false }
def TransitionMixesSaid : Prop := transitionMixesRow.holds Tryz.pinned (OpenSpec.ofChange transitionMixesSpec)

/-- ITS FALSE NEIGHBOUR: 'it returns false'. Refute it at one input. -/
def transitionMixesWrong : ChangeSpec := { name := "transitionMixes", fn := fun _ => fun
  | [d1, d2, d3, d4] => { results := [.lit (.bool false)], args := [d1, d2, d3, d4] }
  | _ => none }
def TransitionMixesWrongFalsely : Prop := transitionMixesRow.holds Tryz.pinned (OpenSpec.ofChange transitionMixesWrong)

/- THE SECOND FORM. 'bulk': how many values and letters a reading holds, each counted each time it is reached (what is shared counts as often as it is met; a slice's spare places count too). A statement '..UptoSaid' is the law's where the arguments, and the package variables that the reading takes, are together of bulk at most 1048576: NARROWER than '..Said'. Prove '..Said' where nothing that the law and all that it calls make is longer than what came in: it says more and counts as full. Else prove '..UptoSaid'. A law counts once. -/
mutual
def uptoBulk {H : Type} : DataW H → Nat
  | .lit (.string bytes) => bytes.length + 1
  | .lit _ => 1
  | .nil => 1
  | .ptr d => uptoBulk d + 1
  | .slice elems spare => uptoBulkAll elems + uptoBulkAll spare + 1
  | .agg parts => uptoBulkAll parts + 1
  | .iface _ d => uptoBulk d + 1
  | .map entries => uptoBulkEntries entries + 1
  | .held _ => 1
def uptoBulkAll {H : Type} : List (DataW H) → Nat
  | [] => 0
  | d :: r => uptoBulk d + uptoBulkAll r
def uptoBulkEntries {H : Type} : List (Lit × DataW H) → Nat
  | [] => 0
  | x :: r => uptoBulkEntry x + uptoBulkEntries r
def uptoBulkEntry {H : Type} : Lit × DataW H → Nat
  | (.string bytes, d) => bytes.length + uptoBulk d + 1
  | (_, d) => uptoBulk d + 1
 end
def uptoSmall : (H : Type) → List (DataW H) → Bool := fun _ ds => decide (uptoBulkAll ds ≤ 1048576)
def OpenSpec.upto (s : _root_.Go.ChangeSpec) : _root_.Go.OpenSpec := { _root_.Go.OpenSpec.ofChange s with cond := some uptoSmall }

/-- 'bitcastlaw18.TransitionRanks', WHERE WHAT IT READS IS OF BULK AT MOST 1048576: true; the input reads as it did. -/
def transitionRanksUptoRow : OpenClaim := { program := "ytdoacjojljgdcaagreat", sum := "b0007afd6e8551d80c99b89078a1ffc0d5ccb52b8833350fd007f89218d6cc5a", func := "bitcast/bitcastlaw18.TransitionRanks", spec := "transitionRanks", inPlace := ["slices.overlaps[bitcast/api.Link]"], unfollowed := true, recurses := true, plainKeys := false, apart := false, narrowed := true }
def TransitionRanksUptoSaid : Prop := transitionRanksUptoRow.holds Tryz.pinned (OpenSpec.upto transitionRanksSpec)

/-- 'bitcastlaw18.TransitionKeeps', WHERE WHAT IT READS IS OF BULK AT MOST 1048576: true; the input reads as it did. -/
def transitionKeepsUptoRow : OpenClaim := { program := "ytdoacjojljgdcaagreat", sum := "b0007afd6e8551d80c99b89078a1ffc0d5ccb52b8833350fd007f89218d6cc5a", func := "bitcast/bitcastlaw18.TransitionKeeps", spec := "transitionKeeps", inPlace := ["slices.overlaps[bitcast/api.Link]"], unfollowed := true, recurses := true, plainKeys := false, apart := false, narrowed := true }
def TransitionKeepsUptoSaid : Prop := transitionKeepsUptoRow.holds Tryz.pinned (OpenSpec.upto transitionKeepsSpec)

/-- 'bitcastlaw18.TransitionSafe', WHERE WHAT IT READS IS OF BULK AT MOST 1048576: true; the input reads as it did. -/
def transitionSafeUptoRow : OpenClaim := { program := "ytdoacjojljgdcaagreat", sum := "b0007afd6e8551d80c99b89078a1ffc0d5ccb52b8833350fd007f89218d6cc5a", func := "bitcast/bitcastlaw18.TransitionSafe", spec := "transitionSafe", inPlace := ["slices.overlaps[bitcast/api.Link]"], unfollowed := true, recurses := true, plainKeys := false, apart := false, narrowed := true }
def TransitionSafeUptoSaid : Prop := transitionSafeUptoRow.holds Tryz.pinned (OpenSpec.upto transitionSafeSpec)

/-- 'bitcastlaw18.TransitionMixes', WHERE WHAT IT READS IS OF BULK AT MOST 1048576: true; the input reads as it did. -/
def transitionMixesUptoRow : OpenClaim := { program := "ytdoacjojljgdcaagreat", sum := "b0007afd6e8551d80c99b89078a1ffc0d5ccb52b8833350fd007f89218d6cc5a", func := "bitcast/bitcastlaw18.TransitionMixes", spec := "transitionMixes", inPlace := ["slices.overlaps[bitcast/api.Link]"], unfollowed := true, recurses := true, plainKeys := false, apart := false, narrowed := true }
def TransitionMixesUptoSaid : Prop := transitionMixesUptoRow.holds Tryz.pinned (OpenSpec.upto transitionMixesSpec)

end Rows
end Go.Proofs.YtdoacjojljgdcaaGreat
