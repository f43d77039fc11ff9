/-
  No cell of these rows narrows 'for every input' (looked for: loops, veiled, ifaces, maps, wideKeys, modest, calm, conditions, laid).
  DERIVED. THE GIVEN ROWS OF THIS SEAT. 3 by the template 'for every input the law returns true; each argument reads behind the call as it read before'; 0 by the template 'total and deterministic' (their statements: YtiobpjoadkfhdaaGreatTotals.lean).
  GIVEN WITH THE SEED: the statements are not yours to turn. If you find one false, say at which input.
  Laid BY PROGRAM, IN A SANDBOX (cutbox-rows.mjs): the forced cells as the released guide's own fill.sh prints them over the translation f5609ca32c4dda7b… (all of the seat's roots in one cut). By AI agents, Wed Nov 11 2026. No macro, syntax, notation, axiom, sorry.
-/
import Derived.Test.YtiobpjoadkfhdaaGreatChecked
import GoSem.Claim
import GoSem.ClaimJoined
import GoSem.ClaimMapViews
import Derived.JoinedTies
import Derived.KernelRfl
namespace Go.Proofs.YtiobpjoadkfhdaaGreat
/- THE CELL 'sum', in the pinned program and in every row, IS THE sha256 OF THE DUMP (.gsa) THAT YtiobpjoadkfhdaaGreatProg.lean LOADS. Nothing in Lean hashes anything: it is a label: what it is worth is what the hold of that sum in a sandbox is worth. -/
noncomputable def Tryz.pinned : Pinned := { name := "ytiobpjoadkfhdaagreat", sum := "f5609ca32c4dda7ba873764bb47ebe50c2c3546df405be013f7aa7b30e770a08", checked := Tryz.checked }
namespace Rows
def none {H : Type} : Left H := { results := [], args := [] }

/-- 'bitcastlaw18.TransitionMixes': WHATEVER THE INPUT: true; the input reads as it did. -/
def transitionMixesSpec : ChangeSpec := { name := "transitionMixes", fn := fun _ => fun
  | [d1, d2, d3, d4] => { results := [.lit (.bool true)], args := [d1, d2, d3, d4] }
  | _ => none }
def transitionMixesRow : OpenClaim := { program := "ytiobpjoadkfhdaagreat", sum := "f5609ca32c4dda7ba873764bb47ebe50c2c3546df405be013f7aa7b30e770a08", func := "bitcast/bitcastlaw18.TransitionMixes", spec := "transitionMixes", inPlace := ["slices.overlaps[bitcast/api.Link]"], unfollowed := true, recurses := true, plainKeys := false, apart := false }
def TransitionMixesSaid : Prop := transitionMixesRow.holds Tryz.pinned (OpenSpec.ofChange transitionMixesSpec)

/-- ITS FALSE NEIGHBOUR: 'it returns false'. Refute it at one input. -/
def transitionMixesWrong : ChangeSpec := { name := "transitionMixes", fn := fun _ => fun
  | [d1, d2, d3, d4] => { results := [.lit (.bool false)], args := [d1, d2, d3, d4] }
  | _ => none }
def TransitionMixesWrongFalsely : Prop := transitionMixesRow.holds Tryz.pinned (OpenSpec.ofChange transitionMixesWrong)

/-- 'bitcastlaw21.RecoveryLoses': WHATEVER THE INPUT: true; the input reads as it did. -/
def recoveryLosesSpec : ChangeSpec := { name := "recoveryLoses", fn := fun _ => fun
  | [d] => { results := [.lit (.bool true)], args := [d] }
  | _ => none }
def recoveryLosesRow : OpenClaim := { program := "ytiobpjoadkfhdaagreat", sum := "f5609ca32c4dda7ba873764bb47ebe50c2c3546df405be013f7aa7b30e770a08", func := "bitcast/bitcastlaw21.RecoveryLoses", spec := "recoveryLoses", inPlace := ["slices.overlaps[bitcast/api.Link]"], unfollowed := true, recurses := true, plainKeys := false, apart := false }
def RecoveryLosesSaid : Prop := recoveryLosesRow.holds Tryz.pinned (OpenSpec.ofChange recoveryLosesSpec)

/-- ITS FALSE NEIGHBOUR: 'it returns false'. Refute it at one input. -/
def recoveryLosesWrong : ChangeSpec := { name := "recoveryLoses", fn := fun _ => fun
  | [d] => { results := [.lit (.bool false)], args := [d] }
  | _ => none }
def RecoveryLosesWrongFalsely : Prop := recoveryLosesRow.holds Tryz.pinned (OpenSpec.ofChange recoveryLosesWrong)

/-- 'bitcastlaw21.RecoveryTables': WHATEVER THE INPUT: true; the input reads as it did. -/
def recoveryTablesSpec : ChangeSpec := { name := "recoveryTables", fn := fun _ => fun
  | [d1, d2, d3] => { results := [.lit (.bool true)], args := [d1, d2, d3] }
  | _ => none }
def recoveryTablesRow : OpenClaim := { program := "ytiobpjoadkfhdaagreat", sum := "f5609ca32c4dda7ba873764bb47ebe50c2c3546df405be013f7aa7b30e770a08", func := "bitcast/bitcastlaw21.RecoveryTables", spec := "recoveryTables", inPlace := ["slices.overlaps[bitcast/api.Link]"], unfollowed := true, recurses := true, plainKeys := false, apart := false }
def RecoveryTablesSaid : Prop := recoveryTablesRow.holds Tryz.pinned (OpenSpec.ofChange recoveryTablesSpec)

/-- ITS FALSE NEIGHBOUR: 'it returns false'. Refute it at one input. -/
def recoveryTablesWrong : ChangeSpec := { name := "recoveryTables", fn := fun _ => fun
  | [d1, d2, d3] => { results := [.lit (.bool false)], args := [d1, d2, d3] }
  | _ => none }
def RecoveryTablesWrongFalsely : Prop := recoveryTablesRow.holds Tryz.pinned (OpenSpec.ofChange recoveryTablesWrong)

/- THE SECOND FORM. 'bulk': how many values and letters a reading holds, each counted each time it is reached (what is shared counts as often as it is met; a slice's spare places count too). A statement '..UptoSaid' is the law's where the arguments, and the package variables that the reading takes, are together of bulk at most 1048576: NARROWER than '..Said'. Prove '..Said' where nothing that the law and all that it calls make is longer than what came in: it says more and counts as full. Else prove '..UptoSaid'. A law counts once. -/
mutual
def uptoBulk {H : Type} : DataW H → Nat
  | .lit (.string bytes) => bytes.length + 1
  | .lit _ => 1
  | .nil => 1
  | .ptr d => uptoBulk d + 1
  | .slice elems spare => uptoBulkAll elems + uptoBulkAll spare + 1
  | .agg parts => uptoBulkAll parts + 1
  | .iface _ d => uptoBulk d + 1
  | .map entries => uptoBulkEntries entries + 1
  | .held _ => 1
def uptoBulkAll {H : Type} : List (DataW H) → Nat
  | [] => 0
  | d :: r => uptoBulk d + uptoBulkAll r
def uptoBulkEntries {H : Type} : List (Lit × DataW H) → Nat
  | [] => 0
  | x :: r => uptoBulkEntry x + uptoBulkEntries r
def uptoBulkEntry {H : Type} : Lit × DataW H → Nat
  | (.string bytes, d) => bytes.length + uptoBulk d + 1
  | (_, d) => uptoBulk d + 1
 end
def uptoSmall : (H : Type) → List (DataW H) → Bool := fun _ ds => decide (uptoBulkAll ds ≤ 1048576)
def OpenSpec.upto (s : _root_.Go.ChangeSpec) : _root_.Go.OpenSpec := { _root_.Go.OpenSpec.ofChange s with cond := some uptoSmall }

/-- 'bitcastlaw18.TransitionMixes', WHERE WHAT IT READS IS OF BULK AT MOST 1048576: true; the input reads as it did. -/
def transitionMixesUptoRow : OpenClaim := { program := "ytiobpjoadkfhdaagreat", sum := "f5609ca32c4dda7ba873764bb47ebe50c2c3546df405be013f7aa7b30e770a08", func := "bitcast/bitcastlaw18.TransitionMixes", spec := "transitionMixes", inPlace := ["slices.overlaps[bitcast/api.Link]"], unfollowed := true, recurses := true, plainKeys := false, apart := false, narrowed := true }
def TransitionMixesUptoSaid : Prop := transitionMixesUptoRow.holds Tryz.pinned (OpenSpec.upto transitionMixesSpec)

/-- 'bitcastlaw21.RecoveryLoses', WHERE WHAT IT READS IS OF BULK AT MOST 1048576: true; the input reads as it did. -/
def recoveryLosesUptoRow : OpenClaim := { program := "ytiobpjoadkfhdaagreat", sum := "f5609ca32c4dda7ba873764bb47ebe50c2c3546df405be013f7aa7b30e770a08", func := "bitcast/bitcastlaw21.RecoveryLoses", spec := "recoveryLoses", inPlace := ["slices.overlaps[bitcast/api.Link]"], unfollowed := true, recurses := true, plainKeys := false, apart := false, narrowed := true }
def RecoveryLosesUptoSaid : Prop := recoveryLosesUptoRow.holds Tryz.pinned (OpenSpec.upto recoveryLosesSpec)

/-- 'bitcastlaw21.RecoveryTables', WHERE WHAT IT READS IS OF BULK AT MOST 1048576: true; the input reads as it did. -/
def recoveryTablesUptoRow : OpenClaim := { program := "ytiobpjoadkfhdaagreat", sum := "f5609ca32c4dda7ba873764bb47ebe50c2c3546df405be013f7aa7b30e770a08", func := "bitcast/bitcastlaw21.RecoveryTables", spec := "recoveryTables", inPlace := ["slices.overlaps[bitcast/api.Link]"], unfollowed := true, recurses := true, plainKeys := false, apart := false, narrowed := true }
def RecoveryTablesUptoSaid : Prop := recoveryTablesUptoRow.holds Tryz.pinned (OpenSpec.upto recoveryTablesSpec)

end Rows
end Go.Proofs.YtiobpjoadkfhdaaGreat
