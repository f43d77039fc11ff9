/-
  No cell of these rows narrows 'for every input' (looked for: loops, veiled, ifaces, maps, wideKeys, modest, calm, conditions, laid).
  DERIVED. THE GIVEN ROWS OF THIS SEAT. 3 by the template 'for every input the law returns true; each argument reads behind the call as it read before'; 0 by the template 'total and deterministic' (their statements: YteooglpnechplaaGreatTotals.lean).
  GIVEN WITH THE SEED: the statements are not yours to turn. If you find one false, say at which input.
  Laid BY PROGRAM, IN A SANDBOX (cutbox-rows.mjs): the forced cells as the released guide's own fill.sh prints them over the translation 1a8097739aa77ce8… (all of the seat's roots in one cut). By AI agents, Wed Nov 11 2026. No macro, syntax, notation, axiom, sorry.
-/
import Derived.Test.YteooglpnechplaaGreatChecked
import GoSem.Claim
import GoSem.ClaimJoined
import GoSem.ClaimMapViews
import Derived.JoinedTies
import Derived.KernelRfl
namespace Go.Proofs.YteooglpnechplaaGreat
/- THE CELL 'sum', in the pinned program and in every row, IS THE sha256 OF THE DUMP (.gsa) THAT YteooglpnechplaaGreatProg.lean LOADS. Nothing in Lean hashes anything: it is a label: what it is worth is what the hold of that sum in a sandbox is worth. -/
noncomputable def Tryz.pinned : Pinned := { name := "yteooglpnechplaagreat", sum := "1a8097739aa77ce8efd1151492e647b885c894bfe543db85b9de10df87491010", checked := Tryz.checked }
namespace Rows
def none {H : Type} : Left H := { results := [], args := [] }

/-- 'bitcastlaw20.ProtectDetours': WHATEVER THE INPUT: true; the input reads as it did. -/
def protectDetoursSpec : ChangeSpec := { name := "protectDetours", fn := fun _ => fun
  | [d1, d2, d3, d4] => { results := [.lit (.bool true)], args := [d1, d2, d3, d4] }
  | _ => none }
def protectDetoursRow : OpenClaim := { program := "yteooglpnechplaagreat", sum := "1a8097739aa77ce8efd1151492e647b885c894bfe543db85b9de10df87491010", func := "bitcast/bitcastlaw20.ProtectDetours", spec := "protectDetours", unfollowed := true, recurses := true, apart := false }
def ProtectDetoursSaid : Prop := protectDetoursRow.holds Tryz.pinned (OpenSpec.ofChange protectDetoursSpec)

/-- ITS FALSE NEIGHBOUR: 'it returns false'. Refute it at one input. -/
def protectDetoursWrong : ChangeSpec := { name := "protectDetours", fn := fun _ => fun
  | [d1, d2, d3, d4] => { results := [.lit (.bool false)], args := [d1, d2, d3, d4] }
  | _ => none }
def ProtectDetoursWrongFalsely : Prop := protectDetoursRow.holds Tryz.pinned (OpenSpec.ofChange protectDetoursWrong)

/-- 'bitcastlaw20.ProtectReaches': WHATEVER THE INPUT: true; the input reads as it did. -/
def protectReachesSpec : ChangeSpec := { name := "protectReaches", fn := fun _ => fun
  | [d] => { results := [.lit (.bool true)], args := [d] }
  | _ => none }
def protectReachesRow : OpenClaim := { program := "yteooglpnechplaagreat", sum := "1a8097739aa77ce8efd1151492e647b885c894bfe543db85b9de10df87491010", func := "bitcast/bitcastlaw20.ProtectReaches", spec := "protectReaches", unfollowed := true, recurses := true, apart := false }
def ProtectReachesSaid : Prop := protectReachesRow.holds Tryz.pinned (OpenSpec.ofChange protectReachesSpec)

/-- ITS FALSE NEIGHBOUR: 'it returns false'. Refute it at one input. -/
def protectReachesWrong : ChangeSpec := { name := "protectReaches", fn := fun _ => fun
  | [d] => { results := [.lit (.bool false)], args := [d] }
  | _ => none }
def ProtectReachesWrongFalsely : Prop := protectReachesRow.holds Tryz.pinned (OpenSpec.ofChange protectReachesWrong)

/-- 'bitcastlaw20.ProtectKnows': WHATEVER THE INPUT: true; the input reads as it did. -/
def protectKnowsSpec : ChangeSpec := { name := "protectKnows", fn := fun _ => fun
  | [d1, d2, d3] => { results := [.lit (.bool true)], args := [d1, d2, d3] }
  | _ => none }
def protectKnowsRow : OpenClaim := { program := "yteooglpnechplaagreat", sum := "1a8097739aa77ce8efd1151492e647b885c894bfe543db85b9de10df87491010", func := "bitcast/bitcastlaw20.ProtectKnows", spec := "protectKnows", unfollowed := true, recurses := true, apart := false }
def ProtectKnowsSaid : Prop := protectKnowsRow.holds Tryz.pinned (OpenSpec.ofChange protectKnowsSpec)

/-- ITS FALSE NEIGHBOUR: 'it returns false'. Refute it at one input. -/
def protectKnowsWrong : ChangeSpec := { name := "protectKnows", fn := fun _ => fun
  | [d1, d2, d3] => { results := [.lit (.bool false)], args := [d1, d2, d3] }
  | _ => none }
def ProtectKnowsWrongFalsely : Prop := protectKnowsRow.holds Tryz.pinned (OpenSpec.ofChange protectKnowsWrong)

/- THE SECOND FORM. 'bulk': how many values and letters a reading holds, each counted each time it is reached (what is shared counts as often as it is met; a slice's spare places count too). A statement '..UptoSaid' is the law's where the arguments, and the package variables that the reading takes, are together of bulk at most 1048576: NARROWER than '..Said'. Prove '..Said' where nothing that the law and all that it calls make is longer than what came in: it says more and counts as full. Else prove '..UptoSaid'. A law counts once. -/
mutual
def uptoBulk {H : Type} : DataW H → Nat
  | .lit (.string bytes) => bytes.length + 1
  | .lit _ => 1
  | .nil => 1
  | .ptr d => uptoBulk d + 1
  | .slice elems spare => uptoBulkAll elems + uptoBulkAll spare + 1
  | .agg parts => uptoBulkAll parts + 1
  | .iface _ d => uptoBulk d + 1
  | .map entries => uptoBulkEntries entries + 1
  | .held _ => 1
def uptoBulkAll {H : Type} : List (DataW H) → Nat
  | [] => 0
  | d :: r => uptoBulk d + uptoBulkAll r
def uptoBulkEntries {H : Type} : List (Lit × DataW H) → Nat
  | [] => 0
  | x :: r => uptoBulkEntry x + uptoBulkEntries r
def uptoBulkEntry {H : Type} : Lit × DataW H → Nat
  | (.string bytes, d) => bytes.length + uptoBulk d + 1
  | (_, d) => uptoBulk d + 1
 end
def uptoSmall : (H : Type) → List (DataW H) → Bool := fun _ ds => decide (uptoBulkAll ds ≤ 1048576)
def OpenSpec.upto (s : _root_.Go.ChangeSpec) : _root_.Go.OpenSpec := { _root_.Go.OpenSpec.ofChange s with cond := some uptoSmall }

/-- 'bitcastlaw20.ProtectDetours', WHERE WHAT IT READS IS OF BULK AT MOST 1048576: true; the input reads as it did. -/
def protectDetoursUptoRow : OpenClaim := { program := "yteooglpnechplaagreat", sum := "1a8097739aa77ce8efd1151492e647b885c894bfe543db85b9de10df87491010", func := "bitcast/bitcastlaw20.ProtectDetours", spec := "protectDetours", unfollowed := true, recurses := true, apart := false, narrowed := true }
def ProtectDetoursUptoSaid : Prop := protectDetoursUptoRow.holds Tryz.pinned (OpenSpec.upto protectDetoursSpec)

/-- 'bitcastlaw20.ProtectReaches', WHERE WHAT IT READS IS OF BULK AT MOST 1048576: true; the input reads as it did. -/
def protectReachesUptoRow : OpenClaim := { program := "yteooglpnechplaagreat", sum := "1a8097739aa77ce8efd1151492e647b885c894bfe543db85b9de10df87491010", func := "bitcast/bitcastlaw20.ProtectReaches", spec := "protectReaches", unfollowed := true, recurses := true, apart := false, narrowed := true }
def ProtectReachesUptoSaid : Prop := protectReachesUptoRow.holds Tryz.pinned (OpenSpec.upto protectReachesSpec)

/-- 'bitcastlaw20.ProtectKnows', WHERE WHAT IT READS IS OF BULK AT MOST 1048576: true; the input reads as it did. -/
def protectKnowsUptoRow : OpenClaim := { program := "yteooglpnechplaagreat", sum := "1a8097739aa77ce8efd1151492e647b885c894bfe543db85b9de10df87491010", func := "bitcast/bitcastlaw20.ProtectKnows", spec := "protectKnows", unfollowed := true, recurses := true, apart := false, narrowed := true }
def ProtectKnowsUptoSaid : Prop := protectKnowsUptoRow.holds Tryz.pinned (OpenSpec.upto protectKnowsSpec)

end Rows
end Go.Proofs.YteooglpnechplaaGreat
