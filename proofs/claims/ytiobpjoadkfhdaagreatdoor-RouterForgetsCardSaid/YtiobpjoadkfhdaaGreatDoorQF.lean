/-
  PROVED: A restarted site has no members, wants nothing, and hears again what the cT want
  The conditions are those of the given statement, and none else.
-/
import Derived.Test.YtiobpjoadkfhdaaGreatDoorRows
import Derived.SevenTiedAt
import Derived.Test.YtiobpjoadkfhdaaGreatDoorCards
import Derived.Test.YtiobpjoadkfhdaaGreatDoorTie
import Derived.WalkKit
import Derived.ProofKit
import Derived.OpenShut
import Derived.ShutString
import Derived.ChangeOld
import Derived.Below
import Derived.LaidLaws
import Derived.Handed
import Derived.Test.YtiobpjoadkfhdaaGreatDoorQF9
namespace Go.Proofs.YtiobpjoadkfhdaaGreatDoor.routerForgets
open Go Go.ChangeShapes Go.WideShapes Go.ChangeAt Go.RowKit
set_option linter.unusedVariables false

theorem own : ownKnob Tryz.prog.godebug = none := by kernel_rfl
theorem laidOut : laidOutB Tryz.prog = true := by kernel_rfl
noncomputable def rdInt : Am.Rd Tryz.prog Int := Am.Rd.int .i64 3 Tryz.underlying3 (by kernel_rfl)
/-- The settled world, but the variables of package signal hold what the row lists. -/
noncomputable def laidWorld (os : Os) : World :=
  let w0 := World.holding Tryz.prog os ⟨#[], #[], []⟩
  let put := fun (a b : Int) (o : Obj) => match o with
    | .cells _ t frozen => Obj.cells #[.int .i64 a, .int .i64 b] t frozen
    | o => o
  { w0 with heap := ((w0.heap.modify 1 (put 0 1000000)).modify 0 (put 1 1000000)).modify 3 (put 1 99) }
theorem laid_met (os : Os) (args : Array Value) : laidMet Tryz.prog Am.sigLaid ((laidWorld os).forCall (fun _ _ => 0) ⟨#[], args, []⟩).memory :=
  laidMet_of_run' 8 (by kernel_rfl) (by kernel_rfl)
set_option maxRecDepth 100000 in
theorem lifted (os : Os) (started : os.Started) (H : Type) (enc : TypeId × Value → H) :
    ReturnsInHanded {} Tryz.checked os 4 .any (fun w args => (Rows.routerForgetsSpec.pre enc Tryz.prog Tryz.f4 Rows.routerForgetsRow.domain false w args ∧ laidMet Tryz.prog Am.sigLaid w) ∧ sizedMet enc Tryz.prog Tryz.f4 (OpenSpec.ofChange Rows.routerForgetsSpec) false w args)
      (Rows.routerForgetsSpec.post enc Tryz.prog Tryz.f4 false true false false) := by
  refine returnsInHanded_of_change_and (C := Tryz.checked) (X := fun w _ => laidMet Tryz.prog Am.sigLaid w) (fun _ _ _ hh h => h.of_heap hh) own started (by kernel_rfl) Tryz.func4
    (ChangeSpec.witness_at (enc := enc) (C := Tryz.checked) (os := os) (X := fun w _ => laidMet Tryz.prog Am.sigLaid w) false (laidWorld os) #[.slice none 0 0] 8 rfl (by kernel_rfl) (by kernel_rfl) (by kernel_rfl) (by kernel_rfl) (by kernel_rfl) (laid_met os _)) ?_
  intro W base args ds gs before hval0 hW hcnd0 _ hL _
  have hval : ∀ (j : Nat) t v, Tryz.f4.params[j]? = some t → args[j]? = some v → Value.okWide Tryz.prog W .any base t v := hval0
  have hW' := hW
  obtain ⟨p, q, hA0, hV, rfl, hfz, hnd⟩ := hW
  have hA : DataW.TrodAll enc Tryz.prog W 0 (fun _ => true) true Tryz.f4.params.toList args.toList ds p := hA0
  rw [Tryz.params4] at hA hval
  obtain ⟨v0, vs0, d0, ds0, p0, q0, hargs, rfl, rfl, h0, r0⟩ := trodAll_cons hA
  obtain ⟨rfl, rfl, rfl⟩ := trodAll_nil r0
  obtain rfl : args = #[v0] := by cases args; simp_all
  obtain ⟨rfl, rfl⟩ := trodVars_none hV
  have k0 := h0
  have lt0 : ∀ x ∈ p0, x.block < W.heap.size := by obtain ⟨m, hm⟩ := k0; exact DataW.trod_lt m _ _ _ hm
  obtain ⟨s0, w0, z0⟩ := Am.Rd.argL rdInt Tryz.underlying22 (hval 0 22 v0 rfl rfl) 0 h0
  clear hA0 hval0
  have hG : Am.LtOk Tryz.prog (Am.Old W) W := Am.LtOk.laid hL (by kernel_rfl) (by kernel_rfl) (by kernel_rfl)
  have walk := (R9 s0).ok.belowB (w := W) hG (cargs := [v0]) ⟨_, _, rfl, w0, rfl⟩
  refine walk.mono fun e W' ⟨he, bel⟩ => ?_
  subst he
  exact ⟨_, rfl, _, _, _, [], _, [], hW', trodAll_mk1 (shut_bool Tryz.underlying4 _),
    (trodAll_cons_mk (Below.trod laidOut (by kernel_rfl) (of_decide_eq_true (by kernel_rfl)) k0 bel lt0) trodAll_mk0), rfl, bel.frame _, fun h => by cases h⟩

theorem andT {a b : Bool} (h : a = true) (k : b = true) : (a && b) = true := by rw [h, k]; rfl
set_option maxHeartbeats 4000000 in
theorem closedF : joinedFacts Tryz.pinned.checked.prog 4 Tryz.f4 Rows.routerForgetsSpec Rows.routerForgetsRow = true := by
  unfold joinedFacts
  repeat' (with_reducible refine andT ?_ ?_)
  all_goals as_aux_lemma => kernel_rfl
theorem over : Rows.RouterForgetsSaid :=
  OpenClaim.holds_of_wide 4 Tryz.f4 rfl rfl rfl rfl rfl rfl rfl ⟨rfl, rfl, rfl, rfl, rfl⟩ rfl rfl rfl rfl rfl (by kernel_rfl) Tryz.func4 closedF
    (of_decide_eq_true (by kernel_rfl)) (by unfold Func.isWrapper; first | (rw [if_pos (by decide +kernel)]; kernel_rfl) | (rw [if_neg (by decide +kernel)]; exact ⟨rfl, rfl⟩))
    (fun os started H enc _ => lifted os started H enc)

theorem noGo : Tryz.pinned.checked.prog.funcs.toList.any Func.goes = false := by kernel_rfl
theorem goes_none {P : Program} (h : P.funcs.toList.any Func.goes = false) (c : OpenClaim) (hs : c.start = .entering) : false = c.goesBy P := by
  have h2 : P.funcs.any Func.goes = false := by rw [← h, Array.any_toList]
  have key : ∀ f, P.goes f = false := fun f => by
    unfold Program.goes
    rw [h2, Bool.and_false, Bool.or_false, List.any_eq_false]
    intro g hg
    cases e : P.funcs[g]? with
    | none => simp
    | some fn =>
      have := List.any_eq_false.mp h fn (Array.mem_toList_iff.mpr (Array.mem_of_getElem? e))
      simpa using this
  unfold OpenClaim.goesBy Program.goesAt Program.goesFrom
  rw [hs]
  cases P.funcNamed c.func <;> simp [key]
theorem lk0 : false = Tryz.pinned.checked.prog.looks [] := by kernel_rfl
theorem mn0 : Tryz.pinned.checked.prog.mainIs = some (Rows.routerForgetsCard.stood.harness.1, Rows.routerForgetsCard.stood.harness.2.toList) := by kernel_rfl
theorem wf0 : Rows.routerForgetsRow.wfByText (OpenSpec.ofChange Rows.routerForgetsSpec) = true := by kernel_rfl
theorem fn0 : Tryz.prog.funcNamed "bitcast/bitcastlaw38.RouterForgets" = some 4 := by kernel_rfl
theorem ws0 : Tryz.prog.wantsStandIn 22 = false := by kernel_rfl
/-- ████ THE STATEMENT ████ -/
theorem proved : Rows.RouterForgetsCardSaid :=
  Claim7.holds_tied_plain_at .later [] _ true _ false over (fun _ h => by cases h) wf0 (fun _ h => by cases h) routerForgets_row_tie rfl ⟨rfl, rfl⟩ mn0 rfl
    (fun f fn hf hfn => by
      obtain rfl : f = 4 := Option.some.inj (fn0.symm.trans hf) |>.symm
      obtain rfl : fn = Tryz.f4 := (Option.some.inj (Tryz.func4.symm.trans hfn)).symm
      exact ⟨lk0, fun j t ht => by
        rw [Tryz.params4] at ht
        rcases j with _ | j
        · have h : t = 22 := by simpa using ht.symm
          subst h; exact ws0
        · simp at ht⟩)
    (goes_none noGo _ rfl)
#print axioms proved
end Go.Proofs.YtiobpjoadkfhdaaGreatDoor.routerForgets
