/- SessionKeeps. -/
import Derived.Test.YtglfecmdoekabaaDoorG14
namespace Go.Proofs.YtglfecmdoekabaaDoor
open Go Go.Am
set_option linter.unusedVariables false
set_option linter.unusedSimpArgs false
def keeps_a (t : (List Int)) : Prop := okL [.sl 1 (t.map AV.int) false]
def keeps_s : Nat → Type
  | _ => Unit
def keeps_e (r : Bool) : AV := .bool r
def keeps_vc (t : (List Int)) (r0 : Bool) : Prop :=
 Ch (New_h t) [] 32
 (∃ h1 : 0 ≤ 40 ∧ 40 ≤ 100,
 Ch (exch_h (⟨t.take 2000, 0⟩ : Tap).L (⟨t.take 2000, 0⟩ : Tap).p 40 true h1) [32] 80
 (br ((stps (⟨t.take 2000, 0⟩ : Tap).L true (⟨t.take 2000, 0⟩ : Tap).p (Int.toNat 40)).e == 0)
 (Cl (awake_c )
 (Rf (keeps_e (true)) ((true) = r0)))
 (Rf (keeps_e (false)) ((false) = r0))))
theorem keeps_eq (t : (List Int)) (r0 : Bool) : mxP Tryd.prog 3 [.sl 1 (t.map AV.int) false] .k keeps_e ((.callH [] (New_h t)
 (.req 80 (0 ≤ 40 ∧ 40 ≤ 100) fun h1 =>
 (.callH [32] (exch_h (⟨t.take 2000, 0⟩ : Tap).L (⟨t.take 2000, 0⟩ : Tap).p 40 true h1)
 (.br 272 (.callP (awake_c )
 (.ret (true)))
 (.ret (false)))))) : An Tryd.prog keeps_s (Bool)) r0 = keeps_vc t r0 := by kernel_rfl
theorem keeps_ok (t : (List Int)) (r0 : Bool) (h : keeps_vc t r0) : PSpec Tryd.prog 3 [.sl 1 (t.map AV.int) false] (keeps_e r0) := by
  have e := keeps_eq t r0
  rw [← e] at h
  exact mxP_ok (enc := keeps_e) h (AV.pureB_ok rfl)
theorem keeps_p (t : List Int) (ok : keeps_a t) : keeps_vc t true := by
  simp only [keeps_vc, vcU, rfU, List.length_map]
  have h := (stps_inv (L := t.take 2000) (r := true) (p := 0) 40 (by omega)).2
  refine ⟨by omega, fun _ => trivial, fun e => ?_⟩
  rw [show Int.toNat 40 = 40 from rfl, h] at e
  cases e
def keeps_c (t : (List Int)) : PC Tryd.prog := ⟨3, [(.s 1)], [.sl 1 (t.map AV.int) false], keeps_e true, PSpec.of_ok fun ok => keeps_ok t _ (keeps_p t ok), fnB_ok (by kernel_rfl)⟩
end Go.Proofs.YtglfecmdoekabaaDoor
