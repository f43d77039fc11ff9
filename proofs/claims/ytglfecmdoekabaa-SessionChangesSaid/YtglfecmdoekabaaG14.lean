/- The chapter's example; SessionKeeps. -/
import Derived.Test.YtglfecmdoekabaaG13
namespace Go.Proofs.Ytglfecmdoekabaa
open Go Go.Am
set_option linter.unusedVariables false
set_option linter.unusedSimpArgs false
def awake_a : Prop := okL []
def awake_s : Nat → Type
  | _ => Unit
def awake_e (r : Bool) : AV := .bool r
def awake_vc (r0 : Bool) : Prop :=
 ∃ h1 : [2].length ≤ 1000000,
 Cl (new_c 1 1 [2] h1)
 (Cl ((change_c ((new 1 1 [2]).1) [(⟨4, 2, []⟩ : Wnt), (⟨7, 2, []⟩ : Wnt)]).wsh [.a [.k, .k, .k, (.s 4), (.s 3)], .v (.a [.k, .k, (.s 1)])])
 (Cl ((change_c ((change ((new 1 1 [2]).1) [(⟨4, 2, []⟩ : Wnt), (⟨7, 2, []⟩ : Wnt)]).1) [(⟨4, 1, []⟩ : Wnt)]).wsh [.a [.k, .k, .k, (.s 4), (.s 3)], .v (.a [.k, .k, (.s 1)])])
 (Cl (send_c ((change ((change ((new 1 1 [2]).1) [(⟨4, 2, []⟩ : Wnt), (⟨7, 2, []⟩ : Wnt)]).1) [(⟨4, 1, []⟩ : Wnt)]).1) 2)
 (br (((new 1 1 [2]).2) == 0)
 (br (((change ((new 1 1 [2]).1) [(⟨4, 2, []⟩ : Wnt), (⟨7, 2, []⟩ : Wnt)]).2) == 0)
 (br (((change ((change ((new 1 1 [2]).1) [(⟨4, 2, []⟩ : Wnt), (⟨7, 2, []⟩ : Wnt)]).1) [(⟨4, 1, []⟩ : Wnt)]).2) == 0)
 (br (((send ((change ((change ((new 1 1 [2]).1) [(⟨4, 2, []⟩ : Wnt), (⟨7, 2, []⟩ : Wnt)]).1) [(⟨4, 1, []⟩ : Wnt)]).1) 2).2) == 0)
 (br (((((send ((change ((change ((new 1 1 [2]).1) [(⟨4, 2, []⟩ : Wnt), (⟨7, 2, []⟩ : Wnt)]).1) [(⟨4, 1, []⟩ : Wnt)]).1) 2).1).map Sig.v).length : Int) == 3)
 (Rf (((send ((change ((change ((new 1 1 [2]).1) [(⟨4, 2, []⟩ : Wnt), (⟨7, 2, []⟩ : Wnt)]).1) [(⟨4, 1, []⟩ : Wnt)]).1) 2).1).map Sig.v) (ck (decide (0 < (((send ((change ((change ((new 1 1 [2]).1) [(⟨4, 2, []⟩ : Wnt), (⟨7, 2, []⟩ : Wnt)]).1) [(⟨4, 1, []⟩ : Wnt)]).1) 2).1).length : Int)))
 (∀ x2, ((send ((change ((change ((new 1 1 [2]).1) [(⟨4, 2, []⟩ : Wnt), (⟨7, 2, []⟩ : Wnt)]).1) [(⟨4, 1, []⟩ : Wnt)]).1) 2).1)[0]? = some x2 →
 br (x2.kind == 1)
 (Rf (((send ((change ((change ((new 1 1 [2]).1) [(⟨4, 2, []⟩ : Wnt), (⟨7, 2, []⟩ : Wnt)]).1) [(⟨4, 1, []⟩ : Wnt)]).1) 2).1).map Sig.v) (ck (decide (0 < (((send ((change ((change ((new 1 1 [2]).1) [(⟨4, 2, []⟩ : Wnt), (⟨7, 2, []⟩ : Wnt)]).1) [(⟨4, 1, []⟩ : Wnt)]).1) 2).1).length : Int)))
 (∀ x3, ((send ((change ((change ((new 1 1 [2]).1) [(⟨4, 2, []⟩ : Wnt), (⟨7, 2, []⟩ : Wnt)]).1) [(⟨4, 1, []⟩ : Wnt)]).1) 2).1)[0]? = some x3 →
 br (x3.ver == 3)
 (Rf (((send ((change ((change ((new 1 1 [2]).1) [(⟨4, 2, []⟩ : Wnt), (⟨7, 2, []⟩ : Wnt)]).1) [(⟨4, 1, []⟩ : Wnt)]).1) 2).1).map Sig.v) (ck (decide (1 < (((send ((change ((change ((new 1 1 [2]).1) [(⟨4, 2, []⟩ : Wnt), (⟨7, 2, []⟩ : Wnt)]).1) [(⟨4, 1, []⟩ : Wnt)]).1) 2).1).length : Int)))
 (∀ x4, ((send ((change ((change ((new 1 1 [2]).1) [(⟨4, 2, []⟩ : Wnt), (⟨7, 2, []⟩ : Wnt)]).1) [(⟨4, 1, []⟩ : Wnt)]).1) 2).1)[1]? = some x4 →
 br (x4.ver == 2)
 (Rf (((send ((change ((change ((new 1 1 [2]).1) [(⟨4, 2, []⟩ : Wnt), (⟨7, 2, []⟩ : Wnt)]).1) [(⟨4, 1, []⟩ : Wnt)]).1) 2).1).map Sig.v) (ck (decide (1 < (((send ((change ((change ((new 1 1 [2]).1) [(⟨4, 2, []⟩ : Wnt), (⟨7, 2, []⟩ : Wnt)]).1) [(⟨4, 1, []⟩ : Wnt)]).1) 2).1).length : Int)))
 (∀ x5, ((send ((change ((change ((new 1 1 [2]).1) [(⟨4, 2, []⟩ : Wnt), (⟨7, 2, []⟩ : Wnt)]).1) [(⟨4, 1, []⟩ : Wnt)]).1) 2).1)[1]? = some x5 →
 br (x5.prev == 0)
 (Rf (((send ((change ((change ((new 1 1 [2]).1) [(⟨4, 2, []⟩ : Wnt), (⟨7, 2, []⟩ : Wnt)]).1) [(⟨4, 1, []⟩ : Wnt)]).1) 2).1).map Sig.v) (ck (decide (2 < (((send ((change ((change ((new 1 1 [2]).1) [(⟨4, 2, []⟩ : Wnt), (⟨7, 2, []⟩ : Wnt)]).1) [(⟨4, 1, []⟩ : Wnt)]).1) 2).1).length : Int)))
 (∀ x6, ((send ((change ((change ((new 1 1 [2]).1) [(⟨4, 2, []⟩ : Wnt), (⟨7, 2, []⟩ : Wnt)]).1) [(⟨4, 1, []⟩ : Wnt)]).1) 2).1)[2]? = some x6 →
 br (x6.ver == 3)
 (Rf (((send ((change ((change ((new 1 1 [2]).1) [(⟨4, 2, []⟩ : Wnt), (⟨7, 2, []⟩ : Wnt)]).1) [(⟨4, 1, []⟩ : Wnt)]).1) 2).1).map Sig.v) (ck (decide (2 < (((send ((change ((change ((new 1 1 [2]).1) [(⟨4, 2, []⟩ : Wnt), (⟨7, 2, []⟩ : Wnt)]).1) [(⟨4, 1, []⟩ : Wnt)]).1) 2).1).length : Int)))
 (∀ x7, ((send ((change ((change ((new 1 1 [2]).1) [(⟨4, 2, []⟩ : Wnt), (⟨7, 2, []⟩ : Wnt)]).1) [(⟨4, 1, []⟩ : Wnt)]).1) 2).1)[2]? = some x7 →
 Rf (awake_e (x7.prev == 2)) ((x7.prev == 2) = r0))))
 (Rf (awake_e (false)) ((false) = r0)))))
 (Rf (awake_e (false)) ((false) = r0)))))
 (Rf (awake_e (false)) ((false) = r0)))))
 (Rf (awake_e (false)) ((false) = r0)))))
 (Rf (awake_e (false)) ((false) = r0)))))
 (Rf (awake_e (false)) ((false) = r0)))
 (Rf (awake_e (false)) ((false) = r0)))
 (Rf (awake_e (false)) ((false) = r0)))
 (Rf (awake_e (false)) ((false) = r0)))
 (Rf (awake_e (false)) ((false) = r0))))))
theorem awake_eq (r0 : Bool) : mxP Try.prog 9 [] .k awake_e ((.req 80 ([2].length ≤ 1000000) fun h1 =>
 (.callP (new_c 1 1 [2] h1)
 (.callP ((change_c ((new 1 1 [2]).1) [(⟨4, 2, []⟩ : Wnt), (⟨7, 2, []⟩ : Wnt)]).wsh [.a [.k, .k, .k, (.s 4), (.s 3)], .v (.a [.k, .k, (.s 1)])])
 (.callP ((change_c ((change ((new 1 1 [2]).1) [(⟨4, 2, []⟩ : Wnt), (⟨7, 2, []⟩ : Wnt)]).1) [(⟨4, 1, []⟩ : Wnt)]).wsh [.a [.k, .k, .k, (.s 4), (.s 3)], .v (.a [.k, .k, (.s 1)])])
 (.callP (send_c ((change ((change ((new 1 1 [2]).1) [(⟨4, 2, []⟩ : Wnt), (⟨7, 2, []⟩ : Wnt)]).1) [(⟨4, 1, []⟩ : Wnt)]).1) 2)
 (.br 704 (.br 768 (.br 832 (.br 896 (.br 976 (.el 992 Sig.v ((send ((change ((change ((new 1 1 [2]).1) [(⟨4, 2, []⟩ : Wnt), (⟨7, 2, []⟩ : Wnt)]).1) [(⟨4, 1, []⟩ : Wnt)]).1) 2).1) fun x2 =>
 (.br 1088 (.el 1104 Sig.v ((send ((change ((change ((new 1 1 [2]).1) [(⟨4, 2, []⟩ : Wnt), (⟨7, 2, []⟩ : Wnt)]).1) [(⟨4, 1, []⟩ : Wnt)]).1) 2).1) fun x3 =>
 (.br 1200 (.el 1216 Sig.v ((send ((change ((change ((new 1 1 [2]).1) [(⟨4, 2, []⟩ : Wnt), (⟨7, 2, []⟩ : Wnt)]).1) [(⟨4, 1, []⟩ : Wnt)]).1) 2).1) fun x4 =>
 (.br 1312 (.el 1328 Sig.v ((send ((change ((change ((new 1 1 [2]).1) [(⟨4, 2, []⟩ : Wnt), (⟨7, 2, []⟩ : Wnt)]).1) [(⟨4, 1, []⟩ : Wnt)]).1) 2).1) fun x5 =>
 (.br 1424 (.el 1440 Sig.v ((send ((change ((change ((new 1 1 [2]).1) [(⟨4, 2, []⟩ : Wnt), (⟨7, 2, []⟩ : Wnt)]).1) [(⟨4, 1, []⟩ : Wnt)]).1) 2).1) fun x6 =>
 (.br 1536 (.el 1552 Sig.v ((send ((change ((change ((new 1 1 [2]).1) [(⟨4, 2, []⟩ : Wnt), (⟨7, 2, []⟩ : Wnt)]).1) [(⟨4, 1, []⟩ : Wnt)]).1) 2).1) fun x7 =>
 (.ret (x7.prev == 2)))
 (.ret (false))))
 (.ret (false))))
 (.ret (false))))
 (.ret (false))))
 (.ret (false))))
 (.ret (false)))
 (.ret (false)))
 (.ret (false)))
 (.ret (false)))
 (.ret (false)))))))) : An Try.prog awake_s (Bool)) r0 = awake_vc r0 := by kernel_rfl
theorem awake_ok (r0 : Bool) (h : awake_vc r0) : PSpec Try.prog 9 [] (awake_e r0) := by
  have e := awake_eq r0
  rw [← e] at h
  exact mxP_ok (enc := awake_e) h (AV.pureB_ok rfl)
theorem awake_p (ok : awake_a) : awake_vc true := by
  simp only [awake_vc, vcU, rfU, List.length_map]
  have h0 : new 1 1 [2] = (⟨1, 1, 0, [], [⟨2, 0, 0⟩]⟩, 0) := by decide +kernel
  have h1 : change ⟨1, 1, 0, [], [⟨2, 0, 0⟩]⟩ [⟨4, 2, []⟩, ⟨7, 2, []⟩] = (⟨1, 1, 2, [⟨1, 4, 2, []⟩, ⟨2, 7, 2, []⟩], [⟨2, 0, 0⟩]⟩, 0) := by decide +kernel
  have h2 : change ⟨1, 1, 2, [⟨1, 4, 2, []⟩, ⟨2, 7, 2, []⟩], [⟨2, 0, 0⟩]⟩ [⟨4, 1, []⟩] = (⟨1, 1, 3, [⟨2, 7, 2, []⟩, ⟨3, 4, 1, []⟩], [⟨2, 0, 0⟩]⟩, 0) := by decide +kernel
  have h3 : send ⟨1, 1, 3, [⟨2, 7, 2, []⟩, ⟨3, 4, 1, []⟩], [⟨2, 0, 0⟩]⟩ 2 = ([⟨1, 1, 2, 1, 3, 0, 0, 0, 0, []⟩, ⟨2, 1, 2, 1, 2, 0, 0, 7, 2, []⟩, ⟨2, 1, 2, 1, 3, 2, 0, 4, 1, []⟩], 0) := by decide +kernel
  rw [h0, h1, h2, h3]
  simp
def awake_c : PC Try.prog := ⟨9, [], [], awake_e true, PSpec.of_ok fun ok => awake_ok _ (awake_p ok), fnB_ok (by kernel_rfl)⟩
end Go.Proofs.Ytglfecmdoekabaa
