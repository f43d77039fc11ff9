/- Contracts of the test helpers: Mod, the draws. -/
import Derived.Test.YtaboolnmkfenlaaCode
import Derived.Test.YtaboolnmkfenlaaAm23
namespace Go.Proofs.Ytaboolnmkfenlaa
open Go Go.Am
set_option linter.unusedVariables false
set_option linter.unusedSimpArgs false
theorem zero_ne (n : Nat) : (0 = n + 1) = False := by simp
theorem one_ne (n : Nat) : (1 = n + 2) = False := by simp
theorem ne_zero' (n : Nat) : (n + 1 = 0) = False := by simp

theorem maxLen_eq : maxLen = 9223372036854775807 := rfl
def Mod (x n : Int) : Int := if n < 1 then 0 else if x.tmod n < 0 then x.tmod n + n else x.tmod n

theorem Mod_spec (x n : Int) : PSpec Try.prog 16 [.int x, .int n] (.int (Mod x n)) := by
  refine PSpec.of_ok fun ok => ?_
  simp only [okL, AV.ok, plainV, inK64, and_true] at ok
  refine PSpec.walk Try.func16 cf16_ok (by simp [cf16]) trivial ?_
  unfold cf16
  simp only [initT]
  refine AWP.seq' ?_
  refine AWP.reg' fun K hK => ?_
  simp only [evT_nil, evT_op, goT_mk, evT_gT, evT_gF, evD_nil, evD_op, goD_mk, evD_gT, evD_gF, evA, evO_t, evO_c, upd_at, putD_some, putD_none, hpAfter, true_and, and_true, Nat.reduceEqDiff, ↓reduceIte, binA, unA, binBA, pickV_true, pickV_false, Bool.not_true, Bool.not_false, rdH, heapy, rdOf, AOp.opers, List.flatMap_cons, List.flatMap_nil, refIds, Bool.false_eq_true, List.append_nil, List.nil_append, List.cons_append, Option.toList_some, Option.toList_none, List.map_cons, List.map_nil, Nat.reduceAdd, partOk, partA, setOk, setPart, AV.solid, AV.cells, AV.isAgg, List.length_cons, List.length_nil, Nat.reduceLeDiff, Nat.le_refl, splice, List.take_zero, List.drop_zero, List.take_succ_cons, List.drop_succ_cons, List.take_nil, List.drop_nil, fillOk, fillA, List.foldl_cons, List.foldl_nil, Option.isSome_none, List.getD_cons_zero, List.getD_cons_succ, Option.map_some, Option.map_none, Nat.add_zero, Nat.zero_add, zero_ne, one_ne, ne_zero', false_and, and_false, Bool.and_true, Bool.and_false, Nat.reduceSub, Nat.reduceMul, Nat.reduceLT, lenA, sliceA, eqCells, bndA, implies_true, Option.getD_none, Option.getD_some, Int.toNat_zero, Bool.false_or, List.mem_cons, List.not_mem_nil, or_false, true_or, forall_eq_or_imp, forall_eq, false_implies, litOk, litPure, litA, List.mem_singleton]
  refine hK _ _ _ ?_
  clear hK K
  refine AWP.seq' (AWP.seq' ?_)
  refine AWP.reg' fun K hK => ?_
  simp only [evT_nil, evT_op, goT_mk, evT_gT, evT_gF, evD_nil, evD_op, goD_mk, evD_gT, evD_gF, evA, evO_t, evO_c, upd_at, putD_some, putD_none, hpAfter, true_and, and_true, Nat.reduceEqDiff, ↓reduceIte, binA, unA, binBA, pickV_true, pickV_false, Bool.not_true, Bool.not_false, rdH, heapy, rdOf, AOp.opers, List.flatMap_cons, List.flatMap_nil, refIds, Bool.false_eq_true, List.append_nil, List.nil_append, List.cons_append, Option.toList_some, Option.toList_none, List.map_cons, List.map_nil, Nat.reduceAdd, partOk, partA, setOk, setPart, AV.solid, AV.cells, AV.isAgg, List.length_cons, List.length_nil, Nat.reduceLeDiff, Nat.le_refl, splice, List.take_zero, List.drop_zero, List.take_succ_cons, List.drop_succ_cons, List.take_nil, List.drop_nil, fillOk, fillA, List.foldl_cons, List.foldl_nil, Option.isSome_none, List.getD_cons_zero, List.getD_cons_succ, Option.map_some, Option.map_none, Nat.add_zero, Nat.zero_add, zero_ne, one_ne, ne_zero', false_and, and_false, Bool.and_true, Bool.and_false, Nat.reduceSub, Nat.reduceMul, Nat.reduceLT, lenA, sliceA, eqCells, bndA, implies_true, Option.getD_none, Option.getD_some, Int.toNat_zero, Bool.false_or, List.mem_cons, List.not_mem_nil, or_false, true_or, forall_eq_or_imp, forall_eq, false_implies, litOk, litPure, litA, List.mem_singleton]
  refine hK _ _ _ ?_
  clear hK K
  refine AWP.cond (b := decide (n < 1)) rfl (fun h => ?_) (fun h => ?_)
  · refine AWP.seq' ?_
    refine AWP.reg' fun K hK => ?_
    simp only [evT_nil, evT_op, goT_mk, evT_gT, evT_gF, evD_nil, evD_op, goD_mk, evD_gT, evD_gF, evA, evO_t, evO_c, upd_at, putD_some, putD_none, hpAfter, true_and, and_true, Nat.reduceEqDiff, ↓reduceIte, binA, unA, binBA, pickV_true, pickV_false, Bool.not_true, Bool.not_false, rdH, heapy, rdOf, AOp.opers, List.flatMap_cons, List.flatMap_nil, refIds, Bool.false_eq_true, List.append_nil, List.nil_append, List.cons_append, Option.toList_some, Option.toList_none, List.map_cons, List.map_nil, Nat.reduceAdd, partOk, partA, setOk, setPart, AV.solid, AV.cells, AV.isAgg, List.length_cons, List.length_nil, Nat.reduceLeDiff, Nat.le_refl, splice, List.take_zero, List.drop_zero, List.take_succ_cons, List.drop_succ_cons, List.take_nil, List.drop_nil, fillOk, fillA, List.foldl_cons, List.foldl_nil, Option.isSome_none, List.getD_cons_zero, List.getD_cons_succ, Option.map_some, Option.map_none, Nat.add_zero, Nat.zero_add, zero_ne, one_ne, ne_zero', false_and, and_false, Bool.and_true, Bool.and_false, Nat.reduceSub, Nat.reduceMul, Nat.reduceLT, lenA, sliceA, eqCells, bndA, implies_true, Option.getD_none, Option.getD_some, Int.toNat_zero, Bool.false_or, List.mem_cons, List.not_mem_nil, or_false, true_or, forall_eq_or_imp, forall_eq, false_implies, litOk, litPure, litA, List.mem_singleton]
    refine hK _ _ _ ?_
    clear hK K
    refine AWP.ret ?_
    refine finP_ret rfl ?_ trivial
    have h : n < 1 := by simpa using h
    simp only [Mod, if_pos h]
    rfl
  have h : ¬ n < 1 := by simpa using h
  refine AWP.skip ?_
  refine AWP.seq' ?_
  refine AWP.reg' fun K hK => ?_
  simp only [evT_nil, evT_op, goT_mk, evT_gT, evT_gF, evD_nil, evD_op, goD_mk, evD_gT, evD_gF, evA, evO_t, evO_c, upd_at, putD_some, putD_none, hpAfter, true_and, and_true, Nat.reduceEqDiff, ↓reduceIte, binA, unA, binBA, pickV_true, pickV_false, Bool.not_true, Bool.not_false, rdH, heapy, rdOf, AOp.opers, List.flatMap_cons, List.flatMap_nil, refIds, Bool.false_eq_true, List.append_nil, List.nil_append, List.cons_append, Option.toList_some, Option.toList_none, List.map_cons, List.map_nil, Nat.reduceAdd, partOk, partA, setOk, setPart, AV.solid, AV.cells, AV.isAgg, List.length_cons, List.length_nil, Nat.reduceLeDiff, Nat.le_refl, splice, List.take_zero, List.drop_zero, List.take_succ_cons, List.drop_succ_cons, List.take_nil, List.drop_nil, fillOk, fillA, List.foldl_cons, List.foldl_nil, Option.isSome_none, List.getD_cons_zero, List.getD_cons_succ, Option.map_some, Option.map_none, Nat.add_zero, Nat.zero_add, zero_ne, one_ne, ne_zero', false_and, and_false, Bool.and_true, Bool.and_false, Nat.reduceSub, Nat.reduceMul, Nat.reduceLT, lenA, sliceA, eqCells, bndA, implies_true, Option.getD_none, Option.getD_some, Int.toNat_zero, Bool.false_or, List.mem_cons, List.not_mem_nil, or_false, true_or, forall_eq_or_imp, forall_eq, false_implies, litOk, litPure, litA, List.mem_singleton]
  refine ⟨by omega, ?_⟩
  refine hK _ _ _ ?_
  clear hK K
  refine AWP.seq' (AWP.seq' ?_)
  refine AWP.reg' fun K hK => ?_
  simp only [evT_nil, evT_op, goT_mk, evT_gT, evT_gF, evD_nil, evD_op, goD_mk, evD_gT, evD_gF, evA, evO_t, evO_c, upd_at, putD_some, putD_none, hpAfter, true_and, and_true, Nat.reduceEqDiff, ↓reduceIte, binA, unA, binBA, pickV_true, pickV_false, Bool.not_true, Bool.not_false, rdH, heapy, rdOf, AOp.opers, List.flatMap_cons, List.flatMap_nil, refIds, Bool.false_eq_true, List.append_nil, List.nil_append, List.cons_append, Option.toList_some, Option.toList_none, List.map_cons, List.map_nil, Nat.reduceAdd, partOk, partA, setOk, setPart, AV.solid, AV.cells, AV.isAgg, List.length_cons, List.length_nil, Nat.reduceLeDiff, Nat.le_refl, splice, List.take_zero, List.drop_zero, List.take_succ_cons, List.drop_succ_cons, List.take_nil, List.drop_nil, fillOk, fillA, List.foldl_cons, List.foldl_nil, Option.isSome_none, List.getD_cons_zero, List.getD_cons_succ, Option.map_some, Option.map_none, Nat.add_zero, Nat.zero_add, zero_ne, one_ne, ne_zero', false_and, and_false, Bool.and_true, Bool.and_false, Nat.reduceSub, Nat.reduceMul, Nat.reduceLT, lenA, sliceA, eqCells, bndA, implies_true, Option.getD_none, Option.getD_some, Int.toNat_zero, Bool.false_or, List.mem_cons, List.not_mem_nil, or_false, true_or, forall_eq_or_imp, forall_eq, false_implies, litOk, litPure, litA, List.mem_singleton]
  refine hK _ _ _ ?_
  clear hK K
  have hb := Int.tmod_lt_of_pos x (show 0 < n by omega)
  have hb' := Int.lt_tmod_of_pos x (show 0 < n by omega)
  refine AWP.cond (b := decide (x.tmod n < 0)) rfl (fun h2 => ?_) (fun h2 => ?_)
  · have h2 : x.tmod n < 0 := by simpa using h2
    refine AWP.reg' fun K hK => ?_
    simp only [evT_nil, evT_op, goT_mk, evT_gT, evT_gF, evD_nil, evD_op, goD_mk, evD_gT, evD_gF, evA, evO_t, evO_c, upd_at, putD_some, putD_none, hpAfter, true_and, and_true, Nat.reduceEqDiff, ↓reduceIte, binA, unA, binBA, pickV_true, pickV_false, Bool.not_true, Bool.not_false, rdH, heapy, rdOf, AOp.opers, List.flatMap_cons, List.flatMap_nil, refIds, Bool.false_eq_true, List.append_nil, List.nil_append, List.cons_append, Option.toList_some, Option.toList_none, List.map_cons, List.map_nil, Nat.reduceAdd, partOk, partA, setOk, setPart, AV.solid, AV.cells, AV.isAgg, List.length_cons, List.length_nil, Nat.reduceLeDiff, Nat.le_refl, splice, List.take_zero, List.drop_zero, List.take_succ_cons, List.drop_succ_cons, List.take_nil, List.drop_nil, fillOk, fillA, List.foldl_cons, List.foldl_nil, Option.isSome_none, List.getD_cons_zero, List.getD_cons_succ, Option.map_some, Option.map_none, Nat.add_zero, Nat.zero_add, zero_ne, one_ne, ne_zero', false_and, and_false, Bool.and_true, Bool.and_false, Nat.reduceSub, Nat.reduceMul, Nat.reduceLT, lenA, sliceA, eqCells, bndA, implies_true, Option.getD_none, Option.getD_some, Int.toNat_zero, Bool.false_or, List.mem_cons, List.not_mem_nil, or_false, true_or, forall_eq_or_imp, forall_eq, false_implies, litOk, litPure, litA, List.mem_singleton]
    refine hK _ _ _ ?_
    clear hK K
    refine AWP.seq' ?_
    refine AWP.reg' fun K hK => ?_
    simp only [evT_nil, evT_op, goT_mk, evT_gT, evT_gF, evD_nil, evD_op, goD_mk, evD_gT, evD_gF, evA, evO_t, evO_c, upd_at, putD_some, putD_none, hpAfter, true_and, and_true, Nat.reduceEqDiff, ↓reduceIte, binA, unA, binBA, pickV_true, pickV_false, Bool.not_true, Bool.not_false, rdH, heapy, rdOf, AOp.opers, List.flatMap_cons, List.flatMap_nil, refIds, Bool.false_eq_true, List.append_nil, List.nil_append, List.cons_append, Option.toList_some, Option.toList_none, List.map_cons, List.map_nil, Nat.reduceAdd, partOk, partA, setOk, setPart, AV.solid, AV.cells, AV.isAgg, List.length_cons, List.length_nil, Nat.reduceLeDiff, Nat.le_refl, splice, List.take_zero, List.drop_zero, List.take_succ_cons, List.drop_succ_cons, List.take_nil, List.drop_nil, fillOk, fillA, List.foldl_cons, List.foldl_nil, Option.isSome_none, List.getD_cons_zero, List.getD_cons_succ, Option.map_some, Option.map_none, Nat.add_zero, Nat.zero_add, zero_ne, one_ne, ne_zero', false_and, and_false, Bool.and_true, Bool.and_false, Nat.reduceSub, Nat.reduceMul, Nat.reduceLT, lenA, sliceA, eqCells, bndA, implies_true, Option.getD_none, Option.getD_some, Int.toNat_zero, Bool.false_or, List.mem_cons, List.not_mem_nil, or_false, true_or, forall_eq_or_imp, forall_eq, false_implies, litOk, litPure, litA, List.mem_singleton]
    refine hK _ _ _ ?_
    clear hK K
    refine AWP.ret (finP_ret rfl ?_ trivial)
    simp only [Mod, if_neg h, if_pos h2]
    rw [wrap64 (by omega)]
    rfl
  · have h2 : ¬ x.tmod n < 0 := by simpa using h2
    refine AWP.skip ?_
    refine AWP.seq' ?_
    refine AWP.reg' fun K hK => ?_
    simp only [evT_nil, evT_op, goT_mk, evT_gT, evT_gF, evD_nil, evD_op, goD_mk, evD_gT, evD_gF, evA, evO_t, evO_c, upd_at, putD_some, putD_none, hpAfter, true_and, and_true, Nat.reduceEqDiff, ↓reduceIte, binA, unA, binBA, pickV_true, pickV_false, Bool.not_true, Bool.not_false, rdH, heapy, rdOf, AOp.opers, List.flatMap_cons, List.flatMap_nil, refIds, Bool.false_eq_true, List.append_nil, List.nil_append, List.cons_append, Option.toList_some, Option.toList_none, List.map_cons, List.map_nil, Nat.reduceAdd, partOk, partA, setOk, setPart, AV.solid, AV.cells, AV.isAgg, List.length_cons, List.length_nil, Nat.reduceLeDiff, Nat.le_refl, splice, List.take_zero, List.drop_zero, List.take_succ_cons, List.drop_succ_cons, List.take_nil, List.drop_nil, fillOk, fillA, List.foldl_cons, List.foldl_nil, Option.isSome_none, List.getD_cons_zero, List.getD_cons_succ, Option.map_some, Option.map_none, Nat.add_zero, Nat.zero_add, zero_ne, one_ne, ne_zero', false_and, and_false, Bool.and_true, Bool.and_false, Nat.reduceSub, Nat.reduceMul, Nat.reduceLT, lenA, sliceA, eqCells, bndA, implies_true, Option.getD_none, Option.getD_some, Int.toNat_zero, Bool.false_or, List.mem_cons, List.not_mem_nil, or_false, true_or, forall_eq_or_imp, forall_eq, false_implies, litOk, litPure, litA, List.mem_singleton]
    refine hK _ _ _ ?_
    clear hK K
    refine AWP.ret (finP_ret rfl ?_ trivial)
    simp only [Mod, if_neg h, if_neg h2]
    rfl

end Go.Proofs.Ytaboolnmkfenlaa
