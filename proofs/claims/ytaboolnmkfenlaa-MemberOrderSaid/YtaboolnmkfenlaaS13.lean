/- MemberOrder: the walk. -/
import Derived.Test.YtaboolnmkfenlaaP3
import Derived.Test.YtaboolnmkfenlaaS12
namespace Go.Proofs.Ytaboolnmkfenlaa
open Go Go.Am
set_option linter.unusedVariables false
set_option linter.unusedSimpArgs false

theorem Order_spec (es : List Int) : PSpec Try.prog 5 [ints es] (.bool true) := by
  refine PSpec.walk Try.func5 cf5_ok (by simp [cf5]) trivial ?_
  unfold cf5
  simp only [initT]
  refine AWP.seq' ?_
  refine AWP.reg' fun K hK => ?_
  try simp only [stepS, List.set_cons_zero, List.set_cons_succ, Option.isSome_some, AV.pure, pureL, eq_self, List.replicate, List.length_map, Int.toNat_natCast, resT_at, resT_nil, hpL_at, hpL_nil, implies_true, forall_eq_or_imp, forall_eq, evA, hpAfter, binA, unA, binBA, rdH, heapy, rdOf, AOp.opers, refIds, partOk, partA, setOk, setPart, AV.solid, AV.cells, AV.isAgg, splice, fillOk, fillA, lenA, sliceA, resliceA, eqCells, bndA, litOk, litPure, litA, Nat.reduceEqDiff, ↓reduceIte, Nat.reduceAdd, Nat.reduceLeDiff, Nat.reduceSub, Nat.reduceMul, Nat.reduceLT, Int.reduceBEq, Int.reduceBNe, Int.reduceToNat, Int.reduceLT, Int.reduceLE, Int.reduceAdd, Int.reduceSub, Int.reduceMul, reduceCtorEq]
  refine hK _ _ _ ?_
  clear hK K
  refine AWP.seq' ?_
  refine AWP.reg' fun K hK => ?_
  try simp only [stepS, List.set_cons_zero, List.set_cons_succ, Option.isSome_some, AV.pure, pureL, eq_self, List.replicate, List.length_map, Int.toNat_natCast, resT_at, resT_nil, hpL_at, hpL_nil, implies_true, forall_eq_or_imp, forall_eq, evA, hpAfter, binA, unA, binBA, rdH, heapy, rdOf, AOp.opers, refIds, partOk, partA, setOk, setPart, AV.solid, AV.cells, AV.isAgg, splice, fillOk, fillA, lenA, sliceA, resliceA, eqCells, bndA, litOk, litPure, litA, Nat.reduceEqDiff, ↓reduceIte, Nat.reduceAdd, Nat.reduceLeDiff, Nat.reduceSub, Nat.reduceMul, Nat.reduceLT, Int.reduceBEq, Int.reduceBNe, Int.reduceToNat, Int.reduceLT, Int.reduceLE, Int.reduceAdd, Int.reduceSub, Int.reduceMul, reduceCtorEq]
  refine evT_new (New_tp es) New_fn ⟨trivial, trivial⟩ ⟨trivial, trivial, trivial⟩ rfl rfl ?_
  generalize es.take 2000 = L
  try simp only [stepS, List.set_cons_zero, List.set_cons_succ, Option.isSome_some, AV.pure, pureL, eq_self, List.replicate, List.length_map, Int.toNat_natCast, resT_at, resT_nil, hpL_at, hpL_nil, implies_true, forall_eq_or_imp, forall_eq, evA, hpAfter, binA, unA, binBA, rdH, heapy, rdOf, AOp.opers, refIds, partOk, partA, setOk, setPart, AV.solid, AV.cells, AV.isAgg, splice, fillOk, fillA, lenA, sliceA, resliceA, eqCells, bndA, litOk, litPure, litA, Nat.reduceEqDiff, ↓reduceIte, Nat.reduceAdd, Nat.reduceLeDiff, Nat.reduceSub, Nat.reduceMul, Nat.reduceLT, Int.reduceBEq, Int.reduceBNe, Int.reduceToNat, Int.reduceLT, Int.reduceLE, Int.reduceAdd, Int.reduceSub, Int.reduceMul, reduceCtorEq]
  refine hK _ _ _ ?_
  clear hK K
  obtain ⟨now, l, q, ok, hlen, hnow, hq, d⟩ := Members_ex L (q := 0) (by omega) (n := 6) (by omega)
  refine AWP.seq' ?_
  refine AWP.reg' fun K hK => ?_
  try simp only [stepS, List.set_cons_zero, List.set_cons_succ, Option.isSome_some, AV.pure, pureL, eq_self, List.replicate, List.length_map, Int.toNat_natCast, resT_at, resT_nil, hpL_at, hpL_nil, implies_true, forall_eq_or_imp, forall_eq, evA, hpAfter, binA, unA, binBA, rdH, heapy, rdOf, AOp.opers, refIds, partOk, partA, setOk, setPart, AV.solid, AV.cells, AV.isAgg, splice, fillOk, fillA, lenA, sliceA, resliceA, eqCells, bndA, litOk, litPure, litA, Nat.reduceEqDiff, ↓reduceIte, Nat.reduceAdd, Nat.reduceLeDiff, Nat.reduceSub, Nat.reduceMul, Nat.reduceLT, Int.reduceBEq, Int.reduceBNe, Int.reduceToNat, Int.reduceLT, Int.reduceLE, Int.reduceAdd, Int.reduceSub, Int.reduceMul, reduceCtorEq]
  refine evT_own (d) Members_fn (by repeat' (first | exact trivial | assumption | refine And.intro ?_ ?_)) (tp_pure _ _) (tp_pure _ _) (by repeat' (first | exact trivial | assumption | refine And.intro ?_ ?_)) rfl (by rfl) (by rfl) ?_
  try simp only [stepS, List.set_cons_zero, List.set_cons_succ, Option.isSome_some, AV.pure, pureL, eq_self, List.replicate, List.length_map, Int.toNat_natCast, resT_at, resT_nil, hpL_at, hpL_nil, implies_true, forall_eq_or_imp, forall_eq, evA, hpAfter, binA, unA, binBA, rdH, heapy, rdOf, AOp.opers, refIds, partOk, partA, setOk, setPart, AV.solid, AV.cells, AV.isAgg, splice, fillOk, fillA, lenA, sliceA, resliceA, eqCells, bndA, litOk, litPure, litA, Nat.reduceEqDiff, ↓reduceIte, Nat.reduceAdd, Nat.reduceLeDiff, Nat.reduceSub, Nat.reduceMul, Nat.reduceLT, Int.reduceBEq, Int.reduceBNe, Int.reduceToNat, Int.reduceLT, Int.reduceLE, Int.reduceAdd, Int.reduceSub, Int.reduceMul, reduceCtorEq, memsV, mems]
  refine hK _ _ _ ?_
  clear hK K
  clear d
  obtain ⟨h, q1, hh, hq1, d1⟩ := Range_ex L hq 1 8 (by omega) (by omega) (by omega)
  obtain ⟨g, q2, hg, hq2, d2⟩ := Range_ex L hq1 1 4 (by omega) (by omega) (by omega)
  refine AWP.seq' ?_
  refine AWP.reg' fun K hK => ?_
  try simp only [stepS, List.set_cons_zero, List.set_cons_succ, Option.isSome_some, AV.pure, pureL, eq_self, List.replicate, List.length_map, Int.toNat_natCast, resT_at, resT_nil, hpL_at, hpL_nil, implies_true, forall_eq_or_imp, forall_eq, evA, hpAfter, binA, unA, binBA, rdH, heapy, rdOf, AOp.opers, refIds, partOk, partA, setOk, setPart, AV.solid, AV.cells, AV.isAgg, splice, fillOk, fillA, lenA, sliceA, resliceA, eqCells, bndA, litOk, litPure, litA, Nat.reduceEqDiff, ↓reduceIte, Nat.reduceAdd, Nat.reduceLeDiff, Nat.reduceSub, Nat.reduceMul, Nat.reduceLT, Int.reduceBEq, Int.reduceBNe, Int.reduceToNat, Int.reduceLT, Int.reduceLE, Int.reduceAdd, Int.reduceSub, Int.reduceMul, reduceCtorEq]
  refine evT_own (d1) Range_fn (by repeat' (first | exact trivial | assumption | refine And.intro ?_ ?_)) (tp_pure _ _) (tp_pure _ _) (by repeat' (first | exact trivial | assumption | refine And.intro ?_ ?_)) rfl (by rfl) (by rfl) ?_
  try simp only [stepS, List.set_cons_zero, List.set_cons_succ, Option.isSome_some, AV.pure, pureL, eq_self, List.replicate, List.length_map, Int.toNat_natCast, resT_at, resT_nil, hpL_at, hpL_nil, implies_true, forall_eq_or_imp, forall_eq, evA, hpAfter, binA, unA, binBA, rdH, heapy, rdOf, AOp.opers, refIds, partOk, partA, setOk, setPart, AV.solid, AV.cells, AV.isAgg, splice, fillOk, fillA, lenA, sliceA, resliceA, eqCells, bndA, litOk, litPure, litA, Nat.reduceEqDiff, ↓reduceIte, Nat.reduceAdd, Nat.reduceLeDiff, Nat.reduceSub, Nat.reduceMul, Nat.reduceLT, Int.reduceBEq, Int.reduceBNe, Int.reduceToNat, Int.reduceLT, Int.reduceLE, Int.reduceAdd, Int.reduceSub, Int.reduceMul, reduceCtorEq]
  refine evT_own (d2) Range_fn (by repeat' (first | exact trivial | assumption | refine And.intro ?_ ?_)) (tp_pure _ _) (tp_pure _ _) (by repeat' (first | exact trivial | assumption | refine And.intro ?_ ?_)) rfl (by rfl) (by rfl) ?_
  try simp only [stepS, List.set_cons_zero, List.set_cons_succ, Option.isSome_some, AV.pure, pureL, eq_self, List.replicate, List.length_map, Int.toNat_natCast, resT_at, resT_nil, hpL_at, hpL_nil, implies_true, forall_eq_or_imp, forall_eq, evA, hpAfter, binA, unA, binBA, rdH, heapy, rdOf, AOp.opers, refIds, partOk, partA, setOk, setPart, AV.solid, AV.cells, AV.isAgg, splice, fillOk, fillA, lenA, sliceA, resliceA, eqCells, bndA, litOk, litPure, litA, Nat.reduceEqDiff, ↓reduceIte, Nat.reduceAdd, Nat.reduceLeDiff, Nat.reduceSub, Nat.reduceMul, Nat.reduceLT, Int.reduceBEq, Int.reduceBNe, Int.reduceToNat, Int.reduceLT, Int.reduceLE, Int.reduceAdd, Int.reduceSub, Int.reduceMul, reduceCtorEq]
  refine hK _ _ _ ?_
  clear hK K
  clear d1 d2
  obtain ⟨i, q3, hi, hq3, d1⟩ := Range_ex L hq2 1 8 (by omega) (by omega) (by omega)
  obtain ⟨k, q4, hk, hq4, d2⟩ := Range_ex L hq3 1 4 (by omega) (by omega) (by omega)
  refine AWP.seq' ?_
  refine AWP.reg' fun K hK => ?_
  try simp only [stepS, List.set_cons_zero, List.set_cons_succ, Option.isSome_some, AV.pure, pureL, eq_self, List.replicate, List.length_map, Int.toNat_natCast, resT_at, resT_nil, hpL_at, hpL_nil, implies_true, forall_eq_or_imp, forall_eq, evA, hpAfter, binA, unA, binBA, rdH, heapy, rdOf, AOp.opers, refIds, partOk, partA, setOk, setPart, AV.solid, AV.cells, AV.isAgg, splice, fillOk, fillA, lenA, sliceA, resliceA, eqCells, bndA, litOk, litPure, litA, Nat.reduceEqDiff, ↓reduceIte, Nat.reduceAdd, Nat.reduceLeDiff, Nat.reduceSub, Nat.reduceMul, Nat.reduceLT, Int.reduceBEq, Int.reduceBNe, Int.reduceToNat, Int.reduceLT, Int.reduceLE, Int.reduceAdd, Int.reduceSub, Int.reduceMul, reduceCtorEq]
  refine evT_own (d1) Range_fn (by repeat' (first | exact trivial | assumption | refine And.intro ?_ ?_)) (tp_pure _ _) (tp_pure _ _) (by repeat' (first | exact trivial | assumption | refine And.intro ?_ ?_)) rfl (by rfl) (by rfl) ?_
  try simp only [stepS, List.set_cons_zero, List.set_cons_succ, Option.isSome_some, AV.pure, pureL, eq_self, List.replicate, List.length_map, Int.toNat_natCast, resT_at, resT_nil, hpL_at, hpL_nil, implies_true, forall_eq_or_imp, forall_eq, evA, hpAfter, binA, unA, binBA, rdH, heapy, rdOf, AOp.opers, refIds, partOk, partA, setOk, setPart, AV.solid, AV.cells, AV.isAgg, splice, fillOk, fillA, lenA, sliceA, resliceA, eqCells, bndA, litOk, litPure, litA, Nat.reduceEqDiff, ↓reduceIte, Nat.reduceAdd, Nat.reduceLeDiff, Nat.reduceSub, Nat.reduceMul, Nat.reduceLT, Int.reduceBEq, Int.reduceBNe, Int.reduceToNat, Int.reduceLT, Int.reduceLE, Int.reduceAdd, Int.reduceSub, Int.reduceMul, reduceCtorEq]
  refine evT_own (d2) Range_fn (by repeat' (first | exact trivial | assumption | refine And.intro ?_ ?_)) (tp_pure _ _) (tp_pure _ _) (by repeat' (first | exact trivial | assumption | refine And.intro ?_ ?_)) rfl (by rfl) (by rfl) ?_
  try simp only [stepS, List.set_cons_zero, List.set_cons_succ, Option.isSome_some, AV.pure, pureL, eq_self, List.replicate, List.length_map, Int.toNat_natCast, resT_at, resT_nil, hpL_at, hpL_nil, implies_true, forall_eq_or_imp, forall_eq, evA, hpAfter, binA, unA, binBA, rdH, heapy, rdOf, AOp.opers, refIds, partOk, partA, setOk, setPart, AV.solid, AV.cells, AV.isAgg, splice, fillOk, fillA, lenA, sliceA, resliceA, eqCells, bndA, litOk, litPure, litA, Nat.reduceEqDiff, ↓reduceIte, Nat.reduceAdd, Nat.reduceLeDiff, Nat.reduceSub, Nat.reduceMul, Nat.reduceLT, Int.reduceBEq, Int.reduceBNe, Int.reduceToNat, Int.reduceLT, Int.reduceLE, Int.reduceAdd, Int.reduceSub, Int.reduceMul, reduceCtorEq]
  refine hK _ _ _ ?_
  clear hK K
  clear d1 d2
  obtain ⟨m, s, q5, hf, hq5, d1⟩ := Filter_ex L hq4
  obtain ⟨m', s', q6, hf', hq6, d2⟩ := Filter_ex L hq5
  obtain ⟨n, q7, hn, hq7, d3⟩ := Range_ex L hq6 1 50 (by omega) (by omega) (by omega)
  refine AWP.seq' ?_
  refine AWP.reg' fun K hK => ?_
  try simp only [stepS, List.set_cons_zero, List.set_cons_succ, Option.isSome_some, AV.pure, pureL, eq_self, List.replicate, List.length_map, Int.toNat_natCast, resT_at, resT_nil, hpL_at, hpL_nil, implies_true, forall_eq_or_imp, forall_eq, evA, hpAfter, binA, unA, binBA, rdH, heapy, rdOf, AOp.opers, refIds, partOk, partA, setOk, setPart, AV.solid, AV.cells, AV.isAgg, splice, fillOk, fillA, lenA, sliceA, resliceA, eqCells, bndA, litOk, litPure, litA, Nat.reduceEqDiff, ↓reduceIte, Nat.reduceAdd, Nat.reduceLeDiff, Nat.reduceSub, Nat.reduceMul, Nat.reduceLT, Int.reduceBEq, Int.reduceBNe, Int.reduceToNat, Int.reduceLT, Int.reduceLE, Int.reduceAdd, Int.reduceSub, Int.reduceMul, reduceCtorEq]
  refine evT_own (d1) Filter_fn (by repeat' (first | exact trivial | assumption | refine And.intro ?_ ?_)) (tp_pure _ _) (tp_pure _ _) (by repeat' (first | exact trivial | assumption | refine And.intro ?_ ?_)) rfl (by rfl) (by rfl) ?_
  try simp only [stepS, List.set_cons_zero, List.set_cons_succ, Option.isSome_some, AV.pure, pureL, eq_self, List.replicate, List.length_map, Int.toNat_natCast, resT_at, resT_nil, hpL_at, hpL_nil, implies_true, forall_eq_or_imp, forall_eq, evA, hpAfter, binA, unA, binBA, rdH, heapy, rdOf, AOp.opers, refIds, partOk, partA, setOk, setPart, AV.solid, AV.cells, AV.isAgg, splice, fillOk, fillA, lenA, sliceA, resliceA, eqCells, bndA, litOk, litPure, litA, Nat.reduceEqDiff, ↓reduceIte, Nat.reduceAdd, Nat.reduceLeDiff, Nat.reduceSub, Nat.reduceMul, Nat.reduceLT, Int.reduceBEq, Int.reduceBNe, Int.reduceToNat, Int.reduceLT, Int.reduceLE, Int.reduceAdd, Int.reduceSub, Int.reduceMul, reduceCtorEq]
  refine evT_own (d2) Filter_fn (by repeat' (first | exact trivial | assumption | refine And.intro ?_ ?_)) (tp_pure _ _) (tp_pure _ _) (by repeat' (first | exact trivial | assumption | refine And.intro ?_ ?_)) rfl (by rfl) (by rfl) ?_
  try simp only [stepS, List.set_cons_zero, List.set_cons_succ, Option.isSome_some, AV.pure, pureL, eq_self, List.replicate, List.length_map, Int.toNat_natCast, resT_at, resT_nil, hpL_at, hpL_nil, implies_true, forall_eq_or_imp, forall_eq, evA, hpAfter, binA, unA, binBA, rdH, heapy, rdOf, AOp.opers, refIds, partOk, partA, setOk, setPart, AV.solid, AV.cells, AV.isAgg, splice, fillOk, fillA, lenA, sliceA, resliceA, eqCells, bndA, litOk, litPure, litA, Nat.reduceEqDiff, ↓reduceIte, Nat.reduceAdd, Nat.reduceLeDiff, Nat.reduceSub, Nat.reduceMul, Nat.reduceLT, Int.reduceBEq, Int.reduceBNe, Int.reduceToNat, Int.reduceLT, Int.reduceLE, Int.reduceAdd, Int.reduceSub, Int.reduceMul, reduceCtorEq]
  refine evT_own (d3) Range_fn (by repeat' (first | exact trivial | assumption | refine And.intro ?_ ?_)) (tp_pure _ _) (tp_pure _ _) (by repeat' (first | exact trivial | assumption | refine And.intro ?_ ?_)) rfl (by rfl) (by rfl) ?_
  try simp only [stepS, List.set_cons_zero, List.set_cons_succ, Option.isSome_some, AV.pure, pureL, eq_self, List.replicate, List.length_map, Int.toNat_natCast, resT_at, resT_nil, hpL_at, hpL_nil, implies_true, forall_eq_or_imp, forall_eq, evA, hpAfter, binA, unA, binBA, rdH, heapy, rdOf, AOp.opers, refIds, partOk, partA, setOk, setPart, AV.solid, AV.cells, AV.isAgg, splice, fillOk, fillA, lenA, sliceA, resliceA, eqCells, bndA, litOk, litPure, litA, Nat.reduceEqDiff, ↓reduceIte, Nat.reduceAdd, Nat.reduceLeDiff, Nat.reduceSub, Nat.reduceMul, Nat.reduceLT, Int.reduceBEq, Int.reduceBNe, Int.reduceToNat, Int.reduceLT, Int.reduceLE, Int.reduceAdd, Int.reduceSub, Int.reduceMul, reduceCtorEq, fltV, ints]
  refine hK _ _ _ ?_
  clear hK K
  clear d1 d2 d3
  obtain ⟨k2, hk2, hne, hkd⟩ : ∃ k2, (1 ≤ k2 ∧ k2 ≤ 5) ∧ (h ≠ i ∨ g ≠ k2) ∧ k2 = (if h = i ∧ g = k then k + 1 else k) := by
    refine ⟨_, ?_, ?_, rfl⟩ <;> split <;> omega
  have w1 : IntKind.i64.wrap (k + 1) = k + 1 := wrap64 (by omega)
  refine AWP.seqW ⟨resT [(3, .ref 0 0), (4, .ref 1 0), (5, .int h), (6, .int g), (7, .int i), (8, .int k2), (9, .ref 2 0), (10, .ref 3 0), (11, .int n)], hpL 0 [some (.box (tp L q7)), some (.box (.agg [.int now, .sl 5 (l.map Mem.v) false])), some (.box (.agg [.int m, .sl 1 (s.map .int) false])), some (.box (.agg [.int m', .sl 1 (s'.map .int) false]))], 4⟩ ?_ ?_
  · refine AWP.seq' ?_
    by_cases h1 : h = i
    case neg =>
      have e : (h == i) = false := by simpa using h1
      rw [if_neg (fun x => h1 x.1)] at hkd
      subst hkd
      refine AWP.reg' fun K hK => ?_
      try simp only [stepS, List.set_cons_zero, List.set_cons_succ, Option.isSome_some, AV.pure, pureL, eq_self, List.replicate, List.length_map, Int.toNat_natCast, resT_at, resT_nil, hpL_at, hpL_nil, implies_true, forall_eq_or_imp, forall_eq, evA, hpAfter, binA, unA, binBA, rdH, heapy, rdOf, AOp.opers, refIds, partOk, partA, setOk, setPart, AV.solid, AV.cells, AV.isAgg, splice, fillOk, fillA, lenA, sliceA, resliceA, eqCells, bndA, litOk, litPure, litA, Nat.reduceEqDiff, ↓reduceIte, Nat.reduceAdd, Nat.reduceLeDiff, Nat.reduceSub, Nat.reduceMul, Nat.reduceLT, Int.reduceBEq, Int.reduceBNe, Int.reduceToNat, Int.reduceLT, Int.reduceLE, Int.reduceAdd, Int.reduceSub, Int.reduceMul, reduceCtorEq, e]
      refine hK _ _ _ ?_
      clear hK K
      refine AWP.cond (b := false) rfl (fun c => by cases c) (fun c => ?_)
      refine AWP.skip ?_
      refine Weak.nf [32, 96, 416, 432] _ _ ?_ ?_ ⟨rfl, rfl⟩ (by decide) (by decide) (by decide)
      · repeat' (first | exact trivial | exact And.intro rfl trivial | refine And.intro ?_ ?_ | rfl | exact Nat.le_of_ble_eq_true rfl)
      · repeat' (first | exact trivial | exact And.intro rfl trivial | refine And.intro ?_ ?_ | rfl | exact Nat.le_of_ble_eq_true rfl)
    have e : (h == i) = true := by simpa using h1
    by_cases h2 : g = k
    case neg =>
      have e2 : (g == k) = false := by simpa using h2
      rw [if_neg (fun x => h2 x.2)] at hkd
      subst hkd
      refine AWP.reg' fun K hK => ?_
      try simp only [stepS, List.set_cons_zero, List.set_cons_succ, Option.isSome_some, AV.pure, pureL, eq_self, List.replicate, List.length_map, Int.toNat_natCast, resT_at, resT_nil, hpL_at, hpL_nil, implies_true, forall_eq_or_imp, forall_eq, evA, hpAfter, binA, unA, binBA, rdH, heapy, rdOf, AOp.opers, refIds, partOk, partA, setOk, setPart, AV.solid, AV.cells, AV.isAgg, splice, fillOk, fillA, lenA, sliceA, resliceA, eqCells, bndA, litOk, litPure, litA, Nat.reduceEqDiff, ↓reduceIte, Nat.reduceAdd, Nat.reduceLeDiff, Nat.reduceSub, Nat.reduceMul, Nat.reduceLT, Int.reduceBEq, Int.reduceBNe, Int.reduceToNat, Int.reduceLT, Int.reduceLE, Int.reduceAdd, Int.reduceSub, Int.reduceMul, reduceCtorEq, e, e2]
      refine hK _ _ _ ?_
      clear hK K
      refine AWP.cond (b := false) rfl (fun c => by cases c) (fun c => ?_)
      refine AWP.skip ?_
      refine Weak.nf [32, 96, 416, 432] _ _ ?_ ?_ ⟨rfl, rfl⟩ (by decide) (by decide) (by decide)
      · repeat' (first | exact trivial | exact And.intro rfl trivial | refine And.intro ?_ ?_ | rfl | exact Nat.le_of_ble_eq_true rfl)
      · repeat' (first | exact trivial | exact And.intro rfl trivial | refine And.intro ?_ ?_ | rfl | exact Nat.le_of_ble_eq_true rfl)
    have e2 : (g == k) = true := by simpa using h2
    rw [if_pos ⟨h1, h2⟩] at hkd
    subst hkd
    refine AWP.reg' fun K hK => ?_
    try simp only [stepS, List.set_cons_zero, List.set_cons_succ, Option.isSome_some, AV.pure, pureL, eq_self, List.replicate, List.length_map, Int.toNat_natCast, resT_at, resT_nil, hpL_at, hpL_nil, implies_true, forall_eq_or_imp, forall_eq, evA, hpAfter, binA, unA, binBA, rdH, heapy, rdOf, AOp.opers, refIds, partOk, partA, setOk, setPart, AV.solid, AV.cells, AV.isAgg, splice, fillOk, fillA, lenA, sliceA, resliceA, eqCells, bndA, litOk, litPure, litA, Nat.reduceEqDiff, ↓reduceIte, Nat.reduceAdd, Nat.reduceLeDiff, Nat.reduceSub, Nat.reduceMul, Nat.reduceLT, Int.reduceBEq, Int.reduceBNe, Int.reduceToNat, Int.reduceLT, Int.reduceLE, Int.reduceAdd, Int.reduceSub, Int.reduceMul, reduceCtorEq, e, e2]
    refine hK _ _ _ ?_
    clear hK K
    refine AWP.cond (b := true) rfl (fun c => ?_) (fun c => by cases c)
    refine AWP.reg' fun K hK => ?_
    try simp only [stepS, List.set_cons_zero, List.set_cons_succ, Option.isSome_some, AV.pure, pureL, eq_self, List.replicate, List.length_map, Int.toNat_natCast, resT_at, resT_nil, hpL_at, hpL_nil, implies_true, forall_eq_or_imp, forall_eq, evA, hpAfter, binA, unA, binBA, rdH, heapy, rdOf, AOp.opers, refIds, partOk, partA, setOk, setPart, AV.solid, AV.cells, AV.isAgg, splice, fillOk, fillA, lenA, sliceA, resliceA, eqCells, bndA, litOk, litPure, litA, Nat.reduceEqDiff, ↓reduceIte, Nat.reduceAdd, Nat.reduceLeDiff, Nat.reduceSub, Nat.reduceMul, Nat.reduceLT, Int.reduceBEq, Int.reduceBNe, Int.reduceToNat, Int.reduceLT, Int.reduceLE, Int.reduceAdd, Int.reduceSub, Int.reduceMul, reduceCtorEq, w1]
    refine hK _ _ _ ?_
    clear hK K
    refine Weak.nf [32, 96, 416, 432] _ _ ?_ ?_ ⟨rfl, rfl⟩ (by decide) (by decide) (by decide)
    · repeat' (first | exact trivial | exact And.intro rfl trivial | refine And.intro ?_ ?_ | rfl | exact Nat.le_of_ble_eq_true rfl)
    · repeat' (first | exact trivial | exact And.intro rfl trivial | refine And.intro ?_ ?_ | rfl | exact Nat.le_of_ble_eq_true rfl)
  have i1 : repIn h g m s n := ⟨⟨by omega, by omega, by omega⟩, hf⟩
  have i2 : repIn i k2 m' s' 9 := ⟨⟨by omega, by omega, by omega⟩, hf'⟩
  have hcm := rep_comm ok i1 i2 (by omega) hne
  obtain ⟨a1, a2, a3⟩ := report_any ok i1 (by omega)
  obtain ⟨b1, b2, b3⟩ := report_any ok i2 (by omega)
  obtain ⟨c1, c2, c3⟩ := report_any a2 i2 (by omega)
  obtain ⟨d1, d2, d3⟩ := report_any b2 i1 (by omega)
  generalize repL now (repL now l h g m s n) i k2 m' s' 9 = A at hcm c1 c2
  generalize repL now (repL now l i k2 m' s' 9) h g m s n = B at hcm d1 d2
  subst hcm
  generalize repL now l h g m s n = M1 at a1 c1
  generalize repL now l i k2 m' s' 9 = M2 at b1 d1
  refine AWP.seq' ?_
  refine AWP.reg' fun K hK => ?_
  try simp only [stepS, List.set_cons_zero, List.set_cons_succ, Option.isSome_some, AV.pure, pureL, eq_self, List.replicate, List.length_map, Int.toNat_natCast, resT_at, resT_nil, hpL_at, hpL_nil, implies_true, forall_eq_or_imp, forall_eq, evA, hpAfter, binA, unA, binBA, rdH, heapy, rdOf, AOp.opers, refIds, partOk, partA, setOk, setPart, AV.solid, AV.cells, AV.isAgg, splice, fillOk, fillA, lenA, sliceA, resliceA, eqCells, bndA, litOk, litPure, litA, Nat.reduceEqDiff, ↓reduceIte, Nat.reduceAdd, Nat.reduceLeDiff, Nat.reduceSub, Nat.reduceMul, Nat.reduceLT, Int.reduceBEq, Int.reduceBNe, Int.reduceToNat, Int.reduceLT, Int.reduceLE, Int.reduceAdd, Int.reduceSub, Int.reduceMul, reduceCtorEq]
  refine evT_pure (Report_spec now l h g m s n) Report_fn rfl (by rfl) (by repeat' (first | exact trivial | assumption | refine And.intro ?_ ?_)) ?_
  try simp only [stepS, List.set_cons_zero, List.set_cons_succ, Option.isSome_some, AV.pure, pureL, eq_self, List.replicate, List.length_map, Int.toNat_natCast, resT_at, resT_nil, hpL_at, hpL_nil, implies_true, forall_eq_or_imp, forall_eq, evA, hpAfter, binA, unA, binBA, rdH, heapy, rdOf, AOp.opers, refIds, partOk, partA, setOk, setPart, AV.solid, AV.cells, AV.isAgg, splice, fillOk, fillA, lenA, sliceA, resliceA, eqCells, bndA, litOk, litPure, litA, Nat.reduceEqDiff, ↓reduceIte, Nat.reduceAdd, Nat.reduceLeDiff, Nat.reduceSub, Nat.reduceMul, Nat.reduceLT, Int.reduceBEq, Int.reduceBNe, Int.reduceToNat, Int.reduceLT, Int.reduceLE, Int.reduceAdd, Int.reduceSub, Int.reduceMul, reduceCtorEq, a1, MR.v, memsV, mems]
  refine hK _ _ _ ?_
  clear hK K
  refine AWP.seq' ?_
  refine AWP.reg' fun K hK => ?_
  try simp only [stepS, List.set_cons_zero, List.set_cons_succ, Option.isSome_some, AV.pure, pureL, eq_self, List.replicate, List.length_map, Int.toNat_natCast, resT_at, resT_nil, hpL_at, hpL_nil, implies_true, forall_eq_or_imp, forall_eq, evA, hpAfter, binA, unA, binBA, rdH, heapy, rdOf, AOp.opers, refIds, partOk, partA, setOk, setPart, AV.solid, AV.cells, AV.isAgg, splice, fillOk, fillA, lenA, sliceA, resliceA, eqCells, bndA, litOk, litPure, litA, Nat.reduceEqDiff, ↓reduceIte, Nat.reduceAdd, Nat.reduceLeDiff, Nat.reduceSub, Nat.reduceMul, Nat.reduceLT, Int.reduceBEq, Int.reduceBNe, Int.reduceToNat, Int.reduceLT, Int.reduceLE, Int.reduceAdd, Int.reduceSub, Int.reduceMul, reduceCtorEq]
  refine evT_pure (Report_spec now M1 i k2 m' s' 9) Report_fn rfl (by rfl) (by repeat' (first | exact trivial | assumption | refine And.intro ?_ ?_)) ?_
  try simp only [stepS, List.set_cons_zero, List.set_cons_succ, Option.isSome_some, AV.pure, pureL, eq_self, List.replicate, List.length_map, Int.toNat_natCast, resT_at, resT_nil, hpL_at, hpL_nil, implies_true, forall_eq_or_imp, forall_eq, evA, hpAfter, binA, unA, binBA, rdH, heapy, rdOf, AOp.opers, refIds, partOk, partA, setOk, setPart, AV.solid, AV.cells, AV.isAgg, splice, fillOk, fillA, lenA, sliceA, resliceA, eqCells, bndA, litOk, litPure, litA, Nat.reduceEqDiff, ↓reduceIte, Nat.reduceAdd, Nat.reduceLeDiff, Nat.reduceSub, Nat.reduceMul, Nat.reduceLT, Int.reduceBEq, Int.reduceBNe, Int.reduceToNat, Int.reduceLT, Int.reduceLE, Int.reduceAdd, Int.reduceSub, Int.reduceMul, reduceCtorEq, c1, MR.v, memsV, mems]
  refine hK _ _ _ ?_
  clear hK K
  refine AWP.seq' ?_
  refine AWP.reg' fun K hK => ?_
  try simp only [stepS, List.set_cons_zero, List.set_cons_succ, Option.isSome_some, AV.pure, pureL, eq_self, List.replicate, List.length_map, Int.toNat_natCast, resT_at, resT_nil, hpL_at, hpL_nil, implies_true, forall_eq_or_imp, forall_eq, evA, hpAfter, binA, unA, binBA, rdH, heapy, rdOf, AOp.opers, refIds, partOk, partA, setOk, setPart, AV.solid, AV.cells, AV.isAgg, splice, fillOk, fillA, lenA, sliceA, resliceA, eqCells, bndA, litOk, litPure, litA, Nat.reduceEqDiff, ↓reduceIte, Nat.reduceAdd, Nat.reduceLeDiff, Nat.reduceSub, Nat.reduceMul, Nat.reduceLT, Int.reduceBEq, Int.reduceBNe, Int.reduceToNat, Int.reduceLT, Int.reduceLE, Int.reduceAdd, Int.reduceSub, Int.reduceMul, reduceCtorEq]
  refine evT_pure (Report_spec now l i k2 m' s' 9) Report_fn rfl (by rfl) (by repeat' (first | exact trivial | assumption | refine And.intro ?_ ?_)) ?_
  try simp only [stepS, List.set_cons_zero, List.set_cons_succ, Option.isSome_some, AV.pure, pureL, eq_self, List.replicate, List.length_map, Int.toNat_natCast, resT_at, resT_nil, hpL_at, hpL_nil, implies_true, forall_eq_or_imp, forall_eq, evA, hpAfter, binA, unA, binBA, rdH, heapy, rdOf, AOp.opers, refIds, partOk, partA, setOk, setPart, AV.solid, AV.cells, AV.isAgg, splice, fillOk, fillA, lenA, sliceA, resliceA, eqCells, bndA, litOk, litPure, litA, Nat.reduceEqDiff, ↓reduceIte, Nat.reduceAdd, Nat.reduceLeDiff, Nat.reduceSub, Nat.reduceMul, Nat.reduceLT, Int.reduceBEq, Int.reduceBNe, Int.reduceToNat, Int.reduceLT, Int.reduceLE, Int.reduceAdd, Int.reduceSub, Int.reduceMul, reduceCtorEq, b1, MR.v, memsV, mems]
  refine hK _ _ _ ?_
  clear hK K
  refine AWP.seq' ?_
  refine AWP.reg' fun K hK => ?_
  try simp only [stepS, List.set_cons_zero, List.set_cons_succ, Option.isSome_some, AV.pure, pureL, eq_self, List.replicate, List.length_map, Int.toNat_natCast, resT_at, resT_nil, hpL_at, hpL_nil, implies_true, forall_eq_or_imp, forall_eq, evA, hpAfter, binA, unA, binBA, rdH, heapy, rdOf, AOp.opers, refIds, partOk, partA, setOk, setPart, AV.solid, AV.cells, AV.isAgg, splice, fillOk, fillA, lenA, sliceA, resliceA, eqCells, bndA, litOk, litPure, litA, Nat.reduceEqDiff, ↓reduceIte, Nat.reduceAdd, Nat.reduceLeDiff, Nat.reduceSub, Nat.reduceMul, Nat.reduceLT, Int.reduceBEq, Int.reduceBNe, Int.reduceToNat, Int.reduceLT, Int.reduceLE, Int.reduceAdd, Int.reduceSub, Int.reduceMul, reduceCtorEq]
  refine evT_pure (Report_spec now M2 h g m s n) Report_fn rfl (by rfl) (by repeat' (first | exact trivial | assumption | refine And.intro ?_ ?_)) ?_
  try simp only [stepS, List.set_cons_zero, List.set_cons_succ, Option.isSome_some, AV.pure, pureL, eq_self, List.replicate, List.length_map, Int.toNat_natCast, resT_at, resT_nil, hpL_at, hpL_nil, implies_true, forall_eq_or_imp, forall_eq, evA, hpAfter, binA, unA, binBA, rdH, heapy, rdOf, AOp.opers, refIds, partOk, partA, setOk, setPart, AV.solid, AV.cells, AV.isAgg, splice, fillOk, fillA, lenA, sliceA, resliceA, eqCells, bndA, litOk, litPure, litA, Nat.reduceEqDiff, ↓reduceIte, Nat.reduceAdd, Nat.reduceLeDiff, Nat.reduceSub, Nat.reduceMul, Nat.reduceLT, Int.reduceBEq, Int.reduceBNe, Int.reduceToNat, Int.reduceLT, Int.reduceLE, Int.reduceAdd, Int.reduceSub, Int.reduceMul, reduceCtorEq, d1, MR.v, memsV, mems]
  refine hK _ _ _ ?_
  clear hK K
  refine AWP.seq' (AWP.seq' ?_)
  refine AWP.reg' fun K hK => ?_
  try simp only [stepS, List.set_cons_zero, List.set_cons_succ, Option.isSome_some, AV.pure, pureL, eq_self, List.replicate, List.length_map, Int.toNat_natCast, resT_at, resT_nil, hpL_at, hpL_nil, implies_true, forall_eq_or_imp, forall_eq, evA, hpAfter, binA, unA, binBA, rdH, heapy, rdOf, AOp.opers, refIds, partOk, partA, setOk, setPart, AV.solid, AV.cells, AV.isAgg, splice, fillOk, fillA, lenA, sliceA, resliceA, eqCells, bndA, litOk, litPure, litA, Nat.reduceEqDiff, ↓reduceIte, Nat.reduceAdd, Nat.reduceLeDiff, Nat.reduceSub, Nat.reduceMul, Nat.reduceLT, Int.reduceBEq, Int.reduceBNe, Int.reduceToNat, Int.reduceLT, Int.reduceLE, Int.reduceAdd, Int.reduceSub, Int.reduceMul, reduceCtorEq]
  refine evT_pure (RSame_spec now now A A) RSame_fn rfl (by rfl) (by repeat' (first | exact trivial | assumption | refine And.intro ?_ ?_)) ?_
  try simp only [stepS, List.set_cons_zero, List.set_cons_succ, Option.isSome_some, AV.pure, pureL, eq_self, List.replicate, List.length_map, Int.toNat_natCast, resT_at, resT_nil, hpL_at, hpL_nil, implies_true, forall_eq_or_imp, forall_eq, evA, hpAfter, binA, unA, binBA, rdH, heapy, rdOf, AOp.opers, refIds, partOk, partA, setOk, setPart, AV.solid, AV.cells, AV.isAgg, splice, fillOk, fillA, lenA, sliceA, resliceA, eqCells, bndA, litOk, litPure, litA, Nat.reduceEqDiff, ↓reduceIte, Nat.reduceAdd, Nat.reduceLeDiff, Nat.reduceSub, Nat.reduceMul, Nat.reduceLT, Int.reduceBEq, Int.reduceBNe, Int.reduceToNat, Int.reduceLT, Int.reduceLE, Int.reduceAdd, Int.reduceSub, Int.reduceMul, reduceCtorEq]
  refine hK _ _ _ ?_
  clear hK K
  refine AWP.cond (b := false) rfl (fun c => by cases c) (fun c => ?_)
  refine AWP.skip ?_
  obtain ⟨v, q8, hv, hq8, d1⟩ := N_ex L hq7 (n := 20) (by omega)
  have w2 : IntKind.i64.wrap (now + v) = now + v := wrap64 (by have := ok.rng; omega)
  have w3 : IntKind.i64.wrap (now + 20) = now + 20 := wrap64 (by have := ok.rng; omega)
  have t1 := tick_ok c2 (n := now + v) (by have := ok.rng; omega)
  have t2 := tick_ok t1.2 (n := now + 20) (by have := ok.rng; omega)
  have t3 := tick_ok c2 (n := now + 20) (by have := ok.rng; omega)
  rw [living_twice (by omega)] at t2
  refine AWP.seq' ?_
  refine AWP.dreg' fun K hK => ?_
  try simp only [stepS, List.set_cons_zero, List.set_cons_succ, Option.isSome_some, AV.pure, pureL, eq_self, List.replicate, List.length_map, Int.toNat_natCast, resT_at, resT_nil, hpL_at, hpL_nil, implies_true, forall_eq_or_imp, forall_eq, evA, hpAfter, binA, unA, binBA, rdH, heapy, rdOf, AOp.opers, refIds, partOk, partA, setOk, setPart, AV.solid, AV.cells, AV.isAgg, splice, fillOk, fillA, lenA, sliceA, resliceA, eqCells, bndA, litOk, litPure, litA, Nat.reduceEqDiff, ↓reduceIte, Nat.reduceAdd, Nat.reduceLeDiff, Nat.reduceSub, Nat.reduceMul, Nat.reduceLT, Int.reduceBEq, Int.reduceBNe, Int.reduceToNat, Int.reduceLT, Int.reduceLE, Int.reduceAdd, Int.reduceSub, Int.reduceMul, reduceCtorEq]
  refine evD_own (d1) N_fn (by repeat' (first | exact trivial | assumption | refine And.intro ?_ ?_)) (tp_pure _ _) (tp_pure _ _) (by repeat' (first | exact trivial | assumption | refine And.intro ?_ ?_)) rfl (by rfl) (by rfl) ?_
  try simp only [stepS, List.set_cons_zero, List.set_cons_succ, Option.isSome_some, AV.pure, pureL, eq_self, List.replicate, List.length_map, Int.toNat_natCast, resT_at, resT_nil, hpL_at, hpL_nil, implies_true, forall_eq_or_imp, forall_eq, evA, hpAfter, binA, unA, binBA, rdH, heapy, rdOf, AOp.opers, refIds, partOk, partA, setOk, setPart, AV.solid, AV.cells, AV.isAgg, splice, fillOk, fillA, lenA, sliceA, resliceA, eqCells, bndA, litOk, litPure, litA, Nat.reduceEqDiff, ↓reduceIte, Nat.reduceAdd, Nat.reduceLeDiff, Nat.reduceSub, Nat.reduceMul, Nat.reduceLT, Int.reduceBEq, Int.reduceBNe, Int.reduceToNat, Int.reduceLT, Int.reduceLE, Int.reduceAdd, Int.reduceSub, Int.reduceMul, reduceCtorEq, w2]
  refine evD_pure (Tick_spec now A (now + v)) Tick_fn rfl (by rfl) (by repeat' (first | exact trivial | assumption | refine And.intro ?_ ?_)) ?_
  try simp only [stepS, List.set_cons_zero, List.set_cons_succ, Option.isSome_some, AV.pure, pureL, eq_self, List.replicate, List.length_map, Int.toNat_natCast, resT_at, resT_nil, hpL_at, hpL_nil, implies_true, forall_eq_or_imp, forall_eq, evA, hpAfter, binA, unA, binBA, rdH, heapy, rdOf, AOp.opers, refIds, partOk, partA, setOk, setPart, AV.solid, AV.cells, AV.isAgg, splice, fillOk, fillA, lenA, sliceA, resliceA, eqCells, bndA, litOk, litPure, litA, Nat.reduceEqDiff, ↓reduceIte, Nat.reduceAdd, Nat.reduceLeDiff, Nat.reduceSub, Nat.reduceMul, Nat.reduceLT, Int.reduceBEq, Int.reduceBNe, Int.reduceToNat, Int.reduceLT, Int.reduceLE, Int.reduceAdd, Int.reduceSub, Int.reduceMul, reduceCtorEq, t1.1, MR.v, memsV, mems]
  refine ⟨by rfl, hK _ _ _ ?_⟩
  clear hK K
  refine AWP.seq' ?_
  refine AWP.reg' fun K hK => ?_
  try simp only [stepS, List.set_cons_zero, List.set_cons_succ, Option.isSome_some, AV.pure, pureL, eq_self, List.replicate, List.length_map, Int.toNat_natCast, resT_at, resT_nil, hpL_at, hpL_nil, implies_true, forall_eq_or_imp, forall_eq, evA, hpAfter, binA, unA, binBA, rdH, heapy, rdOf, AOp.opers, refIds, partOk, partA, setOk, setPart, AV.solid, AV.cells, AV.isAgg, splice, fillOk, fillA, lenA, sliceA, resliceA, eqCells, bndA, litOk, litPure, litA, Nat.reduceEqDiff, ↓reduceIte, Nat.reduceAdd, Nat.reduceLeDiff, Nat.reduceSub, Nat.reduceMul, Nat.reduceLT, Int.reduceBEq, Int.reduceBNe, Int.reduceToNat, Int.reduceLT, Int.reduceLE, Int.reduceAdd, Int.reduceSub, Int.reduceMul, reduceCtorEq, w3]
  refine evT_pure (Tick_spec (now + v) (A.filter (living (now + v))) (now + 20)) Tick_fn rfl (by rfl) (by repeat' (first | exact trivial | assumption | refine And.intro ?_ ?_)) ?_
  try simp only [stepS, List.set_cons_zero, List.set_cons_succ, Option.isSome_some, AV.pure, pureL, eq_self, List.replicate, List.length_map, Int.toNat_natCast, resT_at, resT_nil, hpL_at, hpL_nil, implies_true, forall_eq_or_imp, forall_eq, evA, hpAfter, binA, unA, binBA, rdH, heapy, rdOf, AOp.opers, refIds, partOk, partA, setOk, setPart, AV.solid, AV.cells, AV.isAgg, splice, fillOk, fillA, lenA, sliceA, resliceA, eqCells, bndA, litOk, litPure, litA, Nat.reduceEqDiff, ↓reduceIte, Nat.reduceAdd, Nat.reduceLeDiff, Nat.reduceSub, Nat.reduceMul, Nat.reduceLT, Int.reduceBEq, Int.reduceBNe, Int.reduceToNat, Int.reduceLT, Int.reduceLE, Int.reduceAdd, Int.reduceSub, Int.reduceMul, reduceCtorEq, t2.1, MR.v, memsV, mems]
  refine hK _ _ _ ?_
  clear hK K
  refine AWP.seq' ?_
  refine AWP.reg' fun K hK => ?_
  try simp only [stepS, List.set_cons_zero, List.set_cons_succ, Option.isSome_some, AV.pure, pureL, eq_self, List.replicate, List.length_map, Int.toNat_natCast, resT_at, resT_nil, hpL_at, hpL_nil, implies_true, forall_eq_or_imp, forall_eq, evA, hpAfter, binA, unA, binBA, rdH, heapy, rdOf, AOp.opers, refIds, partOk, partA, setOk, setPart, AV.solid, AV.cells, AV.isAgg, splice, fillOk, fillA, lenA, sliceA, resliceA, eqCells, bndA, litOk, litPure, litA, Nat.reduceEqDiff, ↓reduceIte, Nat.reduceAdd, Nat.reduceLeDiff, Nat.reduceSub, Nat.reduceMul, Nat.reduceLT, Int.reduceBEq, Int.reduceBNe, Int.reduceToNat, Int.reduceLT, Int.reduceLE, Int.reduceAdd, Int.reduceSub, Int.reduceMul, reduceCtorEq, w3]
  refine evT_pure (Tick_spec now A (now + 20)) Tick_fn rfl (by rfl) (by repeat' (first | exact trivial | assumption | refine And.intro ?_ ?_)) ?_
  try simp only [stepS, List.set_cons_zero, List.set_cons_succ, Option.isSome_some, AV.pure, pureL, eq_self, List.replicate, List.length_map, Int.toNat_natCast, resT_at, resT_nil, hpL_at, hpL_nil, implies_true, forall_eq_or_imp, forall_eq, evA, hpAfter, binA, unA, binBA, rdH, heapy, rdOf, AOp.opers, refIds, partOk, partA, setOk, setPart, AV.solid, AV.cells, AV.isAgg, splice, fillOk, fillA, lenA, sliceA, resliceA, eqCells, bndA, litOk, litPure, litA, Nat.reduceEqDiff, ↓reduceIte, Nat.reduceAdd, Nat.reduceLeDiff, Nat.reduceSub, Nat.reduceMul, Nat.reduceLT, Int.reduceBEq, Int.reduceBNe, Int.reduceToNat, Int.reduceLT, Int.reduceLE, Int.reduceAdd, Int.reduceSub, Int.reduceMul, reduceCtorEq, t3.1, MR.v, memsV, mems]
  refine hK _ _ _ ?_
  clear hK K
  refine AWP.seq' ?_
  refine AWP.reg' fun K hK => ?_
  try simp only [stepS, List.set_cons_zero, List.set_cons_succ, Option.isSome_some, AV.pure, pureL, eq_self, List.replicate, List.length_map, Int.toNat_natCast, resT_at, resT_nil, hpL_at, hpL_nil, implies_true, forall_eq_or_imp, forall_eq, evA, hpAfter, binA, unA, binBA, rdH, heapy, rdOf, AOp.opers, refIds, partOk, partA, setOk, setPart, AV.solid, AV.cells, AV.isAgg, splice, fillOk, fillA, lenA, sliceA, resliceA, eqCells, bndA, litOk, litPure, litA, Nat.reduceEqDiff, ↓reduceIte, Nat.reduceAdd, Nat.reduceLeDiff, Nat.reduceSub, Nat.reduceMul, Nat.reduceLT, Int.reduceBEq, Int.reduceBNe, Int.reduceToNat, Int.reduceLT, Int.reduceLE, Int.reduceAdd, Int.reduceSub, Int.reduceMul, reduceCtorEq]
  refine evT_pure (RSame_spec (now + 20) (now + 20) (A.filter (living (now + 20))) (A.filter (living (now + 20)))) RSame_fn rfl (by rfl) (by repeat' (first | exact trivial | assumption | refine And.intro ?_ ?_)) ?_
  try simp only [stepS, List.set_cons_zero, List.set_cons_succ, Option.isSome_some, AV.pure, pureL, eq_self, List.replicate, List.length_map, Int.toNat_natCast, resT_at, resT_nil, hpL_at, hpL_nil, implies_true, forall_eq_or_imp, forall_eq, evA, hpAfter, binA, unA, binBA, rdH, heapy, rdOf, AOp.opers, refIds, partOk, partA, setOk, setPart, AV.solid, AV.cells, AV.isAgg, splice, fillOk, fillA, lenA, sliceA, resliceA, eqCells, bndA, litOk, litPure, litA, Nat.reduceEqDiff, ↓reduceIte, Nat.reduceAdd, Nat.reduceLeDiff, Nat.reduceSub, Nat.reduceMul, Nat.reduceLT, Int.reduceBEq, Int.reduceBNe, Int.reduceToNat, Int.reduceLT, Int.reduceLE, Int.reduceAdd, Int.reduceSub, Int.reduceMul, reduceCtorEq]
  refine evT_pure (MVal_spec (now + 20) (A.filter (living (now + 20)))) MVal_fn rfl (by rfl) (by repeat' (first | exact trivial | assumption | refine And.intro ?_ ?_)) ?_
  try simp only [stepS, List.set_cons_zero, List.set_cons_succ, Option.isSome_some, AV.pure, pureL, eq_self, List.replicate, List.length_map, Int.toNat_natCast, resT_at, resT_nil, hpL_at, hpL_nil, implies_true, forall_eq_or_imp, forall_eq, evA, hpAfter, binA, unA, binBA, rdH, heapy, rdOf, AOp.opers, refIds, partOk, partA, setOk, setPart, AV.solid, AV.cells, AV.isAgg, splice, fillOk, fillA, lenA, sliceA, resliceA, eqCells, bndA, litOk, litPure, litA, Nat.reduceEqDiff, ↓reduceIte, Nat.reduceAdd, Nat.reduceLeDiff, Nat.reduceSub, Nat.reduceMul, Nat.reduceLT, Int.reduceBEq, Int.reduceBNe, Int.reduceToNat, Int.reduceLT, Int.reduceLE, Int.reduceAdd, Int.reduceSub, Int.reduceMul, reduceCtorEq, t3.2.err]
  refine evT_pure (lawake_spec) lawake_fn rfl (by rfl) (by repeat' (first | exact trivial | assumption | refine And.intro ?_ ?_)) ?_
  try simp only [stepS, List.set_cons_zero, List.set_cons_succ, Option.isSome_some, AV.pure, pureL, eq_self, List.replicate, List.length_map, Int.toNat_natCast, resT_at, resT_nil, hpL_at, hpL_nil, implies_true, forall_eq_or_imp, forall_eq, evA, hpAfter, binA, unA, binBA, rdH, heapy, rdOf, AOp.opers, refIds, partOk, partA, setOk, setPart, AV.solid, AV.cells, AV.isAgg, splice, fillOk, fillA, lenA, sliceA, resliceA, eqCells, bndA, litOk, litPure, litA, Nat.reduceEqDiff, ↓reduceIte, Nat.reduceAdd, Nat.reduceLeDiff, Nat.reduceSub, Nat.reduceMul, Nat.reduceLT, Int.reduceBEq, Int.reduceBNe, Int.reduceToNat, Int.reduceLT, Int.reduceLE, Int.reduceAdd, Int.reduceSub, Int.reduceMul, reduceCtorEq]
  refine hK _ _ _ ?_
  clear hK K
  exact AWP.ret (finP_ret rfl rfl trivial)
end Go.Proofs.Ytaboolnmkfenlaa
