/- MemberRobust: the walk. -/
import Derived.Test.YtaboolnmkfenlaaS11
namespace Go.Proofs.Ytaboolnmkfenlaa
open Go Go.Am
set_option linter.unusedVariables false
set_option linter.unusedSimpArgs false
theorem New_tp (es : List Int) : HSpec Try.prog 9 [ints es] [] (.ref 0 0) [some (.box (tp (es.take 2000) 0))] := by
  have h := New_spec (es.map .int) false
  rw [← List.map_take, Bool.false_and] at h
  exact h

def one (t : Int) : Mem := ⟨3, 2, 2, [], t⟩
theorem one_ok {now t : Int} (h : 0 ≤ now ∧ now ≤ 1000000) (h2 : now ≤ t ∧ t ≤ now + 1000) : MOk now [one t] :=
  ⟨h, by simp, fun x hx => by rw [List.mem_singleton] at hx; subst hx; exact ⟨⟨show (1 : Int) ≤ 3 by omega, show (3 : Int) ≤ 99 by omega⟩, ⟨show (1 : Int) ≤ 2 by omega, show (2 : Int) ≤ 99 by omega⟩, h2⟩, fun x hx => by rw [List.mem_singleton] at hx; subst hx; exact flt_all,
   fun x hx => by rw [List.mem_singleton] at hx; subst hx; exact all_no, fun i hi => by simp at hi⟩
theorem one_gone (t : Int) : [one t].filter (other 3 2) = [] := by simp [one, other]
theorem report_one {now t n : Int} (h : MOk now [one t]) (hn : 1 ≤ n ∧ n ≤ 1000) : report now [one t] 3 2 2 [] n = ((now, [one (now + n)]), 0) := by
  have key := report_ok h (h := 3) (g := 2) (m := 2) (s := []) (life := n) ⟨⟨by omega, by omega, hn⟩, flt_all⟩ all_no (by rw [one_gone]; decide)
  rw [key.1, one_gone]; rfl
theorem report_first {now n : Int} (h : 0 ≤ now ∧ now ≤ 1000000) (hn : 1 ≤ n ∧ n ≤ 1000) : report now [] 3 2 2 [] n = ((now, [one (now + n)]), 0) := by
  have key := report_ok (MOk.nil h) (h := 3) (g := 2) (m := 2) (s := []) (life := n) ⟨⟨by omega, by omega, hn⟩, flt_all⟩ all_no (by decide)
  rw [key.1]; rfl
theorem tick_one {now t n : Int} (h : MOk now [one t]) (hn : now ≤ n ∧ n ≤ 1000000) (ht : n ≤ t) : tick now [one t] n = ((n, [one t]), 0) := by
  rw [(tick_ok h hn).1]
  have : living n (one t) = true := decide_eq_true ht
  simp [this]
theorem tick_gone {now t n : Int} (h : MOk now [one t]) (hn : now ≤ n ∧ n ≤ 1000000) (ht : t < n) : tick now [one t] n = ((n, []), 0) := by
  rw [(tick_ok h hn).1]
  have : living n (one t) = false := decide_eq_false (by show ¬ n ≤ t; omega)
  simp [this]
theorem find_one {now t : Int} (h : MOk now [one t]) : find now [one t] 3 2 = (one t, true) := find_mem h (x := one t) (by simp)

theorem one_v (t : Int) : (one t).v = .agg [.int 3, .int 2, .int 2, .sl 1 [] false, .int t] := rfl

structure Rb where
  i : Nat
  lost : Nat
  now : Int
  till : Int
  pos : Nat

theorem Robust_spec (es : List Int) (life : Int) : PSpec Try.prog 6 [ints es, .int life] (.bool true) := by
  have m0 := Mod_range (x := life) (show 1 ≤ (300 : Int) by omega)
  have w0 : IntKind.i64.wrap (1 + Mod life 300) = 1 + Mod life 300 := wrap64 (by omega)
  refine PSpec.walk Try.func6 cf6_ok (by simp [cf6]) trivial ?_
  unfold cf6
  simp only [initT]
  refine AWP.seq' ?_
  refine AWP.reg' fun K hK => ?_
  try simp only [stepS, List.set_cons_zero, List.set_cons_succ, Option.isSome_some, AV.pure, pureL, eq_self, List.replicate, List.length_map, Int.toNat_natCast, resT_at, resT_nil, hpL_at, hpL_nil, implies_true, forall_eq_or_imp, forall_eq, evA, hpAfter, binA, unA, binBA, rdH, heapy, rdOf, AOp.opers, refIds, partOk, partA, setOk, setPart, AV.solid, AV.cells, AV.isAgg, splice, fillOk, fillA, lenA, sliceA, resliceA, eqCells, bndA, litOk, litPure, litA, Nat.reduceEqDiff, ↓reduceIte, Nat.reduceAdd, Nat.reduceLeDiff, Nat.reduceSub, Nat.reduceMul, Nat.reduceLT, Int.reduceBEq, Int.reduceBNe, Int.reduceToNat, Int.reduceLT, Int.reduceLE, Int.reduceAdd, Int.reduceSub, Int.reduceMul, reduceCtorEq]
  refine hK _ _ _ ?_
  clear hK K
  refine AWP.seq' ?_
  refine AWP.reg' fun K hK => ?_
  try simp only [stepS, List.set_cons_zero, List.set_cons_succ, Option.isSome_some, AV.pure, pureL, eq_self, List.replicate, List.length_map, Int.toNat_natCast, resT_at, resT_nil, hpL_at, hpL_nil, implies_true, forall_eq_or_imp, forall_eq, evA, hpAfter, binA, unA, binBA, rdH, heapy, rdOf, AOp.opers, refIds, partOk, partA, setOk, setPart, AV.solid, AV.cells, AV.isAgg, splice, fillOk, fillA, lenA, sliceA, resliceA, eqCells, bndA, litOk, litPure, litA, Nat.reduceEqDiff, ↓reduceIte, Nat.reduceAdd, Nat.reduceLeDiff, Nat.reduceSub, Nat.reduceMul, Nat.reduceLT, Int.reduceBEq, Int.reduceBNe, Int.reduceToNat, Int.reduceLT, Int.reduceLE, Int.reduceAdd, Int.reduceSub, Int.reduceMul, reduceCtorEq]
  refine evT_new (New_tp es) New_fn ⟨trivial, trivial⟩ ⟨trivial, trivial, trivial⟩ rfl rfl ?_
  generalize es.take 2000 = L
  try simp only [stepS, List.set_cons_zero, List.set_cons_succ, Option.isSome_some, AV.pure, pureL, eq_self, List.replicate, List.length_map, Int.toNat_natCast, resT_at, resT_nil, hpL_at, hpL_nil, implies_true, forall_eq_or_imp, forall_eq, evA, hpAfter, binA, unA, binBA, rdH, heapy, rdOf, AOp.opers, refIds, partOk, partA, setOk, setPart, AV.solid, AV.cells, AV.isAgg, splice, fillOk, fillA, lenA, sliceA, resliceA, eqCells, bndA, litOk, litPure, litA, Nat.reduceEqDiff, ↓reduceIte, Nat.reduceAdd, Nat.reduceLeDiff, Nat.reduceSub, Nat.reduceMul, Nat.reduceLT, Int.reduceBEq, Int.reduceBNe, Int.reduceToNat, Int.reduceLT, Int.reduceLE, Int.reduceAdd, Int.reduceSub, Int.reduceMul, reduceCtorEq]
  refine hK _ _ _ ?_
  clear hK K
  refine AWP.seq' ?_
  refine AWP.reg' fun K hK => ?_
  try simp only [stepS, List.set_cons_zero, List.set_cons_succ, Option.isSome_some, AV.pure, pureL, eq_self, List.replicate, List.length_map, Int.toNat_natCast, resT_at, resT_nil, hpL_at, hpL_nil, implies_true, forall_eq_or_imp, forall_eq, evA, hpAfter, binA, unA, binBA, rdH, heapy, rdOf, AOp.opers, refIds, partOk, partA, setOk, setPart, AV.solid, AV.cells, AV.isAgg, splice, fillOk, fillA, lenA, sliceA, resliceA, eqCells, bndA, litOk, litPure, litA, Nat.reduceEqDiff, ↓reduceIte, Nat.reduceAdd, Nat.reduceLeDiff, Nat.reduceSub, Nat.reduceMul, Nat.reduceLT, Int.reduceBEq, Int.reduceBNe, Int.reduceToNat, Int.reduceLT, Int.reduceLE, Int.reduceAdd, Int.reduceSub, Int.reduceMul, reduceCtorEq]
  refine evT_pure (Mod_spec life 300) Mod_fn rfl (by rfl) (by repeat' (first | exact trivial | assumption | refine And.intro ?_ ?_)) ?_
  try simp only [stepS, List.set_cons_zero, List.set_cons_succ, Option.isSome_some, AV.pure, pureL, eq_self, List.replicate, List.length_map, Int.toNat_natCast, resT_at, resT_nil, hpL_at, hpL_nil, implies_true, forall_eq_or_imp, forall_eq, evA, hpAfter, binA, unA, binBA, rdH, heapy, rdOf, AOp.opers, refIds, partOk, partA, setOk, setPart, AV.solid, AV.cells, AV.isAgg, splice, fillOk, fillA, lenA, sliceA, resliceA, eqCells, bndA, litOk, litPure, litA, Nat.reduceEqDiff, ↓reduceIte, Nat.reduceAdd, Nat.reduceLeDiff, Nat.reduceSub, Nat.reduceMul, Nat.reduceLT, Int.reduceBEq, Int.reduceBNe, Int.reduceToNat, Int.reduceLT, Int.reduceLE, Int.reduceAdd, Int.reduceSub, Int.reduceMul, reduceCtorEq, w0]
  refine hK _ _ _ ?_
  clear hK K
  generalize hp : 1 + Mod life 300 = p
  have hpr : 1 ≤ p ∧ p ≤ 300 := by omega
  clear hp w0 m0
  have m1 := Mod_range (x := rawV L 0) (show 1 ≤ (3 : Int) by omega)
  have w1 : IntKind.i64.wrap (3 * p) = 3 * p := wrap64 (by omega)
  have w2 : IntKind.i64.wrap (3 * p + Mod (rawV L 0) 3) = 3 * p + Mod (rawV L 0) 3 := wrap64 (by omega)
  refine AWP.seq' ?_
  refine AWP.reg' fun K hK => ?_
  try simp only [stepS, List.set_cons_zero, List.set_cons_succ, Option.isSome_some, AV.pure, pureL, eq_self, List.replicate, List.length_map, Int.toNat_natCast, resT_at, resT_nil, hpL_at, hpL_nil, implies_true, forall_eq_or_imp, forall_eq, evA, hpAfter, binA, unA, binBA, rdH, heapy, rdOf, AOp.opers, refIds, partOk, partA, setOk, setPart, AV.solid, AV.cells, AV.isAgg, splice, fillOk, fillA, lenA, sliceA, resliceA, eqCells, bndA, litOk, litPure, litA, Nat.reduceEqDiff, ↓reduceIte, Nat.reduceAdd, Nat.reduceLeDiff, Nat.reduceSub, Nat.reduceMul, Nat.reduceLT, Int.reduceBEq, Int.reduceBNe, Int.reduceToNat, Int.reduceLT, Int.reduceLE, Int.reduceAdd, Int.reduceSub, Int.reduceMul, reduceCtorEq, w1]
  refine evT_own (N_spec L 0 3 (by omega)) N_fn (by repeat' (first | exact trivial | assumption | refine And.intro ?_ ?_)) (tp_pure _ _) (tp_pure _ _) (by repeat' (first | exact trivial | assumption | refine And.intro ?_ ?_)) rfl (by rfl) (by rfl) ?_
  try simp only [stepS, List.set_cons_zero, List.set_cons_succ, Option.isSome_some, AV.pure, pureL, eq_self, List.replicate, List.length_map, Int.toNat_natCast, resT_at, resT_nil, hpL_at, hpL_nil, implies_true, forall_eq_or_imp, forall_eq, evA, hpAfter, binA, unA, binBA, rdH, heapy, rdOf, AOp.opers, refIds, partOk, partA, setOk, setPart, AV.solid, AV.cells, AV.isAgg, splice, fillOk, fillA, lenA, sliceA, resliceA, eqCells, bndA, litOk, litPure, litA, Nat.reduceEqDiff, ↓reduceIte, Nat.reduceAdd, Nat.reduceLeDiff, Nat.reduceSub, Nat.reduceMul, Nat.reduceLT, Int.reduceBEq, Int.reduceBNe, Int.reduceToNat, Int.reduceLT, Int.reduceLE, Int.reduceAdd, Int.reduceSub, Int.reduceMul, reduceCtorEq, w2]
  refine hK _ _ _ ?_
  clear hK K
  generalize hn : 3 * p + Mod (rawV L 0) 3 = n
  have hnr : 3 * p ≤ n ∧ n ≤ 3 * p + 2 := by omega
  clear hn m1 w1 w2
  have hq : rawP L 0 ≤ L.length := rawP_le (by omega)
  generalize rawP L 0 = q at hq
  have m2 := Mod_range (x := rawV L q) (show 1 ≤ (1000 : Int) by omega)
  refine AWP.seq' ?_
  refine AWP.reg' fun K hK => ?_
  try simp only [stepS, List.set_cons_zero, List.set_cons_succ, Option.isSome_some, AV.pure, pureL, eq_self, List.replicate, List.length_map, Int.toNat_natCast, resT_at, resT_nil, hpL_at, hpL_nil, implies_true, forall_eq_or_imp, forall_eq, evA, hpAfter, binA, unA, binBA, rdH, heapy, rdOf, AOp.opers, refIds, partOk, partA, setOk, setPart, AV.solid, AV.cells, AV.isAgg, splice, fillOk, fillA, lenA, sliceA, resliceA, eqCells, bndA, litOk, litPure, litA, Nat.reduceEqDiff, ↓reduceIte, Nat.reduceAdd, Nat.reduceLeDiff, Nat.reduceSub, Nat.reduceMul, Nat.reduceLT, Int.reduceBEq, Int.reduceBNe, Int.reduceToNat, Int.reduceLT, Int.reduceLE, Int.reduceAdd, Int.reduceSub, Int.reduceMul, reduceCtorEq]
  refine evT_own (N_spec L q 1000 hq) N_fn (by repeat' (first | exact trivial | assumption | refine And.intro ?_ ?_)) (tp_pure _ _) (tp_pure _ _) (by repeat' (first | exact trivial | assumption | refine And.intro ?_ ?_)) rfl (by rfl) (by rfl) ?_
  try simp only [stepS, List.set_cons_zero, List.set_cons_succ, Option.isSome_some, AV.pure, pureL, eq_self, List.replicate, List.length_map, Int.toNat_natCast, resT_at, resT_nil, hpL_at, hpL_nil, implies_true, forall_eq_or_imp, forall_eq, evA, hpAfter, binA, unA, binBA, rdH, heapy, rdOf, AOp.opers, refIds, partOk, partA, setOk, setPart, AV.solid, AV.cells, AV.isAgg, splice, fillOk, fillA, lenA, sliceA, resliceA, eqCells, bndA, litOk, litPure, litA, Nat.reduceEqDiff, ↓reduceIte, Nat.reduceAdd, Nat.reduceLeDiff, Nat.reduceSub, Nat.reduceMul, Nat.reduceLT, Int.reduceBEq, Int.reduceBNe, Int.reduceToNat, Int.reduceLT, Int.reduceLE, Int.reduceAdd, Int.reduceSub, Int.reduceMul, reduceCtorEq]
  have hq : rawP L q ≤ L.length := rawP_le hq
  generalize rawP L q = q' at hq
  generalize hs : Mod (rawV L q) 1000 = now at m2
  clear hs
  try simp only [stepS, List.set_cons_zero, List.set_cons_succ, Option.isSome_some, AV.pure, pureL, eq_self, List.replicate, List.length_map, Int.toNat_natCast, resT_at, resT_nil, hpL_at, hpL_nil, implies_true, forall_eq_or_imp, forall_eq, evA, hpAfter, binA, unA, binBA, rdH, heapy, rdOf, AOp.opers, refIds, partOk, partA, setOk, setPart, AV.solid, AV.cells, AV.isAgg, splice, fillOk, fillA, lenA, sliceA, resliceA, eqCells, bndA, litOk, litPure, litA, Nat.reduceEqDiff, ↓reduceIte, Nat.reduceAdd, Nat.reduceLeDiff, Nat.reduceSub, Nat.reduceMul, Nat.reduceLT, Int.reduceBEq, Int.reduceBNe, Int.reduceToNat, Int.reduceLT, Int.reduceLE, Int.reduceAdd, Int.reduceSub, Int.reduceMul, reduceCtorEq]
  refine evT_pure (lall_spec) lall_fn rfl (by rfl) (by repeat' (first | exact trivial | assumption | refine And.intro ?_ ?_)) ?_
  try simp only [stepS, List.set_cons_zero, List.set_cons_succ, Option.isSome_some, AV.pure, pureL, eq_self, List.replicate, List.length_map, Int.toNat_natCast, resT_at, resT_nil, hpL_at, hpL_nil, implies_true, forall_eq_or_imp, forall_eq, evA, hpAfter, binA, unA, binBA, rdH, heapy, rdOf, AOp.opers, refIds, partOk, partA, setOk, setPart, AV.solid, AV.cells, AV.isAgg, splice, fillOk, fillA, lenA, sliceA, resliceA, eqCells, bndA, litOk, litPure, litA, Nat.reduceEqDiff, ↓reduceIte, Nat.reduceAdd, Nat.reduceLeDiff, Nat.reduceSub, Nat.reduceMul, Nat.reduceLT, Int.reduceBEq, Int.reduceBNe, Int.reduceToNat, Int.reduceLT, Int.reduceLE, Int.reduceAdd, Int.reduceSub, Int.reduceMul, reduceCtorEq]
  refine evT_pure (Report_nil now 3 2 2 [] n) Report_fn rfl (by rfl) (by repeat' (first | exact trivial | assumption | refine And.intro ?_ ?_)) ?_
  try simp only [stepS, List.set_cons_zero, List.set_cons_succ, Option.isSome_some, AV.pure, pureL, eq_self, List.replicate, List.length_map, Int.toNat_natCast, resT_at, resT_nil, hpL_at, hpL_nil, implies_true, forall_eq_or_imp, forall_eq, evA, hpAfter, binA, unA, binBA, rdH, heapy, rdOf, AOp.opers, refIds, partOk, partA, setOk, setPart, AV.solid, AV.cells, AV.isAgg, splice, fillOk, fillA, lenA, sliceA, resliceA, eqCells, bndA, litOk, litPure, litA, Nat.reduceEqDiff, ↓reduceIte, Nat.reduceAdd, Nat.reduceLeDiff, Nat.reduceSub, Nat.reduceMul, Nat.reduceLT, Int.reduceBEq, Int.reduceBNe, Int.reduceToNat, Int.reduceLT, Int.reduceLE, Int.reduceAdd, Int.reduceSub, Int.reduceMul, reduceCtorEq, report_first (now := now) (n := n) (by omega) (by omega), MR.v, memsV]
  refine hK _ _ _ ?_
  clear hK K
  refine AWP.seq' ?_
  refine AWP.reg' fun K hK => ?_
  try simp only [stepS, List.set_cons_zero, List.set_cons_succ, Option.isSome_some, AV.pure, pureL, eq_self, List.replicate, List.length_map, Int.toNat_natCast, resT_at, resT_nil, hpL_at, hpL_nil, implies_true, forall_eq_or_imp, forall_eq, evA, hpAfter, binA, unA, binBA, rdH, heapy, rdOf, AOp.opers, refIds, partOk, partA, setOk, setPart, AV.solid, AV.cells, AV.isAgg, splice, fillOk, fillA, lenA, sliceA, resliceA, eqCells, bndA, litOk, litPure, litA, Nat.reduceEqDiff, ↓reduceIte, Nat.reduceAdd, Nat.reduceLeDiff, Nat.reduceSub, Nat.reduceMul, Nat.reduceLT, Int.reduceBEq, Int.reduceBNe, Int.reduceToNat, Int.reduceLT, Int.reduceLE, Int.reduceAdd, Int.reduceSub, Int.reduceMul, reduceCtorEq]
  refine hK _ _ _ ?_
  clear hK K
  refine AWP.seq' (AWP.seq' ?_)
  refine AWP.reg' fun K hK => ?_
  try simp only [stepS, List.set_cons_zero, List.set_cons_succ, Option.isSome_some, AV.pure, pureL, eq_self, List.replicate, List.length_map, Int.toNat_natCast, resT_at, resT_nil, hpL_at, hpL_nil, implies_true, forall_eq_or_imp, forall_eq, evA, hpAfter, binA, unA, binBA, rdH, heapy, rdOf, AOp.opers, refIds, partOk, partA, setOk, setPart, AV.solid, AV.cells, AV.isAgg, splice, fillOk, fillA, lenA, sliceA, resliceA, eqCells, bndA, litOk, litPure, litA, Nat.reduceEqDiff, ↓reduceIte, Nat.reduceAdd, Nat.reduceLeDiff, Nat.reduceSub, Nat.reduceMul, Nat.reduceLT, Int.reduceBEq, Int.reduceBNe, Int.reduceToNat, Int.reduceLT, Int.reduceLE, Int.reduceAdd, Int.reduceSub, Int.reduceMul, reduceCtorEq]
  refine hK _ _ _ ?_
  clear hK K
  refine AWP.block ?_
  refine AWP.loopS (σ := Rb) (fun s => ⟨resT [(5, .ref 0 0), (6, .int p), (7, .int n), (8, .ref 1 0), (9, .int 0), (10, .int (s.lost : Nat)), (11, .int (s.i : Nat))], hpL 0 [some (.box (tp L s.pos)), some (.box (.agg [.int s.now, mems [one s.till]]))], 2⟩)
    (fun s => s.i ≤ 25 ∧ s.lost ≤ 2 ∧ s.pos ≤ L.length ∧ 0 ≤ s.now ∧ s.now ≤ 1000 + 300 * (s.i : Int) ∧ s.now + (3 - (s.lost : Int)) * p ≤ s.till ∧ (2 - (s.lost : Int)) * p + p = (3 - (s.lost : Int)) * p ∧ 0 ≤ (2 - (s.lost : Int)) * p ∧ s.till ≤ s.now + 1000)
    (fun s => 25 - s.i) (i0 := ⟨0, 0, now, now + n, q'⟩) ⟨by simp, by simp, hq, by simp; omega, by simp; omega, by simp; omega, by simp; omega, by simp; omega, by simp; omega⟩ ?_ ?_
  · refine Weak.nf [32, 368] _ _ ?_ ?_ ⟨rfl, rfl⟩ (by decide) (by decide) (by decide)
    · repeat' (first | exact trivial | exact And.intro rfl trivial | refine And.intro ?_ ?_ | rfl | exact Nat.le_of_ble_eq_true rfl)
    · repeat' (first | exact trivial | exact And.intro rfl trivial | refine And.intro ?_ ?_ | rfl | exact Nat.le_of_ble_eq_true rfl)
  clear m2 hq
  rintro ⟨i, lost, now, till, pos⟩ ⟨h1, h2, h3, h4, h5, h6, h7, h8, h9⟩
  simp only at h1 h2 h3 h4 h5 h6 h7 h8 h9 ⊢
  have ok : MOk now [one till] := one_ok (by omega) (by omega)
  refine AWP.seq' (AWP.seq' ?_)
  by_cases hi : i < 25
  · have e : (i : Int) < 25 := by omega
    have w1 : IntKind.i64.wrap (now + p) = now + p := wrap64 (by omega)
    have w2 : IntKind.i64.wrap ((i : Int) + 1) = ((i + 1 : Nat) : Int) := wrapN (by omega) (by omega)
    have w3 : IntKind.i64.wrap ((lost : Int) + 1) = ((lost + 1 : Nat) : Int) := wrapN (by omega) (by omega)
    have ok2 : MOk (now + p) [one till] := one_ok (by omega) (by omega)
    refine AWP.reg' fun K hK => ?_
    try simp only [stepS, List.set_cons_zero, List.set_cons_succ, Option.isSome_some, AV.pure, pureL, eq_self, List.replicate, List.length_map, Int.toNat_natCast, resT_at, resT_nil, hpL_at, hpL_nil, implies_true, forall_eq_or_imp, forall_eq, evA, hpAfter, binA, unA, binBA, rdH, heapy, rdOf, AOp.opers, refIds, partOk, partA, setOk, setPart, AV.solid, AV.cells, AV.isAgg, splice, fillOk, fillA, lenA, sliceA, resliceA, eqCells, bndA, litOk, litPure, litA, Nat.reduceEqDiff, ↓reduceIte, Nat.reduceAdd, Nat.reduceLeDiff, Nat.reduceSub, Nat.reduceMul, Nat.reduceLT, Int.reduceBEq, Int.reduceBNe, Int.reduceToNat, Int.reduceLT, Int.reduceLE, Int.reduceAdd, Int.reduceSub, Int.reduceMul, reduceCtorEq, e]
    refine hK _ _ _ ?_
    clear hK K
    refine AWP.cond (b := true) rfl (fun c => ?_) (fun c => by cases c)
    refine AWP.skip ?_
    refine AWP.seq' ?_
    refine AWP.block ?_
    refine AWP.seq' ?_
    refine AWP.reg' fun K hK => ?_
    try simp only [stepS, List.set_cons_zero, List.set_cons_succ, Option.isSome_some, AV.pure, pureL, eq_self, List.replicate, List.length_map, Int.toNat_natCast, resT_at, resT_nil, hpL_at, hpL_nil, implies_true, forall_eq_or_imp, forall_eq, evA, hpAfter, binA, unA, binBA, rdH, heapy, rdOf, AOp.opers, refIds, partOk, partA, setOk, setPart, AV.solid, AV.cells, AV.isAgg, splice, fillOk, fillA, lenA, sliceA, resliceA, eqCells, bndA, litOk, litPure, litA, Nat.reduceEqDiff, ↓reduceIte, Nat.reduceAdd, Nat.reduceLeDiff, Nat.reduceSub, Nat.reduceMul, Nat.reduceLT, Int.reduceBEq, Int.reduceBNe, Int.reduceToNat, Int.reduceLT, Int.reduceLE, Int.reduceAdd, Int.reduceSub, Int.reduceMul, reduceCtorEq, w1]
    refine evT_pure (Tick_spec now [one till] (now + p)) Tick_fn rfl (by rfl) (by repeat' (first | exact trivial | assumption | refine And.intro ?_ ?_)) ?_
    try simp only [stepS, List.set_cons_zero, List.set_cons_succ, Option.isSome_some, AV.pure, pureL, eq_self, List.replicate, List.length_map, Int.toNat_natCast, resT_at, resT_nil, hpL_at, hpL_nil, implies_true, forall_eq_or_imp, forall_eq, evA, hpAfter, binA, unA, binBA, rdH, heapy, rdOf, AOp.opers, refIds, partOk, partA, setOk, setPart, AV.solid, AV.cells, AV.isAgg, splice, fillOk, fillA, lenA, sliceA, resliceA, eqCells, bndA, litOk, litPure, litA, Nat.reduceEqDiff, ↓reduceIte, Nat.reduceAdd, Nat.reduceLeDiff, Nat.reduceSub, Nat.reduceMul, Nat.reduceLT, Int.reduceBEq, Int.reduceBNe, Int.reduceToNat, Int.reduceLT, Int.reduceLE, Int.reduceAdd, Int.reduceSub, Int.reduceMul, reduceCtorEq, tick_one ok (n := now + p) (by omega) (by omega), MR.v, memsV]
    refine hK _ _ _ ?_
    clear hK K
    refine AWP.seq' (AWP.seq' ?_)
    refine AWP.reg' fun K hK => ?_
    try simp only [stepS, List.set_cons_zero, List.set_cons_succ, Option.isSome_some, AV.pure, pureL, eq_self, List.replicate, List.length_map, Int.toNat_natCast, resT_at, resT_nil, hpL_at, hpL_nil, implies_true, forall_eq_or_imp, forall_eq, evA, hpAfter, binA, unA, binBA, rdH, heapy, rdOf, AOp.opers, refIds, partOk, partA, setOk, setPart, AV.solid, AV.cells, AV.isAgg, splice, fillOk, fillA, lenA, sliceA, resliceA, eqCells, bndA, litOk, litPure, litA, Nat.reduceEqDiff, ↓reduceIte, Nat.reduceAdd, Nat.reduceLeDiff, Nat.reduceSub, Nat.reduceMul, Nat.reduceLT, Int.reduceBEq, Int.reduceBNe, Int.reduceToNat, Int.reduceLT, Int.reduceLE, Int.reduceAdd, Int.reduceSub, Int.reduceMul, reduceCtorEq]
    refine evT_pure (Find_spec (now + p) [one till] 3 2) Find_fn rfl (by rfl) (by repeat' (first | exact trivial | assumption | refine And.intro ?_ ?_)) ?_
    try simp only [stepS, List.set_cons_zero, List.set_cons_succ, Option.isSome_some, AV.pure, pureL, eq_self, List.replicate, List.length_map, Int.toNat_natCast, resT_at, resT_nil, hpL_at, hpL_nil, implies_true, forall_eq_or_imp, forall_eq, evA, hpAfter, binA, unA, binBA, rdH, heapy, rdOf, AOp.opers, refIds, partOk, partA, setOk, setPart, AV.solid, AV.cells, AV.isAgg, splice, fillOk, fillA, lenA, sliceA, resliceA, eqCells, bndA, litOk, litPure, litA, Nat.reduceEqDiff, ↓reduceIte, Nat.reduceAdd, Nat.reduceLeDiff, Nat.reduceSub, Nat.reduceMul, Nat.reduceLT, Int.reduceBEq, Int.reduceBNe, Int.reduceToNat, Int.reduceLT, Int.reduceLE, Int.reduceAdd, Int.reduceSub, Int.reduceMul, reduceCtorEq, find_one ok2, FR.v, one_v]
    refine hK _ _ _ ?_
    clear hK K
    refine AWP.seq' ?_
    refine AWP.reg' fun K hK => ?_
    try simp only [stepS, List.set_cons_zero, List.set_cons_succ, Option.isSome_some, AV.pure, pureL, eq_self, List.replicate, List.length_map, Int.toNat_natCast, resT_at, resT_nil, hpL_at, hpL_nil, implies_true, forall_eq_or_imp, forall_eq, evA, hpAfter, binA, unA, binBA, rdH, heapy, rdOf, AOp.opers, refIds, partOk, partA, setOk, setPart, AV.solid, AV.cells, AV.isAgg, splice, fillOk, fillA, lenA, sliceA, resliceA, eqCells, bndA, litOk, litPure, litA, Nat.reduceEqDiff, ↓reduceIte, Nat.reduceAdd, Nat.reduceLeDiff, Nat.reduceSub, Nat.reduceMul, Nat.reduceLT, Int.reduceBEq, Int.reduceBNe, Int.reduceToNat, Int.reduceLT, Int.reduceLE, Int.reduceAdd, Int.reduceSub, Int.reduceMul, reduceCtorEq]
    refine hK _ _ _ ?_
    clear hK K
    refine AWP.cond (b := false) rfl (fun c => by cases c) (fun c => ?_)
    refine AWP.skip ?_
    have h10 : (3 - ((lost + 1 : Nat) : Int)) * p = (2 - (lost : Int)) * p := by rw [show (3 - ((lost + 1 : Nat) : Int)) = 2 - (lost : Int) by omega]
    refine AWP.seqI (fun s => ∃ q, q ≤ L.length ∧ Weak 0 139 s ⟨resT [(5, .ref 0 0), (6, .int p), (7, .int n), (8, .ref 1 0), (11, .int (i : Nat))], hpL 0 [some (.box (tp L q)), some (.box (.agg [.int (now + p), mems [one till]]))], 2⟩) ?_ ?_
    · refine AWP.seq' ?_
      by_cases hl : lost < 2
      · have e3 : (lost : Int) < 2 := by omega
        refine AWP.reg' fun K hK => ?_
        try simp only [stepS, List.set_cons_zero, List.set_cons_succ, Option.isSome_some, AV.pure, pureL, eq_self, List.replicate, List.length_map, Int.toNat_natCast, resT_at, resT_nil, hpL_at, hpL_nil, implies_true, forall_eq_or_imp, forall_eq, evA, hpAfter, binA, unA, binBA, rdH, heapy, rdOf, AOp.opers, refIds, partOk, partA, setOk, setPart, AV.solid, AV.cells, AV.isAgg, splice, fillOk, fillA, lenA, sliceA, resliceA, eqCells, bndA, litOk, litPure, litA, Nat.reduceEqDiff, ↓reduceIte, Nat.reduceAdd, Nat.reduceLeDiff, Nat.reduceSub, Nat.reduceMul, Nat.reduceLT, Int.reduceBEq, Int.reduceBNe, Int.reduceToNat, Int.reduceLT, Int.reduceLE, Int.reduceAdd, Int.reduceSub, Int.reduceMul, reduceCtorEq, e3]
        refine evT_own (N_spec L pos 3 h3) N_fn (by repeat' (first | exact trivial | assumption | refine And.intro ?_ ?_)) (tp_pure _ _) (tp_pure _ _) (by repeat' (first | exact trivial | assumption | refine And.intro ?_ ?_)) rfl (by rfl) (by rfl) ?_
        try simp only [stepS, List.set_cons_zero, List.set_cons_succ, Option.isSome_some, AV.pure, pureL, eq_self, List.replicate, List.length_map, Int.toNat_natCast, resT_at, resT_nil, hpL_at, hpL_nil, implies_true, forall_eq_or_imp, forall_eq, evA, hpAfter, binA, unA, binBA, rdH, heapy, rdOf, AOp.opers, refIds, partOk, partA, setOk, setPart, AV.solid, AV.cells, AV.isAgg, splice, fillOk, fillA, lenA, sliceA, resliceA, eqCells, bndA, litOk, litPure, litA, Nat.reduceEqDiff, ↓reduceIte, Nat.reduceAdd, Nat.reduceLeDiff, Nat.reduceSub, Nat.reduceMul, Nat.reduceLT, Int.reduceBEq, Int.reduceBNe, Int.reduceToNat, Int.reduceLT, Int.reduceLE, Int.reduceAdd, Int.reduceSub, Int.reduceMul, reduceCtorEq]
        refine hK _ _ _ ?_
        clear hK K
        refine AWP.cond (b := decide (0 < Mod (rawV L pos) 3)) rfl (fun c => ?_) (fun c => ?_)
        · refine AWP.seq' ?_
          refine AWP.reg' fun K hK => ?_
          try simp only [stepS, List.set_cons_zero, List.set_cons_succ, Option.isSome_some, AV.pure, pureL, eq_self, List.replicate, List.length_map, Int.toNat_natCast, resT_at, resT_nil, hpL_at, hpL_nil, implies_true, forall_eq_or_imp, forall_eq, evA, hpAfter, binA, unA, binBA, rdH, heapy, rdOf, AOp.opers, refIds, partOk, partA, setOk, setPart, AV.solid, AV.cells, AV.isAgg, splice, fillOk, fillA, lenA, sliceA, resliceA, eqCells, bndA, litOk, litPure, litA, Nat.reduceEqDiff, ↓reduceIte, Nat.reduceAdd, Nat.reduceLeDiff, Nat.reduceSub, Nat.reduceMul, Nat.reduceLT, Int.reduceBEq, Int.reduceBNe, Int.reduceToNat, Int.reduceLT, Int.reduceLE, Int.reduceAdd, Int.reduceSub, Int.reduceMul, reduceCtorEq, w3]
          refine hK _ _ _ ?_
          clear hK K
          refine AWP.exit ?_
          refine AWP.reg' fun K hK => ?_
          try simp only [stepS, List.set_cons_zero, List.set_cons_succ, Option.isSome_some, AV.pure, pureL, eq_self, List.replicate, List.length_map, Int.toNat_natCast, resT_at, resT_nil, hpL_at, hpL_nil, implies_true, forall_eq_or_imp, forall_eq, evA, hpAfter, binA, unA, binBA, rdH, heapy, rdOf, AOp.opers, refIds, partOk, partA, setOk, setPart, AV.solid, AV.cells, AV.isAgg, splice, fillOk, fillA, lenA, sliceA, resliceA, eqCells, bndA, litOk, litPure, litA, Nat.reduceEqDiff, ↓reduceIte, Nat.reduceAdd, Nat.reduceLeDiff, Nat.reduceSub, Nat.reduceMul, Nat.reduceLT, Int.reduceBEq, Int.reduceBNe, Int.reduceToNat, Int.reduceLT, Int.reduceLE, Int.reduceAdd, Int.reduceSub, Int.reduceMul, reduceCtorEq, w2]
          refine hK _ _ _ ?_
          clear hK K
          refine ⟨⟨i + 1, lost + 1, now + p, till, rawP L pos⟩, ⟨hi, by show lost + 1 ≤ 2; omega, rawP_le h3, by show 0 ≤ now + p; omega, by show now + p ≤ 1000 + 300 * ((i + 1 : Nat) : Int); omega, ?_, ?_, ?_, by show till ≤ now + p + 1000; omega⟩, by show 25 - (i + 1) < 25 - i; omega, ?_⟩
          · show now + p + (3 - ((lost + 1 : Nat) : Int)) * p ≤ till
            omega
          · show (2 - ((lost + 1 : Nat) : Int)) * p + p = (3 - ((lost + 1 : Nat) : Int)) * p
            rw [show (2 - ((lost + 1 : Nat) : Int)) = (3 - ((lost + 1 : Nat) : Int)) - 1 by omega, Int.sub_mul, Int.one_mul]; omega
          · show 0 ≤ (2 - ((lost + 1 : Nat) : Int)) * p
            exact Int.mul_nonneg (by omega) (by omega)
          refine Weak.nf [0, 1] _ _ ?_ ?_ ⟨rfl, rfl⟩ (by decide) (by decide) (by decide)
          · repeat' (first | exact trivial | exact And.intro rfl trivial | refine And.intro ?_ ?_ | rfl | exact Nat.le_of_ble_eq_true rfl)
          · repeat' (first | exact trivial | exact And.intro rfl trivial | refine And.intro ?_ ?_ | rfl | exact Nat.le_of_ble_eq_true rfl)
        refine AWP.skip ⟨rawP L pos, rawP_le h3, ?_⟩
        refine Weak.nf [0, 1] _ _ ?_ ?_ ⟨rfl, rfl⟩ (by decide) (by decide) (by decide)
        · repeat' (first | exact trivial | exact And.intro rfl trivial | refine And.intro ?_ ?_ | rfl | exact Nat.le_of_ble_eq_true rfl)
        · repeat' (first | exact trivial | exact And.intro rfl trivial | refine And.intro ?_ ?_ | rfl | exact Nat.le_of_ble_eq_true rfl)
      have e3 : ¬ (lost : Int) < 2 := by omega
      refine AWP.reg' fun K hK => ?_
      try simp only [stepS, List.set_cons_zero, List.set_cons_succ, Option.isSome_some, AV.pure, pureL, eq_self, List.replicate, List.length_map, Int.toNat_natCast, resT_at, resT_nil, hpL_at, hpL_nil, implies_true, forall_eq_or_imp, forall_eq, evA, hpAfter, binA, unA, binBA, rdH, heapy, rdOf, AOp.opers, refIds, partOk, partA, setOk, setPart, AV.solid, AV.cells, AV.isAgg, splice, fillOk, fillA, lenA, sliceA, resliceA, eqCells, bndA, litOk, litPure, litA, Nat.reduceEqDiff, ↓reduceIte, Nat.reduceAdd, Nat.reduceLeDiff, Nat.reduceSub, Nat.reduceMul, Nat.reduceLT, Int.reduceBEq, Int.reduceBNe, Int.reduceToNat, Int.reduceLT, Int.reduceLE, Int.reduceAdd, Int.reduceSub, Int.reduceMul, reduceCtorEq, e3]
      refine hK _ _ _ ?_
      clear hK K
      refine AWP.cond (b := false) rfl (fun c => by cases c) (fun c => ?_)
      refine AWP.skip ⟨pos, h3, ?_⟩
      refine Weak.nf [0, 1] _ _ ?_ ?_ ⟨rfl, rfl⟩ (by decide) (by decide) (by decide)
      · repeat' (first | exact trivial | exact And.intro rfl trivial | refine And.intro ?_ ?_ | rfl | exact Nat.le_of_ble_eq_true rfl)
      · repeat' (first | exact trivial | exact And.intro rfl trivial | refine And.intro ?_ ?_ | rfl | exact Nat.le_of_ble_eq_true rfl)
    rintro s ⟨q, hq, hw⟩
    refine AWP.weak hw ?_
    have ok3 : MOk (now + p) [one (now + p + n)] := one_ok (by omega) (by omega)
    repeat (first
      | refine AWP.seq' ?_
      | refine AWP.skip ?_
      | (refine AWP.reg' fun K hK => ?_; simp only [stepS, List.set_cons_zero, List.set_cons_succ, Option.isSome_some, AV.pure, pureL, eq_self, List.replicate, List.length_map, Int.toNat_natCast, resT_at, resT_nil, hpL_at, hpL_nil, implies_true, forall_eq_or_imp, forall_eq, evA, hpAfter, binA, unA, binBA, rdH, heapy, rdOf, AOp.opers, refIds, partOk, partA, setOk, setPart, AV.solid, AV.cells, AV.isAgg, splice, fillOk, fillA, lenA, sliceA, resliceA, eqCells, bndA, litOk, litPure, litA, Nat.reduceEqDiff, ↓reduceIte, Nat.reduceAdd, Nat.reduceLeDiff, Nat.reduceSub, Nat.reduceMul, Nat.reduceLT, Int.reduceBEq, Int.reduceBNe, Int.reduceToNat, Int.reduceLT, Int.reduceLE, Int.reduceAdd, Int.reduceSub, Int.reduceMul, reduceCtorEq]; (repeat (refine And.intro (by omega) ?_)); refine hK _ _ _ ?_; clear hK K))
    refine AWP.dreg' fun K hK => ?_
    try simp only [stepS, List.set_cons_zero, List.set_cons_succ, Option.isSome_some, AV.pure, pureL, eq_self, List.replicate, List.length_map, Int.toNat_natCast, resT_at, resT_nil, hpL_at, hpL_nil, implies_true, forall_eq_or_imp, forall_eq, evA, hpAfter, binA, unA, binBA, rdH, heapy, rdOf, AOp.opers, refIds, partOk, partA, setOk, setPart, AV.solid, AV.cells, AV.isAgg, splice, fillOk, fillA, lenA, sliceA, resliceA, eqCells, bndA, litOk, litPure, litA, Nat.reduceEqDiff, ↓reduceIte, Nat.reduceAdd, Nat.reduceLeDiff, Nat.reduceSub, Nat.reduceMul, Nat.reduceLT, Int.reduceBEq, Int.reduceBNe, Int.reduceToNat, Int.reduceLT, Int.reduceLE, Int.reduceAdd, Int.reduceSub, Int.reduceMul, reduceCtorEq]
    refine evD_pure (lall_spec) lall_fn rfl (by rfl) (by repeat' (first | exact trivial | assumption | refine And.intro ?_ ?_)) ?_
    try simp only [stepS, List.set_cons_zero, List.set_cons_succ, Option.isSome_some, AV.pure, pureL, eq_self, List.replicate, List.length_map, Int.toNat_natCast, resT_at, resT_nil, hpL_at, hpL_nil, implies_true, forall_eq_or_imp, forall_eq, evA, hpAfter, binA, unA, binBA, rdH, heapy, rdOf, AOp.opers, refIds, partOk, partA, setOk, setPart, AV.solid, AV.cells, AV.isAgg, splice, fillOk, fillA, lenA, sliceA, resliceA, eqCells, bndA, litOk, litPure, litA, Nat.reduceEqDiff, ↓reduceIte, Nat.reduceAdd, Nat.reduceLeDiff, Nat.reduceSub, Nat.reduceMul, Nat.reduceLT, Int.reduceBEq, Int.reduceBNe, Int.reduceToNat, Int.reduceLT, Int.reduceLE, Int.reduceAdd, Int.reduceSub, Int.reduceMul, reduceCtorEq]
    refine evD_pure (Report_spec (now + p) [one till] 3 2 2 [] n) Report_fn rfl (by rfl) (by repeat' (first | exact trivial | assumption | refine And.intro ?_ ?_)) ?_
    try simp only [stepS, List.set_cons_zero, List.set_cons_succ, Option.isSome_some, AV.pure, pureL, eq_self, List.replicate, List.length_map, Int.toNat_natCast, resT_at, resT_nil, hpL_at, hpL_nil, implies_true, forall_eq_or_imp, forall_eq, evA, hpAfter, binA, unA, binBA, rdH, heapy, rdOf, AOp.opers, refIds, partOk, partA, setOk, setPart, AV.solid, AV.cells, AV.isAgg, splice, fillOk, fillA, lenA, sliceA, resliceA, eqCells, bndA, litOk, litPure, litA, Nat.reduceEqDiff, ↓reduceIte, Nat.reduceAdd, Nat.reduceLeDiff, Nat.reduceSub, Nat.reduceMul, Nat.reduceLT, Int.reduceBEq, Int.reduceBNe, Int.reduceToNat, Int.reduceLT, Int.reduceLE, Int.reduceAdd, Int.reduceSub, Int.reduceMul, reduceCtorEq, report_one ok2 (n := n) (by omega), MR.v, memsV]
    refine ⟨by rfl, hK _ _ _ ?_⟩
    clear hK K
    refine AWP.reg' fun K hK => ?_
    try simp only [stepS, List.set_cons_zero, List.set_cons_succ, Option.isSome_some, AV.pure, pureL, eq_self, List.replicate, List.length_map, Int.toNat_natCast, resT_at, resT_nil, hpL_at, hpL_nil, implies_true, forall_eq_or_imp, forall_eq, evA, hpAfter, binA, unA, binBA, rdH, heapy, rdOf, AOp.opers, refIds, partOk, partA, setOk, setPart, AV.solid, AV.cells, AV.isAgg, splice, fillOk, fillA, lenA, sliceA, resliceA, eqCells, bndA, litOk, litPure, litA, Nat.reduceEqDiff, ↓reduceIte, Nat.reduceAdd, Nat.reduceLeDiff, Nat.reduceSub, Nat.reduceMul, Nat.reduceLT, Int.reduceBEq, Int.reduceBNe, Int.reduceToNat, Int.reduceLT, Int.reduceLE, Int.reduceAdd, Int.reduceSub, Int.reduceMul, reduceCtorEq, w2]
    refine hK _ _ _ ?_
    clear hK K
    refine ⟨⟨i + 1, 0, now + p, now + p + n, q⟩, ⟨hi, by show 0 ≤ 2; omega, hq, by show 0 ≤ now + p; omega, by show now + p ≤ 1000 + 300 * ((i + 1 : Nat) : Int); omega, ?_, ?_, ?_, ?_⟩, by show 25 - (i + 1) < 25 - i; omega, ?_⟩
    · show now + p + (3 - ((0 : Nat) : Int)) * p ≤ now + p + n
      omega
    · show (2 - ((0 : Nat) : Int)) * p + p = (3 - ((0 : Nat) : Int)) * p
      omega
    · show 0 ≤ (2 - ((0 : Nat) : Int)) * p
      omega
    · show now + p + n ≤ now + p + 1000
      omega
    refine Weak.nf [0, 1] _ _ ?_ ?_ ⟨rfl, rfl⟩ (by decide) (by decide) (by decide)
    · repeat' (first | exact trivial | exact And.intro rfl trivial | refine And.intro ?_ ?_ | rfl | exact Nat.le_of_ble_eq_true rfl)
    · repeat' (first | exact trivial | exact And.intro rfl trivial | refine And.intro ?_ ?_ | rfl | exact Nat.le_of_ble_eq_true rfl)
  have e : ¬ (i : Int) < 25 := by omega
  have g1 : now ≤ till := by omega
  have okT : MOk till [one till] := one_ok (by omega) (by omega)
  have w1 : IntKind.i64.wrap (till + 1) = till + 1 := wrap64 (by omega)
  refine AWP.reg' fun K hK => ?_
  try simp only [stepS, List.set_cons_zero, List.set_cons_succ, Option.isSome_some, AV.pure, pureL, eq_self, List.replicate, List.length_map, Int.toNat_natCast, resT_at, resT_nil, hpL_at, hpL_nil, implies_true, forall_eq_or_imp, forall_eq, evA, hpAfter, binA, unA, binBA, rdH, heapy, rdOf, AOp.opers, refIds, partOk, partA, setOk, setPart, AV.solid, AV.cells, AV.isAgg, splice, fillOk, fillA, lenA, sliceA, resliceA, eqCells, bndA, litOk, litPure, litA, Nat.reduceEqDiff, ↓reduceIte, Nat.reduceAdd, Nat.reduceLeDiff, Nat.reduceSub, Nat.reduceMul, Nat.reduceLT, Int.reduceBEq, Int.reduceBNe, Int.reduceToNat, Int.reduceLT, Int.reduceLE, Int.reduceAdd, Int.reduceSub, Int.reduceMul, reduceCtorEq, e]
  refine hK _ _ _ ?_
  clear hK K
  refine AWP.cond (b := false) rfl (fun c => by cases c) (fun c => ?_)
  refine AWP.exit ?_
  refine AWP.seq' ?_
  refine AWP.reg' fun K hK => ?_
  try simp only [stepS, List.set_cons_zero, List.set_cons_succ, Option.isSome_some, AV.pure, pureL, eq_self, List.replicate, List.length_map, Int.toNat_natCast, resT_at, resT_nil, hpL_at, hpL_nil, implies_true, forall_eq_or_imp, forall_eq, evA, hpAfter, binA, unA, binBA, rdH, heapy, rdOf, AOp.opers, refIds, partOk, partA, setOk, setPart, AV.solid, AV.cells, AV.isAgg, splice, fillOk, fillA, lenA, sliceA, resliceA, eqCells, bndA, litOk, litPure, litA, Nat.reduceEqDiff, ↓reduceIte, Nat.reduceAdd, Nat.reduceLeDiff, Nat.reduceSub, Nat.reduceMul, Nat.reduceLT, Int.reduceBEq, Int.reduceBNe, Int.reduceToNat, Int.reduceLT, Int.reduceLE, Int.reduceAdd, Int.reduceSub, Int.reduceMul, reduceCtorEq]
  refine evT_pure (Find_spec now [one till] 3 2) Find_fn rfl (by rfl) (by repeat' (first | exact trivial | assumption | refine And.intro ?_ ?_)) ?_
  try simp only [stepS, List.set_cons_zero, List.set_cons_succ, Option.isSome_some, AV.pure, pureL, eq_self, List.replicate, List.length_map, Int.toNat_natCast, resT_at, resT_nil, hpL_at, hpL_nil, implies_true, forall_eq_or_imp, forall_eq, evA, hpAfter, binA, unA, binBA, rdH, heapy, rdOf, AOp.opers, refIds, partOk, partA, setOk, setPart, AV.solid, AV.cells, AV.isAgg, splice, fillOk, fillA, lenA, sliceA, resliceA, eqCells, bndA, litOk, litPure, litA, Nat.reduceEqDiff, ↓reduceIte, Nat.reduceAdd, Nat.reduceLeDiff, Nat.reduceSub, Nat.reduceMul, Nat.reduceLT, Int.reduceBEq, Int.reduceBNe, Int.reduceToNat, Int.reduceLT, Int.reduceLE, Int.reduceAdd, Int.reduceSub, Int.reduceMul, reduceCtorEq, find_one ok, FR.v, one_v]
  refine hK _ _ _ ?_
  clear hK K
  refine AWP.seq' (AWP.seq' ?_)
  refine AWP.reg' fun K hK => ?_
  try simp only [stepS, List.set_cons_zero, List.set_cons_succ, Option.isSome_some, AV.pure, pureL, eq_self, List.replicate, List.length_map, Int.toNat_natCast, resT_at, resT_nil, hpL_at, hpL_nil, implies_true, forall_eq_or_imp, forall_eq, evA, hpAfter, binA, unA, binBA, rdH, heapy, rdOf, AOp.opers, refIds, partOk, partA, setOk, setPart, AV.solid, AV.cells, AV.isAgg, splice, fillOk, fillA, lenA, sliceA, resliceA, eqCells, bndA, litOk, litPure, litA, Nat.reduceEqDiff, ↓reduceIte, Nat.reduceAdd, Nat.reduceLeDiff, Nat.reduceSub, Nat.reduceMul, Nat.reduceLT, Int.reduceBEq, Int.reduceBNe, Int.reduceToNat, Int.reduceLT, Int.reduceLE, Int.reduceAdd, Int.reduceSub, Int.reduceMul, reduceCtorEq]
  refine hK _ _ _ ?_
  clear hK K
  refine AWP.cond (b := false) rfl (fun c => by cases c) (fun c => ?_)
  refine AWP.skip ?_
  refine AWP.seq' ?_
  refine AWP.reg' fun K hK => ?_
  try simp only [stepS, List.set_cons_zero, List.set_cons_succ, Option.isSome_some, AV.pure, pureL, eq_self, List.replicate, List.length_map, Int.toNat_natCast, resT_at, resT_nil, hpL_at, hpL_nil, implies_true, forall_eq_or_imp, forall_eq, evA, hpAfter, binA, unA, binBA, rdH, heapy, rdOf, AOp.opers, refIds, partOk, partA, setOk, setPart, AV.solid, AV.cells, AV.isAgg, splice, fillOk, fillA, lenA, sliceA, resliceA, eqCells, bndA, litOk, litPure, litA, Nat.reduceEqDiff, ↓reduceIte, Nat.reduceAdd, Nat.reduceLeDiff, Nat.reduceSub, Nat.reduceMul, Nat.reduceLT, Int.reduceBEq, Int.reduceBNe, Int.reduceToNat, Int.reduceLT, Int.reduceLE, Int.reduceAdd, Int.reduceSub, Int.reduceMul, reduceCtorEq]
  refine evT_pure (Tick_spec now [one till] till) Tick_fn rfl (by rfl) (by repeat' (first | exact trivial | assumption | refine And.intro ?_ ?_)) ?_
  try simp only [stepS, List.set_cons_zero, List.set_cons_succ, Option.isSome_some, AV.pure, pureL, eq_self, List.replicate, List.length_map, Int.toNat_natCast, resT_at, resT_nil, hpL_at, hpL_nil, implies_true, forall_eq_or_imp, forall_eq, evA, hpAfter, binA, unA, binBA, rdH, heapy, rdOf, AOp.opers, refIds, partOk, partA, setOk, setPart, AV.solid, AV.cells, AV.isAgg, splice, fillOk, fillA, lenA, sliceA, resliceA, eqCells, bndA, litOk, litPure, litA, Nat.reduceEqDiff, ↓reduceIte, Nat.reduceAdd, Nat.reduceLeDiff, Nat.reduceSub, Nat.reduceMul, Nat.reduceLT, Int.reduceBEq, Int.reduceBNe, Int.reduceToNat, Int.reduceLT, Int.reduceLE, Int.reduceAdd, Int.reduceSub, Int.reduceMul, reduceCtorEq, tick_one ok (n := till) (by omega) (by omega), MR.v, memsV]
  refine hK _ _ _ ?_
  clear hK K
  refine AWP.seq' ?_
  refine AWP.reg' fun K hK => ?_
  try simp only [stepS, List.set_cons_zero, List.set_cons_succ, Option.isSome_some, AV.pure, pureL, eq_self, List.replicate, List.length_map, Int.toNat_natCast, resT_at, resT_nil, hpL_at, hpL_nil, implies_true, forall_eq_or_imp, forall_eq, evA, hpAfter, binA, unA, binBA, rdH, heapy, rdOf, AOp.opers, refIds, partOk, partA, setOk, setPart, AV.solid, AV.cells, AV.isAgg, splice, fillOk, fillA, lenA, sliceA, resliceA, eqCells, bndA, litOk, litPure, litA, Nat.reduceEqDiff, ↓reduceIte, Nat.reduceAdd, Nat.reduceLeDiff, Nat.reduceSub, Nat.reduceMul, Nat.reduceLT, Int.reduceBEq, Int.reduceBNe, Int.reduceToNat, Int.reduceLT, Int.reduceLE, Int.reduceAdd, Int.reduceSub, Int.reduceMul, reduceCtorEq, w1]
  refine evT_pure (Tick_spec now [one till] (till + 1)) Tick_fn rfl (by rfl) (by repeat' (first | exact trivial | assumption | refine And.intro ?_ ?_)) ?_
  try simp only [stepS, List.set_cons_zero, List.set_cons_succ, Option.isSome_some, AV.pure, pureL, eq_self, List.replicate, List.length_map, Int.toNat_natCast, resT_at, resT_nil, hpL_at, hpL_nil, implies_true, forall_eq_or_imp, forall_eq, evA, hpAfter, binA, unA, binBA, rdH, heapy, rdOf, AOp.opers, refIds, partOk, partA, setOk, setPart, AV.solid, AV.cells, AV.isAgg, splice, fillOk, fillA, lenA, sliceA, resliceA, eqCells, bndA, litOk, litPure, litA, Nat.reduceEqDiff, ↓reduceIte, Nat.reduceAdd, Nat.reduceLeDiff, Nat.reduceSub, Nat.reduceMul, Nat.reduceLT, Int.reduceBEq, Int.reduceBNe, Int.reduceToNat, Int.reduceLT, Int.reduceLE, Int.reduceAdd, Int.reduceSub, Int.reduceMul, reduceCtorEq, tick_gone ok (n := till + 1) (by omega) (by omega), MR.v, memsV]
  refine hK _ _ _ ?_
  clear hK K
  refine AWP.seq' ?_
  refine AWP.reg' fun K hK => ?_
  try simp only [stepS, List.set_cons_zero, List.set_cons_succ, Option.isSome_some, AV.pure, pureL, eq_self, List.replicate, List.length_map, Int.toNat_natCast, resT_at, resT_nil, hpL_at, hpL_nil, implies_true, forall_eq_or_imp, forall_eq, evA, hpAfter, binA, unA, binBA, rdH, heapy, rdOf, AOp.opers, refIds, partOk, partA, setOk, setPart, AV.solid, AV.cells, AV.isAgg, splice, fillOk, fillA, lenA, sliceA, resliceA, eqCells, bndA, litOk, litPure, litA, Nat.reduceEqDiff, ↓reduceIte, Nat.reduceAdd, Nat.reduceLeDiff, Nat.reduceSub, Nat.reduceMul, Nat.reduceLT, Int.reduceBEq, Int.reduceBNe, Int.reduceToNat, Int.reduceLT, Int.reduceLE, Int.reduceAdd, Int.reduceSub, Int.reduceMul, reduceCtorEq]
  refine evT_pure (Find_spec till [one till] 3 2) Find_fn rfl (by rfl) (by repeat' (first | exact trivial | assumption | refine And.intro ?_ ?_)) ?_
  try simp only [stepS, List.set_cons_zero, List.set_cons_succ, Option.isSome_some, AV.pure, pureL, eq_self, List.replicate, List.length_map, Int.toNat_natCast, resT_at, resT_nil, hpL_at, hpL_nil, implies_true, forall_eq_or_imp, forall_eq, evA, hpAfter, binA, unA, binBA, rdH, heapy, rdOf, AOp.opers, refIds, partOk, partA, setOk, setPart, AV.solid, AV.cells, AV.isAgg, splice, fillOk, fillA, lenA, sliceA, resliceA, eqCells, bndA, litOk, litPure, litA, Nat.reduceEqDiff, ↓reduceIte, Nat.reduceAdd, Nat.reduceLeDiff, Nat.reduceSub, Nat.reduceMul, Nat.reduceLT, Int.reduceBEq, Int.reduceBNe, Int.reduceToNat, Int.reduceLT, Int.reduceLE, Int.reduceAdd, Int.reduceSub, Int.reduceMul, reduceCtorEq, find_one okT, FR.v, one_v]
  refine hK _ _ _ ?_
  clear hK K
  refine AWP.seq' ?_
  refine AWP.reg' fun K hK => ?_
  try simp only [stepS, List.set_cons_zero, List.set_cons_succ, Option.isSome_some, AV.pure, pureL, eq_self, List.replicate, List.length_map, Int.toNat_natCast, resT_at, resT_nil, hpL_at, hpL_nil, implies_true, forall_eq_or_imp, forall_eq, evA, hpAfter, binA, unA, binBA, rdH, heapy, rdOf, AOp.opers, refIds, partOk, partA, setOk, setPart, AV.solid, AV.cells, AV.isAgg, splice, fillOk, fillA, lenA, sliceA, resliceA, eqCells, bndA, litOk, litPure, litA, Nat.reduceEqDiff, ↓reduceIte, Nat.reduceAdd, Nat.reduceLeDiff, Nat.reduceSub, Nat.reduceMul, Nat.reduceLT, Int.reduceBEq, Int.reduceBNe, Int.reduceToNat, Int.reduceLT, Int.reduceLE, Int.reduceAdd, Int.reduceSub, Int.reduceMul, reduceCtorEq]
  refine evT_pure (Find_spec (till + 1) [] 3 2) Find_fn rfl (by rfl) (by repeat' (first | exact trivial | assumption | refine And.intro ?_ ?_)) ?_
  try simp only [stepS, List.set_cons_zero, List.set_cons_succ, Option.isSome_some, AV.pure, pureL, eq_self, List.replicate, List.length_map, Int.toNat_natCast, resT_at, resT_nil, hpL_at, hpL_nil, implies_true, forall_eq_or_imp, forall_eq, evA, hpAfter, binA, unA, binBA, rdH, heapy, rdOf, AOp.opers, refIds, partOk, partA, setOk, setPart, AV.solid, AV.cells, AV.isAgg, splice, fillOk, fillA, lenA, sliceA, resliceA, eqCells, bndA, litOk, litPure, litA, Nat.reduceEqDiff, ↓reduceIte, Nat.reduceAdd, Nat.reduceLeDiff, Nat.reduceSub, Nat.reduceMul, Nat.reduceLT, Int.reduceBEq, Int.reduceBNe, Int.reduceToNat, Int.reduceLT, Int.reduceLE, Int.reduceAdd, Int.reduceSub, Int.reduceMul, reduceCtorEq, find_none (MOk.nil (now := till + 1) (by omega)) (h := 3) (g := 2) (fun _ h => by simp at h), FR.v, Mem.v, ints]
  refine hK _ _ _ ?_
  clear hK K
  refine AWP.seq' ?_
  refine AWP.reg' fun K hK => ?_
  try simp only [stepS, List.set_cons_zero, List.set_cons_succ, Option.isSome_some, AV.pure, pureL, eq_self, List.replicate, List.length_map, Int.toNat_natCast, resT_at, resT_nil, hpL_at, hpL_nil, implies_true, forall_eq_or_imp, forall_eq, evA, hpAfter, binA, unA, binBA, rdH, heapy, rdOf, AOp.opers, refIds, partOk, partA, setOk, setPart, AV.solid, AV.cells, AV.isAgg, splice, fillOk, fillA, lenA, sliceA, resliceA, eqCells, bndA, litOk, litPure, litA, Nat.reduceEqDiff, ↓reduceIte, Nat.reduceAdd, Nat.reduceLeDiff, Nat.reduceSub, Nat.reduceMul, Nat.reduceLT, Int.reduceBEq, Int.reduceBNe, Int.reduceToNat, Int.reduceLT, Int.reduceLE, Int.reduceAdd, Int.reduceSub, Int.reduceMul, reduceCtorEq]
  refine evT_pure (lawake_spec) lawake_fn rfl (by rfl) (by repeat' (first | exact trivial | assumption | refine And.intro ?_ ?_)) ?_
  try simp only [stepS, List.set_cons_zero, List.set_cons_succ, Option.isSome_some, AV.pure, pureL, eq_self, List.replicate, List.length_map, Int.toNat_natCast, resT_at, resT_nil, hpL_at, hpL_nil, implies_true, forall_eq_or_imp, forall_eq, evA, hpAfter, binA, unA, binBA, rdH, heapy, rdOf, AOp.opers, refIds, partOk, partA, setOk, setPart, AV.solid, AV.cells, AV.isAgg, splice, fillOk, fillA, lenA, sliceA, resliceA, eqCells, bndA, litOk, litPure, litA, Nat.reduceEqDiff, ↓reduceIte, Nat.reduceAdd, Nat.reduceLeDiff, Nat.reduceSub, Nat.reduceMul, Nat.reduceLT, Int.reduceBEq, Int.reduceBNe, Int.reduceToNat, Int.reduceLT, Int.reduceLE, Int.reduceAdd, Int.reduceSub, Int.reduceMul, reduceCtorEq]
  refine hK _ _ _ ?_
  clear hK K
  exact AWP.ret (finP_ret rfl rfl trivial)
end Go.Proofs.Ytaboolnmkfenlaa
