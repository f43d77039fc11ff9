/- MemberLimit: the walk. -/
import Derived.Test.YtaboolnmkfenlaaP1
namespace Go.Proofs.Ytaboolnmkfenlaa
open Go Go.Am
set_option linter.unusedVariables false
set_option linter.unusedSimpArgs false

def nth (T : Int) (j : Nat) : Mem := ⟨1 + ((j % 8 : Nat) : Int), 1 + ((j / 8 : Nat) : Int), 2, [], T⟩
def Lm (T : Int) (i : Nat) : List Mem := (List.range i).map (nth T)
theorem mem_Lm {T : Int} {i : Nat} {x : Mem} : x ∈ Lm T i ↔ ∃ j, j < i ∧ nth T j = x := by simp [Lm]
theorem Lm_length (T : Int) (i : Nat) : (Lm T i).length = i := by simp [Lm]
theorem Lm_ok {T : Int} (hT : 1 ≤ T ∧ T ≤ 1000) {i : Nat} (hi : i ≤ 64) : MOk 0 (Lm T i) := by
  refine ⟨by omega, by rw [Lm_length]; exact hi, fun x hx => ?_, fun x hx => ?_, fun x hx => ?_, ord_pw.mpr ?_⟩
  · obtain ⟨j, hj, rfl⟩ := mem_Lm.mp hx
    show (1 ≤ 1 + ((j % 8 : Nat) : Int) ∧ 1 + ((j % 8 : Nat) : Int) ≤ 99) ∧ (1 ≤ 1 + ((j / 8 : Nat) : Int) ∧ 1 + ((j / 8 : Nat) : Int) ≤ 99) ∧ (0 ≤ T ∧ T ≤ 0 + 1000)
    omega
  · obtain ⟨j, hj, rfl⟩ := mem_Lm.mp hx
    show fltErr 2 [] = 0
    decide
  · obtain ⟨j, hj, rfl⟩ := mem_Lm.mp hx
    rintro ⟨h, _⟩
    have h : (2 : Int) = 1 := h
    omega
  · unfold Lm
    refine List.pairwise_map.mpr (List.pairwise_lt_range.imp fun {a b} h => ?_)
    show 1 + ((a / 8 : Nat) : Int) < 1 + ((b / 8 : Nat) : Int) ∨ (1 + ((a / 8 : Nat) : Int) = 1 + ((b / 8 : Nat) : Int) ∧ 1 + ((a % 8 : Nat) : Int) < 1 + ((b % 8 : Nat) : Int))
    omega
theorem flt_all : fltErr 2 [] = 0 := by decide
theorem flt_none : fltErr 1 [] = 0 := by decide
theorem all_no : ¬ ((2 : Int) = 1 ∧ ([] : List Int) = []) := by omega
theorem Lm_step {T : Int} (hT : 1 ≤ T ∧ T ≤ 1000) {i : Nat} (hi : i < 64) : report 0 (Lm T i) (1 + ((i % 8 : Nat) : Int)) (1 + ((i / 8 : Nat) : Int)) 2 [] T = ((0, Lm T (i + 1)), 0) := by
  have ok := Lm_ok hT (Nat.le_of_lt hi)
  have hf : (Lm T i).filter (other (1 + ((i % 8 : Nat) : Int)) (1 + ((i / 8 : Nat) : Int))) = Lm T i := by
    rw [List.filter_eq_self]
    intro x hx
    obtain ⟨j, hj, rfl⟩ := mem_Lm.mp hx
    rw [other_iff]
    show 1 + ((j % 8 : Nat) : Int) ≠ _ ∨ 1 + ((j / 8 : Nat) : Int) ≠ _
    omega
  have key := report_ok ok (h := 1 + ((i % 8 : Nat) : Int)) (g := 1 + ((i / 8 : Nat) : Int)) (m := 2) (s := []) (life := T) ⟨⟨by omega, by omega, hT⟩, flt_all⟩ all_no (by rw [hf, Lm_length]; exact hi)
  rw [hf] at key
  rw [key.1]
  have : insM (Lm T i) ⟨1 + ((i % 8 : Nat) : Int), 1 + ((i / 8 : Nat) : Int), 2, [], 0 + T⟩ = Lm T (i + 1) := by
    refine ord_ext key.2.ord (Lm_ok hT hi).ord fun x => ?_
    rw [mem_insM, mem_Lm, mem_Lm]
    have e : (⟨1 + ((i % 8 : Nat) : Int), 1 + ((i / 8 : Nat) : Int), 2, [], 0 + T⟩ : Mem) = nth T i := by unfold nth; rw [Int.zero_add]
    rw [e]
    constructor
    · rintro (⟨j, hj, rfl⟩ | rfl)
      · exact ⟨j, by omega, rfl⟩
      · exact ⟨i, by omega, rfl⟩
    · rintro ⟨j, hj, rfl⟩
      by_cases e : j = i
      · subst e; exact .inr rfl
      · exact .inl ⟨j, by omega, rfl⟩
  rw [this]
theorem Lm_other {T h : Int} : (Lm T 64).filter (other h 9) = Lm T 64 := by
  rw [List.filter_eq_self]
  intro x hx
  obtain ⟨j, hj, rfl⟩ := mem_Lm.mp hx
  rw [other_iff]
  right
  show 1 + ((j / 8 : Nat) : Int) ≠ 9
  omega
theorem Lm_full {T h : Int} (hT : 1 ≤ T ∧ T ≤ 1000) (hh : 1 ≤ h ∧ h ≤ 99) : report 0 (Lm T 64) h 9 2 [] 5 = ((0, []), 3) :=
  report_full (Lm_ok hT (Nat.le_refl _)) ⟨⟨hh, by omega, by omega⟩, flt_all⟩ all_no (by rw [Lm_other, Lm_length])
theorem Lm_no {T h : Int} (hT : 1 ≤ T ∧ T ≤ 1000) (hh : 1 ≤ h ∧ h ≤ 99) : report 0 (Lm T 64) h 9 1 [] 5 = ((0, Lm T 64), 0) := by
  rw [report_no (Lm_ok hT (Nat.le_refl _)) ⟨⟨hh, by omega, by omega⟩, flt_none⟩, Lm_other]
theorem Lm_again {T : Int} (hT : 1 ≤ T ∧ T ≤ 1000) : ∃ A, report 0 (Lm T 64) 1 1 2 [] 7 = ((0, A), 0) ∧ find 0 A 1 1 = (⟨1, 1, 2, [], 7⟩, true) := by
  have ok := Lm_ok hT (Nat.le_refl 64)
  have hlt : ((Lm T 64).filter (other 1 1)).length < 64 := by
    have h1 : ((Lm T 64).filter (other 1 1)).length < (Lm T 64).length := by
      rw [List.length_filter_lt_length_iff_exists]
      refine ⟨nth T 0, mem_Lm.mpr ⟨0, by omega, rfl⟩, ?_⟩
      rw [other_iff]
      rintro (h | h) <;> exact h rfl
    rwa [Lm_length] at h1
  have key := report_ok ok (h := 1) (g := 1) (m := 2) (s := []) (life := 7) ⟨⟨by omega, by omega, by omega⟩, flt_all⟩ all_no hlt
  exact ⟨_, key.1, find_mem key.2 (x := ⟨1, 1, 2, [], 7⟩) (mem_insM.mpr (.inr rfl))⟩

theorem Limit_spec (host life : Int) : PSpec Try.prog 4 [.int host, .int life] (.bool true) := by
  have hT0 := Mod_range (x := life) (show 1 ≤ (1000 : Int) by omega)
  have hH0 := Mod_range (x := host) (show 1 ≤ (99 : Int) by omega)
  have wT : IntKind.i64.wrap (1 + Mod life 1000) = 1 + Mod life 1000 := wrap64 (by omega)
  have wH : IntKind.i64.wrap (1 + Mod host 99) = 1 + Mod host 99 := wrap64 (by omega)
  have hT : 1 ≤ 1 + Mod life 1000 ∧ 1 + Mod life 1000 ≤ 1000 := by omega
  have hH : 1 ≤ 1 + Mod host 99 ∧ 1 + Mod host 99 ≤ 99 := by omega
  refine PSpec.walk Try.func4 cf4_ok (by simp [cf4]) trivial ?_
  unfold cf4
  simp only [initT]
  repeat (first
    | refine AWP.seq' ?_
    | refine AWP.skip ?_
    | (refine AWP.reg' fun K hK => ?_; simp only [stepS, List.set_cons_zero, List.set_cons_succ, Option.isSome_some, AV.pure, pureL, eq_self, List.replicate, List.length_map, Int.toNat_natCast, resT_at, resT_nil, hpL_at, hpL_nil, implies_true, forall_eq_or_imp, forall_eq, evA, hpAfter, binA, unA, binBA, rdH, heapy, rdOf, AOp.opers, refIds, partOk, partA, setOk, setPart, AV.solid, AV.cells, AV.isAgg, splice, fillOk, fillA, lenA, sliceA, resliceA, eqCells, bndA, litOk, litPure, litA, Nat.reduceEqDiff, ↓reduceIte, Nat.reduceAdd, Nat.reduceLeDiff, Nat.reduceSub, Nat.reduceMul, Nat.reduceLT, Int.reduceBEq, Int.reduceBNe, Int.reduceToNat, Int.reduceLT, Int.reduceLE, Int.reduceAdd, Int.reduceSub, Int.reduceMul, reduceCtorEq]; (repeat (refine And.intro (by omega) ?_)); refine hK _ _ _ ?_; clear hK K))
  refine AWP.weak (Weak.subB 16 rfl (memsV_nil 0) rfl) ?_
  refine AWP.block ?_
  refine AWP.loopS (fun i => ⟨resT [(0, .int host), (1, .int life), (5, .ref 0 0), (6, .int (i : Nat))], hpL 0 [some (.box (memsV 0 (Lm (1 + Mod life 1000) i)))], 1⟩)
    (fun i => i ≤ 64) (fun i => 64 - i) (i0 := 0) (Nat.zero_le _) ?_ ?_
  · refine Weak.nf [16] _ _ ?_ ?_ ⟨rfl, rfl⟩ (by decide) (by decide) (by decide)
    · repeat' (first | exact trivial | exact And.intro rfl trivial | refine And.intro ?_ ?_ | rfl | exact Nat.le_of_ble_eq_true rfl)
    · repeat' (first | exact trivial | exact And.intro rfl trivial | refine And.intro ?_ ?_ | rfl | exact Nat.le_of_ble_eq_true rfl)
  rintro i h1
  repeat (first
    | refine AWP.seq' ?_
    | refine AWP.skip ?_
    | (refine AWP.reg' fun K hK => ?_; simp only [stepS, List.set_cons_zero, List.set_cons_succ, Option.isSome_some, AV.pure, pureL, eq_self, List.replicate, List.length_map, Int.toNat_natCast, resT_at, resT_nil, hpL_at, hpL_nil, implies_true, forall_eq_or_imp, forall_eq, evA, hpAfter, binA, unA, binBA, rdH, heapy, rdOf, AOp.opers, refIds, partOk, partA, setOk, setPart, AV.solid, AV.cells, AV.isAgg, splice, fillOk, fillA, lenA, sliceA, resliceA, eqCells, bndA, litOk, litPure, litA, Nat.reduceEqDiff, ↓reduceIte, Nat.reduceAdd, Nat.reduceLeDiff, Nat.reduceSub, Nat.reduceMul, Nat.reduceLT, Int.reduceBEq, Int.reduceBNe, Int.reduceToNat, Int.reduceLT, Int.reduceLE, Int.reduceAdd, Int.reduceSub, Int.reduceMul, reduceCtorEq]; (repeat (refine And.intro (by omega) ?_)); refine hK _ _ _ ?_; clear hK K))
  refine AWP.cond (b := decide ((i : Int) < 64)) rfl (fun h => ?_) (fun h => ?_)
  · have h : i < 64 := by have := of_decide_eq_true h; omega
    refine AWP.skip ?_
    refine AWP.seq' ?_
    refine AWP.block ?_
    refine AWP.seq' ?_
    have w1 : ((i : Int)).tmod 8 = ((i % 8 : Nat) : Int) := by rw [Int.tmod_eq_emod_of_nonneg (by omega)]; omega
    have w2 : ((i : Int)).tdiv 8 = ((i / 8 : Nat) : Int) := by rw [Int.tdiv_eq_ediv_of_nonneg (by omega)]; omega
    have w3 : IntKind.i64.wrap ((i / 8 : Nat) : Int) = ((i / 8 : Nat) : Int) := wrap64 (by omega)
    have w4 : IntKind.i64.wrap (1 + ((i % 8 : Nat) : Int)) = 1 + ((i % 8 : Nat) : Int) := wrap64 (by omega)
    have w5 : IntKind.i64.wrap (1 + ((i / 8 : Nat) : Int)) = 1 + ((i / 8 : Nat) : Int) := wrap64 (by omega)
    have w6 : IntKind.i64.wrap ((i : Int) + 1) = ((i + 1 : Nat) : Int) := wrapN (by omega) (by omega)
    refine AWP.dreg' fun K hK => ?_
    try simp only [stepS, List.set_cons_zero, List.set_cons_succ, Option.isSome_some, AV.pure, pureL, eq_self, List.replicate, List.length_map, Int.toNat_natCast, resT_at, resT_nil, hpL_at, hpL_nil, implies_true, forall_eq_or_imp, forall_eq, evA, hpAfter, binA, unA, binBA, rdH, heapy, rdOf, AOp.opers, refIds, partOk, partA, setOk, setPart, AV.solid, AV.cells, AV.isAgg, splice, fillOk, fillA, lenA, sliceA, resliceA, eqCells, bndA, litOk, litPure, litA, Nat.reduceEqDiff, ↓reduceIte, Nat.reduceAdd, Nat.reduceLeDiff, Nat.reduceSub, Nat.reduceMul, Nat.reduceLT, Int.reduceBEq, Int.reduceBNe, Int.reduceToNat, Int.reduceLT, Int.reduceLE, Int.reduceAdd, Int.reduceSub, Int.reduceMul, reduceCtorEq, memsV, mems, w1, w2, w3, w4, w5]
    repeat (refine And.intro (by omega) ?_)
    refine evD_pure (lall_spec) lall_fn rfl (by rfl) (by repeat' (first | exact trivial | assumption | refine And.intro ?_ ?_)) ?_
    try simp only [stepS, List.set_cons_zero, List.set_cons_succ, Option.isSome_some, AV.pure, pureL, eq_self, List.replicate, List.length_map, Int.toNat_natCast, resT_at, resT_nil, hpL_at, hpL_nil, implies_true, forall_eq_or_imp, forall_eq, evA, hpAfter, binA, unA, binBA, rdH, heapy, rdOf, AOp.opers, refIds, partOk, partA, setOk, setPart, AV.solid, AV.cells, AV.isAgg, splice, fillOk, fillA, lenA, sliceA, resliceA, eqCells, bndA, litOk, litPure, litA, Nat.reduceEqDiff, ↓reduceIte, Nat.reduceAdd, Nat.reduceLeDiff, Nat.reduceSub, Nat.reduceMul, Nat.reduceLT, Int.reduceBEq, Int.reduceBNe, Int.reduceToNat, Int.reduceLT, Int.reduceLE, Int.reduceAdd, Int.reduceSub, Int.reduceMul, reduceCtorEq]
    refine evD_pure (Mod_spec life 1000) Mod_fn rfl (by rfl) (by repeat' (first | exact trivial | assumption | refine And.intro ?_ ?_)) ?_
    try simp only [stepS, List.set_cons_zero, List.set_cons_succ, Option.isSome_some, AV.pure, pureL, eq_self, List.replicate, List.length_map, Int.toNat_natCast, resT_at, resT_nil, hpL_at, hpL_nil, implies_true, forall_eq_or_imp, forall_eq, evA, hpAfter, binA, unA, binBA, rdH, heapy, rdOf, AOp.opers, refIds, partOk, partA, setOk, setPart, AV.solid, AV.cells, AV.isAgg, splice, fillOk, fillA, lenA, sliceA, resliceA, eqCells, bndA, litOk, litPure, litA, Nat.reduceEqDiff, ↓reduceIte, Nat.reduceAdd, Nat.reduceLeDiff, Nat.reduceSub, Nat.reduceMul, Nat.reduceLT, Int.reduceBEq, Int.reduceBNe, Int.reduceToNat, Int.reduceLT, Int.reduceLE, Int.reduceAdd, Int.reduceSub, Int.reduceMul, reduceCtorEq, wT]
    refine evD_pure (Report_spec 0 (Lm (1 + Mod life 1000) i) (1 + ((i % 8 : Nat) : Int)) (1 + ((i / 8 : Nat) : Int)) 2 [] (1 + Mod life 1000)) Report_fn rfl (by rfl) (by repeat' (first | exact trivial | assumption | refine And.intro ?_ ?_)) ?_
    try simp only [stepS, List.set_cons_zero, List.set_cons_succ, Option.isSome_some, AV.pure, pureL, eq_self, List.replicate, List.length_map, Int.toNat_natCast, resT_at, resT_nil, hpL_at, hpL_nil, implies_true, forall_eq_or_imp, forall_eq, evA, hpAfter, binA, unA, binBA, rdH, heapy, rdOf, AOp.opers, refIds, partOk, partA, setOk, setPart, AV.solid, AV.cells, AV.isAgg, splice, fillOk, fillA, lenA, sliceA, resliceA, eqCells, bndA, litOk, litPure, litA, Nat.reduceEqDiff, ↓reduceIte, Nat.reduceAdd, Nat.reduceLeDiff, Nat.reduceSub, Nat.reduceMul, Nat.reduceLT, Int.reduceBEq, Int.reduceBNe, Int.reduceToNat, Int.reduceLT, Int.reduceLE, Int.reduceAdd, Int.reduceSub, Int.reduceMul, reduceCtorEq, Lm_step hT h, MR.v, memsV, mems]
    refine ⟨by rfl, hK _ _ _ ?_⟩
    clear hK K
    repeat (first
      | refine AWP.seq' ?_
      | refine AWP.skip ?_
      | (refine AWP.reg' fun K hK => ?_; simp only [stepS, List.set_cons_zero, List.set_cons_succ, Option.isSome_some, AV.pure, pureL, eq_self, List.replicate, List.length_map, Int.toNat_natCast, resT_at, resT_nil, hpL_at, hpL_nil, implies_true, forall_eq_or_imp, forall_eq, evA, hpAfter, binA, unA, binBA, rdH, heapy, rdOf, AOp.opers, refIds, partOk, partA, setOk, setPart, AV.solid, AV.cells, AV.isAgg, splice, fillOk, fillA, lenA, sliceA, resliceA, eqCells, bndA, litOk, litPure, litA, Nat.reduceEqDiff, ↓reduceIte, Nat.reduceAdd, Nat.reduceLeDiff, Nat.reduceSub, Nat.reduceMul, Nat.reduceLT, Int.reduceBEq, Int.reduceBNe, Int.reduceToNat, Int.reduceLT, Int.reduceLE, Int.reduceAdd, Int.reduceSub, Int.reduceMul, reduceCtorEq]; (repeat (refine And.intro (by omega) ?_)); refine hK _ _ _ ?_; clear hK K))
    refine AWP.cond (b := false) rfl (fun c => by cases c) (fun c => ?_)
    repeat (first
      | refine AWP.seq' ?_
      | refine AWP.skip ?_
      | (refine AWP.reg' fun K hK => ?_; simp only [stepS, List.set_cons_zero, List.set_cons_succ, Option.isSome_some, AV.pure, pureL, eq_self, List.replicate, List.length_map, Int.toNat_natCast, resT_at, resT_nil, hpL_at, hpL_nil, implies_true, forall_eq_or_imp, forall_eq, evA, hpAfter, binA, unA, binBA, rdH, heapy, rdOf, AOp.opers, refIds, partOk, partA, setOk, setPart, AV.solid, AV.cells, AV.isAgg, splice, fillOk, fillA, lenA, sliceA, resliceA, eqCells, bndA, litOk, litPure, litA, Nat.reduceEqDiff, ↓reduceIte, Nat.reduceAdd, Nat.reduceLeDiff, Nat.reduceSub, Nat.reduceMul, Nat.reduceLT, Int.reduceBEq, Int.reduceBNe, Int.reduceToNat, Int.reduceLT, Int.reduceLE, Int.reduceAdd, Int.reduceSub, Int.reduceMul, reduceCtorEq, w6]; (repeat (refine And.intro (by omega) ?_)); refine hK _ _ _ ?_; clear hK K))
    refine ⟨i + 1, h, by omega, ?_⟩
    refine Weak.nf [0] _ _ ?_ ?_ ⟨rfl, rfl⟩ (by decide) (by decide) (by decide)
    · repeat' (first | exact trivial | exact And.intro rfl trivial | refine And.intro ?_ ?_ | rfl | exact Nat.le_of_ble_eq_true rfl)
    · repeat' (first | exact trivial | exact And.intro rfl trivial | refine And.intro ?_ ?_ | rfl | exact Nat.le_of_ble_eq_true rfl)
  have h : i = 64 := by have := of_decide_eq_false h; omega
  subst h
  obtain ⟨A, eA, eF⟩ := Lm_again hT
  refine AWP.exit ?_
  refine AWP.seq' ?_
  refine AWP.reg' fun K hK => ?_
  try simp only [stepS, List.set_cons_zero, List.set_cons_succ, Option.isSome_some, AV.pure, pureL, eq_self, List.replicate, List.length_map, Int.toNat_natCast, resT_at, resT_nil, hpL_at, hpL_nil, implies_true, forall_eq_or_imp, forall_eq, evA, hpAfter, binA, unA, binBA, rdH, heapy, rdOf, AOp.opers, refIds, partOk, partA, setOk, setPart, AV.solid, AV.cells, AV.isAgg, splice, fillOk, fillA, lenA, sliceA, resliceA, eqCells, bndA, litOk, litPure, litA, Nat.reduceEqDiff, ↓reduceIte, Nat.reduceAdd, Nat.reduceLeDiff, Nat.reduceSub, Nat.reduceMul, Nat.reduceLT, Int.reduceBEq, Int.reduceBNe, Int.reduceToNat, Int.reduceLT, Int.reduceLE, Int.reduceAdd, Int.reduceSub, Int.reduceMul, reduceCtorEq]
  refine evT_pure (Mod_spec host 99) Mod_fn rfl (by rfl) (by repeat' (first | exact trivial | assumption | refine And.intro ?_ ?_)) ?_
  try simp only [stepS, List.set_cons_zero, List.set_cons_succ, Option.isSome_some, AV.pure, pureL, eq_self, List.replicate, List.length_map, Int.toNat_natCast, resT_at, resT_nil, hpL_at, hpL_nil, implies_true, forall_eq_or_imp, forall_eq, evA, hpAfter, binA, unA, binBA, rdH, heapy, rdOf, AOp.opers, refIds, partOk, partA, setOk, setPart, AV.solid, AV.cells, AV.isAgg, splice, fillOk, fillA, lenA, sliceA, resliceA, eqCells, bndA, litOk, litPure, litA, Nat.reduceEqDiff, ↓reduceIte, Nat.reduceAdd, Nat.reduceLeDiff, Nat.reduceSub, Nat.reduceMul, Nat.reduceLT, Int.reduceBEq, Int.reduceBNe, Int.reduceToNat, Int.reduceLT, Int.reduceLE, Int.reduceAdd, Int.reduceSub, Int.reduceMul, reduceCtorEq, wH]
  refine hK _ _ _ ?_
  clear hK K
  refine AWP.seq' ?_
  refine AWP.dreg' fun K hK => ?_
  try simp only [stepS, List.set_cons_zero, List.set_cons_succ, Option.isSome_some, AV.pure, pureL, eq_self, List.replicate, List.length_map, Int.toNat_natCast, resT_at, resT_nil, hpL_at, hpL_nil, implies_true, forall_eq_or_imp, forall_eq, evA, hpAfter, binA, unA, binBA, rdH, heapy, rdOf, AOp.opers, refIds, partOk, partA, setOk, setPart, AV.solid, AV.cells, AV.isAgg, splice, fillOk, fillA, lenA, sliceA, resliceA, eqCells, bndA, litOk, litPure, litA, Nat.reduceEqDiff, ↓reduceIte, Nat.reduceAdd, Nat.reduceLeDiff, Nat.reduceSub, Nat.reduceMul, Nat.reduceLT, Int.reduceBEq, Int.reduceBNe, Int.reduceToNat, Int.reduceLT, Int.reduceLE, Int.reduceAdd, Int.reduceSub, Int.reduceMul, reduceCtorEq, memsV, mems]
  refine evD_pure (lall_spec) lall_fn rfl (by rfl) (by repeat' (first | exact trivial | assumption | refine And.intro ?_ ?_)) ?_
  try simp only [stepS, List.set_cons_zero, List.set_cons_succ, Option.isSome_some, AV.pure, pureL, eq_self, List.replicate, List.length_map, Int.toNat_natCast, resT_at, resT_nil, hpL_at, hpL_nil, implies_true, forall_eq_or_imp, forall_eq, evA, hpAfter, binA, unA, binBA, rdH, heapy, rdOf, AOp.opers, refIds, partOk, partA, setOk, setPart, AV.solid, AV.cells, AV.isAgg, splice, fillOk, fillA, lenA, sliceA, resliceA, eqCells, bndA, litOk, litPure, litA, Nat.reduceEqDiff, ↓reduceIte, Nat.reduceAdd, Nat.reduceLeDiff, Nat.reduceSub, Nat.reduceMul, Nat.reduceLT, Int.reduceBEq, Int.reduceBNe, Int.reduceToNat, Int.reduceLT, Int.reduceLE, Int.reduceAdd, Int.reduceSub, Int.reduceMul, reduceCtorEq]
  refine evD_pure (Report_spec 0 (Lm (1 + Mod life 1000) 64) (1 + Mod host 99) 9 2 [] 5) Report_fn rfl (by rfl) (by repeat' (first | exact trivial | assumption | refine And.intro ?_ ?_)) ?_
  try simp only [stepS, List.set_cons_zero, List.set_cons_succ, Option.isSome_some, AV.pure, pureL, eq_self, List.replicate, List.length_map, Int.toNat_natCast, resT_at, resT_nil, hpL_at, hpL_nil, implies_true, forall_eq_or_imp, forall_eq, evA, hpAfter, binA, unA, binBA, rdH, heapy, rdOf, AOp.opers, refIds, partOk, partA, setOk, setPart, AV.solid, AV.cells, AV.isAgg, splice, fillOk, fillA, lenA, sliceA, resliceA, eqCells, bndA, litOk, litPure, litA, Nat.reduceEqDiff, ↓reduceIte, Nat.reduceAdd, Nat.reduceLeDiff, Nat.reduceSub, Nat.reduceMul, Nat.reduceLT, Int.reduceBEq, Int.reduceBNe, Int.reduceToNat, Int.reduceLT, Int.reduceLE, Int.reduceAdd, Int.reduceSub, Int.reduceMul, reduceCtorEq, Lm_full hT hH, MR.v, memsV, mems]
  refine ⟨by rfl, hK _ _ _ ?_⟩
  clear hK K
  refine AWP.seq' ?_
  refine AWP.dreg' fun K hK => ?_
  try simp only [stepS, List.set_cons_zero, List.set_cons_succ, Option.isSome_some, AV.pure, pureL, eq_self, List.replicate, List.length_map, Int.toNat_natCast, resT_at, resT_nil, hpL_at, hpL_nil, implies_true, forall_eq_or_imp, forall_eq, evA, hpAfter, binA, unA, binBA, rdH, heapy, rdOf, AOp.opers, refIds, partOk, partA, setOk, setPart, AV.solid, AV.cells, AV.isAgg, splice, fillOk, fillA, lenA, sliceA, resliceA, eqCells, bndA, litOk, litPure, litA, Nat.reduceEqDiff, ↓reduceIte, Nat.reduceAdd, Nat.reduceLeDiff, Nat.reduceSub, Nat.reduceMul, Nat.reduceLT, Int.reduceBEq, Int.reduceBNe, Int.reduceToNat, Int.reduceLT, Int.reduceLE, Int.reduceAdd, Int.reduceSub, Int.reduceMul, reduceCtorEq, memsV, mems]
  refine evD_pure (lall_spec) lall_fn rfl (by rfl) (by repeat' (first | exact trivial | assumption | refine And.intro ?_ ?_)) ?_
  try simp only [stepS, List.set_cons_zero, List.set_cons_succ, Option.isSome_some, AV.pure, pureL, eq_self, List.replicate, List.length_map, Int.toNat_natCast, resT_at, resT_nil, hpL_at, hpL_nil, implies_true, forall_eq_or_imp, forall_eq, evA, hpAfter, binA, unA, binBA, rdH, heapy, rdOf, AOp.opers, refIds, partOk, partA, setOk, setPart, AV.solid, AV.cells, AV.isAgg, splice, fillOk, fillA, lenA, sliceA, resliceA, eqCells, bndA, litOk, litPure, litA, Nat.reduceEqDiff, ↓reduceIte, Nat.reduceAdd, Nat.reduceLeDiff, Nat.reduceSub, Nat.reduceMul, Nat.reduceLT, Int.reduceBEq, Int.reduceBNe, Int.reduceToNat, Int.reduceLT, Int.reduceLE, Int.reduceAdd, Int.reduceSub, Int.reduceMul, reduceCtorEq]
  refine evD_pure (Report_spec 0 (Lm (1 + Mod life 1000) 64) 1 1 2 [] 7) Report_fn rfl (by rfl) (by repeat' (first | exact trivial | assumption | refine And.intro ?_ ?_)) ?_
  try simp only [stepS, List.set_cons_zero, List.set_cons_succ, Option.isSome_some, AV.pure, pureL, eq_self, List.replicate, List.length_map, Int.toNat_natCast, resT_at, resT_nil, hpL_at, hpL_nil, implies_true, forall_eq_or_imp, forall_eq, evA, hpAfter, binA, unA, binBA, rdH, heapy, rdOf, AOp.opers, refIds, partOk, partA, setOk, setPart, AV.solid, AV.cells, AV.isAgg, splice, fillOk, fillA, lenA, sliceA, resliceA, eqCells, bndA, litOk, litPure, litA, Nat.reduceEqDiff, ↓reduceIte, Nat.reduceAdd, Nat.reduceLeDiff, Nat.reduceSub, Nat.reduceMul, Nat.reduceLT, Int.reduceBEq, Int.reduceBNe, Int.reduceToNat, Int.reduceLT, Int.reduceLE, Int.reduceAdd, Int.reduceSub, Int.reduceMul, reduceCtorEq, eA, MR.v, memsV, mems]
  refine ⟨by rfl, hK _ _ _ ?_⟩
  clear hK K
  refine AWP.seq' ?_
  refine AWP.dreg' fun K hK => ?_
  try simp only [stepS, List.set_cons_zero, List.set_cons_succ, Option.isSome_some, AV.pure, pureL, eq_self, List.replicate, List.length_map, Int.toNat_natCast, resT_at, resT_nil, hpL_at, hpL_nil, implies_true, forall_eq_or_imp, forall_eq, evA, hpAfter, binA, unA, binBA, rdH, heapy, rdOf, AOp.opers, refIds, partOk, partA, setOk, setPart, AV.solid, AV.cells, AV.isAgg, splice, fillOk, fillA, lenA, sliceA, resliceA, eqCells, bndA, litOk, litPure, litA, Nat.reduceEqDiff, ↓reduceIte, Nat.reduceAdd, Nat.reduceLeDiff, Nat.reduceSub, Nat.reduceMul, Nat.reduceLT, Int.reduceBEq, Int.reduceBNe, Int.reduceToNat, Int.reduceLT, Int.reduceLE, Int.reduceAdd, Int.reduceSub, Int.reduceMul, reduceCtorEq, memsV, mems]
  refine evD_pure (Nothing_spec) Nothing_fn rfl (by rfl) (by repeat' (first | exact trivial | assumption | refine And.intro ?_ ?_)) ?_
  try simp only [stepS, List.set_cons_zero, List.set_cons_succ, Option.isSome_some, AV.pure, pureL, eq_self, List.replicate, List.length_map, Int.toNat_natCast, resT_at, resT_nil, hpL_at, hpL_nil, implies_true, forall_eq_or_imp, forall_eq, evA, hpAfter, binA, unA, binBA, rdH, heapy, rdOf, AOp.opers, refIds, partOk, partA, setOk, setPart, AV.solid, AV.cells, AV.isAgg, splice, fillOk, fillA, lenA, sliceA, resliceA, eqCells, bndA, litOk, litPure, litA, Nat.reduceEqDiff, ↓reduceIte, Nat.reduceAdd, Nat.reduceLeDiff, Nat.reduceSub, Nat.reduceMul, Nat.reduceLT, Int.reduceBEq, Int.reduceBNe, Int.reduceToNat, Int.reduceLT, Int.reduceLE, Int.reduceAdd, Int.reduceSub, Int.reduceMul, reduceCtorEq]
  refine evD_pure (Report_spec 0 (Lm (1 + Mod life 1000) 64) (1 + Mod host 99) 9 1 [] 5) Report_fn rfl (by rfl) (by repeat' (first | exact trivial | assumption | refine And.intro ?_ ?_)) ?_
  try simp only [stepS, List.set_cons_zero, List.set_cons_succ, Option.isSome_some, AV.pure, pureL, eq_self, List.replicate, List.length_map, Int.toNat_natCast, resT_at, resT_nil, hpL_at, hpL_nil, implies_true, forall_eq_or_imp, forall_eq, evA, hpAfter, binA, unA, binBA, rdH, heapy, rdOf, AOp.opers, refIds, partOk, partA, setOk, setPart, AV.solid, AV.cells, AV.isAgg, splice, fillOk, fillA, lenA, sliceA, resliceA, eqCells, bndA, litOk, litPure, litA, Nat.reduceEqDiff, ↓reduceIte, Nat.reduceAdd, Nat.reduceLeDiff, Nat.reduceSub, Nat.reduceMul, Nat.reduceLT, Int.reduceBEq, Int.reduceBNe, Int.reduceToNat, Int.reduceLT, Int.reduceLE, Int.reduceAdd, Int.reduceSub, Int.reduceMul, reduceCtorEq, Lm_no hT hH, MR.v, memsV, mems]
  refine ⟨by rfl, hK _ _ _ ?_⟩
  clear hK K
  refine AWP.seq' ?_
  refine AWP.reg' fun K hK => ?_
  try simp only [stepS, List.set_cons_zero, List.set_cons_succ, Option.isSome_some, AV.pure, pureL, eq_self, List.replicate, List.length_map, Int.toNat_natCast, resT_at, resT_nil, hpL_at, hpL_nil, implies_true, forall_eq_or_imp, forall_eq, evA, hpAfter, binA, unA, binBA, rdH, heapy, rdOf, AOp.opers, refIds, partOk, partA, setOk, setPart, AV.solid, AV.cells, AV.isAgg, splice, fillOk, fillA, lenA, sliceA, resliceA, eqCells, bndA, litOk, litPure, litA, Nat.reduceEqDiff, ↓reduceIte, Nat.reduceAdd, Nat.reduceLeDiff, Nat.reduceSub, Nat.reduceMul, Nat.reduceLT, Int.reduceBEq, Int.reduceBNe, Int.reduceToNat, Int.reduceLT, Int.reduceLE, Int.reduceAdd, Int.reduceSub, Int.reduceMul, reduceCtorEq]
  refine evT_pure (Find_spec 0 A 1 1) Find_fn rfl (by rfl) (by repeat' (first | exact trivial | assumption | refine And.intro ?_ ?_)) ?_
  try simp only [stepS, List.set_cons_zero, List.set_cons_succ, Option.isSome_some, AV.pure, pureL, eq_self, List.replicate, List.length_map, Int.toNat_natCast, resT_at, resT_nil, hpL_at, hpL_nil, implies_true, forall_eq_or_imp, forall_eq, evA, hpAfter, binA, unA, binBA, rdH, heapy, rdOf, AOp.opers, refIds, partOk, partA, setOk, setPart, AV.solid, AV.cells, AV.isAgg, splice, fillOk, fillA, lenA, sliceA, resliceA, eqCells, bndA, litOk, litPure, litA, Nat.reduceEqDiff, ↓reduceIte, Nat.reduceAdd, Nat.reduceLeDiff, Nat.reduceSub, Nat.reduceMul, Nat.reduceLT, Int.reduceBEq, Int.reduceBNe, Int.reduceToNat, Int.reduceLT, Int.reduceLE, Int.reduceAdd, Int.reduceSub, Int.reduceMul, reduceCtorEq, eF, FR.v, Mem.v, ints]
  refine hK _ _ _ ?_
  clear hK K
  refine AWP.seq' ?_
  refine AWP.reg' fun K hK => ?_
  try simp only [stepS, List.set_cons_zero, List.set_cons_succ, Option.isSome_some, AV.pure, pureL, eq_self, List.replicate, List.length_map, Int.toNat_natCast, resT_at, resT_nil, hpL_at, hpL_nil, implies_true, forall_eq_or_imp, forall_eq, evA, hpAfter, binA, unA, binBA, rdH, heapy, rdOf, AOp.opers, refIds, partOk, partA, setOk, setPart, AV.solid, AV.cells, AV.isAgg, splice, fillOk, fillA, lenA, sliceA, resliceA, eqCells, bndA, litOk, litPure, litA, Nat.reduceEqDiff, ↓reduceIte, Nat.reduceAdd, Nat.reduceLeDiff, Nat.reduceSub, Nat.reduceMul, Nat.reduceLT, Int.reduceBEq, Int.reduceBNe, Int.reduceToNat, Int.reduceLT, Int.reduceLE, Int.reduceAdd, Int.reduceSub, Int.reduceMul, reduceCtorEq]
  refine evT_pure (RSame_spec 0 0 (Lm (1 + Mod life 1000) 64) (Lm (1 + Mod life 1000) 64)) RSame_fn rfl (by rfl) (by repeat' (first | exact trivial | assumption | refine And.intro ?_ ?_)) ?_
  try simp only [stepS, List.set_cons_zero, List.set_cons_succ, Option.isSome_some, AV.pure, pureL, eq_self, List.replicate, List.length_map, Int.toNat_natCast, resT_at, resT_nil, hpL_at, hpL_nil, implies_true, forall_eq_or_imp, forall_eq, evA, hpAfter, binA, unA, binBA, rdH, heapy, rdOf, AOp.opers, refIds, partOk, partA, setOk, setPart, AV.solid, AV.cells, AV.isAgg, splice, fillOk, fillA, lenA, sliceA, resliceA, eqCells, bndA, litOk, litPure, litA, Nat.reduceEqDiff, ↓reduceIte, Nat.reduceAdd, Nat.reduceLeDiff, Nat.reduceSub, Nat.reduceMul, Nat.reduceLT, Int.reduceBEq, Int.reduceBNe, Int.reduceToNat, Int.reduceLT, Int.reduceLE, Int.reduceAdd, Int.reduceSub, Int.reduceMul, reduceCtorEq]
  refine evT_pure (lawake_spec) lawake_fn rfl (by rfl) (by repeat' (first | exact trivial | assumption | refine And.intro ?_ ?_)) ?_
  try simp only [stepS, List.set_cons_zero, List.set_cons_succ, Option.isSome_some, AV.pure, pureL, eq_self, List.replicate, List.length_map, Int.toNat_natCast, resT_at, resT_nil, hpL_at, hpL_nil, implies_true, forall_eq_or_imp, forall_eq, evA, hpAfter, binA, unA, binBA, rdH, heapy, rdOf, AOp.opers, refIds, partOk, partA, setOk, setPart, AV.solid, AV.cells, AV.isAgg, splice, fillOk, fillA, lenA, sliceA, resliceA, eqCells, bndA, litOk, litPure, litA, Nat.reduceEqDiff, ↓reduceIte, Nat.reduceAdd, Nat.reduceLeDiff, Nat.reduceSub, Nat.reduceMul, Nat.reduceLT, Int.reduceBEq, Int.reduceBNe, Int.reduceToNat, Int.reduceLT, Int.reduceLE, Int.reduceAdd, Int.reduceSub, Int.reduceMul, reduceCtorEq]
  refine hK _ _ _ ?_
  clear hK K
  exact AWP.ret (finP_ret rfl rfl trivial)
end Go.Proofs.Ytaboolnmkfenlaa
