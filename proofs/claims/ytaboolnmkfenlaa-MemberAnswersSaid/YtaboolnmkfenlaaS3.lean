/- Contracts of filter.Validate and of its reference. -/
import Derived.Test.YtaboolnmkfenlaaS2
namespace Go.Proofs.Ytaboolnmkfenlaa
open Go Go.Am
set_option linter.unusedVariables false
set_option linter.unusedSimpArgs false
theorem FVal_fn : FnOk Try.prog 43 := fn_ok Try.func43 (by kernel_rfl)
theorem RVal_fn : FnOk Try.prog 57 := fn_ok Try.func57 (by kernel_rfl)

def ascI (l : List Int) : Prop := ∀ i, i < l.length - 1 → l.getD i 0 < l.getD (i + 1) 0
instance (l : List Int) : Decidable (ascI l) := by unfold ascI; infer_instance
def rngI (l : List Int) : Prop := ∀ s ∈ l, 1 ≤ s ∧ s ≤ 99
instance (l : List Int) : Decidable (rngI l) := by unfold rngI; infer_instance
def fltErr (m : Int) (l : List Int) : Int := if ¬ (m = 1 ∨ m = 2) then 1 else if ¬ rngI l then 2 else if ¬ ascI l then 25 else 0
theorem getD_get {l : List Int} {i : Nat} (h : i < l.length) : l.getD i 0 = l[i] := by
  simp [List.getD_eq_getElem?_getD, List.getElem?_eq_getElem h]

theorem FVal_spec (m : Int) (l : List Int) : PSpec Try.prog 43 [fltV m l] (.int (fltErr m l)) := by
  refine PSpec.of_ok fun ok => ?_
  simp only [okL, AV.ok, plainV, inK64, and_true, fltV, ints, maxLen_eq, List.length_map] at ok
  obtain ⟨ok1, ok, ok2⟩ := ok
  refine PSpec.walk Try.func43 cf43_ok (by simp [cf43]) trivial ?_
  unfold cf43
  simp only [initT, fltV, ints]
  refine AWP.seq' ?_
  refine AWP.reg' fun K hK => ?_
  try simp only [stepS, stepD, stepM, eq_self, implies_true, forall_eq_or_imp, forall_eq, Nat.reduceEqDiff, ↓reduceIte, Nat.reduceAdd, Nat.reduceLeDiff, Nat.reduceSub, Nat.reduceMul, Nat.reduceLT, Int.reduceBEq, Int.reduceBNe, Int.reduceToNat, Int.reduceLT, Int.reduceLE, Int.reduceAdd, Int.reduceSub, Int.reduceMul, reduceCtorEq]
  refine hK _ _ _ ?_
  clear hK K
  by_cases hm : m = 1 ∨ m = 2
  case neg =>
    have e1 : (m != 1) = true := by simp at hm ⊢; exact hm.1
    have e2 : (m != 2) = true := by simp at hm ⊢; exact hm.2
    repeat (first
      | refine AWP.seq' ?_
      | refine AWP.skip ?_
      | (refine AWP.reg' fun K hK => ?_; simp only [stepS, stepD, stepM, eq_self, implies_true, forall_eq_or_imp, forall_eq, Nat.reduceEqDiff, ↓reduceIte, Nat.reduceAdd, Nat.reduceLeDiff, Nat.reduceSub, Nat.reduceMul, Nat.reduceLT, Int.reduceBEq, Int.reduceBNe, Int.reduceToNat, Int.reduceLT, Int.reduceLE, Int.reduceAdd, Int.reduceSub, Int.reduceMul, reduceCtorEq, e1, e2]; (repeat (refine And.intro (by omega) ?_)); refine hK _ _ _ ?_; clear hK K))
    refine AWP.cond (b := true) rfl (fun h => ?_) (fun h => by cases h)
    repeat (first
      | refine AWP.seq' ?_
      | refine AWP.skip ?_
      | (refine AWP.reg' fun K hK => ?_; simp only [stepS, stepD, stepM, eq_self, implies_true, forall_eq_or_imp, forall_eq, Nat.reduceEqDiff, ↓reduceIte, Nat.reduceAdd, Nat.reduceLeDiff, Nat.reduceSub, Nat.reduceMul, Nat.reduceLT, Int.reduceBEq, Int.reduceBNe, Int.reduceToNat, Int.reduceLT, Int.reduceLE, Int.reduceAdd, Int.reduceSub, Int.reduceMul, reduceCtorEq]; (repeat (refine And.intro (by omega) ?_)); refine hK _ _ _ ?_; clear hK K))
    exact AWP.ret (finP_ret rfl (by rw [fltErr, if_pos hm]; rfl) trivial)
  refine AWP.seqW ⟨resT [(1, .ref 0 0)], hpL 0 [some (.box (.agg [.int m, .sl 1 (l.map .int) false]))], 1⟩ ?_ ?_
  · refine AWP.seq' ?_
    by_cases h1 : m = 1
    · have e1 : (m != 1) = false := by simp [h1]
      repeat (first
        | refine AWP.seq' ?_
        | refine AWP.skip ?_
        | (refine AWP.reg' fun K hK => ?_; simp only [stepS, stepD, stepM, eq_self, implies_true, forall_eq_or_imp, forall_eq, Nat.reduceEqDiff, ↓reduceIte, Nat.reduceAdd, Nat.reduceLeDiff, Nat.reduceSub, Nat.reduceMul, Nat.reduceLT, Int.reduceBEq, Int.reduceBNe, Int.reduceToNat, Int.reduceLT, Int.reduceLE, Int.reduceAdd, Int.reduceSub, Int.reduceMul, reduceCtorEq, e1]; (repeat (refine And.intro (by omega) ?_)); refine hK _ _ _ ?_; clear hK K))
      refine AWP.cond (b := false) rfl (fun h => by cases h) (fun h => ?_)
      refine AWP.skip ?_
      refine Weak.nf [0] _ _ ?_ ?_ ⟨rfl, rfl⟩ (by decide) (by decide) (by decide)
      · repeat' (first | exact trivial | exact And.intro rfl trivial | refine And.intro ?_ ?_ | rfl | exact Nat.le_of_ble_eq_true rfl)
      · repeat' (first | exact trivial | exact And.intro rfl trivial | refine And.intro ?_ ?_ | rfl | exact Nat.le_of_ble_eq_true rfl)
    have e1 : (m != 1) = true := by simp [h1]
    have e2 : (m != 2) = false := by simp; omega
    repeat (first
      | refine AWP.seq' ?_
      | refine AWP.skip ?_
      | (refine AWP.reg' fun K hK => ?_; simp only [stepS, stepD, stepM, eq_self, implies_true, forall_eq_or_imp, forall_eq, Nat.reduceEqDiff, ↓reduceIte, Nat.reduceAdd, Nat.reduceLeDiff, Nat.reduceSub, Nat.reduceMul, Nat.reduceLT, Int.reduceBEq, Int.reduceBNe, Int.reduceToNat, Int.reduceLT, Int.reduceLE, Int.reduceAdd, Int.reduceSub, Int.reduceMul, reduceCtorEq, e1, e2]; (repeat (refine And.intro (by omega) ?_)); refine hK _ _ _ ?_; clear hK K))
    refine AWP.cond (b := false) rfl (fun h => by cases h) (fun h => ?_)
    refine AWP.skip ?_
    refine Weak.nf [0] _ _ ?_ ?_ ⟨rfl, rfl⟩ (by decide) (by decide) (by decide)
    · repeat' (first | exact trivial | exact And.intro rfl trivial | refine And.intro ?_ ?_ | rfl | exact Nat.le_of_ble_eq_true rfl)
    · repeat' (first | exact trivial | exact And.intro rfl trivial | refine And.intro ?_ ?_ | rfl | exact Nat.le_of_ble_eq_true rfl)
  repeat (first
    | refine AWP.seq' ?_
    | refine AWP.skip ?_
    | (refine AWP.reg' fun K hK => ?_; simp only [stepS, stepD, stepM, eq_self, implies_true, forall_eq_or_imp, forall_eq, Nat.reduceEqDiff, ↓reduceIte, Nat.reduceAdd, Nat.reduceLeDiff, Nat.reduceSub, Nat.reduceMul, Nat.reduceLT, Int.reduceBEq, Int.reduceBNe, Int.reduceToNat, Int.reduceLT, Int.reduceLE, Int.reduceAdd, Int.reduceSub, Int.reduceMul, reduceCtorEq]; (repeat (refine And.intro (by omega) ?_)); refine hK _ _ _ ?_; clear hK K))
  refine AWP.block ?_
  refine AWP.loopS (fun i => ⟨resT [(1, .ref 0 0), (15, .sl 1 (l.map .int) false), (16, .int l.length), (17, .int (i : Nat))], hpL 0 [some (.box (.agg [.int m, .sl 1 (l.map .int) false]))], 1⟩)
    (fun i => i ≤ l.length ∧ ∀ j, (h : j < l.length) → j < i → 1 ≤ l[j] ∧ l[j] ≤ 99) (fun i => l.length - i) (i0 := 0) ⟨Nat.zero_le _, fun _ _ h => by omega⟩ ?_ ?_
  · refine Weak.nf [0] _ _ ?_ ?_ ⟨rfl, rfl⟩ (by decide) (by decide) (by decide)
    · repeat' (first | exact trivial | exact And.intro rfl trivial | refine And.intro ?_ ?_ | rfl | exact Nat.le_of_ble_eq_true rfl)
    · repeat' (first | exact trivial | exact And.intro rfl trivial | refine And.intro ?_ ?_ | rfl | exact Nat.le_of_ble_eq_true rfl)
  rintro i ⟨h1, h2⟩
  repeat (first
    | refine AWP.seq' ?_
    | refine AWP.skip ?_
    | (refine AWP.reg' fun K hK => ?_; simp only [stepS, stepD, stepM, eq_self, implies_true, forall_eq_or_imp, forall_eq, Nat.reduceEqDiff, ↓reduceIte, Nat.reduceAdd, Nat.reduceLeDiff, Nat.reduceSub, Nat.reduceMul, Nat.reduceLT, Int.reduceBEq, Int.reduceBNe, Int.reduceToNat, Int.reduceLT, Int.reduceLE, Int.reduceAdd, Int.reduceSub, Int.reduceMul, reduceCtorEq]; (repeat (refine And.intro (by omega) ?_)); refine hK _ _ _ ?_; clear hK K))
  refine AWP.cond (b := decide ((i : Int) < l.length)) rfl (fun h => ?_) (fun h => ?_)
  · have h : i < l.length := by have := of_decide_eq_true h; omega
    repeat (first
      | refine AWP.seq' ?_
      | refine AWP.skip ?_
      | (refine AWP.reg' fun K hK => ?_; simp only [stepS, stepD, stepM, eq_self, implies_true, forall_eq_or_imp, forall_eq, Nat.reduceEqDiff, ↓reduceIte, Nat.reduceAdd, Nat.reduceLeDiff, Nat.reduceSub, Nat.reduceMul, Nat.reduceLT, Int.reduceBEq, Int.reduceBNe, Int.reduceToNat, Int.reduceLT, Int.reduceLE, Int.reduceAdd, Int.reduceSub, Int.reduceMul, reduceCtorEq]; (repeat (refine And.intro (by omega) ?_)); refine hK _ _ _ ?_; clear hK K))
    refine AWP.block ?_
    refine AWP.seq' ?_
    refine AWP.reg' fun K hK => ?_
    try simp only [stepS, stepD, stepM, eq_self, implies_true, forall_eq_or_imp, forall_eq, Nat.reduceEqDiff, ↓reduceIte, Nat.reduceAdd, Nat.reduceLeDiff, Nat.reduceSub, Nat.reduceMul, Nat.reduceLT, Int.reduceBEq, Int.reduceBNe, Int.reduceToNat, Int.reduceLT, Int.reduceLE, Int.reduceAdd, Int.reduceSub, Int.reduceMul, reduceCtorEq, getD_ints h]
    repeat (refine And.intro (by omega) ?_)
    refine hK _ _ _ ?_
    clear hK K
    refine AWP.seq' ?_
    by_cases g1 : l[i] < 1
    · have hr : ¬ rngI l := fun e => by have := e l[i] (List.getElem_mem h); omega
      repeat (first
        | refine AWP.seq' ?_
        | refine AWP.skip ?_
        | (refine AWP.reg' fun K hK => ?_; simp only [stepS, stepD, stepM, eq_self, implies_true, forall_eq_or_imp, forall_eq, Nat.reduceEqDiff, ↓reduceIte, Nat.reduceAdd, Nat.reduceLeDiff, Nat.reduceSub, Nat.reduceMul, Nat.reduceLT, Int.reduceBEq, Int.reduceBNe, Int.reduceToNat, Int.reduceLT, Int.reduceLE, Int.reduceAdd, Int.reduceSub, Int.reduceMul, reduceCtorEq, g1]; (repeat (refine And.intro (by omega) ?_)); refine hK _ _ _ ?_; clear hK K))
      refine AWP.cond (b := true) rfl (fun h => ?_) (fun h => by cases h)
      repeat (first
        | refine AWP.seq' ?_
        | refine AWP.skip ?_
        | (refine AWP.reg' fun K hK => ?_; simp only [stepS, stepD, stepM, eq_self, implies_true, forall_eq_or_imp, forall_eq, Nat.reduceEqDiff, ↓reduceIte, Nat.reduceAdd, Nat.reduceLeDiff, Nat.reduceSub, Nat.reduceMul, Nat.reduceLT, Int.reduceBEq, Int.reduceBNe, Int.reduceToNat, Int.reduceLT, Int.reduceLE, Int.reduceAdd, Int.reduceSub, Int.reduceMul, reduceCtorEq]; (repeat (refine And.intro (by omega) ?_)); refine hK _ _ _ ?_; clear hK K))
      exact AWP.ret (finP_ret rfl (by rw [fltErr, if_neg (not_not_intro hm), if_pos hr]; rfl) trivial)
    by_cases g2 : 99 < l[i]
    · have hr : ¬ rngI l := fun e => by have := e l[i] (List.getElem_mem h); omega
      repeat (first
        | refine AWP.seq' ?_
        | refine AWP.skip ?_
        | (refine AWP.reg' fun K hK => ?_; simp only [stepS, stepD, stepM, eq_self, implies_true, forall_eq_or_imp, forall_eq, Nat.reduceEqDiff, ↓reduceIte, Nat.reduceAdd, Nat.reduceLeDiff, Nat.reduceSub, Nat.reduceMul, Nat.reduceLT, Int.reduceBEq, Int.reduceBNe, Int.reduceToNat, Int.reduceLT, Int.reduceLE, Int.reduceAdd, Int.reduceSub, Int.reduceMul, reduceCtorEq, g1, g2]; (repeat (refine And.intro (by omega) ?_)); refine hK _ _ _ ?_; clear hK K))
      refine AWP.cond (b := true) rfl (fun h => ?_) (fun h => by cases h)
      repeat (first
        | refine AWP.seq' ?_
        | refine AWP.skip ?_
        | (refine AWP.reg' fun K hK => ?_; simp only [stepS, stepD, stepM, eq_self, implies_true, forall_eq_or_imp, forall_eq, Nat.reduceEqDiff, ↓reduceIte, Nat.reduceAdd, Nat.reduceLeDiff, Nat.reduceSub, Nat.reduceMul, Nat.reduceLT, Int.reduceBEq, Int.reduceBNe, Int.reduceToNat, Int.reduceLT, Int.reduceLE, Int.reduceAdd, Int.reduceSub, Int.reduceMul, reduceCtorEq]; (repeat (refine And.intro (by omega) ?_)); refine hK _ _ _ ?_; clear hK K))
      exact AWP.ret (finP_ret rfl (by rw [fltErr, if_neg (not_not_intro hm), if_pos hr]; rfl) trivial)
    repeat (first
      | refine AWP.seq' ?_
      | refine AWP.skip ?_
      | (refine AWP.reg' fun K hK => ?_; simp only [stepS, stepD, stepM, eq_self, implies_true, forall_eq_or_imp, forall_eq, Nat.reduceEqDiff, ↓reduceIte, Nat.reduceAdd, Nat.reduceLeDiff, Nat.reduceSub, Nat.reduceMul, Nat.reduceLT, Int.reduceBEq, Int.reduceBNe, Int.reduceToNat, Int.reduceLT, Int.reduceLE, Int.reduceAdd, Int.reduceSub, Int.reduceMul, reduceCtorEq, g1, g2]; (repeat (refine And.intro (by omega) ?_)); refine hK _ _ _ ?_; clear hK K))
    refine AWP.cond (b := false) rfl (fun h => by cases h) (fun _ => ?_)
    have w : IntKind.i64.wrap ((i : Int) + 1) = ((i + 1 : Nat) : Int) := wrapN (by omega) (by omega)
    refine AWP.skip ?_
    refine AWP.reg' fun K hK => ?_
    try simp only [stepS, stepD, stepM, eq_self, implies_true, forall_eq_or_imp, forall_eq, Nat.reduceEqDiff, ↓reduceIte, Nat.reduceAdd, Nat.reduceLeDiff, Nat.reduceSub, Nat.reduceMul, Nat.reduceLT, Int.reduceBEq, Int.reduceBNe, Int.reduceToNat, Int.reduceLT, Int.reduceLE, Int.reduceAdd, Int.reduceSub, Int.reduceMul, reduceCtorEq, w]
    refine hK _ _ _ ?_
    clear hK K
    refine ⟨i + 1, ⟨by omega, fun j hj hji => ?_⟩, by omega, ?_⟩
    · by_cases e : j = i
      · subst e; omega
      · exact h2 j hj (by omega)
    refine Weak.nf [0] _ _ ?_ ?_ ⟨rfl, rfl⟩ (by decide) (by decide) (by decide)
    · repeat' (first | exact trivial | exact And.intro rfl trivial | refine And.intro ?_ ?_ | rfl | exact Nat.le_of_ble_eq_true rfl)
    · repeat' (first | exact trivial | exact And.intro rfl trivial | refine And.intro ?_ ?_ | rfl | exact Nat.le_of_ble_eq_true rfl)
  have h : ¬ i < l.length := by have := of_decide_eq_false h; omega
  have hr : rngI l := fun s hs => by
    obtain ⟨j, hj, rfl⟩ := List.getElem_of_mem hs
    exact h2 j hj (by omega)
  clear h2 h1
  refine AWP.exit ?_
  repeat (first
    | refine AWP.seq' ?_
    | refine AWP.skip ?_
    | (refine AWP.reg' fun K hK => ?_; simp only [stepS, stepD, stepM, eq_self, implies_true, forall_eq_or_imp, forall_eq, Nat.reduceEqDiff, ↓reduceIte, Nat.reduceAdd, Nat.reduceLeDiff, Nat.reduceSub, Nat.reduceMul, Nat.reduceLT, Int.reduceBEq, Int.reduceBNe, Int.reduceToNat, Int.reduceLT, Int.reduceLE, Int.reduceAdd, Int.reduceSub, Int.reduceMul, reduceCtorEq]; (repeat (refine And.intro (by omega) ?_)); refine hK _ _ _ ?_; clear hK K))
  refine AWP.block ?_
  refine AWP.loopS (fun i => ⟨resT [(1, .ref 0 0), (5, .int ((i + 1 : Nat) : Int))], hpL 0 [some (.box (.agg [.int m, .sl 1 (l.map .int) false]))], 1⟩)
    (fun i => (i = 0 ∨ i < l.length) ∧ ∀ j, j < i → l.getD j 0 < l.getD (j + 1) 0) (fun i => l.length - i) (i0 := 0) ⟨.inl rfl, fun _ h => by omega⟩ ?_ ?_
  · refine Weak.nf [0] _ _ ?_ ?_ ⟨rfl, rfl⟩ (by decide) (by decide) (by decide)
    · repeat' (first | exact trivial | exact And.intro rfl trivial | refine And.intro ?_ ?_ | rfl | exact Nat.le_of_ble_eq_true rfl)
    · repeat' (first | exact trivial | exact And.intro rfl trivial | refine And.intro ?_ ?_ | rfl | exact Nat.le_of_ble_eq_true rfl)
  rintro i ⟨h1, h2⟩
  repeat (first
    | refine AWP.seq' ?_
    | refine AWP.skip ?_
    | (refine AWP.reg' fun K hK => ?_; simp only [stepS, stepD, stepM, eq_self, implies_true, forall_eq_or_imp, forall_eq, Nat.reduceEqDiff, ↓reduceIte, Nat.reduceAdd, Nat.reduceLeDiff, Nat.reduceSub, Nat.reduceMul, Nat.reduceLT, Int.reduceBEq, Int.reduceBNe, Int.reduceToNat, Int.reduceLT, Int.reduceLE, Int.reduceAdd, Int.reduceSub, Int.reduceMul, reduceCtorEq]; (repeat (refine And.intro (by omega) ?_)); refine hK _ _ _ ?_; clear hK K))
  refine AWP.cond (b := decide (((i + 1 : Nat) : Int) < l.length)) rfl (fun h => ?_) (fun h => ?_)
  · have h : i + 1 < l.length := by have := of_decide_eq_true h; omega
    refine AWP.skip ?_
    refine AWP.seq' ?_
    refine AWP.block ?_
    have w1 : IntKind.i64.wrap (((i + 1 : Nat) : Int) - 1) = (i : Int) := wrapN (by omega) (by omega)
    have w2 : IntKind.i64.wrap (((i + 1 : Nat) : Int) + 1) = ((i + 1 + 1 : Nat) : Int) := wrapN (by omega) (by omega)
    have hi : i < l.length := by omega
    repeat (first
      | refine AWP.seq' ?_
      | refine AWP.skip ?_
      | (refine AWP.reg' fun K hK => ?_; simp only [stepS, stepD, stepM, eq_self, implies_true, forall_eq_or_imp, forall_eq, Nat.reduceEqDiff, ↓reduceIte, Nat.reduceAdd, Nat.reduceLeDiff, Nat.reduceSub, Nat.reduceMul, Nat.reduceLT, Int.reduceBEq, Int.reduceBNe, Int.reduceToNat, Int.reduceLT, Int.reduceLE, Int.reduceAdd, Int.reduceSub, Int.reduceMul, reduceCtorEq, w1, getD_ints h, getD_ints hi]; (repeat (refine And.intro (by omega) ?_)); refine hK _ _ _ ?_; clear hK K)
      | (refine AWP.dreg' fun K hK => ?_; simp only [stepS, stepD, stepM, eq_self, implies_true, forall_eq_or_imp, forall_eq, Nat.reduceEqDiff, ↓reduceIte, Nat.reduceAdd, Nat.reduceLeDiff, Nat.reduceSub, Nat.reduceMul, Nat.reduceLT, Int.reduceBEq, Int.reduceBNe, Int.reduceToNat, Int.reduceLT, Int.reduceLE, Int.reduceAdd, Int.reduceSub, Int.reduceMul, reduceCtorEq, w1, getD_ints h, getD_ints hi]; (repeat (refine And.intro (by omega) ?_)); refine ⟨by rfl, hK _ _ _ ?_⟩; clear hK K))
    refine AWP.cond (b := decide (l[i + 1] ≤ l[i])) rfl (fun g => ?_) (fun g => ?_)
    · have ha : ¬ ascI l := fun e => by
        have := e i (by omega)
        rw [getD_get hi, getD_get h] at this
        have := of_decide_eq_true g; omega
      repeat (first
        | refine AWP.seq' ?_
        | refine AWP.skip ?_
        | (refine AWP.reg' fun K hK => ?_; simp only [stepS, stepD, stepM, eq_self, implies_true, forall_eq_or_imp, forall_eq, Nat.reduceEqDiff, ↓reduceIte, Nat.reduceAdd, Nat.reduceLeDiff, Nat.reduceSub, Nat.reduceMul, Nat.reduceLT, Int.reduceBEq, Int.reduceBNe, Int.reduceToNat, Int.reduceLT, Int.reduceLE, Int.reduceAdd, Int.reduceSub, Int.reduceMul, reduceCtorEq]; (repeat (refine And.intro (by omega) ?_)); refine hK _ _ _ ?_; clear hK K))
      exact AWP.ret (finP_ret rfl (by rw [fltErr, if_neg (not_not_intro hm), if_neg (not_not_intro hr), if_pos ha]; rfl) trivial)
    have g := of_decide_eq_false g
    refine AWP.skip ?_
    refine AWP.reg' fun K hK => ?_
    try simp only [stepS, stepD, stepM, eq_self, implies_true, forall_eq_or_imp, forall_eq, Nat.reduceEqDiff, ↓reduceIte, Nat.reduceAdd, Nat.reduceLeDiff, Nat.reduceSub, Nat.reduceMul, Nat.reduceLT, Int.reduceBEq, Int.reduceBNe, Int.reduceToNat, Int.reduceLT, Int.reduceLE, Int.reduceAdd, Int.reduceSub, Int.reduceMul, reduceCtorEq, w2]
    refine hK _ _ _ ?_
    clear hK K
    refine ⟨i + 1, ⟨.inr h, fun j hj => ?_⟩, by omega, ?_⟩
    · by_cases e : j = i
      · subst e; rw [getD_get hi, getD_get h]; omega
      · exact h2 j (by omega)
    refine Weak.nf [0] _ _ ?_ ?_ ⟨rfl, rfl⟩ (by decide) (by decide) (by decide)
    · repeat' (first | exact trivial | exact And.intro rfl trivial | refine And.intro ?_ ?_ | rfl | exact Nat.le_of_ble_eq_true rfl)
    · repeat' (first | exact trivial | exact And.intro rfl trivial | refine And.intro ?_ ?_ | rfl | exact Nat.le_of_ble_eq_true rfl)
  have h : ¬ i + 1 < l.length := by have := of_decide_eq_false h; omega
  have ha : ascI l := fun j hj => h2 j (by omega)
  refine AWP.exit ?_
  repeat (first
    | refine AWP.seq' ?_
    | refine AWP.skip ?_
    | (refine AWP.reg' fun K hK => ?_; simp only [stepS, stepD, stepM, eq_self, implies_true, forall_eq_or_imp, forall_eq, Nat.reduceEqDiff, ↓reduceIte, Nat.reduceAdd, Nat.reduceLeDiff, Nat.reduceSub, Nat.reduceMul, Nat.reduceLT, Int.reduceBEq, Int.reduceBNe, Int.reduceToNat, Int.reduceLT, Int.reduceLE, Int.reduceAdd, Int.reduceSub, Int.reduceMul, reduceCtorEq]; (repeat (refine And.intro (by omega) ?_)); refine hK _ _ _ ?_; clear hK K))
  exact AWP.ret (finP_ret rfl (by rw [fltErr, if_neg (not_not_intro hm), if_neg (not_not_intro hr), if_neg (not_not_intro ha)]; rfl) trivial)

theorem RVal_spec (m : Int) (l : List Int) : PSpec Try.prog 57 [fltV m l] (.int (fltErr m l)) := by
  refine PSpec.of_ok fun ok => ?_
  simp only [okL, AV.ok, plainV, inK64, and_true, fltV, ints, maxLen_eq, List.length_map] at ok
  obtain ⟨ok1, ok, ok2⟩ := ok
  refine PSpec.walk Try.func57 cf57_ok (by simp [cf57]) trivial ?_
  unfold cf57
  simp only [initT, fltV, ints]
  refine AWP.seq' ?_
  refine AWP.reg' fun K hK => ?_
  try simp only [stepS, stepD, stepM, eq_self, implies_true, forall_eq_or_imp, forall_eq, Nat.reduceEqDiff, ↓reduceIte, Nat.reduceAdd, Nat.reduceLeDiff, Nat.reduceSub, Nat.reduceMul, Nat.reduceLT, Int.reduceBEq, Int.reduceBNe, Int.reduceToNat, Int.reduceLT, Int.reduceLE, Int.reduceAdd, Int.reduceSub, Int.reduceMul, reduceCtorEq]
  refine hK _ _ _ ?_
  clear hK K
  by_cases hm : m = 1 ∨ m = 2
  case neg =>
    have e1 : (m != 1) = true := by simp at hm ⊢; exact hm.1
    have e2 : (m != 2) = true := by simp at hm ⊢; exact hm.2
    repeat (first
      | refine AWP.seq' ?_
      | refine AWP.skip ?_
      | (refine AWP.reg' fun K hK => ?_; simp only [stepS, stepD, stepM, eq_self, implies_true, forall_eq_or_imp, forall_eq, Nat.reduceEqDiff, ↓reduceIte, Nat.reduceAdd, Nat.reduceLeDiff, Nat.reduceSub, Nat.reduceMul, Nat.reduceLT, Int.reduceBEq, Int.reduceBNe, Int.reduceToNat, Int.reduceLT, Int.reduceLE, Int.reduceAdd, Int.reduceSub, Int.reduceMul, reduceCtorEq, e1, e2]; (repeat (refine And.intro (by omega) ?_)); refine hK _ _ _ ?_; clear hK K))
    refine AWP.cond (b := true) rfl (fun h => ?_) (fun h => by cases h)
    repeat (first
      | refine AWP.seq' ?_
      | refine AWP.skip ?_
      | (refine AWP.reg' fun K hK => ?_; simp only [stepS, stepD, stepM, eq_self, implies_true, forall_eq_or_imp, forall_eq, Nat.reduceEqDiff, ↓reduceIte, Nat.reduceAdd, Nat.reduceLeDiff, Nat.reduceSub, Nat.reduceMul, Nat.reduceLT, Int.reduceBEq, Int.reduceBNe, Int.reduceToNat, Int.reduceLT, Int.reduceLE, Int.reduceAdd, Int.reduceSub, Int.reduceMul, reduceCtorEq]; (repeat (refine And.intro (by omega) ?_)); refine hK _ _ _ ?_; clear hK K))
    exact AWP.ret (finP_ret rfl (by rw [fltErr, if_pos hm]; rfl) trivial)
  refine AWP.seqW ⟨resT [(1, .ref 0 0)], hpL 0 [some (.box (.agg [.int m, .sl 1 (l.map .int) false]))], 1⟩ ?_ ?_
  · refine AWP.seq' ?_
    by_cases h1 : m = 1
    · have e1 : (m != 1) = false := by simp [h1]
      repeat (first
        | refine AWP.seq' ?_
        | refine AWP.skip ?_
        | (refine AWP.reg' fun K hK => ?_; simp only [stepS, stepD, stepM, eq_self, implies_true, forall_eq_or_imp, forall_eq, Nat.reduceEqDiff, ↓reduceIte, Nat.reduceAdd, Nat.reduceLeDiff, Nat.reduceSub, Nat.reduceMul, Nat.reduceLT, Int.reduceBEq, Int.reduceBNe, Int.reduceToNat, Int.reduceLT, Int.reduceLE, Int.reduceAdd, Int.reduceSub, Int.reduceMul, reduceCtorEq, e1]; (repeat (refine And.intro (by omega) ?_)); refine hK _ _ _ ?_; clear hK K))
      refine AWP.cond (b := false) rfl (fun h => by cases h) (fun h => ?_)
      refine AWP.skip ?_
      refine Weak.nf [0] _ _ ?_ ?_ ⟨rfl, rfl⟩ (by decide) (by decide) (by decide)
      · repeat' (first | exact trivial | exact And.intro rfl trivial | refine And.intro ?_ ?_ | rfl | exact Nat.le_of_ble_eq_true rfl)
      · repeat' (first | exact trivial | exact And.intro rfl trivial | refine And.intro ?_ ?_ | rfl | exact Nat.le_of_ble_eq_true rfl)
    have e1 : (m != 1) = true := by simp [h1]
    have e2 : (m != 2) = false := by simp; omega
    repeat (first
      | refine AWP.seq' ?_
      | refine AWP.skip ?_
      | (refine AWP.reg' fun K hK => ?_; simp only [stepS, stepD, stepM, eq_self, implies_true, forall_eq_or_imp, forall_eq, Nat.reduceEqDiff, ↓reduceIte, Nat.reduceAdd, Nat.reduceLeDiff, Nat.reduceSub, Nat.reduceMul, Nat.reduceLT, Int.reduceBEq, Int.reduceBNe, Int.reduceToNat, Int.reduceLT, Int.reduceLE, Int.reduceAdd, Int.reduceSub, Int.reduceMul, reduceCtorEq, e1, e2]; (repeat (refine And.intro (by omega) ?_)); refine hK _ _ _ ?_; clear hK K))
    refine AWP.cond (b := false) rfl (fun h => by cases h) (fun h => ?_)
    refine AWP.skip ?_
    refine Weak.nf [0] _ _ ?_ ?_ ⟨rfl, rfl⟩ (by decide) (by decide) (by decide)
    · repeat' (first | exact trivial | exact And.intro rfl trivial | refine And.intro ?_ ?_ | rfl | exact Nat.le_of_ble_eq_true rfl)
    · repeat' (first | exact trivial | exact And.intro rfl trivial | refine And.intro ?_ ?_ | rfl | exact Nat.le_of_ble_eq_true rfl)
  repeat (first
    | refine AWP.seq' ?_
    | refine AWP.skip ?_
    | (refine AWP.reg' fun K hK => ?_; simp only [stepS, stepD, stepM, eq_self, implies_true, forall_eq_or_imp, forall_eq, Nat.reduceEqDiff, ↓reduceIte, Nat.reduceAdd, Nat.reduceLeDiff, Nat.reduceSub, Nat.reduceMul, Nat.reduceLT, Int.reduceBEq, Int.reduceBNe, Int.reduceToNat, Int.reduceLT, Int.reduceLE, Int.reduceAdd, Int.reduceSub, Int.reduceMul, reduceCtorEq]; (repeat (refine And.intro (by omega) ?_)); refine hK _ _ _ ?_; clear hK K))
  refine AWP.block ?_
  refine AWP.loopS (fun i => ⟨resT [(1, .ref 0 0), (15, .sl 1 (l.map .int) false), (16, .int l.length), (17, .int (i : Nat))], hpL 0 [some (.box (.agg [.int m, .sl 1 (l.map .int) false]))], 1⟩)
    (fun i => i ≤ l.length ∧ ∀ j, (h : j < l.length) → j < i → 1 ≤ l[j] ∧ l[j] ≤ 99) (fun i => l.length - i) (i0 := 0) ⟨Nat.zero_le _, fun _ _ h => by omega⟩ ?_ ?_
  · refine Weak.nf [0] _ _ ?_ ?_ ⟨rfl, rfl⟩ (by decide) (by decide) (by decide)
    · repeat' (first | exact trivial | exact And.intro rfl trivial | refine And.intro ?_ ?_ | rfl | exact Nat.le_of_ble_eq_true rfl)
    · repeat' (first | exact trivial | exact And.intro rfl trivial | refine And.intro ?_ ?_ | rfl | exact Nat.le_of_ble_eq_true rfl)
  rintro i ⟨h1, h2⟩
  repeat (first
    | refine AWP.seq' ?_
    | refine AWP.skip ?_
    | (refine AWP.reg' fun K hK => ?_; simp only [stepS, stepD, stepM, eq_self, implies_true, forall_eq_or_imp, forall_eq, Nat.reduceEqDiff, ↓reduceIte, Nat.reduceAdd, Nat.reduceLeDiff, Nat.reduceSub, Nat.reduceMul, Nat.reduceLT, Int.reduceBEq, Int.reduceBNe, Int.reduceToNat, Int.reduceLT, Int.reduceLE, Int.reduceAdd, Int.reduceSub, Int.reduceMul, reduceCtorEq]; (repeat (refine And.intro (by omega) ?_)); refine hK _ _ _ ?_; clear hK K))
  refine AWP.cond (b := decide ((i : Int) < l.length)) rfl (fun h => ?_) (fun h => ?_)
  · have h : i < l.length := by have := of_decide_eq_true h; omega
    repeat (first
      | refine AWP.seq' ?_
      | refine AWP.skip ?_
      | (refine AWP.reg' fun K hK => ?_; simp only [stepS, stepD, stepM, eq_self, implies_true, forall_eq_or_imp, forall_eq, Nat.reduceEqDiff, ↓reduceIte, Nat.reduceAdd, Nat.reduceLeDiff, Nat.reduceSub, Nat.reduceMul, Nat.reduceLT, Int.reduceBEq, Int.reduceBNe, Int.reduceToNat, Int.reduceLT, Int.reduceLE, Int.reduceAdd, Int.reduceSub, Int.reduceMul, reduceCtorEq]; (repeat (refine And.intro (by omega) ?_)); refine hK _ _ _ ?_; clear hK K))
    refine AWP.block ?_
    refine AWP.seq' ?_
    refine AWP.reg' fun K hK => ?_
    try simp only [stepS, stepD, stepM, eq_self, implies_true, forall_eq_or_imp, forall_eq, Nat.reduceEqDiff, ↓reduceIte, Nat.reduceAdd, Nat.reduceLeDiff, Nat.reduceSub, Nat.reduceMul, Nat.reduceLT, Int.reduceBEq, Int.reduceBNe, Int.reduceToNat, Int.reduceLT, Int.reduceLE, Int.reduceAdd, Int.reduceSub, Int.reduceMul, reduceCtorEq, getD_ints h]
    repeat (refine And.intro (by omega) ?_)
    refine hK _ _ _ ?_
    clear hK K
    refine AWP.seq' ?_
    by_cases g1 : l[i] < 1
    · have hr : ¬ rngI l := fun e => by have := e l[i] (List.getElem_mem h); omega
      repeat (first
        | refine AWP.seq' ?_
        | refine AWP.skip ?_
        | (refine AWP.reg' fun K hK => ?_; simp only [stepS, stepD, stepM, eq_self, implies_true, forall_eq_or_imp, forall_eq, Nat.reduceEqDiff, ↓reduceIte, Nat.reduceAdd, Nat.reduceLeDiff, Nat.reduceSub, Nat.reduceMul, Nat.reduceLT, Int.reduceBEq, Int.reduceBNe, Int.reduceToNat, Int.reduceLT, Int.reduceLE, Int.reduceAdd, Int.reduceSub, Int.reduceMul, reduceCtorEq, g1]; (repeat (refine And.intro (by omega) ?_)); refine hK _ _ _ ?_; clear hK K))
      refine AWP.cond (b := true) rfl (fun h => ?_) (fun h => by cases h)
      repeat (first
        | refine AWP.seq' ?_
        | refine AWP.skip ?_
        | (refine AWP.reg' fun K hK => ?_; simp only [stepS, stepD, stepM, eq_self, implies_true, forall_eq_or_imp, forall_eq, Nat.reduceEqDiff, ↓reduceIte, Nat.reduceAdd, Nat.reduceLeDiff, Nat.reduceSub, Nat.reduceMul, Nat.reduceLT, Int.reduceBEq, Int.reduceBNe, Int.reduceToNat, Int.reduceLT, Int.reduceLE, Int.reduceAdd, Int.reduceSub, Int.reduceMul, reduceCtorEq]; (repeat (refine And.intro (by omega) ?_)); refine hK _ _ _ ?_; clear hK K))
      exact AWP.ret (finP_ret rfl (by rw [fltErr, if_neg (not_not_intro hm), if_pos hr]; rfl) trivial)
    by_cases g2 : 99 < l[i]
    · have hr : ¬ rngI l := fun e => by have := e l[i] (List.getElem_mem h); omega
      repeat (first
        | refine AWP.seq' ?_
        | refine AWP.skip ?_
        | (refine AWP.reg' fun K hK => ?_; simp only [stepS, stepD, stepM, eq_self, implies_true, forall_eq_or_imp, forall_eq, Nat.reduceEqDiff, ↓reduceIte, Nat.reduceAdd, Nat.reduceLeDiff, Nat.reduceSub, Nat.reduceMul, Nat.reduceLT, Int.reduceBEq, Int.reduceBNe, Int.reduceToNat, Int.reduceLT, Int.reduceLE, Int.reduceAdd, Int.reduceSub, Int.reduceMul, reduceCtorEq, g1, g2]; (repeat (refine And.intro (by omega) ?_)); refine hK _ _ _ ?_; clear hK K))
      refine AWP.cond (b := true) rfl (fun h => ?_) (fun h => by cases h)
      repeat (first
        | refine AWP.seq' ?_
        | refine AWP.skip ?_
        | (refine AWP.reg' fun K hK => ?_; simp only [stepS, stepD, stepM, eq_self, implies_true, forall_eq_or_imp, forall_eq, Nat.reduceEqDiff, ↓reduceIte, Nat.reduceAdd, Nat.reduceLeDiff, Nat.reduceSub, Nat.reduceMul, Nat.reduceLT, Int.reduceBEq, Int.reduceBNe, Int.reduceToNat, Int.reduceLT, Int.reduceLE, Int.reduceAdd, Int.reduceSub, Int.reduceMul, reduceCtorEq]; (repeat (refine And.intro (by omega) ?_)); refine hK _ _ _ ?_; clear hK K))
      exact AWP.ret (finP_ret rfl (by rw [fltErr, if_neg (not_not_intro hm), if_pos hr]; rfl) trivial)
    repeat (first
      | refine AWP.seq' ?_
      | refine AWP.skip ?_
      | (refine AWP.reg' fun K hK => ?_; simp only [stepS, stepD, stepM, eq_self, implies_true, forall_eq_or_imp, forall_eq, Nat.reduceEqDiff, ↓reduceIte, Nat.reduceAdd, Nat.reduceLeDiff, Nat.reduceSub, Nat.reduceMul, Nat.reduceLT, Int.reduceBEq, Int.reduceBNe, Int.reduceToNat, Int.reduceLT, Int.reduceLE, Int.reduceAdd, Int.reduceSub, Int.reduceMul, reduceCtorEq, g1, g2]; (repeat (refine And.intro (by omega) ?_)); refine hK _ _ _ ?_; clear hK K))
    refine AWP.cond (b := false) rfl (fun h => by cases h) (fun _ => ?_)
    have w : IntKind.i64.wrap ((i : Int) + 1) = ((i + 1 : Nat) : Int) := wrapN (by omega) (by omega)
    refine AWP.skip ?_
    refine AWP.reg' fun K hK => ?_
    try simp only [stepS, stepD, stepM, eq_self, implies_true, forall_eq_or_imp, forall_eq, Nat.reduceEqDiff, ↓reduceIte, Nat.reduceAdd, Nat.reduceLeDiff, Nat.reduceSub, Nat.reduceMul, Nat.reduceLT, Int.reduceBEq, Int.reduceBNe, Int.reduceToNat, Int.reduceLT, Int.reduceLE, Int.reduceAdd, Int.reduceSub, Int.reduceMul, reduceCtorEq, w]
    refine hK _ _ _ ?_
    clear hK K
    refine ⟨i + 1, ⟨by omega, fun j hj hji => ?_⟩, by omega, ?_⟩
    · by_cases e : j = i
      · subst e; omega
      · exact h2 j hj (by omega)
    refine Weak.nf [0] _ _ ?_ ?_ ⟨rfl, rfl⟩ (by decide) (by decide) (by decide)
    · repeat' (first | exact trivial | exact And.intro rfl trivial | refine And.intro ?_ ?_ | rfl | exact Nat.le_of_ble_eq_true rfl)
    · repeat' (first | exact trivial | exact And.intro rfl trivial | refine And.intro ?_ ?_ | rfl | exact Nat.le_of_ble_eq_true rfl)
  have h : ¬ i < l.length := by have := of_decide_eq_false h; omega
  have hr : rngI l := fun s hs => by
    obtain ⟨j, hj, rfl⟩ := List.getElem_of_mem hs
    exact h2 j hj (by omega)
  clear h2 h1
  refine AWP.exit ?_
  repeat (first
    | refine AWP.seq' ?_
    | refine AWP.skip ?_
    | (refine AWP.reg' fun K hK => ?_; simp only [stepS, stepD, stepM, eq_self, implies_true, forall_eq_or_imp, forall_eq, Nat.reduceEqDiff, ↓reduceIte, Nat.reduceAdd, Nat.reduceLeDiff, Nat.reduceSub, Nat.reduceMul, Nat.reduceLT, Int.reduceBEq, Int.reduceBNe, Int.reduceToNat, Int.reduceLT, Int.reduceLE, Int.reduceAdd, Int.reduceSub, Int.reduceMul, reduceCtorEq]; (repeat (refine And.intro (by omega) ?_)); refine hK _ _ _ ?_; clear hK K))
  refine AWP.block ?_
  refine AWP.loopS (fun i => ⟨resT [(1, .ref 0 0), (5, .int ((i + 1 : Nat) : Int))], hpL 0 [some (.box (.agg [.int m, .sl 1 (l.map .int) false]))], 1⟩)
    (fun i => (i = 0 ∨ i < l.length) ∧ ∀ j, j < i → l.getD j 0 < l.getD (j + 1) 0) (fun i => l.length - i) (i0 := 0) ⟨.inl rfl, fun _ h => by omega⟩ ?_ ?_
  · refine Weak.nf [0] _ _ ?_ ?_ ⟨rfl, rfl⟩ (by decide) (by decide) (by decide)
    · repeat' (first | exact trivial | exact And.intro rfl trivial | refine And.intro ?_ ?_ | rfl | exact Nat.le_of_ble_eq_true rfl)
    · repeat' (first | exact trivial | exact And.intro rfl trivial | refine And.intro ?_ ?_ | rfl | exact Nat.le_of_ble_eq_true rfl)
  rintro i ⟨h1, h2⟩
  repeat (first
    | refine AWP.seq' ?_
    | refine AWP.skip ?_
    | (refine AWP.reg' fun K hK => ?_; simp only [stepS, stepD, stepM, eq_self, implies_true, forall_eq_or_imp, forall_eq, Nat.reduceEqDiff, ↓reduceIte, Nat.reduceAdd, Nat.reduceLeDiff, Nat.reduceSub, Nat.reduceMul, Nat.reduceLT, Int.reduceBEq, Int.reduceBNe, Int.reduceToNat, Int.reduceLT, Int.reduceLE, Int.reduceAdd, Int.reduceSub, Int.reduceMul, reduceCtorEq]; (repeat (refine And.intro (by omega) ?_)); refine hK _ _ _ ?_; clear hK K))
  refine AWP.cond (b := decide (((i + 1 : Nat) : Int) < l.length)) rfl (fun h => ?_) (fun h => ?_)
  · have h : i + 1 < l.length := by have := of_decide_eq_true h; omega
    refine AWP.skip ?_
    refine AWP.seq' ?_
    refine AWP.block ?_
    have w1 : IntKind.i64.wrap (((i + 1 : Nat) : Int) - 1) = (i : Int) := wrapN (by omega) (by omega)
    have w2 : IntKind.i64.wrap (((i + 1 : Nat) : Int) + 1) = ((i + 1 + 1 : Nat) : Int) := wrapN (by omega) (by omega)
    have hi : i < l.length := by omega
    repeat (first
      | refine AWP.seq' ?_
      | refine AWP.skip ?_
      | (refine AWP.reg' fun K hK => ?_; simp only [stepS, stepD, stepM, eq_self, implies_true, forall_eq_or_imp, forall_eq, Nat.reduceEqDiff, ↓reduceIte, Nat.reduceAdd, Nat.reduceLeDiff, Nat.reduceSub, Nat.reduceMul, Nat.reduceLT, Int.reduceBEq, Int.reduceBNe, Int.reduceToNat, Int.reduceLT, Int.reduceLE, Int.reduceAdd, Int.reduceSub, Int.reduceMul, reduceCtorEq, w1, getD_ints h, getD_ints hi]; (repeat (refine And.intro (by omega) ?_)); refine hK _ _ _ ?_; clear hK K)
      | (refine AWP.dreg' fun K hK => ?_; simp only [stepS, stepD, stepM, eq_self, implies_true, forall_eq_or_imp, forall_eq, Nat.reduceEqDiff, ↓reduceIte, Nat.reduceAdd, Nat.reduceLeDiff, Nat.reduceSub, Nat.reduceMul, Nat.reduceLT, Int.reduceBEq, Int.reduceBNe, Int.reduceToNat, Int.reduceLT, Int.reduceLE, Int.reduceAdd, Int.reduceSub, Int.reduceMul, reduceCtorEq, w1, getD_ints h, getD_ints hi]; (repeat (refine And.intro (by omega) ?_)); refine ⟨by rfl, hK _ _ _ ?_⟩; clear hK K))
    refine AWP.cond (b := decide (l[i + 1] ≤ l[i])) rfl (fun g => ?_) (fun g => ?_)
    · have ha : ¬ ascI l := fun e => by
        have := e i (by omega)
        rw [getD_get hi, getD_get h] at this
        have := of_decide_eq_true g; omega
      repeat (first
        | refine AWP.seq' ?_
        | refine AWP.skip ?_
        | (refine AWP.reg' fun K hK => ?_; simp only [stepS, stepD, stepM, eq_self, implies_true, forall_eq_or_imp, forall_eq, Nat.reduceEqDiff, ↓reduceIte, Nat.reduceAdd, Nat.reduceLeDiff, Nat.reduceSub, Nat.reduceMul, Nat.reduceLT, Int.reduceBEq, Int.reduceBNe, Int.reduceToNat, Int.reduceLT, Int.reduceLE, Int.reduceAdd, Int.reduceSub, Int.reduceMul, reduceCtorEq]; (repeat (refine And.intro (by omega) ?_)); refine hK _ _ _ ?_; clear hK K))
      exact AWP.ret (finP_ret rfl (by rw [fltErr, if_neg (not_not_intro hm), if_neg (not_not_intro hr), if_pos ha]; rfl) trivial)
    have g := of_decide_eq_false g
    refine AWP.skip ?_
    refine AWP.reg' fun K hK => ?_
    try simp only [stepS, stepD, stepM, eq_self, implies_true, forall_eq_or_imp, forall_eq, Nat.reduceEqDiff, ↓reduceIte, Nat.reduceAdd, Nat.reduceLeDiff, Nat.reduceSub, Nat.reduceMul, Nat.reduceLT, Int.reduceBEq, Int.reduceBNe, Int.reduceToNat, Int.reduceLT, Int.reduceLE, Int.reduceAdd, Int.reduceSub, Int.reduceMul, reduceCtorEq, w2]
    refine hK _ _ _ ?_
    clear hK K
    refine ⟨i + 1, ⟨.inr h, fun j hj => ?_⟩, by omega, ?_⟩
    · by_cases e : j = i
      · subst e; rw [getD_get hi, getD_get h]; omega
      · exact h2 j (by omega)
    refine Weak.nf [0] _ _ ?_ ?_ ⟨rfl, rfl⟩ (by decide) (by decide) (by decide)
    · repeat' (first | exact trivial | exact And.intro rfl trivial | refine And.intro ?_ ?_ | rfl | exact Nat.le_of_ble_eq_true rfl)
    · repeat' (first | exact trivial | exact And.intro rfl trivial | refine And.intro ?_ ?_ | rfl | exact Nat.le_of_ble_eq_true rfl)
  have h : ¬ i + 1 < l.length := by have := of_decide_eq_false h; omega
  have ha : ascI l := fun j hj => h2 j (by omega)
  refine AWP.exit ?_
  repeat (first
    | refine AWP.seq' ?_
    | refine AWP.skip ?_
    | (refine AWP.reg' fun K hK => ?_; simp only [stepS, stepD, stepM, eq_self, implies_true, forall_eq_or_imp, forall_eq, Nat.reduceEqDiff, ↓reduceIte, Nat.reduceAdd, Nat.reduceLeDiff, Nat.reduceSub, Nat.reduceMul, Nat.reduceLT, Int.reduceBEq, Int.reduceBNe, Int.reduceToNat, Int.reduceLT, Int.reduceLE, Int.reduceAdd, Int.reduceSub, Int.reduceMul, reduceCtorEq]; (repeat (refine And.intro (by omega) ?_)); refine hK _ _ _ ?_; clear hK K))
  exact AWP.ret (finP_ret rfl (by rw [fltErr, if_neg (not_not_intro hm), if_neg (not_not_intro hr), if_neg (not_not_intro ha)]; rfl) trivial)
end Go.Proofs.Ytaboolnmkfenlaa
