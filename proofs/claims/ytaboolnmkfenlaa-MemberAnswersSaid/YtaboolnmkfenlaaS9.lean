/- Contracts of the references: Ints, Nothing, Same, SameMember. -/
import Derived.Test.YtaboolnmkfenlaaS8
namespace Go.Proofs.Ytaboolnmkfenlaa
open Go Go.Am
set_option linter.unusedVariables false
set_option linter.unusedSimpArgs false
theorem Ints_fn : FnOk Try.prog 33 := fn_ok Try.func33 (by kernel_rfl)
theorem Nothing_fn : FnOk Try.prog 17 := fn_ok Try.func17 (by kernel_rfl)
theorem FSame_fn : FnOk Try.prog 27 := fn_ok Try.func27 (by kernel_rfl)
theorem SameMember_fn : FnOk Try.prog 28 := fn_ok Try.func28 (by kernel_rfl)
theorem RSame_fn : FnOk Try.prog 19 := fn_ok Try.func19 (by kernel_rfl)

theorem Nothing_spec : PSpec Try.prog 17 [] (fltV 1 []) := by
  refine PSpec.walk Try.func17 cf17_ok (by simp [cf17]) ⟨trivial, trivial, trivial⟩ ?_
  unfold cf17
  simp only [initT]
  repeat (first
    | refine AWP.seq' ?_
    | refine AWP.skip ?_
    | (refine AWP.reg' fun K hK => ?_; simp only [stepS, stepD, stepM, eq_self, implies_true, forall_eq_or_imp, forall_eq, Nat.reduceEqDiff, ↓reduceIte, Nat.reduceAdd, Nat.reduceLeDiff, Nat.reduceSub, Nat.reduceMul, Nat.reduceLT, Int.reduceBEq, Int.reduceBNe, Int.reduceToNat, Int.reduceLT, Int.reduceLE, Int.reduceAdd, Int.reduceSub, Int.reduceMul, reduceCtorEq]; (repeat (refine And.intro (by omega) ?_)); refine hK _ _ _ ?_; clear hK K))
  refine AWP.weak (Weak.subB 0 (x := .agg [.int 1, .sl 0 [] true]) (y := fltV 1 []) rfl (Sub.agg ⟨Sub.refl, Sub.nil, trivial⟩) rfl) ?_
  exact AWP.ret (finP_ret rfl rfl ⟨trivial, trivial, trivial⟩)

theorem Ints_spec (a b : List Int) : PSpec Try.prog 33 [ints a, ints b] (.bool (decide (a = b))) := by
  refine PSpec.of_ok fun ok => ?_
  simp only [okL, AV.ok, ints, and_true, maxLen_eq, List.length_map] at ok
  obtain ⟨⟨ok1, -⟩, ok2, -⟩ := ok
  refine PSpec.walk Try.func33 cf33_ok (by simp [cf33]) trivial ?_
  unfold cf33
  simp only [initT, ints]
  repeat (first
    | refine AWP.seq' ?_
    | refine AWP.skip ?_
    | (refine AWP.reg' fun K hK => ?_; simp only [stepS, stepD, stepM, eq_self, implies_true, forall_eq_or_imp, forall_eq, Nat.reduceEqDiff, ↓reduceIte, Nat.reduceAdd, Nat.reduceLeDiff, Nat.reduceSub, Nat.reduceMul, Nat.reduceLT, Int.reduceBEq, Int.reduceBNe, Int.reduceToNat, Int.reduceLT, Int.reduceLE, Int.reduceAdd, Int.reduceSub, Int.reduceMul, reduceCtorEq]; (repeat (refine And.intro (by omega) ?_)); refine hK _ _ _ ?_; clear hK K))
  refine AWP.cond (b := ((a.length : Int) != b.length)) rfl (fun c => ?_) (fun c => ?_)
  · have c : ¬ a = b := fun e => by subst e; simp at c
    repeat (first
      | refine AWP.seq' ?_
      | refine AWP.skip ?_
      | (refine AWP.reg' fun K hK => ?_; simp only [stepS, stepD, stepM, eq_self, implies_true, forall_eq_or_imp, forall_eq, Nat.reduceEqDiff, ↓reduceIte, Nat.reduceAdd, Nat.reduceLeDiff, Nat.reduceSub, Nat.reduceMul, Nat.reduceLT, Int.reduceBEq, Int.reduceBNe, Int.reduceToNat, Int.reduceLT, Int.reduceLE, Int.reduceAdd, Int.reduceSub, Int.reduceMul, reduceCtorEq]; (repeat (refine And.intro (by omega) ?_)); refine hK _ _ _ ?_; clear hK K))
    exact AWP.ret (finP_ret rfl (by simp only [c, decide_false]; rfl) trivial)
  have hl : a.length = b.length := by simp at c; omega
  repeat (first
    | refine AWP.seq' ?_
    | refine AWP.skip ?_
    | (refine AWP.reg' fun K hK => ?_; simp only [stepS, stepD, stepM, eq_self, implies_true, forall_eq_or_imp, forall_eq, Nat.reduceEqDiff, ↓reduceIte, Nat.reduceAdd, Nat.reduceLeDiff, Nat.reduceSub, Nat.reduceMul, Nat.reduceLT, Int.reduceBEq, Int.reduceBNe, Int.reduceToNat, Int.reduceLT, Int.reduceLE, Int.reduceAdd, Int.reduceSub, Int.reduceMul, reduceCtorEq]; (repeat (refine And.intro (by omega) ?_)); refine hK _ _ _ ?_; clear hK K))
  refine AWP.block ?_
  refine AWP.loopS (fun i => ⟨resT [(0, .sl 1 (a.map .int) false), (1, .sl 1 (b.map .int) false), (5, .int (i : Nat))], hpL 0 [], 0⟩)
    (fun i => i ≤ a.length ∧ a.take i = b.take i) (fun i => a.length - i) (i0 := 0) ⟨Nat.zero_le _, rfl⟩ ?_ ?_
  · refine Weak.nf [] _ _ ?_ ?_ ⟨rfl, rfl⟩ (by decide) (by decide) (by decide)
    · repeat' (first | exact trivial | exact And.intro rfl trivial | refine And.intro ?_ ?_ | rfl | exact Nat.le_of_ble_eq_true rfl)
    · repeat' (first | exact trivial | exact And.intro rfl trivial | refine And.intro ?_ ?_ | rfl | exact Nat.le_of_ble_eq_true rfl)
  rintro i ⟨h1, h2⟩
  repeat (first
    | refine AWP.seq' ?_
    | refine AWP.skip ?_
    | (refine AWP.reg' fun K hK => ?_; simp only [stepS, stepD, stepM, eq_self, implies_true, forall_eq_or_imp, forall_eq, Nat.reduceEqDiff, ↓reduceIte, Nat.reduceAdd, Nat.reduceLeDiff, Nat.reduceSub, Nat.reduceMul, Nat.reduceLT, Int.reduceBEq, Int.reduceBNe, Int.reduceToNat, Int.reduceLT, Int.reduceLE, Int.reduceAdd, Int.reduceSub, Int.reduceMul, reduceCtorEq]; (repeat (refine And.intro (by omega) ?_)); refine hK _ _ _ ?_; clear hK K))
  refine AWP.cond (b := decide ((i : Int) < a.length)) rfl (fun h => ?_) (fun h => ?_)
  · have h : i < a.length := by have := of_decide_eq_true h; omega
    have hb : i < b.length := by omega
    have w : IntKind.i64.wrap ((i : Int) + 1) = ((i + 1 : Nat) : Int) := wrapN (by omega) (by omega)
    refine AWP.skip ?_
    refine AWP.seq' ?_
    refine AWP.block ?_
    refine AWP.seq' ?_
    refine AWP.dreg' fun K hK => ?_
    try simp only [stepS, stepD, stepM, eq_self, implies_true, forall_eq_or_imp, forall_eq, Nat.reduceEqDiff, ↓reduceIte, Nat.reduceAdd, Nat.reduceLeDiff, Nat.reduceSub, Nat.reduceMul, Nat.reduceLT, Int.reduceBEq, Int.reduceBNe, Int.reduceToNat, Int.reduceLT, Int.reduceLE, Int.reduceAdd, Int.reduceSub, Int.reduceMul, reduceCtorEq, getD_ints h, getD_ints hb]
    repeat (refine And.intro (by omega) ?_)
    refine ⟨by rfl, hK _ _ _ ?_⟩
    clear hK K
    refine AWP.cond (b := (a[i] != b[i])) rfl (fun g => ?_) (fun g => ?_)
    · have c : ¬ a = b := fun e => by subst e; simp at g
      repeat (first
        | refine AWP.seq' ?_
        | refine AWP.skip ?_
        | (refine AWP.reg' fun K hK => ?_; simp only [stepS, stepD, stepM, eq_self, implies_true, forall_eq_or_imp, forall_eq, Nat.reduceEqDiff, ↓reduceIte, Nat.reduceAdd, Nat.reduceLeDiff, Nat.reduceSub, Nat.reduceMul, Nat.reduceLT, Int.reduceBEq, Int.reduceBNe, Int.reduceToNat, Int.reduceLT, Int.reduceLE, Int.reduceAdd, Int.reduceSub, Int.reduceMul, reduceCtorEq]; (repeat (refine And.intro (by omega) ?_)); refine hK _ _ _ ?_; clear hK K))
      exact AWP.ret (finP_ret rfl (by simp only [c, decide_false]; rfl) trivial)
    have g : a[i] = b[i] := by simpa using g
    refine AWP.skip ?_
    refine AWP.reg' fun K hK => ?_
    try simp only [stepS, stepD, stepM, eq_self, implies_true, forall_eq_or_imp, forall_eq, Nat.reduceEqDiff, ↓reduceIte, Nat.reduceAdd, Nat.reduceLeDiff, Nat.reduceSub, Nat.reduceMul, Nat.reduceLT, Int.reduceBEq, Int.reduceBNe, Int.reduceToNat, Int.reduceLT, Int.reduceLE, Int.reduceAdd, Int.reduceSub, Int.reduceMul, reduceCtorEq, w]
    refine hK _ _ _ ?_
    clear hK K
    refine ⟨i + 1, ⟨h, ?_⟩, by omega, ?_⟩
    · rw [List.take_add_one, List.take_add_one, h2, List.getElem?_eq_getElem h, List.getElem?_eq_getElem hb, g]
    refine Weak.nf [] _ _ ?_ ?_ ⟨rfl, rfl⟩ (by decide) (by decide) (by decide)
    · repeat' (first | exact trivial | exact And.intro rfl trivial | refine And.intro ?_ ?_ | rfl | exact Nat.le_of_ble_eq_true rfl)
    · repeat' (first | exact trivial | exact And.intro rfl trivial | refine And.intro ?_ ?_ | rfl | exact Nat.le_of_ble_eq_true rfl)
  have h : ¬ i < a.length := by have := of_decide_eq_false h; omega
  have e : a = b := by rw [List.take_of_length_le (by omega), List.take_of_length_le (by omega)] at h2; exact h2
  refine AWP.exit ?_
  repeat (first
    | refine AWP.seq' ?_
    | refine AWP.skip ?_
    | (refine AWP.reg' fun K hK => ?_; simp only [stepS, stepD, stepM, eq_self, implies_true, forall_eq_or_imp, forall_eq, Nat.reduceEqDiff, ↓reduceIte, Nat.reduceAdd, Nat.reduceLeDiff, Nat.reduceSub, Nat.reduceMul, Nat.reduceLT, Int.reduceBEq, Int.reduceBNe, Int.reduceToNat, Int.reduceLT, Int.reduceLE, Int.reduceAdd, Int.reduceSub, Int.reduceMul, reduceCtorEq]; (repeat (refine And.intro (by omega) ?_)); refine hK _ _ _ ?_; clear hK K))
  exact AWP.ret (finP_ret rfl (by simp only [e, decide_true]; rfl) trivial)

theorem FSame_spec (m m' : Int) (a b : List Int) : PSpec Try.prog 27 [fltV m a, fltV m' b] (.bool (decide (m = m' ∧ a = b))) := by
  refine PSpec.walk Try.func27 cf27_ok (by simp [cf27]) trivial ?_
  unfold cf27
  simp only [initT, fltV, ints]
  refine AWP.seq' ?_
  refine AWP.reg' fun K hK => ?_
  try simp only [stepS, stepD, stepM, eq_self, implies_true, forall_eq_or_imp, forall_eq, Nat.reduceEqDiff, ↓reduceIte, Nat.reduceAdd, Nat.reduceLeDiff, Nat.reduceSub, Nat.reduceMul, Nat.reduceLT, Int.reduceBEq, Int.reduceBNe, Int.reduceToNat, Int.reduceLT, Int.reduceLE, Int.reduceAdd, Int.reduceSub, Int.reduceMul, reduceCtorEq]
  refine hK _ _ _ ?_
  clear hK K
  refine AWP.seq' ?_
  by_cases h1 : m = m'
  case neg =>
    have e : (m == m') = false := by simpa using h1
    refine AWP.reg' fun K hK => ?_
    try simp only [stepS, stepD, stepM, eq_self, implies_true, forall_eq_or_imp, forall_eq, Nat.reduceEqDiff, ↓reduceIte, Nat.reduceAdd, Nat.reduceLeDiff, Nat.reduceSub, Nat.reduceMul, Nat.reduceLT, Int.reduceBEq, Int.reduceBNe, Int.reduceToNat, Int.reduceLT, Int.reduceLE, Int.reduceAdd, Int.reduceSub, Int.reduceMul, reduceCtorEq, e]
    refine hK _ _ _ ?_
    clear hK K
    exact AWP.ret (finP_ret rfl (by simp only [h1, false_and, decide_false]; rfl) trivial)
  have e : (m == m') = true := by simpa using h1
  refine AWP.reg' fun K hK => ?_
  try simp only [stepS, stepD, stepM, eq_self, implies_true, forall_eq_or_imp, forall_eq, Nat.reduceEqDiff, ↓reduceIte, Nat.reduceAdd, Nat.reduceLeDiff, Nat.reduceSub, Nat.reduceMul, Nat.reduceLT, Int.reduceBEq, Int.reduceBNe, Int.reduceToNat, Int.reduceLT, Int.reduceLE, Int.reduceAdd, Int.reduceSub, Int.reduceMul, reduceCtorEq, e]
  refine evT_pure (Ints_spec a b) Ints_fn rfl (by rfl) (by repeat' (first | exact trivial | assumption | refine And.intro ?_ ?_)) ?_
  try simp only [stepS, stepD, stepM, eq_self, implies_true, forall_eq_or_imp, forall_eq, Nat.reduceEqDiff, ↓reduceIte, Nat.reduceAdd, Nat.reduceLeDiff, Nat.reduceSub, Nat.reduceMul, Nat.reduceLT, Int.reduceBEq, Int.reduceBNe, Int.reduceToNat, Int.reduceLT, Int.reduceLE, Int.reduceAdd, Int.reduceSub, Int.reduceMul, reduceCtorEq]
  refine hK _ _ _ ?_
  clear hK K
  exact AWP.ret (finP_ret rfl (by simp only [h1, true_and]; rfl) trivial)

theorem SameMember_spec (x y : Mem) : PSpec Try.prog 28 [x.v, y.v] (.bool (decide (x = y))) := by
  refine PSpec.walk Try.func28 cf28_ok (by simp [cf28]) trivial ?_
  unfold cf28
  simp only [initT, Mem.v, ints]
  refine AWP.seq' ?_
  refine AWP.reg' fun K hK => ?_
  try simp only [stepS, stepD, stepM, eq_self, implies_true, forall_eq_or_imp, forall_eq, Nat.reduceEqDiff, ↓reduceIte, Nat.reduceAdd, Nat.reduceLeDiff, Nat.reduceSub, Nat.reduceMul, Nat.reduceLT, Int.reduceBEq, Int.reduceBNe, Int.reduceToNat, Int.reduceLT, Int.reduceLE, Int.reduceAdd, Int.reduceSub, Int.reduceMul, reduceCtorEq]
  refine hK _ _ _ ?_
  clear hK K
  refine AWP.seq' ?_
  by_cases h1 : x.host = y.host
  case neg =>
    have e : (x.host == y.host) = false := by simpa using h1
    have c : ¬ x = y := fun e => h1 (by rw [e])
    refine AWP.reg' fun K hK => ?_
    try simp only [stepS, stepD, stepM, eq_self, implies_true, forall_eq_or_imp, forall_eq, Nat.reduceEqDiff, ↓reduceIte, Nat.reduceAdd, Nat.reduceLeDiff, Nat.reduceSub, Nat.reduceMul, Nat.reduceLT, Int.reduceBEq, Int.reduceBNe, Int.reduceToNat, Int.reduceLT, Int.reduceLE, Int.reduceAdd, Int.reduceSub, Int.reduceMul, reduceCtorEq, e]
    refine hK _ _ _ ?_
    clear hK K
    exact AWP.ret (finP_ret rfl (by simp only [c, decide_false]; rfl) trivial)
  have e1 : (x.host == y.host) = true := by simpa using h1
  by_cases h2 : x.group = y.group
  case neg =>
    have e : (x.group == y.group) = false := by simpa using h2
    have c : ¬ x = y := fun e => h2 (by rw [e])
    refine AWP.reg' fun K hK => ?_
    try simp only [stepS, stepD, stepM, eq_self, implies_true, forall_eq_or_imp, forall_eq, Nat.reduceEqDiff, ↓reduceIte, Nat.reduceAdd, Nat.reduceLeDiff, Nat.reduceSub, Nat.reduceMul, Nat.reduceLT, Int.reduceBEq, Int.reduceBNe, Int.reduceToNat, Int.reduceLT, Int.reduceLE, Int.reduceAdd, Int.reduceSub, Int.reduceMul, reduceCtorEq, e1, e]
    refine hK _ _ _ ?_
    clear hK K
    exact AWP.ret (finP_ret rfl (by simp only [c, decide_false]; rfl) trivial)
  have e2 : (x.group == y.group) = true := by simpa using h2
  by_cases h3 : x.till = y.till
  case neg =>
    have e : (x.till == y.till) = false := by simpa using h3
    have c : ¬ x = y := fun e => h3 (by rw [e])
    refine AWP.reg' fun K hK => ?_
    try simp only [stepS, stepD, stepM, eq_self, implies_true, forall_eq_or_imp, forall_eq, Nat.reduceEqDiff, ↓reduceIte, Nat.reduceAdd, Nat.reduceLeDiff, Nat.reduceSub, Nat.reduceMul, Nat.reduceLT, Int.reduceBEq, Int.reduceBNe, Int.reduceToNat, Int.reduceLT, Int.reduceLE, Int.reduceAdd, Int.reduceSub, Int.reduceMul, reduceCtorEq, e1, e2, e]
    refine hK _ _ _ ?_
    clear hK K
    exact AWP.ret (finP_ret rfl (by simp only [c, decide_false]; rfl) trivial)
  have e3 : (x.till == y.till) = true := by simpa using h3
  refine AWP.reg' fun K hK => ?_
  try simp only [stepS, stepD, stepM, eq_self, implies_true, forall_eq_or_imp, forall_eq, Nat.reduceEqDiff, ↓reduceIte, Nat.reduceAdd, Nat.reduceLeDiff, Nat.reduceSub, Nat.reduceMul, Nat.reduceLT, Int.reduceBEq, Int.reduceBNe, Int.reduceToNat, Int.reduceLT, Int.reduceLE, Int.reduceAdd, Int.reduceSub, Int.reduceMul, reduceCtorEq, e1, e2, e3]
  refine evT_pure (FSame_spec x.mode y.mode x.srcs y.srcs) FSame_fn rfl (by rfl) (by repeat' (first | exact trivial | assumption | refine And.intro ?_ ?_)) ?_
  try simp only [stepS, stepD, stepM, eq_self, implies_true, forall_eq_or_imp, forall_eq, Nat.reduceEqDiff, ↓reduceIte, Nat.reduceAdd, Nat.reduceLeDiff, Nat.reduceSub, Nat.reduceMul, Nat.reduceLT, Int.reduceBEq, Int.reduceBNe, Int.reduceToNat, Int.reduceLT, Int.reduceLE, Int.reduceAdd, Int.reduceSub, Int.reduceMul, reduceCtorEq]
  refine hK _ _ _ ?_
  clear hK K
  have c : (decide (x.mode = y.mode ∧ x.srcs = y.srcs)) = decide (x = y) := by
    apply decide_eq_decide.mpr
    constructor
    · rintro ⟨g1, g2⟩
      cases x; cases y
      simp at h1 h2 h3 g1 g2
      subst h1; subst h2; subst h3; subst g1; subst g2; rfl
    · rintro rfl; exact ⟨rfl, rfl⟩
  exact AWP.ret (finP_ret rfl (by rw [← c]; rfl) trivial)

theorem RSame_spec (n n' : Int) (a b : List Mem) : PSpec Try.prog 19 [memsV n a, memsV n' b] (.bool (decide (n = n' ∧ a = b))) := by
  refine PSpec.of_ok fun ok => ?_
  simp only [okL, AV.ok, memsV, mems, and_true, maxLen_eq, List.length_map] at ok
  obtain ⟨⟨-, ok1, -⟩, -, ok2, -⟩ := ok
  refine PSpec.walk Try.func19 cf19_ok (by simp [cf19]) trivial ?_
  unfold cf19
  simp only [initT, memsV, mems]
  refine AWP.seq' ?_
  refine AWP.reg' fun K hK => ?_
  try simp only [stepS, stepD, stepM, eq_self, implies_true, forall_eq_or_imp, forall_eq, Nat.reduceEqDiff, ↓reduceIte, Nat.reduceAdd, Nat.reduceLeDiff, Nat.reduceSub, Nat.reduceMul, Nat.reduceLT, Int.reduceBEq, Int.reduceBNe, Int.reduceToNat, Int.reduceLT, Int.reduceLE, Int.reduceAdd, Int.reduceSub, Int.reduceMul, reduceCtorEq]
  refine hK _ _ _ ?_
  clear hK K
  by_cases h1 : n = n'
  case neg =>
    have e : (n != n') = true := by simpa using h1
    repeat (first
      | refine AWP.seq' ?_
      | refine AWP.skip ?_
      | (refine AWP.reg' fun K hK => ?_; simp only [stepS, stepD, stepM, eq_self, implies_true, forall_eq_or_imp, forall_eq, Nat.reduceEqDiff, ↓reduceIte, Nat.reduceAdd, Nat.reduceLeDiff, Nat.reduceSub, Nat.reduceMul, Nat.reduceLT, Int.reduceBEq, Int.reduceBNe, Int.reduceToNat, Int.reduceLT, Int.reduceLE, Int.reduceAdd, Int.reduceSub, Int.reduceMul, reduceCtorEq, e]; (repeat (refine And.intro (by omega) ?_)); refine hK _ _ _ ?_; clear hK K))
    refine AWP.cond (b := true) rfl (fun c => ?_) (fun c => by cases c)
    repeat (first
      | refine AWP.seq' ?_
      | refine AWP.skip ?_
      | (refine AWP.reg' fun K hK => ?_; simp only [stepS, stepD, stepM, eq_self, implies_true, forall_eq_or_imp, forall_eq, Nat.reduceEqDiff, ↓reduceIte, Nat.reduceAdd, Nat.reduceLeDiff, Nat.reduceSub, Nat.reduceMul, Nat.reduceLT, Int.reduceBEq, Int.reduceBNe, Int.reduceToNat, Int.reduceLT, Int.reduceLE, Int.reduceAdd, Int.reduceSub, Int.reduceMul, reduceCtorEq]; (repeat (refine And.intro (by omega) ?_)); refine hK _ _ _ ?_; clear hK K))
    exact AWP.ret (finP_ret rfl (by simp only [h1, false_and, decide_false]; rfl) trivial)
  have e : (n != n') = false := by simpa using h1
  repeat (first
    | refine AWP.seq' ?_
    | refine AWP.skip ?_
    | (refine AWP.reg' fun K hK => ?_; simp only [stepS, stepD, stepM, eq_self, implies_true, forall_eq_or_imp, forall_eq, Nat.reduceEqDiff, ↓reduceIte, Nat.reduceAdd, Nat.reduceLeDiff, Nat.reduceSub, Nat.reduceMul, Nat.reduceLT, Int.reduceBEq, Int.reduceBNe, Int.reduceToNat, Int.reduceLT, Int.reduceLE, Int.reduceAdd, Int.reduceSub, Int.reduceMul, reduceCtorEq, e]; (repeat (refine And.intro (by omega) ?_)); refine hK _ _ _ ?_; clear hK K))
  refine AWP.cond (b := ((a.length : Int) != b.length)) rfl (fun c => ?_) (fun c => ?_)
  · have c : ¬ a = b := fun e => by subst e; simp at c
    repeat (first
      | refine AWP.seq' ?_
      | refine AWP.skip ?_
      | (refine AWP.reg' fun K hK => ?_; simp only [stepS, stepD, stepM, eq_self, implies_true, forall_eq_or_imp, forall_eq, Nat.reduceEqDiff, ↓reduceIte, Nat.reduceAdd, Nat.reduceLeDiff, Nat.reduceSub, Nat.reduceMul, Nat.reduceLT, Int.reduceBEq, Int.reduceBNe, Int.reduceToNat, Int.reduceLT, Int.reduceLE, Int.reduceAdd, Int.reduceSub, Int.reduceMul, reduceCtorEq]; (repeat (refine And.intro (by omega) ?_)); refine hK _ _ _ ?_; clear hK K))
    exact AWP.ret (finP_ret rfl (by simp only [c, and_false, decide_false]; rfl) trivial)
  have hl : a.length = b.length := by simp at c; omega
  repeat (first
    | refine AWP.seq' ?_
    | refine AWP.skip ?_
    | (refine AWP.reg' fun K hK => ?_; simp only [stepS, stepD, stepM, eq_self, implies_true, forall_eq_or_imp, forall_eq, Nat.reduceEqDiff, ↓reduceIte, Nat.reduceAdd, Nat.reduceLeDiff, Nat.reduceSub, Nat.reduceMul, Nat.reduceLT, Int.reduceBEq, Int.reduceBNe, Int.reduceToNat, Int.reduceLT, Int.reduceLE, Int.reduceAdd, Int.reduceSub, Int.reduceMul, reduceCtorEq]; (repeat (refine And.intro (by omega) ?_)); refine hK _ _ _ ?_; clear hK K))
  refine AWP.block ?_
  refine AWP.loopS (fun i => ⟨resT [(2, .ref 0 0), (3, .ref 1 0), (5, .int (i : Nat))], hpL 0 [some (.box (.agg [.int n, .sl 5 (a.map Mem.v) false])), some (.box (.agg [.int n', .sl 5 (b.map Mem.v) false]))], 2⟩)
    (fun i => i ≤ a.length ∧ a.take i = b.take i) (fun i => a.length - i) (i0 := 0) ⟨Nat.zero_le _, rfl⟩ ?_ ?_
  · refine Weak.nf [0, 16] _ _ ?_ ?_ ⟨rfl, rfl⟩ (by decide) (by decide) (by decide)
    · repeat' (first | exact trivial | exact And.intro rfl trivial | refine And.intro ?_ ?_ | rfl | exact Nat.le_of_ble_eq_true rfl)
    · repeat' (first | exact trivial | exact And.intro rfl trivial | refine And.intro ?_ ?_ | rfl | exact Nat.le_of_ble_eq_true rfl)
  rintro i ⟨h1', h2⟩
  repeat (first
    | refine AWP.seq' ?_
    | refine AWP.skip ?_
    | (refine AWP.reg' fun K hK => ?_; simp only [stepS, stepD, stepM, eq_self, implies_true, forall_eq_or_imp, forall_eq, Nat.reduceEqDiff, ↓reduceIte, Nat.reduceAdd, Nat.reduceLeDiff, Nat.reduceSub, Nat.reduceMul, Nat.reduceLT, Int.reduceBEq, Int.reduceBNe, Int.reduceToNat, Int.reduceLT, Int.reduceLE, Int.reduceAdd, Int.reduceSub, Int.reduceMul, reduceCtorEq]; (repeat (refine And.intro (by omega) ?_)); refine hK _ _ _ ?_; clear hK K))
  refine AWP.cond (b := decide ((i : Int) < a.length)) rfl (fun h => ?_) (fun h => ?_)
  · have h : i < a.length := by have := of_decide_eq_true h; omega
    have hb : i < b.length := by omega
    have w : IntKind.i64.wrap ((i : Int) + 1) = ((i + 1 : Nat) : Int) := wrapN (by omega) (by omega)
    refine AWP.skip ?_
    refine AWP.seq' ?_
    refine AWP.block ?_
    refine AWP.seq' ?_
    refine AWP.dreg' fun K hK => ?_
    try simp only [stepS, stepD, stepM, eq_self, implies_true, forall_eq_or_imp, forall_eq, Nat.reduceEqDiff, ↓reduceIte, Nat.reduceAdd, Nat.reduceLeDiff, Nat.reduceSub, Nat.reduceMul, Nat.reduceLT, Int.reduceBEq, Int.reduceBNe, Int.reduceToNat, Int.reduceLT, Int.reduceLE, Int.reduceAdd, Int.reduceSub, Int.reduceMul, reduceCtorEq, getD_mems h, getD_mems hb]
    repeat (refine And.intro (by omega) ?_)
    refine evD_pure (SameMember_spec a[i] b[i]) SameMember_fn rfl (by rfl) (by repeat' (first | exact trivial | assumption | refine And.intro ?_ ?_)) ?_
    try simp only [stepS, stepD, stepM, eq_self, implies_true, forall_eq_or_imp, forall_eq, Nat.reduceEqDiff, ↓reduceIte, Nat.reduceAdd, Nat.reduceLeDiff, Nat.reduceSub, Nat.reduceMul, Nat.reduceLT, Int.reduceBEq, Int.reduceBNe, Int.reduceToNat, Int.reduceLT, Int.reduceLE, Int.reduceAdd, Int.reduceSub, Int.reduceMul, reduceCtorEq]
    refine ⟨by rfl, hK _ _ _ ?_⟩
    clear hK K
    refine AWP.cond (b := !decide (a[i] = b[i])) rfl (fun g => ?_) (fun g => ?_)
    · have c : ¬ a = b := fun e => by subst e; simp at g
      repeat (first
        | refine AWP.seq' ?_
        | refine AWP.skip ?_
        | (refine AWP.reg' fun K hK => ?_; simp only [stepS, stepD, stepM, eq_self, implies_true, forall_eq_or_imp, forall_eq, Nat.reduceEqDiff, ↓reduceIte, Nat.reduceAdd, Nat.reduceLeDiff, Nat.reduceSub, Nat.reduceMul, Nat.reduceLT, Int.reduceBEq, Int.reduceBNe, Int.reduceToNat, Int.reduceLT, Int.reduceLE, Int.reduceAdd, Int.reduceSub, Int.reduceMul, reduceCtorEq]; (repeat (refine And.intro (by omega) ?_)); refine hK _ _ _ ?_; clear hK K))
      exact AWP.ret (finP_ret rfl (by simp only [c, and_false, decide_false]; rfl) trivial)
    have g : a[i] = b[i] := by simpa using g
    refine AWP.skip ?_
    refine AWP.reg' fun K hK => ?_
    try simp only [stepS, stepD, stepM, eq_self, implies_true, forall_eq_or_imp, forall_eq, Nat.reduceEqDiff, ↓reduceIte, Nat.reduceAdd, Nat.reduceLeDiff, Nat.reduceSub, Nat.reduceMul, Nat.reduceLT, Int.reduceBEq, Int.reduceBNe, Int.reduceToNat, Int.reduceLT, Int.reduceLE, Int.reduceAdd, Int.reduceSub, Int.reduceMul, reduceCtorEq, w]
    refine hK _ _ _ ?_
    clear hK K
    refine ⟨i + 1, ⟨h, ?_⟩, by omega, ?_⟩
    · rw [List.take_add_one, List.take_add_one, h2, List.getElem?_eq_getElem h, List.getElem?_eq_getElem hb, g]
    refine Weak.nf [0, 1] _ _ ?_ ?_ ⟨rfl, rfl⟩ (by decide) (by decide) (by decide)
    · repeat' (first | exact trivial | exact And.intro rfl trivial | refine And.intro ?_ ?_ | rfl | exact Nat.le_of_ble_eq_true rfl)
    · repeat' (first | exact trivial | exact And.intro rfl trivial | refine And.intro ?_ ?_ | rfl | exact Nat.le_of_ble_eq_true rfl)
  have h : ¬ i < a.length := by have := of_decide_eq_false h; omega
  have e : a = b := by rw [List.take_of_length_le (by omega), List.take_of_length_le (by omega)] at h2; exact h2
  refine AWP.exit ?_
  repeat (first
    | refine AWP.seq' ?_
    | refine AWP.skip ?_
    | (refine AWP.reg' fun K hK => ?_; simp only [stepS, stepD, stepM, eq_self, implies_true, forall_eq_or_imp, forall_eq, Nat.reduceEqDiff, ↓reduceIte, Nat.reduceAdd, Nat.reduceLeDiff, Nat.reduceSub, Nat.reduceMul, Nat.reduceLT, Int.reduceBEq, Int.reduceBNe, Int.reduceToNat, Int.reduceLT, Int.reduceLE, Int.reduceAdd, Int.reduceSub, Int.reduceMul, reduceCtorEq]; (repeat (refine And.intro (by omega) ?_)); refine hK _ _ _ ?_; clear hK K))
  exact AWP.ret (finP_ret rfl (by simp only [h1, e, and_self, decide_true]; rfl) trivial)
end Go.Proofs.Ytaboolnmkfenlaa
