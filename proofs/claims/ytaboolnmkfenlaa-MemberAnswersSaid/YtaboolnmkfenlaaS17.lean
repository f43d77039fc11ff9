/- Contracts of the references without and with. -/
import Derived.Test.YtaboolnmkfenlaaS16
import Derived.Test.YtaboolnmkfenlaaP1
namespace Go.Proofs.Ytaboolnmkfenlaa
open Go Go.Am
set_option linter.unusedVariables false
set_option linter.unusedSimpArgs false
theorem without_fn : FnOk Try.prog 64 := fn_ok Try.func64 (by kernel_rfl)
theorem with_fn : FnOk Try.prog 65 := fn_ok Try.func65 (by kernel_rfl)

theorem without_spec (now : Int) (l : List Mem) (h g : Int) (hl : l.length ≤ 1000000) : PSpec Try.prog 64 [memsV now l, .int h, .int g] (memsV now (l.filter (other h g))) := by
  have hml := maxLen_eq
  refine PSpec.walk Try.func64 cf64_ok (by simp [cf64]) ⟨trivial, trivial, trivial⟩ ?_
  unfold cf64
  simp only [initT, memsV, mems]
  repeat (first
    | refine AWP.seq' ?_
    | refine AWP.skip ?_
    | (refine AWP.reg' fun K hK => ?_; simp only [stepS, stepD, stepM, eq_self, implies_true, forall_eq_or_imp, forall_eq, Nat.reduceEqDiff, ↓reduceIte, Nat.reduceAdd, Nat.reduceLeDiff, Nat.reduceSub, Nat.reduceMul, Nat.reduceLT, Int.reduceBEq, Int.reduceBNe, Int.reduceToNat, Int.reduceLT, Int.reduceLE, Int.reduceAdd, Int.reduceSub, Int.reduceMul, reduceCtorEq]; (repeat (refine And.intro (by omega) ?_)); refine hK _ _ _ ?_; clear hK K))
  refine AWP.weak (Weak.nilvecB 80 1 0 5 [.int now, .sl 0 [] true] rfl rfl (by omega)) ?_
  refine AWP.block ?_
  refine AWP.loopS (fun i => ⟨resT [(1, .int h), (2, .int g), (6, .ref 0 0), (7, .ref 1 0), (14, .sl 5 (l.map Mem.v) false), (15, .int l.length), (16, .int (i : Nat))],
      hpL 0 [some (.box (.agg [.int 0, .sl 0 [] true])), some (.box (.agg [.int now, .vec 2])), some (.vec 5 (((l.take i).filter (other h g)).map Mem.v))], 3⟩)
    (fun i => i ≤ l.length) (fun i => l.length - i) (i0 := 0) (Nat.zero_le _) ?_ ?_
  · refine Weak.nf [16, 80, 176] _ _ ?_ ?_ ⟨rfl, rfl⟩ (by decide) (by decide) (by decide)
    · repeat' (first | exact trivial | exact And.intro rfl trivial | refine And.intro ?_ ?_ | rfl | exact Nat.le_of_ble_eq_true rfl)
    · repeat' (first | exact trivial | exact And.intro rfl trivial | refine And.intro ?_ ?_ | rfl | exact Nat.le_of_ble_eq_true rfl)
  intro i h1
  repeat (first
    | refine AWP.seq' ?_
    | refine AWP.skip ?_
    | (refine AWP.reg' fun K hK => ?_; simp only [stepS, stepD, stepM, eq_self, implies_true, forall_eq_or_imp, forall_eq, Nat.reduceEqDiff, ↓reduceIte, Nat.reduceAdd, Nat.reduceLeDiff, Nat.reduceSub, Nat.reduceMul, Nat.reduceLT, Int.reduceBEq, Int.reduceBNe, Int.reduceToNat, Int.reduceLT, Int.reduceLE, Int.reduceAdd, Int.reduceSub, Int.reduceMul, reduceCtorEq]; (repeat (refine And.intro (by omega) ?_)); refine hK _ _ _ ?_; clear hK K))
  refine AWP.cond (b := decide ((i : Int) < l.length)) rfl (fun hc => ?_) (fun hc => ?_)
  · have hi : i < l.length := by have := of_decide_eq_true hc; omega
    have w : IntKind.i64.wrap ((i : Int) + 1) = ((i + 1 : Nat) : Int) := wrapN (by omega) (by omega)
    have htk : l.take (i + 1) = l.take i ++ [l[i]] := by rw [List.take_add_one, List.getElem?_eq_getElem hi]; rfl
    have hfl : ((l.take i).filter (other h g)).length ≤ 1000000 := Nat.le_trans (List.length_filter_le _ _) (by simp; omega)
    have hpv := pureL_mems ((l.take (i + 1)).filter (other h g))
    refine AWP.skip ?_
    refine AWP.seq' ?_
    refine AWP.block ?_
    refine AWP.seq' ?_
    refine AWP.reg' fun K hK => ?_
    try simp only [stepS, stepD, stepM, eq_self, implies_true, forall_eq_or_imp, forall_eq, Nat.reduceEqDiff, ↓reduceIte, Nat.reduceAdd, Nat.reduceLeDiff, Nat.reduceSub, Nat.reduceMul, Nat.reduceLT, Int.reduceBEq, Int.reduceBNe, Int.reduceToNat, Int.reduceLT, Int.reduceLE, Int.reduceAdd, Int.reduceSub, Int.reduceMul, reduceCtorEq, getD_mems hi]
    repeat (refine And.intro (by omega) ?_)
    refine hK _ _ _ ?_
    clear hK K
    by_cases ho : other h g l[i] = true
    · have e : (l.take (i + 1)).filter (other h g) = (l.take i).filter (other h g) ++ [l[i]] := by rw [htk, List.filter_append]; simp [ho]
      have he : ((l.take i).filter (other h g)).map Mem.v ++ [AV.agg [.int l[i].host, .int l[i].group, .int l[i].mode, .sl 1 (l[i].srcs.map .int) false, .int l[i].till]] = ((l.take (i + 1)).filter (other h g)).map Mem.v := by
        rw [e, List.map_append]; rfl
      have hne := other_iff.mp ho
      by_cases k1 : l[i].host = h
      · have e1 : (l[i].host != h) = false := by simpa using k1
        have e2 : (l[i].group != g) = true := by simp; omega
        refine AWP.seq' ?_
        refine AWP.reg' fun K hK => ?_
        try simp only [stepS, stepD, stepM, eq_self, implies_true, forall_eq_or_imp, forall_eq, Nat.reduceEqDiff, ↓reduceIte, Nat.reduceAdd, Nat.reduceLeDiff, Nat.reduceSub, Nat.reduceMul, Nat.reduceLT, Int.reduceBEq, Int.reduceBNe, Int.reduceToNat, Int.reduceLT, Int.reduceLE, Int.reduceAdd, Int.reduceSub, Int.reduceMul, reduceCtorEq, e1, e2]
        refine hK _ _ _ ?_
        clear hK K
        refine AWP.cond (b := true) rfl (fun c => ?_) (fun c => by cases c)
        refine AWP.reg' fun K hK => ?_
        try simp only [stepS, stepD, stepM, eq_self, implies_true, forall_eq_or_imp, forall_eq, Nat.reduceEqDiff, ↓reduceIte, Nat.reduceAdd, Nat.reduceLeDiff, Nat.reduceSub, Nat.reduceMul, Nat.reduceLT, Int.reduceBEq, Int.reduceBNe, Int.reduceToNat, Int.reduceLT, Int.reduceLE, Int.reduceAdd, Int.reduceSub, Int.reduceMul, reduceCtorEq]
        refine evT_lit ?_
        try simp only [stepS, stepD, stepM, eq_self, implies_true, forall_eq_or_imp, forall_eq, Nat.reduceEqDiff, ↓reduceIte, Nat.reduceAdd, Nat.reduceLeDiff, Nat.reduceSub, Nat.reduceMul, Nat.reduceLT, Int.reduceBEq, Int.reduceBNe, Int.reduceToNat, Int.reduceLT, Int.reduceLE, Int.reduceAdd, Int.reduceSub, Int.reduceMul, reduceCtorEq, appendA, srcA, he]
        repeat (refine And.intro (by omega) ?_)
        refine hK _ _ _ ?_
        clear hK K
        refine AWP.reg' fun K hK => ?_
        try simp only [stepS, stepD, stepM, eq_self, implies_true, forall_eq_or_imp, forall_eq, Nat.reduceEqDiff, ↓reduceIte, Nat.reduceAdd, Nat.reduceLeDiff, Nat.reduceSub, Nat.reduceMul, Nat.reduceLT, Int.reduceBEq, Int.reduceBNe, Int.reduceToNat, Int.reduceLT, Int.reduceLE, Int.reduceAdd, Int.reduceSub, Int.reduceMul, reduceCtorEq, w]
        refine hK _ _ _ ?_
        clear hK K
        refine ⟨i + 1, hi, by omega, ?_⟩
        refine Weak.nf [0, 1, 307] _ _ ?_ ?_ ⟨rfl, rfl⟩ (by decide) (by decide) (by decide)
        · repeat' (first | exact trivial | exact And.intro rfl trivial | refine And.intro ?_ ?_ | rfl | exact Nat.le_of_ble_eq_true rfl | exact congrArg some (vec_ren (m := 0) hpv).1.symm | exact (vec_ren (π := id) hpv).2)
        · repeat' (first | exact trivial | exact And.intro rfl trivial | refine And.intro ?_ ?_ | rfl | exact Nat.le_of_ble_eq_true rfl | exact congrArg some (vec_ren (m := 0) hpv).1.symm | exact (vec_ren (π := id) hpv).2)
      have e1 : (l[i].host != h) = true := by simpa using k1
      refine AWP.seq' ?_
      refine AWP.reg' fun K hK => ?_
      try simp only [stepS, stepD, stepM, eq_self, implies_true, forall_eq_or_imp, forall_eq, Nat.reduceEqDiff, ↓reduceIte, Nat.reduceAdd, Nat.reduceLeDiff, Nat.reduceSub, Nat.reduceMul, Nat.reduceLT, Int.reduceBEq, Int.reduceBNe, Int.reduceToNat, Int.reduceLT, Int.reduceLE, Int.reduceAdd, Int.reduceSub, Int.reduceMul, reduceCtorEq, e1]
      refine hK _ _ _ ?_
      clear hK K
      refine AWP.cond (b := true) rfl (fun c => ?_) (fun c => by cases c)
      refine AWP.reg' fun K hK => ?_
      try simp only [stepS, stepD, stepM, eq_self, implies_true, forall_eq_or_imp, forall_eq, Nat.reduceEqDiff, ↓reduceIte, Nat.reduceAdd, Nat.reduceLeDiff, Nat.reduceSub, Nat.reduceMul, Nat.reduceLT, Int.reduceBEq, Int.reduceBNe, Int.reduceToNat, Int.reduceLT, Int.reduceLE, Int.reduceAdd, Int.reduceSub, Int.reduceMul, reduceCtorEq]
      refine evT_lit ?_
      try simp only [stepS, stepD, stepM, eq_self, implies_true, forall_eq_or_imp, forall_eq, Nat.reduceEqDiff, ↓reduceIte, Nat.reduceAdd, Nat.reduceLeDiff, Nat.reduceSub, Nat.reduceMul, Nat.reduceLT, Int.reduceBEq, Int.reduceBNe, Int.reduceToNat, Int.reduceLT, Int.reduceLE, Int.reduceAdd, Int.reduceSub, Int.reduceMul, reduceCtorEq, appendA, srcA, he]
      repeat (refine And.intro (by omega) ?_)
      refine hK _ _ _ ?_
      clear hK K
      refine AWP.reg' fun K hK => ?_
      try simp only [stepS, stepD, stepM, eq_self, implies_true, forall_eq_or_imp, forall_eq, Nat.reduceEqDiff, ↓reduceIte, Nat.reduceAdd, Nat.reduceLeDiff, Nat.reduceSub, Nat.reduceMul, Nat.reduceLT, Int.reduceBEq, Int.reduceBNe, Int.reduceToNat, Int.reduceLT, Int.reduceLE, Int.reduceAdd, Int.reduceSub, Int.reduceMul, reduceCtorEq, w]
      refine hK _ _ _ ?_
      clear hK K
      refine ⟨i + 1, hi, by omega, ?_⟩
      refine Weak.nf [0, 1, 307] _ _ ?_ ?_ ⟨rfl, rfl⟩ (by decide) (by decide) (by decide)
      · repeat' (first | exact trivial | exact And.intro rfl trivial | refine And.intro ?_ ?_ | rfl | exact Nat.le_of_ble_eq_true rfl | exact congrArg some (vec_ren (m := 0) hpv).1.symm | exact (vec_ren (π := id) hpv).2)
      · repeat' (first | exact trivial | exact And.intro rfl trivial | refine And.intro ?_ ?_ | rfl | exact Nat.le_of_ble_eq_true rfl | exact congrArg some (vec_ren (m := 0) hpv).1.symm | exact (vec_ren (π := id) hpv).2)
    have e : (l.take (i + 1)).filter (other h g) = (l.take i).filter (other h g) := by rw [htk, List.filter_append]; simp [ho]
    rw [e] at hpv
    have hk : l[i].host = h ∧ l[i].group = g := by rw [other_iff] at ho; omega
    have e1 : (l[i].host != h) = false := by simpa using hk.1
    have e2 : (l[i].group != g) = false := by simpa using hk.2
    refine AWP.seq' ?_
    refine AWP.reg' fun K hK => ?_
    try simp only [stepS, stepD, stepM, eq_self, implies_true, forall_eq_or_imp, forall_eq, Nat.reduceEqDiff, ↓reduceIte, Nat.reduceAdd, Nat.reduceLeDiff, Nat.reduceSub, Nat.reduceMul, Nat.reduceLT, Int.reduceBEq, Int.reduceBNe, Int.reduceToNat, Int.reduceLT, Int.reduceLE, Int.reduceAdd, Int.reduceSub, Int.reduceMul, reduceCtorEq, e1, e2]
    refine hK _ _ _ ?_
    clear hK K
    refine AWP.cond (b := false) rfl (fun c => by cases c) (fun c => ?_)
    refine AWP.skip ?_
    refine AWP.reg' fun K hK => ?_
    try simp only [stepS, stepD, stepM, eq_self, implies_true, forall_eq_or_imp, forall_eq, Nat.reduceEqDiff, ↓reduceIte, Nat.reduceAdd, Nat.reduceLeDiff, Nat.reduceSub, Nat.reduceMul, Nat.reduceLT, Int.reduceBEq, Int.reduceBNe, Int.reduceToNat, Int.reduceLT, Int.reduceLE, Int.reduceAdd, Int.reduceSub, Int.reduceMul, reduceCtorEq, w]
    refine hK _ _ _ ?_
    clear hK K
    refine ⟨i + 1, hi, by omega, ?_⟩
    rw [e]
    refine Weak.nf [0, 1, 2] _ _ ?_ ?_ ⟨rfl, rfl⟩ (by decide) (by decide) (by decide)
    · repeat' (first | exact trivial | exact And.intro rfl trivial | refine And.intro ?_ ?_ | rfl | exact Nat.le_of_ble_eq_true rfl | exact congrArg some (vec_ren (m := 0) hpv).1.symm | exact (vec_ren (π := id) hpv).2)
    · repeat' (first | exact trivial | exact And.intro rfl trivial | refine And.intro ?_ ?_ | rfl | exact Nat.le_of_ble_eq_true rfl | exact congrArg some (vec_ren (m := 0) hpv).1.symm | exact (vec_ren (π := id) hpv).2)
  have hi : ¬ i < l.length := by have := of_decide_eq_false hc; omega
  have hpv := pureL_mems (l.filter (other h g))
  rw [List.take_of_length_le (by omega)]
  refine AWP.exit ?_
  repeat (first
    | refine AWP.seq' ?_
    | refine AWP.skip ?_
    | (refine AWP.reg' fun K hK => ?_; simp only [stepS, stepD, stepM, eq_self, implies_true, forall_eq_or_imp, forall_eq, Nat.reduceEqDiff, ↓reduceIte, Nat.reduceAdd, Nat.reduceLeDiff, Nat.reduceSub, Nat.reduceMul, Nat.reduceLT, Int.reduceBEq, Int.reduceBNe, Int.reduceToNat, Int.reduceLT, Int.reduceLE, Int.reduceAdd, Int.reduceSub, Int.reduceMul, reduceCtorEq]; (repeat (refine And.intro (by omega) ?_)); refine hK _ _ _ ?_; clear hK K))
  refine AWP.weak (Weak.giveB 0 1 2 rfl rfl rfl hpv) ?_
  exact AWP.ret (finP_ret rfl rfl ⟨trivial, trivial, trivial⟩)

theorem ins_lt {α : Type} {l : List α} {q : Nat} {x : α} {i : Nat} (h : i < q) (hq : q ≤ l.length) : (insAt l q x)[i]? = l[i]? := by
  unfold insAt
  rw [List.append_assoc, List.getElem?_append_left (by simp; omega), List.getElem?_take_of_lt h]
theorem ins_eq {α : Type} {l : List α} {q : Nat} {x : α} (hq : q ≤ l.length) : (insAt l q x)[q]? = some x := by
  unfold insAt
  have e : (l.take q).length = q := by simp; omega
  rw [List.append_assoc, List.getElem?_append_right (by omega), e]
  simp
theorem ins_gt {α : Type} {l : List α} {q : Nat} {x : α} {i : Nat} (h : q ≤ i) (hq : q ≤ l.length) : (insAt l q x)[i + 1]? = l[i]? := by
  unfold insAt
  have e : (l.take q ++ [x]).length = q + 1 := by simp; omega
  rw [List.getElem?_append_right (by omega), e, List.getElem?_drop]
  congr 1; omega

theorem with_spec (now : Int) (l : List Mem) (x : Mem) (hl : l.length ≤ 1000000) : PSpec Try.prog 65 [memsV now l, x.v] (memsV now (insM l x)) := by
  have hml := maxLen_eq
  have hq := posM_le l x.group x.host
  have hlo : ∀ j, (hj : j < l.length) → j < posM l x.group x.host → ltM l[j] x.group x.host := posM_lo
  have hhi : (hj : posM l x.group x.host < l.length) → ¬ ltM l[posM l x.group x.host] x.group x.host := fun hj => by
    have := List.findIdx_getElem (p := fun y => !decide (ltM y x.group x.host)) (xs := l) (w := hj)
    rw [Bool.not_eq_true'] at this
    exact of_decide_eq_false this
  have hI : insM l x = insAt l (posM l x.group x.host) x := rfl
  rw [hI]
  generalize posM l x.group x.host = q at hq hlo hhi
  have hil : (insAt l q x).length = l.length + 1 := by unfold insAt; simp; omega
  refine PSpec.walk Try.func65 cf65_ok (by simp [cf65]) ⟨trivial, trivial, trivial⟩ ?_
  unfold cf65
  simp only [initT, memsV, mems]
  refine AWP.seq' ?_
  refine AWP.reg' fun K hK => ?_
  try simp only [stepS, stepD, stepM, eq_self, implies_true, forall_eq_or_imp, forall_eq, Nat.reduceEqDiff, ↓reduceIte, Nat.reduceAdd, Nat.reduceLeDiff, Nat.reduceSub, Nat.reduceMul, Nat.reduceLT, Int.reduceBEq, Int.reduceBNe, Int.reduceToNat, Int.reduceLT, Int.reduceLE, Int.reduceAdd, Int.reduceSub, Int.reduceMul, reduceCtorEq, Mem.v, ints]
  refine hK _ _ _ ?_
  clear hK K
  refine AWP.seq' ?_
  refine AWP.reg' fun K hK => ?_
  try simp only [stepS, stepD, stepM, eq_self, implies_true, forall_eq_or_imp, forall_eq, Nat.reduceEqDiff, ↓reduceIte, Nat.reduceAdd, Nat.reduceLeDiff, Nat.reduceSub, Nat.reduceMul, Nat.reduceLT, Int.reduceBEq, Int.reduceBNe, Int.reduceToNat, Int.reduceLT, Int.reduceLE, Int.reduceAdd, Int.reduceSub, Int.reduceMul, reduceCtorEq]
  refine hK _ _ _ ?_
  clear hK K
  refine AWP.seq' ?_
  refine AWP.reg' fun K hK => ?_
  try simp only [stepS, stepD, stepM, eq_self, implies_true, forall_eq_or_imp, forall_eq, Nat.reduceEqDiff, ↓reduceIte, Nat.reduceAdd, Nat.reduceLeDiff, Nat.reduceSub, Nat.reduceMul, Nat.reduceLT, Int.reduceBEq, Int.reduceBNe, Int.reduceToNat, Int.reduceLT, Int.reduceLE, Int.reduceAdd, Int.reduceSub, Int.reduceMul, reduceCtorEq]
  refine hK _ _ _ ?_
  clear hK K
  refine AWP.seqW ⟨resT [(3, .ref 0 0), (4, .ref 1 0), (5, .ref 2 0), (6, .bool (decide (q < l.length)))],
      hpL 0 [some (.box (.agg [.int x.host, .int x.group, .int x.mode, .sl 1 (x.srcs.map .int) false, .int x.till])), some (.box (.agg [.int 0, .sl 0 [] true])), some (.box (.agg [.int now, .vec 3])), some (.vec 5 (((insAt l q x).take (l.length + if q < l.length then 1 else 0)).map Mem.v))], 4⟩ ?_ ?_
  · refine AWP.seq' ?_
    refine AWP.reg' fun K hK => ?_
    try simp only [stepS, stepD, stepM, eq_self, implies_true, forall_eq_or_imp, forall_eq, Nat.reduceEqDiff, ↓reduceIte, Nat.reduceAdd, Nat.reduceLeDiff, Nat.reduceSub, Nat.reduceMul, Nat.reduceLT, Int.reduceBEq, Int.reduceBNe, Int.reduceToNat, Int.reduceLT, Int.reduceLE, Int.reduceAdd, Int.reduceSub, Int.reduceMul, reduceCtorEq]
    refine hK _ _ _ ?_
    clear hK K
    refine AWP.weak (Weak.nilvecB 96 1 0 5 [.int now, .sl 0 [] true] rfl rfl (by omega)) ?_
    refine AWP.block ?_
    refine AWP.loopS (fun i => ⟨resT [(3, .ref 0 0), (4, .ref 1 0), (5, .ref 2 0), (6, .bool (decide (q < i))), (13, .sl 5 (l.map Mem.v) false), (14, .int l.length), (15, .int (i : Nat))],
        hpL 0 [some (.box (.agg [.int x.host, .int x.group, .int x.mode, .sl 1 (x.srcs.map .int) false, .int x.till])), some (.box (.agg [.int 0, .sl 0 [] true])), some (.box (.agg [.int now, .vec 3])), some (.vec 5 (((insAt l q x).take (i + if q < i then 1 else 0)).map Mem.v))], 4⟩)
      (fun i => i ≤ l.length) (fun i => l.length - i) (i0 := 0) (Nat.zero_le _) ?_ ?_
    · have e0 : (insAt l q x).take (0 + if q < 0 then 1 else 0) = [] := by simp
      rw [e0]
      refine Weak.nf [16, 32, 96, 208] _ _ ?_ ?_ ⟨rfl, rfl⟩ (by decide) (by decide) (by decide)
      · repeat' (first | exact trivial | exact And.intro rfl trivial | refine And.intro ?_ ?_ | rfl | exact Nat.le_of_ble_eq_true rfl)
      · repeat' (first | exact trivial | exact And.intro rfl trivial | refine And.intro ?_ ?_ | rfl | exact Nat.le_of_ble_eq_true rfl)
    intro i h1
    have hfl : ∀ n, ((insAt l q x).take n).length ≤ 1000001 := fun n => by simp; omega
    repeat (first
      | refine AWP.seq' ?_
      | refine AWP.skip ?_
      | (refine AWP.reg' fun K hK => ?_; simp only [stepS, stepD, stepM, eq_self, implies_true, forall_eq_or_imp, forall_eq, Nat.reduceEqDiff, ↓reduceIte, Nat.reduceAdd, Nat.reduceLeDiff, Nat.reduceSub, Nat.reduceMul, Nat.reduceLT, Int.reduceBEq, Int.reduceBNe, Int.reduceToNat, Int.reduceLT, Int.reduceLE, Int.reduceAdd, Int.reduceSub, Int.reduceMul, reduceCtorEq]; (repeat (refine And.intro (by omega) ?_)); refine hK _ _ _ ?_; clear hK K))
    refine AWP.cond (b := decide ((i : Int) < l.length)) rfl (fun hc => ?_) (fun hc => ?_)
    case refine_2 =>
      have hi : i = l.length := by have := of_decide_eq_false hc; omega
      subst hi
      have hpv := pureL_mems ((insAt l q x).take (l.length + if q < l.length then 1 else 0))
      refine AWP.exit ?_
      refine Weak.nf [0, 1, 2, 3] _ _ ?_ ?_ ⟨rfl, rfl⟩ (by decide) (by decide) (by decide)
      · repeat' (first | exact trivial | exact And.intro rfl trivial | refine And.intro ?_ ?_ | rfl | exact Nat.le_of_ble_eq_true rfl | exact congrArg some (vec_ren (m := 0) hpv).1.symm | exact (vec_ren (π := id) hpv).2)
      · repeat' (first | exact trivial | exact And.intro rfl trivial | refine And.intro ?_ ?_ | rfl | exact Nat.le_of_ble_eq_true rfl | exact congrArg some (vec_ren (m := 0) hpv).1.symm | exact (vec_ren (π := id) hpv).2)
    have hi : i < l.length := by have := of_decide_eq_true hc; omega
    have w : IntKind.i64.wrap ((i : Int) + 1) = ((i + 1 : Nat) : Int) := wrapN (by omega) (by omega)
    refine AWP.skip ?_
    refine AWP.seq' ?_
    refine AWP.block ?_
    refine AWP.seq' ?_
    refine AWP.reg' fun K hK => ?_
    try simp only [stepS, stepD, stepM, eq_self, implies_true, forall_eq_or_imp, forall_eq, Nat.reduceEqDiff, ↓reduceIte, Nat.reduceAdd, Nat.reduceLeDiff, Nat.reduceSub, Nat.reduceMul, Nat.reduceLT, Int.reduceBEq, Int.reduceBNe, Int.reduceToNat, Int.reduceLT, Int.reduceLE, Int.reduceAdd, Int.reduceSub, Int.reduceMul, reduceCtorEq, getD_mems hi]
    repeat (refine And.intro (by omega) ?_)
    refine hK _ _ _ ?_
    clear hK K
    have hpv := pureL_mems ((insAt l q x).take (i + 1 + if q < i + 1 then 1 else 0))
    by_cases hd : q < i
    · have ed : decide (q < i) = true := decide_eq_true hd
      have ed2 : decide (q < i + 1) = true := decide_eq_true (by omega)
      rw [if_pos (show q < i + 1 by omega)] at hpv
      have hlen := hfl (i + 1)
      have he : ((insAt l q x).take (i + 1)).map Mem.v ++ [AV.agg [.int l[i].host, .int l[i].group, .int l[i].mode, .sl 1 (l[i].srcs.map .int) false, .int l[i].till]] = ((insAt l q x).take (i + 1 + 1)).map Mem.v := by
        rw [List.take_add_one (i := i + 1), ins_gt (by omega) hq, List.getElem?_eq_getElem hi, List.map_append]; rfl
      rw [if_pos hd]
      refine AWP.seq' (AWP.seq' ?_)
      refine AWP.reg' fun K hK => ?_
      try simp only [stepS, stepD, stepM, eq_self, implies_true, forall_eq_or_imp, forall_eq, Nat.reduceEqDiff, ↓reduceIte, Nat.reduceAdd, Nat.reduceLeDiff, Nat.reduceSub, Nat.reduceMul, Nat.reduceLT, Int.reduceBEq, Int.reduceBNe, Int.reduceToNat, Int.reduceLT, Int.reduceLE, Int.reduceAdd, Int.reduceSub, Int.reduceMul, reduceCtorEq, ed]
      refine hK _ _ _ ?_
      clear hK K
      refine AWP.cond (b := false) rfl (fun c => by cases c) (fun c => ?_)
      refine AWP.skip ?_
      refine AWP.reg' fun K hK => ?_
      try simp only [stepS, stepD, stepM, eq_self, implies_true, forall_eq_or_imp, forall_eq, Nat.reduceEqDiff, ↓reduceIte, Nat.reduceAdd, Nat.reduceLeDiff, Nat.reduceSub, Nat.reduceMul, Nat.reduceLT, Int.reduceBEq, Int.reduceBNe, Int.reduceToNat, Int.reduceLT, Int.reduceLE, Int.reduceAdd, Int.reduceSub, Int.reduceMul, reduceCtorEq]
      refine evT_lit ?_
      try simp only [stepS, stepD, stepM, eq_self, implies_true, forall_eq_or_imp, forall_eq, Nat.reduceEqDiff, ↓reduceIte, Nat.reduceAdd, Nat.reduceLeDiff, Nat.reduceSub, Nat.reduceMul, Nat.reduceLT, Int.reduceBEq, Int.reduceBNe, Int.reduceToNat, Int.reduceLT, Int.reduceLE, Int.reduceAdd, Int.reduceSub, Int.reduceMul, reduceCtorEq, appendA, srcA, he]
      repeat (refine And.intro (by omega) ?_)
      refine hK _ _ _ ?_
      clear hK K
      refine AWP.reg' fun K hK => ?_
      try simp only [stepS, stepD, stepM, eq_self, implies_true, forall_eq_or_imp, forall_eq, Nat.reduceEqDiff, ↓reduceIte, Nat.reduceAdd, Nat.reduceLeDiff, Nat.reduceSub, Nat.reduceMul, Nat.reduceLT, Int.reduceBEq, Int.reduceBNe, Int.reduceToNat, Int.reduceLT, Int.reduceLE, Int.reduceAdd, Int.reduceSub, Int.reduceMul, reduceCtorEq, w]
      refine hK _ _ _ ?_
      clear hK K
      refine ⟨i + 1, hi, by omega, ?_⟩
      rw [if_pos (show q < i + 1 by omega), ed2]
      refine Weak.nf [0, 1, 2, 324] _ _ ?_ ?_ ⟨rfl, rfl⟩ (by decide) (by decide) (by decide)
      · repeat' (first | exact trivial | exact And.intro rfl trivial | refine And.intro ?_ ?_ | rfl | exact Nat.le_of_ble_eq_true rfl | exact congrArg some (vec_ren (m := 0) hpv).1.symm | exact (vec_ren (π := id) hpv).2)
      · repeat' (first | exact trivial | exact And.intro rfl trivial | refine And.intro ?_ ?_ | rfl | exact Nat.le_of_ble_eq_true rfl | exact congrArg some (vec_ren (m := 0) hpv).1.symm | exact (vec_ren (π := id) hpv).2)
    have ed : decide (q < i) = false := decide_eq_false hd
    by_cases hb : ltM l[i] x.group x.host
    · have hiq : i < q := by
        refine Classical.byContradiction fun e => ?_
        have : i = q := by omega
        subst this
        exact hhi hi hb
      have eb : decide (ltM l[i] x.group x.host) = true := decide_eq_true hb
      have ed2 : decide (q < i + 1) = false := decide_eq_false (by omega)
      have hlen := hfl i
      rw [if_neg (show ¬ q < i + 1 by omega)] at hpv
      have he : ((insAt l q x).take i).map Mem.v ++ [AV.agg [.int l[i].host, .int l[i].group, .int l[i].mode, .sl 1 (l[i].srcs.map .int) false, .int l[i].till]] = ((insAt l q x).take (i + 1)).map Mem.v := by
        rw [List.take_add_one (i := i), ins_lt hiq hq, List.getElem?_eq_getElem hi, List.map_append]; rfl
      rw [if_neg hd]
      refine AWP.seq' (AWP.seq' ?_)
      refine AWP.reg' fun K hK => ?_
      try simp only [stepS, stepD, stepM, eq_self, implies_true, forall_eq_or_imp, forall_eq, Nat.reduceEqDiff, ↓reduceIte, Nat.reduceAdd, Nat.reduceLeDiff, Nat.reduceSub, Nat.reduceMul, Nat.reduceLT, Int.reduceBEq, Int.reduceBNe, Int.reduceToNat, Int.reduceLT, Int.reduceLE, Int.reduceAdd, Int.reduceSub, Int.reduceMul, reduceCtorEq, ed]
      refine evT_pure (before_spec l[i] x.group x.host) before_fn rfl (by rfl) (by repeat' (first | exact trivial | assumption | refine And.intro ?_ ?_)) ?_
      try simp only [stepS, stepD, stepM, eq_self, implies_true, forall_eq_or_imp, forall_eq, Nat.reduceEqDiff, ↓reduceIte, Nat.reduceAdd, Nat.reduceLeDiff, Nat.reduceSub, Nat.reduceMul, Nat.reduceLT, Int.reduceBEq, Int.reduceBNe, Int.reduceToNat, Int.reduceLT, Int.reduceLE, Int.reduceAdd, Int.reduceSub, Int.reduceMul, reduceCtorEq, eb]
      refine hK _ _ _ ?_
      clear hK K
      refine AWP.cond (b := false) rfl (fun c => by cases c) (fun c => ?_)
      refine AWP.skip ?_
      refine AWP.reg' fun K hK => ?_
      try simp only [stepS, stepD, stepM, eq_self, implies_true, forall_eq_or_imp, forall_eq, Nat.reduceEqDiff, ↓reduceIte, Nat.reduceAdd, Nat.reduceLeDiff, Nat.reduceSub, Nat.reduceMul, Nat.reduceLT, Int.reduceBEq, Int.reduceBNe, Int.reduceToNat, Int.reduceLT, Int.reduceLE, Int.reduceAdd, Int.reduceSub, Int.reduceMul, reduceCtorEq]
      refine evT_lit ?_
      try simp only [stepS, stepD, stepM, eq_self, implies_true, forall_eq_or_imp, forall_eq, Nat.reduceEqDiff, ↓reduceIte, Nat.reduceAdd, Nat.reduceLeDiff, Nat.reduceSub, Nat.reduceMul, Nat.reduceLT, Int.reduceBEq, Int.reduceBNe, Int.reduceToNat, Int.reduceLT, Int.reduceLE, Int.reduceAdd, Int.reduceSub, Int.reduceMul, reduceCtorEq, appendA, srcA, he]
      repeat (refine And.intro (by omega) ?_)
      refine hK _ _ _ ?_
      clear hK K
      refine AWP.reg' fun K hK => ?_
      try simp only [stepS, stepD, stepM, eq_self, implies_true, forall_eq_or_imp, forall_eq, Nat.reduceEqDiff, ↓reduceIte, Nat.reduceAdd, Nat.reduceLeDiff, Nat.reduceSub, Nat.reduceMul, Nat.reduceLT, Int.reduceBEq, Int.reduceBNe, Int.reduceToNat, Int.reduceLT, Int.reduceLE, Int.reduceAdd, Int.reduceSub, Int.reduceMul, reduceCtorEq, w]
      refine hK _ _ _ ?_
      clear hK K
      refine ⟨i + 1, hi, by omega, ?_⟩
      rw [if_neg (show ¬ q < i + 1 by omega), ed2]
      refine Weak.nf [0, 1, 2, 324] _ _ ?_ ?_ ⟨rfl, rfl⟩ (by decide) (by decide) (by decide)
      · repeat' (first | exact trivial | exact And.intro rfl trivial | refine And.intro ?_ ?_ | rfl | exact Nat.le_of_ble_eq_true rfl | exact congrArg some (vec_ren (m := 0) hpv).1.symm | exact (vec_ren (π := id) hpv).2)
      · repeat' (first | exact trivial | exact And.intro rfl trivial | refine And.intro ?_ ?_ | rfl | exact Nat.le_of_ble_eq_true rfl | exact congrArg some (vec_ren (m := 0) hpv).1.symm | exact (vec_ren (π := id) hpv).2)
    have hiq : i = q := Classical.byContradiction fun e => hb (hlo i hi (by omega))
    subst hiq
    have eb : decide (ltM l[i] x.group x.host) = false := decide_eq_false hb
    have ed2 : decide (i < i + 1) = true := decide_eq_true (by omega)
    have hlen := hfl i
    have hlen2 := hfl (i + 1)
    rw [if_pos (show i < i + 1 by omega)] at hpv
    have he : ((insAt l i x).take i).map Mem.v ++ [AV.agg [.int x.host, .int x.group, .int x.mode, .sl 1 (x.srcs.map .int) false, .int x.till]] = ((insAt l i x).take (i + 1)).map Mem.v := by
      rw [List.take_add_one (i := i), ins_eq hq, List.map_append]; rfl
    have he2 : ((insAt l i x).take (i + 1)).map Mem.v ++ [AV.agg [.int l[i].host, .int l[i].group, .int l[i].mode, .sl 1 (l[i].srcs.map .int) false, .int l[i].till]] = ((insAt l i x).take (i + 1 + 1)).map Mem.v := by
      rw [List.take_add_one (i := i + 1), ins_gt (Nat.le_refl _) hq, List.getElem?_eq_getElem hi, List.map_append]; rfl
    rw [if_neg hd]
    refine AWP.seq' (AWP.seq' ?_)
    refine AWP.reg' fun K hK => ?_
    try simp only [stepS, stepD, stepM, eq_self, implies_true, forall_eq_or_imp, forall_eq, Nat.reduceEqDiff, ↓reduceIte, Nat.reduceAdd, Nat.reduceLeDiff, Nat.reduceSub, Nat.reduceMul, Nat.reduceLT, Int.reduceBEq, Int.reduceBNe, Int.reduceToNat, Int.reduceLT, Int.reduceLE, Int.reduceAdd, Int.reduceSub, Int.reduceMul, reduceCtorEq, ed]
    refine evT_pure (before_spec l[i] x.group x.host) before_fn rfl (by rfl) (by repeat' (first | exact trivial | assumption | refine And.intro ?_ ?_)) ?_
    try simp only [stepS, stepD, stepM, eq_self, implies_true, forall_eq_or_imp, forall_eq, Nat.reduceEqDiff, ↓reduceIte, Nat.reduceAdd, Nat.reduceLeDiff, Nat.reduceSub, Nat.reduceMul, Nat.reduceLT, Int.reduceBEq, Int.reduceBNe, Int.reduceToNat, Int.reduceLT, Int.reduceLE, Int.reduceAdd, Int.reduceSub, Int.reduceMul, reduceCtorEq, eb]
    refine hK _ _ _ ?_
    clear hK K
    refine AWP.cond (b := true) rfl (fun c => ?_) (fun c => by cases c)
    refine AWP.seq' ?_
    refine AWP.reg' fun K hK => ?_
    try simp only [stepS, stepD, stepM, eq_self, implies_true, forall_eq_or_imp, forall_eq, Nat.reduceEqDiff, ↓reduceIte, Nat.reduceAdd, Nat.reduceLeDiff, Nat.reduceSub, Nat.reduceMul, Nat.reduceLT, Int.reduceBEq, Int.reduceBNe, Int.reduceToNat, Int.reduceLT, Int.reduceLE, Int.reduceAdd, Int.reduceSub, Int.reduceMul, reduceCtorEq]
    refine evT_lit ?_
    try simp only [stepS, stepD, stepM, eq_self, implies_true, forall_eq_or_imp, forall_eq, Nat.reduceEqDiff, ↓reduceIte, Nat.reduceAdd, Nat.reduceLeDiff, Nat.reduceSub, Nat.reduceMul, Nat.reduceLT, Int.reduceBEq, Int.reduceBNe, Int.reduceToNat, Int.reduceLT, Int.reduceLE, Int.reduceAdd, Int.reduceSub, Int.reduceMul, reduceCtorEq, appendA, srcA, he]
    repeat (refine And.intro (by omega) ?_)
    refine hK _ _ _ ?_
    clear hK K
    refine AWP.reg' fun K hK => ?_
    try simp only [stepS, stepD, stepM, eq_self, implies_true, forall_eq_or_imp, forall_eq, Nat.reduceEqDiff, ↓reduceIte, Nat.reduceAdd, Nat.reduceLeDiff, Nat.reduceSub, Nat.reduceMul, Nat.reduceLT, Int.reduceBEq, Int.reduceBNe, Int.reduceToNat, Int.reduceLT, Int.reduceLE, Int.reduceAdd, Int.reduceSub, Int.reduceMul, reduceCtorEq]
    refine hK _ _ _ ?_
    clear hK K
    refine AWP.reg' fun K hK => ?_
    try simp only [stepS, stepD, stepM, eq_self, implies_true, forall_eq_or_imp, forall_eq, Nat.reduceEqDiff, ↓reduceIte, Nat.reduceAdd, Nat.reduceLeDiff, Nat.reduceSub, Nat.reduceMul, Nat.reduceLT, Int.reduceBEq, Int.reduceBNe, Int.reduceToNat, Int.reduceLT, Int.reduceLE, Int.reduceAdd, Int.reduceSub, Int.reduceMul, reduceCtorEq]
    refine evT_lit ?_
    try simp only [stepS, stepD, stepM, eq_self, implies_true, forall_eq_or_imp, forall_eq, Nat.reduceEqDiff, ↓reduceIte, Nat.reduceAdd, Nat.reduceLeDiff, Nat.reduceSub, Nat.reduceMul, Nat.reduceLT, Int.reduceBEq, Int.reduceBNe, Int.reduceToNat, Int.reduceLT, Int.reduceLE, Int.reduceAdd, Int.reduceSub, Int.reduceMul, reduceCtorEq, appendA, srcA, he2]
    repeat (refine And.intro (by omega) ?_)
    refine hK _ _ _ ?_
    clear hK K
    refine AWP.reg' fun K hK => ?_
    try simp only [stepS, stepD, stepM, eq_self, implies_true, forall_eq_or_imp, forall_eq, Nat.reduceEqDiff, ↓reduceIte, Nat.reduceAdd, Nat.reduceLeDiff, Nat.reduceSub, Nat.reduceMul, Nat.reduceLT, Int.reduceBEq, Int.reduceBNe, Int.reduceToNat, Int.reduceLT, Int.reduceLE, Int.reduceAdd, Int.reduceSub, Int.reduceMul, reduceCtorEq, w]
    refine hK _ _ _ ?_
    clear hK K
    refine ⟨i + 1, hi, by omega, ?_⟩
    rw [if_pos (show i < i + 1 by omega), ed2]
    refine Weak.nf [0, 1, 2, 452] _ _ ?_ ?_ ⟨rfl, rfl⟩ (by decide) (by decide) (by decide)
    · repeat' (first | exact trivial | exact And.intro rfl trivial | refine And.intro ?_ ?_ | rfl | exact Nat.le_of_ble_eq_true rfl | exact congrArg some (vec_ren (m := 0) hpv).1.symm | exact (vec_ren (π := id) hpv).2)
    · repeat' (first | exact trivial | exact And.intro rfl trivial | refine And.intro ?_ ?_ | rfl | exact Nat.le_of_ble_eq_true rfl | exact congrArg some (vec_ren (m := 0) hpv).1.symm | exact (vec_ren (π := id) hpv).2)
  have hpv := pureL_mems (insAt l q x)
  refine AWP.seqW ⟨resT [(4, .ref 0 0), (5, .ref 1 0)], hpL 0 [some (.box (.agg [.int 0, .sl 0 [] true])), some (.box (.agg [.int now, .vec 2])), some (.vec 5 ((insAt l q x).map Mem.v))], 3⟩ ?_ ?_
  · refine AWP.seq' ?_
    by_cases hn : q < l.length
    · have e1 : decide (q < l.length) = true := decide_eq_true hn
      rw [if_pos hn, List.take_of_length_le (by omega)]
      refine AWP.reg' fun K hK => ?_
      try simp only [stepS, stepD, stepM, eq_self, implies_true, forall_eq_or_imp, forall_eq, Nat.reduceEqDiff, ↓reduceIte, Nat.reduceAdd, Nat.reduceLeDiff, Nat.reduceSub, Nat.reduceMul, Nat.reduceLT, Int.reduceBEq, Int.reduceBNe, Int.reduceToNat, Int.reduceLT, Int.reduceLE, Int.reduceAdd, Int.reduceSub, Int.reduceMul, reduceCtorEq, e1]
      refine hK _ _ _ ?_
      clear hK K
      refine AWP.cond (b := false) rfl (fun c => by cases c) (fun c => ?_)
      refine AWP.skip ?_
      refine Weak.nf [1, 2, 3] _ _ ?_ ?_ ⟨rfl, rfl⟩ (by decide) (by decide) (by decide)
      · repeat' (first | exact trivial | exact And.intro rfl trivial | refine And.intro ?_ ?_ | rfl | exact Nat.le_of_ble_eq_true rfl | exact congrArg some (vec_ren (m := 0) hpv).1.symm | exact (vec_ren (π := id) hpv).2)
      · repeat' (first | exact trivial | exact And.intro rfl trivial | refine And.intro ?_ ?_ | rfl | exact Nat.le_of_ble_eq_true rfl | exact congrArg some (vec_ren (m := 0) hpv).1.symm | exact (vec_ren (π := id) hpv).2)
    have e1 : decide (q < l.length) = false := decide_eq_false hn
    have hqe : q = l.length := by omega
    subst hqe
    rw [if_neg hn]
    have he : ((insAt l l.length x).take l.length).map Mem.v ++ [AV.agg [.int x.host, .int x.group, .int x.mode, .sl 1 (x.srcs.map .int) false, .int x.till]] = (insAt l l.length x).map Mem.v := by
      simp [insAt]; rfl
    have hlen : ((insAt l l.length x).take l.length).length = l.length := by simp [insAt]
    refine AWP.reg' fun K hK => ?_
    try simp only [stepS, stepD, stepM, eq_self, implies_true, forall_eq_or_imp, forall_eq, Nat.reduceEqDiff, ↓reduceIte, Nat.reduceAdd, Nat.reduceLeDiff, Nat.reduceSub, Nat.reduceMul, Nat.reduceLT, Int.reduceBEq, Int.reduceBNe, Int.reduceToNat, Int.reduceLT, Int.reduceLE, Int.reduceAdd, Int.reduceSub, Int.reduceMul, reduceCtorEq, e1]
    refine hK _ _ _ ?_
    clear hK K
    refine AWP.cond (b := true) rfl (fun c => ?_) (fun c => by cases c)
    refine AWP.reg' fun K hK => ?_
    try simp only [stepS, stepD, stepM, eq_self, implies_true, forall_eq_or_imp, forall_eq, Nat.reduceEqDiff, ↓reduceIte, Nat.reduceAdd, Nat.reduceLeDiff, Nat.reduceSub, Nat.reduceMul, Nat.reduceLT, Int.reduceBEq, Int.reduceBNe, Int.reduceToNat, Int.reduceLT, Int.reduceLE, Int.reduceAdd, Int.reduceSub, Int.reduceMul, reduceCtorEq]
    refine evT_lit ?_
    try simp only [stepS, stepD, stepM, eq_self, implies_true, forall_eq_or_imp, forall_eq, Nat.reduceEqDiff, ↓reduceIte, Nat.reduceAdd, Nat.reduceLeDiff, Nat.reduceSub, Nat.reduceMul, Nat.reduceLT, Int.reduceBEq, Int.reduceBNe, Int.reduceToNat, Int.reduceLT, Int.reduceLE, Int.reduceAdd, Int.reduceSub, Int.reduceMul, reduceCtorEq, appendA, srcA, he, hlen]
    repeat (refine And.intro (by omega) ?_)
    refine hK _ _ _ ?_
    clear hK K
    refine Weak.nf [1, 2, 100] _ _ ?_ ?_ ⟨rfl, rfl⟩ (by decide) (by decide) (by decide)
    · repeat' (first | exact trivial | exact And.intro rfl trivial | refine And.intro ?_ ?_ | rfl | exact Nat.le_of_ble_eq_true rfl | exact congrArg some (vec_ren (m := 0) hpv).1.symm | exact (vec_ren (π := id) hpv).2)
    · repeat' (first | exact trivial | exact And.intro rfl trivial | refine And.intro ?_ ?_ | rfl | exact Nat.le_of_ble_eq_true rfl | exact congrArg some (vec_ren (m := 0) hpv).1.symm | exact (vec_ren (π := id) hpv).2)
  repeat (first
    | refine AWP.seq' ?_
    | refine AWP.skip ?_
    | (refine AWP.reg' fun K hK => ?_; simp only [stepS, stepD, stepM, eq_self, implies_true, forall_eq_or_imp, forall_eq, Nat.reduceEqDiff, ↓reduceIte, Nat.reduceAdd, Nat.reduceLeDiff, Nat.reduceSub, Nat.reduceMul, Nat.reduceLT, Int.reduceBEq, Int.reduceBNe, Int.reduceToNat, Int.reduceLT, Int.reduceLE, Int.reduceAdd, Int.reduceSub, Int.reduceMul, reduceCtorEq]; (repeat (refine And.intro (by omega) ?_)); refine hK _ _ _ ?_; clear hK K))
  refine AWP.weak (Weak.giveB 0 1 2 rfl rfl rfl hpv) ?_
  exact AWP.ret (finP_ret rfl rfl ⟨trivial, trivial, trivial⟩)
end Go.Proofs.Ytaboolnmkfenlaa
