/- Contract of the draw Bent. -/
import Derived.Test.YtaboolnmkfenlaaT2
namespace Go.Proofs.Ytaboolnmkfenlaa
open Go Go.Am
set_option linter.unusedVariables false
set_option linter.unusedSimpArgs false
theorem Bent_fn : FnOk Try.prog 56 := fn_ok Try.func56 (by kernel_rfl)
def bentFl (L : List Int) (p : Nat) (m : Int) (s : List Int) : (Int × List Int) × Nat :=
  if Mod (rawV L p) 4 = 0 then ((0 + Mod (rawV L (rawP L p)) (3 - 0 + 1), s), rawP L (rawP L p))
  else if Mod (rawV L p) 4 = 1 then ((m, s ++ [pickI [0, 1, 99, 100] (rawV L (rawP L p))]), rawP L (rawP L p))
  else if Mod (rawV L p) 4 = 2 then if 0 < s.length then ((m, s ++ [s.getD 0 0]), rawP L p) else ((m, s), rawP L p)
  else if 0 < s.length then ((m, s.set 0 (pickI [-1, 0, 100] (rawV L (rawP L p)))), rawP L (rawP L p)) else ((m, s), rawP L p)
theorem bentFl_pos {L : List Int} {p : Nat} (h : p ≤ L.length) (m : Int) (s : List Int) : (bentFl L p m s).2 ≤ L.length := by
  unfold bentFl
  repeat' split
  all_goals first | exact rawP_le (rawP_le h) | exact rawP_le h
theorem bentFl_len (L : List Int) (p : Nat) (m : Int) (s : List Int) : (bentFl L p m s).1.2.length ≤ s.length + 1 := by
  unfold bentFl
  repeat' split
  all_goals simp

theorem Bent_spec (L : List Int) (p : Nat) (m : Int) (s : List Int) (hp : p ≤ L.length) (hs : s.length ≤ 1000000) :
    HSpec Try.prog 56 [.ref 0 0, fltV m s] [.box (tp L p)] (fltV (bentFl L p m s).1.1 (bentFl L p m s).1.2) [some (.box (tp L (bentFl L p m s).2))] := by
  have hml := maxLen_eq
  have hc := Mod_range (x := rawV L p) (show (1 : Int) ≤ 4 by omega)
  have hr := rawP_le hp
  generalize hB : bentFl L p m s = R
  unfold bentFl at hB
  obtain ⟨⟨m', s'⟩, q⟩ := R
  have hps := pureL_ints s
  have hps' := pureL_ints s'
  refine HSpec.walk Try.func56 cf56_ok (by simp [cf56]) ?_
  unfold cf56
  simp only [initT, initH, List.length_cons, List.length_nil, fltV, ints]
  refine AWP.seq' ?_
  refine AWP.reg' fun K hK => ?_
  try simp only [stepS, stepD, stepM, eq_self, implies_true, forall_eq_or_imp, forall_eq, Nat.reduceEqDiff, ↓reduceIte, Nat.reduceAdd, Nat.reduceLeDiff, Nat.reduceSub, Nat.reduceMul, Nat.reduceLT, Int.reduceBEq, Int.reduceBNe, Int.reduceToNat, Int.reduceLT, Int.reduceLE, Int.reduceAdd, Int.reduceSub, Int.reduceMul, reduceCtorEq]
  refine hK _ _ _ ?_
  clear hK K
  refine AWP.seq' ?_
  refine AWP.dreg' fun K hK => ?_
  try simp only [stepS, stepD, stepM, eq_self, implies_true, forall_eq_or_imp, forall_eq, Nat.reduceEqDiff, ↓reduceIte, Nat.reduceAdd, Nat.reduceLeDiff, Nat.reduceSub, Nat.reduceMul, Nat.reduceLT, Int.reduceBEq, Int.reduceBNe, Int.reduceToNat, Int.reduceLT, Int.reduceLE, Int.reduceAdd, Int.reduceSub, Int.reduceMul, reduceCtorEq]
  refine evD_lit ?_
  try simp only [stepS, stepD, stepM, eq_self, implies_true, forall_eq_or_imp, forall_eq, Nat.reduceEqDiff, ↓reduceIte, Nat.reduceAdd, Nat.reduceLeDiff, Nat.reduceSub, Nat.reduceMul, Nat.reduceLT, Int.reduceBEq, Int.reduceBNe, Int.reduceToNat, Int.reduceLT, Int.reduceLE, Int.reduceAdd, Int.reduceSub, Int.reduceMul, reduceCtorEq, appendA, srcA]
  repeat (refine And.intro (by omega) ?_)
  refine ⟨by rfl, hK _ _ _ ?_⟩
  clear hK K
  refine AWP.seqW ⟨resT [(4, .ref 1 0), (5, .ref 2 0)], hpL 0 [some (.box (tp L q)), some (.box (.agg [.int 0, .sl 0 [] true])), some (.box (.agg [.int m', .vec 3])), some (.vec 1 (s'.map .int))], 4⟩ ?_ ?_
  · refine AWP.seq' ?_
    refine AWP.reg' fun K hK => ?_
    try simp only [stepS, stepD, stepM, eq_self, implies_true, forall_eq_or_imp, forall_eq, Nat.reduceEqDiff, ↓reduceIte, Nat.reduceAdd, Nat.reduceLeDiff, Nat.reduceSub, Nat.reduceMul, Nat.reduceLT, Int.reduceBEq, Int.reduceBNe, Int.reduceToNat, Int.reduceLT, Int.reduceLE, Int.reduceAdd, Int.reduceSub, Int.reduceMul, reduceCtorEq]
    refine evT_own (N_spec L p 4 hp) N_fn (by repeat' (first | exact trivial | assumption | refine And.intro ?_ ?_)) (tp_pure _ _) (tp_pure _ _) (by repeat' (first | exact trivial | assumption | refine And.intro ?_ ?_)) rfl (by rfl) (by rfl) ?_
    try simp only [stepS, stepD, stepM, eq_self, implies_true, forall_eq_or_imp, forall_eq, Nat.reduceEqDiff, ↓reduceIte, Nat.reduceAdd, Nat.reduceLeDiff, Nat.reduceSub, Nat.reduceMul, Nat.reduceLT, Int.reduceBEq, Int.reduceBNe, Int.reduceToNat, Int.reduceLT, Int.reduceLE, Int.reduceAdd, Int.reduceSub, Int.reduceMul, reduceCtorEq]
    refine hK _ _ _ ?_
    clear hK K
    refine AWP.block ?_
    refine AWP.seq' ?_
    refine AWP.reg' fun K hK => ?_
    try simp only [stepS, stepD, stepM, eq_self, implies_true, forall_eq_or_imp, forall_eq, Nat.reduceEqDiff, ↓reduceIte, Nat.reduceAdd, Nat.reduceLeDiff, Nat.reduceSub, Nat.reduceMul, Nat.reduceLT, Int.reduceBEq, Int.reduceBNe, Int.reduceToNat, Int.reduceLT, Int.reduceLE, Int.reduceAdd, Int.reduceSub, Int.reduceMul, reduceCtorEq]
    refine hK _ _ _ ?_
    clear hK K
    by_cases c0 : Mod (rawV L p) 4 = 0
    · rw [if_pos c0] at hB
      obtain ⟨e1, rfl⟩ := Prod.mk.inj hB.symm
      obtain ⟨rfl, rfl⟩ := Prod.mk.inj e1
      have e : (Mod (rawV L p) 4 == 0) = true := by rw [c0]; rfl
      refine AWP.cond (b := true) (congrArg AV.bool e) (fun c => ?_) (fun c => by cases c)
      refine AWP.reg' fun K hK => ?_
      try simp only [stepS, stepD, stepM, eq_self, implies_true, forall_eq_or_imp, forall_eq, Nat.reduceEqDiff, ↓reduceIte, Nat.reduceAdd, Nat.reduceLeDiff, Nat.reduceSub, Nat.reduceMul, Nat.reduceLT, Int.reduceBEq, Int.reduceBNe, Int.reduceToNat, Int.reduceLT, Int.reduceLE, Int.reduceAdd, Int.reduceSub, Int.reduceMul, reduceCtorEq]
      refine evT_own (Range_spec L (rawP L p) 0 3 hr (by omega) (by omega) (by omega)) Range_fn (by repeat' (first | exact trivial | assumption | refine And.intro ?_ ?_)) (tp_pure _ _) (tp_pure _ _) (by repeat' (first | exact trivial | assumption | refine And.intro ?_ ?_)) rfl (by rfl) (by rfl) ?_
      try simp only [stepS, stepD, stepM, eq_self, implies_true, forall_eq_or_imp, forall_eq, Nat.reduceEqDiff, ↓reduceIte, Nat.reduceAdd, Nat.reduceLeDiff, Nat.reduceSub, Nat.reduceMul, Nat.reduceLT, Int.reduceBEq, Int.reduceBNe, Int.reduceToNat, Int.reduceLT, Int.reduceLE, Int.reduceAdd, Int.reduceSub, Int.reduceMul, reduceCtorEq]
      refine hK _ _ _ ?_
      clear hK K
      refine Weak.nf [0, 17, 145, 113] _ _ ?_ ?_ ⟨rfl, rfl⟩ (by decide) (by decide) (by decide)
      · repeat' (first | exact trivial | exact And.intro rfl trivial | refine And.intro ?_ ?_ | rfl | exact Nat.le_of_ble_eq_true rfl | exact congrArg some (vec_ren (m := 0) hps').1.symm | exact (vec_ren (π := id) hps').2)
      · repeat' (first | exact trivial | exact And.intro rfl trivial | refine And.intro ?_ ?_ | rfl | exact Nat.le_of_ble_eq_true rfl | exact congrArg some (vec_ren (m := 0) hps').1.symm | exact (vec_ren (π := id) hps').2)
    have e0 : (Mod (rawV L p) 4 == 0) = false := by simpa using c0
    rw [if_neg c0] at hB
    refine AWP.cond (b := false) (congrArg AV.bool e0) (fun c => by cases c) (fun c => ?_)
    refine AWP.seq' ?_
    refine AWP.reg' fun K hK => ?_
    try simp only [stepS, stepD, stepM, eq_self, implies_true, forall_eq_or_imp, forall_eq, Nat.reduceEqDiff, ↓reduceIte, Nat.reduceAdd, Nat.reduceLeDiff, Nat.reduceSub, Nat.reduceMul, Nat.reduceLT, Int.reduceBEq, Int.reduceBNe, Int.reduceToNat, Int.reduceLT, Int.reduceLE, Int.reduceAdd, Int.reduceSub, Int.reduceMul, reduceCtorEq]
    refine hK _ _ _ ?_
    clear hK K
    by_cases c1 : Mod (rawV L p) 4 = 1
    · rw [if_pos c1] at hB
      obtain ⟨e1, rfl⟩ := Prod.mk.inj hB.symm
      obtain ⟨rfl, rfl⟩ := Prod.mk.inj e1
      have e : (Mod (rawV L p) 4 == 1) = true := by rw [c1]; rfl
      have hev : s.map AV.int ++ [.int (pickI [0, 1, 99, 100] (rawV L (rawP L p)))] = (s ++ [pickI [0, 1, 99, 100] (rawV L (rawP L p))]).map AV.int := by simp
      refine AWP.cond (b := true) (congrArg AV.bool e) (fun c => ?_) (fun c => by cases c)
      refine AWP.dreg' fun K hK => ?_
      try simp only [stepS, stepD, stepM, eq_self, implies_true, forall_eq_or_imp, forall_eq, Nat.reduceEqDiff, ↓reduceIte, Nat.reduceAdd, Nat.reduceLeDiff, Nat.reduceSub, Nat.reduceMul, Nat.reduceLT, Int.reduceBEq, Int.reduceBNe, Int.reduceToNat, Int.reduceLT, Int.reduceLE, Int.reduceAdd, Int.reduceSub, Int.reduceMul, reduceCtorEq]
      refine evD_lit ?_
      try simp only [stepS, stepD, stepM, eq_self, implies_true, forall_eq_or_imp, forall_eq, Nat.reduceEqDiff, ↓reduceIte, Nat.reduceAdd, Nat.reduceLeDiff, Nat.reduceSub, Nat.reduceMul, Nat.reduceLT, Int.reduceBEq, Int.reduceBNe, Int.reduceToNat, Int.reduceLT, Int.reduceLE, Int.reduceAdd, Int.reduceSub, Int.reduceMul, reduceCtorEq]
      refine evD_own (Pick_spec L (rawP L p) [0, 1, 99, 100] true hr (by simp)) Pick_fn (by repeat' (first | exact trivial | assumption | refine And.intro ?_ ?_)) (tp_pure _ _) (tp_pure _ _) (by repeat' (first | exact trivial | assumption | refine And.intro ?_ ?_)) rfl (by rfl) (by rfl) ?_
      try simp only [stepS, stepD, stepM, eq_self, implies_true, forall_eq_or_imp, forall_eq, Nat.reduceEqDiff, ↓reduceIte, Nat.reduceAdd, Nat.reduceLeDiff, Nat.reduceSub, Nat.reduceMul, Nat.reduceLT, Int.reduceBEq, Int.reduceBNe, Int.reduceToNat, Int.reduceLT, Int.reduceLE, Int.reduceAdd, Int.reduceSub, Int.reduceMul, reduceCtorEq]
      refine evD_lit ?_
      try simp only [stepS, stepD, stepM, eq_self, implies_true, forall_eq_or_imp, forall_eq, Nat.reduceEqDiff, ↓reduceIte, Nat.reduceAdd, Nat.reduceLeDiff, Nat.reduceSub, Nat.reduceMul, Nat.reduceLT, Int.reduceBEq, Int.reduceBNe, Int.reduceToNat, Int.reduceLT, Int.reduceLE, Int.reduceAdd, Int.reduceSub, Int.reduceMul, reduceCtorEq, appendA, srcA, hev]
      repeat (refine And.intro (by omega) ?_)
      refine ⟨by rfl, hK _ _ _ ?_⟩
      clear hK K
      refine Weak.nf [0, 17, 145, 369] _ _ ?_ ?_ ⟨rfl, rfl⟩ (by decide) (by decide) (by decide)
      · repeat' (first | exact trivial | exact And.intro rfl trivial | refine And.intro ?_ ?_ | rfl | exact Nat.le_of_ble_eq_true rfl | exact congrArg some (vec_ren (m := 0) hps').1.symm | exact (vec_ren (π := id) hps').2)
      · repeat' (first | exact trivial | exact And.intro rfl trivial | refine And.intro ?_ ?_ | rfl | exact Nat.le_of_ble_eq_true rfl | exact congrArg some (vec_ren (m := 0) hps').1.symm | exact (vec_ren (π := id) hps').2)
    have e1 : (Mod (rawV L p) 4 == 1) = false := by simpa using c1
    rw [if_neg c1] at hB
    refine AWP.cond (b := false) (congrArg AV.bool e1) (fun c => by cases c) (fun c => ?_)
    refine AWP.seq' ?_
    refine AWP.reg' fun K hK => ?_
    try simp only [stepS, stepD, stepM, eq_self, implies_true, forall_eq_or_imp, forall_eq, Nat.reduceEqDiff, ↓reduceIte, Nat.reduceAdd, Nat.reduceLeDiff, Nat.reduceSub, Nat.reduceMul, Nat.reduceLT, Int.reduceBEq, Int.reduceBNe, Int.reduceToNat, Int.reduceLT, Int.reduceLE, Int.reduceAdd, Int.reduceSub, Int.reduceMul, reduceCtorEq]
    refine hK _ _ _ ?_
    clear hK K
    by_cases c2 : Mod (rawV L p) 4 = 2
    · rw [if_pos c2] at hB
      have e : (Mod (rawV L p) 4 == 2) = true := by rw [c2]; rfl
      refine AWP.cond (b := true) (congrArg AV.bool e) (fun c => ?_) (fun c => by cases c)
      refine AWP.seq' ?_
      refine AWP.reg' fun K hK => ?_
      try simp only [stepS, stepD, stepM, eq_self, implies_true, forall_eq_or_imp, forall_eq, Nat.reduceEqDiff, ↓reduceIte, Nat.reduceAdd, Nat.reduceLeDiff, Nat.reduceSub, Nat.reduceMul, Nat.reduceLT, Int.reduceBEq, Int.reduceBNe, Int.reduceToNat, Int.reduceLT, Int.reduceLE, Int.reduceAdd, Int.reduceSub, Int.reduceMul, reduceCtorEq]
      refine hK _ _ _ ?_
      clear hK K
      refine AWP.cond (b := decide (0 < (s.length : Int))) rfl (fun c => ?_) (fun c => ?_)
      · have hl : 0 < s.length := by have := of_decide_eq_true c; omega
        rw [if_pos hl] at hB
        obtain ⟨e1, rfl⟩ := Prod.mk.inj hB.symm
        obtain ⟨rfl, rfl⟩ := Prod.mk.inj e1
        have hev : s.map AV.int ++ [.int s[0]] = (s ++ [s.getD 0 0]).map AV.int := by rw [getD_get hl]; simp
        refine AWP.dreg' fun K hK => ?_
        try simp only [stepS, stepD, stepM, eq_self, implies_true, forall_eq_or_imp, forall_eq, Nat.reduceEqDiff, ↓reduceIte, Nat.reduceAdd, Nat.reduceLeDiff, Nat.reduceSub, Nat.reduceMul, Nat.reduceLT, Int.reduceBEq, Int.reduceBNe, Int.reduceToNat, Int.reduceLT, Int.reduceLE, Int.reduceAdd, Int.reduceSub, Int.reduceMul, reduceCtorEq, getD_ints hl]
        repeat (refine And.intro (by omega) ?_)
        refine evD_lit ?_
        try simp only [stepS, stepD, stepM, eq_self, implies_true, forall_eq_or_imp, forall_eq, Nat.reduceEqDiff, ↓reduceIte, Nat.reduceAdd, Nat.reduceLeDiff, Nat.reduceSub, Nat.reduceMul, Nat.reduceLT, Int.reduceBEq, Int.reduceBNe, Int.reduceToNat, Int.reduceLT, Int.reduceLE, Int.reduceAdd, Int.reduceSub, Int.reduceMul, reduceCtorEq, appendA, srcA, hev]
        repeat (refine And.intro (by omega) ?_)
        refine ⟨by rfl, hK _ _ _ ?_⟩
        clear hK K
        refine Weak.nf [0, 17, 145, 481] _ _ ?_ ?_ ⟨rfl, rfl⟩ (by decide) (by decide) (by decide)
        · repeat' (first | exact trivial | exact And.intro rfl trivial | refine And.intro ?_ ?_ | rfl | exact Nat.le_of_ble_eq_true rfl | exact congrArg some (vec_ren (m := 0) hps').1.symm | exact (vec_ren (π := id) hps').2)
        · repeat' (first | exact trivial | exact And.intro rfl trivial | refine And.intro ?_ ?_ | rfl | exact Nat.le_of_ble_eq_true rfl | exact congrArg some (vec_ren (m := 0) hps').1.symm | exact (vec_ren (π := id) hps').2)
      have hl : ¬ 0 < s.length := by have := of_decide_eq_false c; omega
      rw [if_neg hl] at hB
      obtain ⟨e1, rfl⟩ := Prod.mk.inj hB.symm
      obtain ⟨rfl, rfl⟩ := Prod.mk.inj e1
      refine AWP.skip ?_
      refine Weak.nf [0, 17, 145, 113] _ _ ?_ ?_ ⟨rfl, rfl⟩ (by decide) (by decide) (by decide)
      · repeat' (first | exact trivial | exact And.intro rfl trivial | refine And.intro ?_ ?_ | rfl | exact Nat.le_of_ble_eq_true rfl | exact congrArg some (vec_ren (m := 0) hps').1.symm | exact (vec_ren (π := id) hps').2)
      · repeat' (first | exact trivial | exact And.intro rfl trivial | refine And.intro ?_ ?_ | rfl | exact Nat.le_of_ble_eq_true rfl | exact congrArg some (vec_ren (m := 0) hps').1.symm | exact (vec_ren (π := id) hps').2)
    have e2 : (Mod (rawV L p) 4 == 2) = false := by simpa using c2
    rw [if_neg c2] at hB
    refine AWP.cond (b := false) (congrArg AV.bool e2) (fun c => by cases c) (fun c => ?_)
    refine AWP.seq' ?_
    refine AWP.reg' fun K hK => ?_
    try simp only [stepS, stepD, stepM, eq_self, implies_true, forall_eq_or_imp, forall_eq, Nat.reduceEqDiff, ↓reduceIte, Nat.reduceAdd, Nat.reduceLeDiff, Nat.reduceSub, Nat.reduceMul, Nat.reduceLT, Int.reduceBEq, Int.reduceBNe, Int.reduceToNat, Int.reduceLT, Int.reduceLE, Int.reduceAdd, Int.reduceSub, Int.reduceMul, reduceCtorEq]
    refine hK _ _ _ ?_
    clear hK K
    refine AWP.cond (b := decide (0 < (s.length : Int))) rfl (fun c => ?_) (fun c => ?_)
    · have hl : 0 < s.length := by have := of_decide_eq_true c; omega
      rw [if_pos hl] at hB
      obtain ⟨e1, rfl⟩ := Prod.mk.inj hB.symm
      obtain ⟨rfl, rfl⟩ := Prod.mk.inj e1
      have hev : (s.map AV.int).set 0 (.int (pickI [-1, 0, 100] (rawV L (rawP L p)))) = (s.set 0 (pickI [-1, 0, 100] (rawV L (rawP L p)))).map AV.int := by rw [List.map_set]
      refine AWP.dreg' fun K hK => ?_
      try simp only [stepS, stepD, stepM, eq_self, implies_true, forall_eq_or_imp, forall_eq, Nat.reduceEqDiff, ↓reduceIte, Nat.reduceAdd, Nat.reduceLeDiff, Nat.reduceSub, Nat.reduceMul, Nat.reduceLT, Int.reduceBEq, Int.reduceBNe, Int.reduceToNat, Int.reduceLT, Int.reduceLE, Int.reduceAdd, Int.reduceSub, Int.reduceMul, reduceCtorEq]
      refine evD_lit ?_
      try simp only [stepS, stepD, stepM, eq_self, implies_true, forall_eq_or_imp, forall_eq, Nat.reduceEqDiff, ↓reduceIte, Nat.reduceAdd, Nat.reduceLeDiff, Nat.reduceSub, Nat.reduceMul, Nat.reduceLT, Int.reduceBEq, Int.reduceBNe, Int.reduceToNat, Int.reduceLT, Int.reduceLE, Int.reduceAdd, Int.reduceSub, Int.reduceMul, reduceCtorEq]
      refine evD_own (Pick_spec L (rawP L p) [-1, 0, 100] true hr (by simp)) Pick_fn (by repeat' (first | exact trivial | assumption | refine And.intro ?_ ?_)) (tp_pure _ _) (tp_pure _ _) (by repeat' (first | exact trivial | assumption | refine And.intro ?_ ?_)) rfl (by rfl) (by rfl) ?_
      try simp only [stepS, stepD, stepM, eq_self, implies_true, forall_eq_or_imp, forall_eq, Nat.reduceEqDiff, ↓reduceIte, Nat.reduceAdd, Nat.reduceLeDiff, Nat.reduceSub, Nat.reduceMul, Nat.reduceLT, Int.reduceBEq, Int.reduceBNe, Int.reduceToNat, Int.reduceLT, Int.reduceLE, Int.reduceAdd, Int.reduceSub, Int.reduceMul, reduceCtorEq, getD_ints hl, hev]
      repeat (refine And.intro (by omega) ?_)
      refine ⟨by rfl, hK _ _ _ ?_⟩
      clear hK K
      refine Weak.nf [0, 17, 145, 113] _ _ ?_ ?_ ⟨rfl, rfl⟩ (by decide) (by decide) (by decide)
      · repeat' (first | exact trivial | exact And.intro rfl trivial | refine And.intro ?_ ?_ | rfl | exact Nat.le_of_ble_eq_true rfl | exact congrArg some (vec_ren (m := 0) hps').1.symm | exact (vec_ren (π := id) hps').2)
      · repeat' (first | exact trivial | exact And.intro rfl trivial | refine And.intro ?_ ?_ | rfl | exact Nat.le_of_ble_eq_true rfl | exact congrArg some (vec_ren (m := 0) hps').1.symm | exact (vec_ren (π := id) hps').2)
    have hl : ¬ 0 < s.length := by have := of_decide_eq_false c; omega
    rw [if_neg hl] at hB
    obtain ⟨e1, rfl⟩ := Prod.mk.inj hB.symm
    obtain ⟨rfl, rfl⟩ := Prod.mk.inj e1
    refine AWP.skip ?_
    refine Weak.nf [0, 17, 145, 113] _ _ ?_ ?_ ⟨rfl, rfl⟩ (by decide) (by decide) (by decide)
    · repeat' (first | exact trivial | exact And.intro rfl trivial | refine And.intro ?_ ?_ | rfl | exact Nat.le_of_ble_eq_true rfl | exact congrArg some (vec_ren (m := 0) hps').1.symm | exact (vec_ren (π := id) hps').2)
    · repeat' (first | exact trivial | exact And.intro rfl trivial | refine And.intro ?_ ?_ | rfl | exact Nat.le_of_ble_eq_true rfl | exact congrArg some (vec_ren (m := 0) hps').1.symm | exact (vec_ren (π := id) hps').2)
  repeat (first
    | refine AWP.seq' ?_
    | refine AWP.skip ?_
    | (refine AWP.reg' fun K hK => ?_; simp only [stepS, stepD, stepM, eq_self, implies_true, forall_eq_or_imp, forall_eq, Nat.reduceEqDiff, ↓reduceIte, Nat.reduceAdd, Nat.reduceLeDiff, Nat.reduceSub, Nat.reduceMul, Nat.reduceLT, Int.reduceBEq, Int.reduceBNe, Int.reduceToNat, Int.reduceLT, Int.reduceLE, Int.reduceAdd, Int.reduceSub, Int.reduceMul, reduceCtorEq]; (repeat (refine And.intro (by omega) ?_)); refine hK _ _ _ ?_; clear hK K))
  refine AWP.weak (Weak.giveB 1 1 3 rfl rfl rfl hps') ?_
  exact AWP.ret (fin_ret rfl rfl ⟨rfl, trivial⟩)
end Go.Proofs.Ytaboolnmkfenlaa
