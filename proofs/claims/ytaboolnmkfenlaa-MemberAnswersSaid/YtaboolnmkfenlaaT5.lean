/- Contract of bent. -/
import Derived.Test.YtaboolnmkfenlaaT4
namespace Go.Proofs.Ytaboolnmkfenlaa
open Go Go.Am
set_option linter.unusedVariables false
set_option linter.unusedSimpArgs false
theorem bent_fn : FnOk Try.prog 30 := fn_ok Try.func30 (by kernel_rfl)
def bentC (L : List Int) (p2 : Nat) (now : Int) (l : List Mem) (j : Nat) (x : Mem) (c : Int) : (Int × List Mem) × Nat :=
  if c = 0 then ((now, l.set j ⟨pickI [0, 1, 99, 100] (rawV L p2), x.group, x.mode, x.srcs, x.till⟩), rawP L p2)
  else if c = 1 then ((now, l.set j ⟨x.host, pickI [0, 1, 99, 100] (rawV L p2), x.mode, x.srcs, x.till⟩), rawP L p2)
  else if c = 2 then ((now, l.set j ⟨x.host, x.group, x.mode, x.srcs, IntKind.i64.wrap (now + pickI [-1, 0, 1000, 1001] (rawV L p2))⟩), rawP L p2)
  else if c = 3 then ((now, l.set j ⟨x.host, x.group, (bentFl L p2 x.mode x.srcs).1.1, (bentFl L p2 x.mode x.srcs).1.2, x.till⟩), (bentFl L p2 x.mode x.srcs).2)
  else if c = 4 then ((now, l.set j ⟨x.host, x.group, 1, [], x.till⟩), p2)
  else if c = 5 then ((now, l ++ [l.getD 0 ⟨0, 0, 0, [], 0⟩]), p2)
  else ((IntKind.i64.wrap (now + 1), l), p2)
theorem bentC_pos {L : List Int} {p2 : Nat} (h : p2 ≤ L.length) (now : Int) (l : List Mem) (j : Nat) (x : Mem) (c : Int) : (bentC L p2 now l j x c).2 ≤ L.length := by
  unfold bentC
  repeat' split
  all_goals first | exact rawP_le h | exact bentFl_pos h _ _ | exact h

theorem bent_ex (L : List Int) {p : Nat} (now : Int) (l : List Mem) (hp : p ≤ L.length) (hl : l.length ≤ 1000000) (hs : ∀ x ∈ l, x.srcs.length ≤ 1000000) : ∃ (now' : Int) (l' : List Mem) (q : Nat), q ≤ L.length ∧
    HSpec Try.prog 30 [.ref 0 0, memsV now l] [.box (tp L p)] (memsV now' l') [some (.box (tp L q))] := by
  have hml := maxLen_eq
  have hr := rawP_le hp
  have hr2 := rawP_le hr
  have hpl := pureL_mems l
  by_cases h0 : l = []
  · subst h0
    refine ⟨pickI [-1, 0, 1000000, 1000001] (rawV L p), [], rawP L p, hr, ?_⟩
    refine HSpec.walk Try.func30 cf30_ok (by simp [cf30]) ?_
    unfold cf30
    simp only [initT, initH, List.length_cons, List.length_nil, memsV, mems]
    refine AWP.seq' ?_
    refine AWP.reg' fun K hK => ?_
    try simp only [stepS, stepD, stepM, eq_self, implies_true, forall_eq_or_imp, forall_eq, Nat.reduceEqDiff, ↓reduceIte, Nat.reduceAdd, Nat.reduceLeDiff, Nat.reduceSub, Nat.reduceMul, Nat.reduceLT, Int.reduceBEq, Int.reduceBNe, Int.reduceToNat, Int.reduceLT, Int.reduceLE, Int.reduceAdd, Int.reduceSub, Int.reduceMul, reduceCtorEq]
    refine hK _ _ _ ?_
    clear hK K
    refine AWP.seq' ?_
    refine AWP.dreg' fun K hK => ?_
    try simp only [stepS, stepD, stepM, eq_self, implies_true, forall_eq_or_imp, forall_eq, Nat.reduceEqDiff, ↓reduceIte, Nat.reduceAdd, Nat.reduceLeDiff, Nat.reduceSub, Nat.reduceMul, Nat.reduceLT, Int.reduceBEq, Int.reduceBNe, Int.reduceToNat, Int.reduceLT, Int.reduceLE, Int.reduceAdd, Int.reduceSub, Int.reduceMul, reduceCtorEq]
    refine evD_lit ?_
    try simp only [stepS, stepD, stepM, eq_self, implies_true, forall_eq_or_imp, forall_eq, Nat.reduceEqDiff, ↓reduceIte, Nat.reduceAdd, Nat.reduceLeDiff, Nat.reduceSub, Nat.reduceMul, Nat.reduceLT, Int.reduceBEq, Int.reduceBNe, Int.reduceToNat, Int.reduceLT, Int.reduceLE, Int.reduceAdd, Int.reduceSub, Int.reduceMul, reduceCtorEq, appendA, srcA]
    repeat (refine And.intro (by omega) ?_)
    refine ⟨by rfl, hK _ _ _ ?_⟩
    clear hK K
    refine AWP.seq' (AWP.seq' ?_)
    refine AWP.reg' fun K hK => ?_
    try simp only [stepS, stepD, stepM, eq_self, implies_true, forall_eq_or_imp, forall_eq, Nat.reduceEqDiff, ↓reduceIte, Nat.reduceAdd, Nat.reduceLeDiff, Nat.reduceSub, Nat.reduceMul, Nat.reduceLT, Int.reduceBEq, Int.reduceBNe, Int.reduceToNat, Int.reduceLT, Int.reduceLE, Int.reduceAdd, Int.reduceSub, Int.reduceMul, reduceCtorEq]
    refine hK _ _ _ ?_
    clear hK K
    refine AWP.cond (b := true) rfl (fun c => ?_) (fun c => by cases c)
    refine AWP.seq' ?_
    refine AWP.reg' fun K hK => ?_
    try simp only [stepS, stepD, stepM, eq_self, implies_true, forall_eq_or_imp, forall_eq, Nat.reduceEqDiff, ↓reduceIte, Nat.reduceAdd, Nat.reduceLeDiff, Nat.reduceSub, Nat.reduceMul, Nat.reduceLT, Int.reduceBEq, Int.reduceBNe, Int.reduceToNat, Int.reduceLT, Int.reduceLE, Int.reduceAdd, Int.reduceSub, Int.reduceMul, reduceCtorEq]
    refine evT_lit ?_
    try simp only [stepS, stepD, stepM, eq_self, implies_true, forall_eq_or_imp, forall_eq, Nat.reduceEqDiff, ↓reduceIte, Nat.reduceAdd, Nat.reduceLeDiff, Nat.reduceSub, Nat.reduceMul, Nat.reduceLT, Int.reduceBEq, Int.reduceBNe, Int.reduceToNat, Int.reduceLT, Int.reduceLE, Int.reduceAdd, Int.reduceSub, Int.reduceMul, reduceCtorEq]
    refine evT_own (Pick_spec L p [-1, 0, 1000000, 1000001] true hp (by simp)) Pick_fn (by repeat' (first | exact trivial | assumption | refine And.intro ?_ ?_)) (tp_pure _ _) (tp_pure _ _) (by repeat' (first | exact trivial | assumption | refine And.intro ?_ ?_)) rfl (by rfl) (by rfl) ?_
    try simp only [stepS, stepD, stepM, eq_self, implies_true, forall_eq_or_imp, forall_eq, Nat.reduceEqDiff, ↓reduceIte, Nat.reduceAdd, Nat.reduceLeDiff, Nat.reduceSub, Nat.reduceMul, Nat.reduceLT, Int.reduceBEq, Int.reduceBNe, Int.reduceToNat, Int.reduceLT, Int.reduceLE, Int.reduceAdd, Int.reduceSub, Int.reduceMul, reduceCtorEq]
    refine hK _ _ _ ?_
    clear hK K
    refine AWP.seq' ?_
    refine AWP.reg' fun K hK => ?_
    try simp only [stepS, stepD, stepM, eq_self, implies_true, forall_eq_or_imp, forall_eq, Nat.reduceEqDiff, ↓reduceIte, Nat.reduceAdd, Nat.reduceLeDiff, Nat.reduceSub, Nat.reduceMul, Nat.reduceLT, Int.reduceBEq, Int.reduceBNe, Int.reduceToNat, Int.reduceLT, Int.reduceLE, Int.reduceAdd, Int.reduceSub, Int.reduceMul, reduceCtorEq]
    refine hK _ _ _ ?_
    clear hK K
    refine AWP.weak (Weak.giveB 17 1 113 rfl rfl rfl hpl) ?_
    exact AWP.ret (fin_ret rfl rfl ⟨rfl, trivial⟩)
  have hl0 : 0 < l.length := List.length_pos_iff.mpr h0
  have hm := Mod_range (x := rawV L p) (show 1 ≤ (l.length : Int) by omega)
  obtain ⟨j, hje⟩ : ∃ j : Nat, Mod (rawV L p) l.length = j := ⟨(Mod (rawV L p) l.length).toNat, by omega⟩
  have hj : j < l.length := by omega
  have hc := Mod_range (x := rawV L (rawP L p)) (show (1 : Int) ≤ 7 by omega)
  have hq := bentC_pos hr2 now l j l[j] (Mod (rawV L (rawP L p)) 7)
  generalize hR : bentC L (rawP L (rawP L p)) now l j l[j] (Mod (rawV L (rawP L p)) 7) = R at hq
  unfold bentC at hR
  obtain ⟨⟨now', l'⟩, q⟩ := R
  refine ⟨now', l', q, hq, ?_⟩
  have hps' := pureL_mems l'
  have hN := N_spec L p l.length hp
  rw [hje] at hN
  refine HSpec.walk Try.func30 cf30_ok (by simp [cf30]) ?_
  unfold cf30
  simp only [initT, initH, List.length_cons, List.length_nil, memsV, mems]
  refine AWP.seq' ?_
  refine AWP.reg' fun K hK => ?_
  try simp only [stepS, stepD, stepM, eq_self, implies_true, forall_eq_or_imp, forall_eq, Nat.reduceEqDiff, ↓reduceIte, Nat.reduceAdd, Nat.reduceLeDiff, Nat.reduceSub, Nat.reduceMul, Nat.reduceLT, Int.reduceBEq, Int.reduceBNe, Int.reduceToNat, Int.reduceLT, Int.reduceLE, Int.reduceAdd, Int.reduceSub, Int.reduceMul, reduceCtorEq]
  refine hK _ _ _ ?_
  clear hK K
  refine AWP.seq' ?_
  refine AWP.dreg' fun K hK => ?_
  try simp only [stepS, stepD, stepM, eq_self, implies_true, forall_eq_or_imp, forall_eq, Nat.reduceEqDiff, ↓reduceIte, Nat.reduceAdd, Nat.reduceLeDiff, Nat.reduceSub, Nat.reduceMul, Nat.reduceLT, Int.reduceBEq, Int.reduceBNe, Int.reduceToNat, Int.reduceLT, Int.reduceLE, Int.reduceAdd, Int.reduceSub, Int.reduceMul, reduceCtorEq]
  refine evD_lit ?_
  try simp only [stepS, stepD, stepM, eq_self, implies_true, forall_eq_or_imp, forall_eq, Nat.reduceEqDiff, ↓reduceIte, Nat.reduceAdd, Nat.reduceLeDiff, Nat.reduceSub, Nat.reduceMul, Nat.reduceLT, Int.reduceBEq, Int.reduceBNe, Int.reduceToNat, Int.reduceLT, Int.reduceLE, Int.reduceAdd, Int.reduceSub, Int.reduceMul, reduceCtorEq, appendA, srcA]
  repeat (refine And.intro (by omega) ?_)
  refine ⟨by rfl, hK _ _ _ ?_⟩
  clear hK K
  refine AWP.seq' (AWP.seq' ?_)
  refine AWP.reg' fun K hK => ?_
  try simp only [stepS, stepD, stepM, eq_self, implies_true, forall_eq_or_imp, forall_eq, Nat.reduceEqDiff, ↓reduceIte, Nat.reduceAdd, Nat.reduceLeDiff, Nat.reduceSub, Nat.reduceMul, Nat.reduceLT, Int.reduceBEq, Int.reduceBNe, Int.reduceToNat, Int.reduceLT, Int.reduceLE, Int.reduceAdd, Int.reduceSub, Int.reduceMul, reduceCtorEq]
  refine hK _ _ _ ?_
  clear hK K
  refine AWP.cond (b := ((l.length : Int) == 0)) rfl (fun c => by have := eq_of_beq c; omega) (fun c => ?_)
  refine AWP.skip ?_
  refine AWP.seq' ?_
  refine AWP.dreg' fun K hK => ?_
  try simp only [stepS, stepD, stepM, eq_self, implies_true, forall_eq_or_imp, forall_eq, Nat.reduceEqDiff, ↓reduceIte, Nat.reduceAdd, Nat.reduceLeDiff, Nat.reduceSub, Nat.reduceMul, Nat.reduceLT, Int.reduceBEq, Int.reduceBNe, Int.reduceToNat, Int.reduceLT, Int.reduceLE, Int.reduceAdd, Int.reduceSub, Int.reduceMul, reduceCtorEq]
  refine evD_own (hN) N_fn (by repeat' (first | exact trivial | assumption | refine And.intro ?_ ?_)) (tp_pure _ _) (tp_pure _ _) (by repeat' (first | exact trivial | assumption | refine And.intro ?_ ?_)) rfl (by rfl) (by rfl) ?_
  try simp only [stepS, stepD, stepM, eq_self, implies_true, forall_eq_or_imp, forall_eq, Nat.reduceEqDiff, ↓reduceIte, Nat.reduceAdd, Nat.reduceLeDiff, Nat.reduceSub, Nat.reduceMul, Nat.reduceLT, Int.reduceBEq, Int.reduceBNe, Int.reduceToNat, Int.reduceLT, Int.reduceLE, Int.reduceAdd, Int.reduceSub, Int.reduceMul, reduceCtorEq]
  repeat (refine And.intro (by omega) ?_)
  refine ⟨by rfl, hK _ _ _ ?_⟩
  clear hK K
  refine AWP.seqW ⟨resT [(4, .ref 1 0), (5, .ref 2 0)], hpL 0 [some (.box (tp L q)), some (.box (.agg [.int 0, .sl 0 [] true])), some (.box (.agg [.int now', .vec 3])), some (.vec 5 (l'.map Mem.v))], 4⟩ ?_ ?_
  · refine AWP.seq' ?_
    refine AWP.reg' fun K hK => ?_
    try simp only [stepS, stepD, stepM, eq_self, implies_true, forall_eq_or_imp, forall_eq, Nat.reduceEqDiff, ↓reduceIte, Nat.reduceAdd, Nat.reduceLeDiff, Nat.reduceSub, Nat.reduceMul, Nat.reduceLT, Int.reduceBEq, Int.reduceBNe, Int.reduceToNat, Int.reduceLT, Int.reduceLE, Int.reduceAdd, Int.reduceSub, Int.reduceMul, reduceCtorEq]
    refine evT_own (N_spec L (rawP L p) 7 hr) N_fn (by repeat' (first | exact trivial | assumption | refine And.intro ?_ ?_)) (tp_pure _ _) (tp_pure _ _) (by repeat' (first | exact trivial | assumption | refine And.intro ?_ ?_)) rfl (by rfl) (by rfl) ?_
    try simp only [stepS, stepD, stepM, eq_self, implies_true, forall_eq_or_imp, forall_eq, Nat.reduceEqDiff, ↓reduceIte, Nat.reduceAdd, Nat.reduceLeDiff, Nat.reduceSub, Nat.reduceMul, Nat.reduceLT, Int.reduceBEq, Int.reduceBNe, Int.reduceToNat, Int.reduceLT, Int.reduceLE, Int.reduceAdd, Int.reduceSub, Int.reduceMul, reduceCtorEq]
    refine hK _ _ _ ?_
    clear hK K
    refine AWP.block ?_
    refine AWP.seq' ?_
    refine AWP.reg' fun K hK => ?_
    try simp only [stepS, stepD, stepM, eq_self, implies_true, forall_eq_or_imp, forall_eq, Nat.reduceEqDiff, ↓reduceIte, Nat.reduceAdd, Nat.reduceLeDiff, Nat.reduceSub, Nat.reduceMul, Nat.reduceLT, Int.reduceBEq, Int.reduceBNe, Int.reduceToNat, Int.reduceLT, Int.reduceLE, Int.reduceAdd, Int.reduceSub, Int.reduceMul, reduceCtorEq]
    refine hK _ _ _ ?_
    clear hK K
    by_cases c0 : Mod (rawV L (rawP L p)) 7 = 0
    · rw [if_pos c0] at hR
      obtain ⟨e1, rfl⟩ := Prod.mk.inj hR
      obtain ⟨rfl, rfl⟩ := Prod.mk.inj e1
      have e : (Mod (rawV L (rawP L p)) 7 == 0) = true := by rw [c0]; rfl
      have hev : (l.map Mem.v).set j (.agg [.int (pickI [0, 1, 99, 100] (rawV L (rawP L (rawP L p)))), .int l[j].group, .int l[j].mode, .sl 1 (l[j].srcs.map .int) false, .int l[j].till]) = (l.set j ⟨pickI [0, 1, 99, 100] (rawV L (rawP L (rawP L p))), l[j].group, l[j].mode, l[j].srcs, l[j].till⟩).map Mem.v := by rw [List.map_set]; rfl
      refine AWP.cond (b := true) (congrArg AV.bool e) (fun c => ?_) (fun c => by cases c)
      refine AWP.reg' fun K hK => ?_
      try simp only [stepS, stepD, stepM, eq_self, implies_true, forall_eq_or_imp, forall_eq, Nat.reduceEqDiff, ↓reduceIte, Nat.reduceAdd, Nat.reduceLeDiff, Nat.reduceSub, Nat.reduceMul, Nat.reduceLT, Int.reduceBEq, Int.reduceBNe, Int.reduceToNat, Int.reduceLT, Int.reduceLE, Int.reduceAdd, Int.reduceSub, Int.reduceMul, reduceCtorEq]
      refine evT_lit ?_
      try simp only [stepS, stepD, stepM, eq_self, implies_true, forall_eq_or_imp, forall_eq, Nat.reduceEqDiff, ↓reduceIte, Nat.reduceAdd, Nat.reduceLeDiff, Nat.reduceSub, Nat.reduceMul, Nat.reduceLT, Int.reduceBEq, Int.reduceBNe, Int.reduceToNat, Int.reduceLT, Int.reduceLE, Int.reduceAdd, Int.reduceSub, Int.reduceMul, reduceCtorEq]
      refine evT_own (Pick_spec L (rawP L (rawP L p)) [0, 1, 99, 100] true hr2 (by simp)) Pick_fn (by repeat' (first | exact trivial | assumption | refine And.intro ?_ ?_)) (tp_pure _ _) (tp_pure _ _) (by repeat' (first | exact trivial | assumption | refine And.intro ?_ ?_)) rfl (by rfl) (by rfl) ?_
      try simp only [stepS, stepD, stepM, eq_self, implies_true, forall_eq_or_imp, forall_eq, Nat.reduceEqDiff, ↓reduceIte, Nat.reduceAdd, Nat.reduceLeDiff, Nat.reduceSub, Nat.reduceMul, Nat.reduceLT, Int.reduceBEq, Int.reduceBNe, Int.reduceToNat, Int.reduceLT, Int.reduceLE, Int.reduceAdd, Int.reduceSub, Int.reduceMul, reduceCtorEq, getD_mems hj, hev]
      repeat (refine And.intro (by omega) ?_)
      refine hK _ _ _ ?_
      clear hK K
      refine Weak.nf [0, 17, 145, 113] _ _ ?_ ?_ ⟨rfl, rfl⟩ (by decide) (by decide) (by decide)
      · repeat' (first | exact trivial | exact And.intro rfl trivial | refine And.intro ?_ ?_ | rfl | exact Nat.le_of_ble_eq_true rfl | exact congrArg some (vec_ren (m := 0) hps').1.symm | exact (vec_ren (π := id) hps').2)
      · repeat' (first | exact trivial | exact And.intro rfl trivial | refine And.intro ?_ ?_ | rfl | exact Nat.le_of_ble_eq_true rfl | exact congrArg some (vec_ren (m := 0) hps').1.symm | exact (vec_ren (π := id) hps').2)
    have e0 : (Mod (rawV L (rawP L p)) 7 == 0) = false := by simpa using c0
    rw [if_neg c0] at hR
    refine AWP.cond (b := false) (congrArg AV.bool e0) (fun c => by cases c) (fun c => ?_)
    refine AWP.seq' ?_
    refine AWP.reg' fun K hK => ?_
    try simp only [stepS, stepD, stepM, eq_self, implies_true, forall_eq_or_imp, forall_eq, Nat.reduceEqDiff, ↓reduceIte, Nat.reduceAdd, Nat.reduceLeDiff, Nat.reduceSub, Nat.reduceMul, Nat.reduceLT, Int.reduceBEq, Int.reduceBNe, Int.reduceToNat, Int.reduceLT, Int.reduceLE, Int.reduceAdd, Int.reduceSub, Int.reduceMul, reduceCtorEq]
    refine hK _ _ _ ?_
    clear hK K
    by_cases c1 : Mod (rawV L (rawP L p)) 7 = 1
    · rw [if_pos c1] at hR
      obtain ⟨e1, rfl⟩ := Prod.mk.inj hR
      obtain ⟨rfl, rfl⟩ := Prod.mk.inj e1
      have e : (Mod (rawV L (rawP L p)) 7 == 1) = true := by rw [c1]; rfl
      have hev : (l.map Mem.v).set j (.agg [.int l[j].host, .int (pickI [0, 1, 99, 100] (rawV L (rawP L (rawP L p)))), .int l[j].mode, .sl 1 (l[j].srcs.map .int) false, .int l[j].till]) = (l.set j ⟨l[j].host, pickI [0, 1, 99, 100] (rawV L (rawP L (rawP L p))), l[j].mode, l[j].srcs, l[j].till⟩).map Mem.v := by rw [List.map_set]; rfl
      refine AWP.cond (b := true) (congrArg AV.bool e) (fun c => ?_) (fun c => by cases c)
      refine AWP.reg' fun K hK => ?_
      try simp only [stepS, stepD, stepM, eq_self, implies_true, forall_eq_or_imp, forall_eq, Nat.reduceEqDiff, ↓reduceIte, Nat.reduceAdd, Nat.reduceLeDiff, Nat.reduceSub, Nat.reduceMul, Nat.reduceLT, Int.reduceBEq, Int.reduceBNe, Int.reduceToNat, Int.reduceLT, Int.reduceLE, Int.reduceAdd, Int.reduceSub, Int.reduceMul, reduceCtorEq]
      refine evT_lit ?_
      try simp only [stepS, stepD, stepM, eq_self, implies_true, forall_eq_or_imp, forall_eq, Nat.reduceEqDiff, ↓reduceIte, Nat.reduceAdd, Nat.reduceLeDiff, Nat.reduceSub, Nat.reduceMul, Nat.reduceLT, Int.reduceBEq, Int.reduceBNe, Int.reduceToNat, Int.reduceLT, Int.reduceLE, Int.reduceAdd, Int.reduceSub, Int.reduceMul, reduceCtorEq]
      refine evT_own (Pick_spec L (rawP L (rawP L p)) [0, 1, 99, 100] true hr2 (by simp)) Pick_fn (by repeat' (first | exact trivial | assumption | refine And.intro ?_ ?_)) (tp_pure _ _) (tp_pure _ _) (by repeat' (first | exact trivial | assumption | refine And.intro ?_ ?_)) rfl (by rfl) (by rfl) ?_
      try simp only [stepS, stepD, stepM, eq_self, implies_true, forall_eq_or_imp, forall_eq, Nat.reduceEqDiff, ↓reduceIte, Nat.reduceAdd, Nat.reduceLeDiff, Nat.reduceSub, Nat.reduceMul, Nat.reduceLT, Int.reduceBEq, Int.reduceBNe, Int.reduceToNat, Int.reduceLT, Int.reduceLE, Int.reduceAdd, Int.reduceSub, Int.reduceMul, reduceCtorEq, getD_mems hj, hev]
      repeat (refine And.intro (by omega) ?_)
      refine hK _ _ _ ?_
      clear hK K
      refine Weak.nf [0, 17, 145, 113] _ _ ?_ ?_ ⟨rfl, rfl⟩ (by decide) (by decide) (by decide)
      · repeat' (first | exact trivial | exact And.intro rfl trivial | refine And.intro ?_ ?_ | rfl | exact Nat.le_of_ble_eq_true rfl | exact congrArg some (vec_ren (m := 0) hps').1.symm | exact (vec_ren (π := id) hps').2)
      · repeat' (first | exact trivial | exact And.intro rfl trivial | refine And.intro ?_ ?_ | rfl | exact Nat.le_of_ble_eq_true rfl | exact congrArg some (vec_ren (m := 0) hps').1.symm | exact (vec_ren (π := id) hps').2)
    have e1 : (Mod (rawV L (rawP L p)) 7 == 1) = false := by simpa using c1
    rw [if_neg c1] at hR
    refine AWP.cond (b := false) (congrArg AV.bool e1) (fun c => by cases c) (fun c => ?_)
    refine AWP.seq' ?_
    refine AWP.reg' fun K hK => ?_
    try simp only [stepS, stepD, stepM, eq_self, implies_true, forall_eq_or_imp, forall_eq, Nat.reduceEqDiff, ↓reduceIte, Nat.reduceAdd, Nat.reduceLeDiff, Nat.reduceSub, Nat.reduceMul, Nat.reduceLT, Int.reduceBEq, Int.reduceBNe, Int.reduceToNat, Int.reduceLT, Int.reduceLE, Int.reduceAdd, Int.reduceSub, Int.reduceMul, reduceCtorEq]
    refine hK _ _ _ ?_
    clear hK K
    by_cases c2 : Mod (rawV L (rawP L p)) 7 = 2
    · rw [if_pos c2] at hR
      obtain ⟨e1, rfl⟩ := Prod.mk.inj hR
      obtain ⟨rfl, rfl⟩ := Prod.mk.inj e1
      have e : (Mod (rawV L (rawP L p)) 7 == 2) = true := by rw [c2]; rfl
      have hev : (l.map Mem.v).set j (.agg [.int l[j].host, .int l[j].group, .int l[j].mode, .sl 1 (l[j].srcs.map .int) false, .int (IntKind.i64.wrap (now + pickI [-1, 0, 1000, 1001] (rawV L (rawP L (rawP L p)))))]) = (l.set j ⟨l[j].host, l[j].group, l[j].mode, l[j].srcs, IntKind.i64.wrap (now + pickI [-1, 0, 1000, 1001] (rawV L (rawP L (rawP L p))))⟩).map Mem.v := by rw [List.map_set]; rfl
      refine AWP.cond (b := true) (congrArg AV.bool e) (fun c => ?_) (fun c => by cases c)
      refine AWP.dreg' fun K hK => ?_
      try simp only [stepS, stepD, stepM, eq_self, implies_true, forall_eq_or_imp, forall_eq, Nat.reduceEqDiff, ↓reduceIte, Nat.reduceAdd, Nat.reduceLeDiff, Nat.reduceSub, Nat.reduceMul, Nat.reduceLT, Int.reduceBEq, Int.reduceBNe, Int.reduceToNat, Int.reduceLT, Int.reduceLE, Int.reduceAdd, Int.reduceSub, Int.reduceMul, reduceCtorEq]
      refine evD_lit ?_
      try simp only [stepS, stepD, stepM, eq_self, implies_true, forall_eq_or_imp, forall_eq, Nat.reduceEqDiff, ↓reduceIte, Nat.reduceAdd, Nat.reduceLeDiff, Nat.reduceSub, Nat.reduceMul, Nat.reduceLT, Int.reduceBEq, Int.reduceBNe, Int.reduceToNat, Int.reduceLT, Int.reduceLE, Int.reduceAdd, Int.reduceSub, Int.reduceMul, reduceCtorEq]
      refine evD_own (Pick_spec L (rawP L (rawP L p)) [-1, 0, 1000, 1001] true hr2 (by simp)) Pick_fn (by repeat' (first | exact trivial | assumption | refine And.intro ?_ ?_)) (tp_pure _ _) (tp_pure _ _) (by repeat' (first | exact trivial | assumption | refine And.intro ?_ ?_)) rfl (by rfl) (by rfl) ?_
      try simp only [stepS, stepD, stepM, eq_self, implies_true, forall_eq_or_imp, forall_eq, Nat.reduceEqDiff, ↓reduceIte, Nat.reduceAdd, Nat.reduceLeDiff, Nat.reduceSub, Nat.reduceMul, Nat.reduceLT, Int.reduceBEq, Int.reduceBNe, Int.reduceToNat, Int.reduceLT, Int.reduceLE, Int.reduceAdd, Int.reduceSub, Int.reduceMul, reduceCtorEq, getD_mems hj, hev]
      repeat (refine And.intro (by omega) ?_)
      refine ⟨by rfl, hK _ _ _ ?_⟩
      clear hK K
      refine Weak.nf [0, 17, 145, 113] _ _ ?_ ?_ ⟨rfl, rfl⟩ (by decide) (by decide) (by decide)
      · repeat' (first | exact trivial | exact And.intro rfl trivial | refine And.intro ?_ ?_ | rfl | exact Nat.le_of_ble_eq_true rfl | exact congrArg some (vec_ren (m := 0) hps').1.symm | exact (vec_ren (π := id) hps').2)
      · repeat' (first | exact trivial | exact And.intro rfl trivial | refine And.intro ?_ ?_ | rfl | exact Nat.le_of_ble_eq_true rfl | exact congrArg some (vec_ren (m := 0) hps').1.symm | exact (vec_ren (π := id) hps').2)
    have e2 : (Mod (rawV L (rawP L p)) 7 == 2) = false := by simpa using c2
    rw [if_neg c2] at hR
    refine AWP.cond (b := false) (congrArg AV.bool e2) (fun c => by cases c) (fun c => ?_)
    refine AWP.seq' ?_
    refine AWP.reg' fun K hK => ?_
    try simp only [stepS, stepD, stepM, eq_self, implies_true, forall_eq_or_imp, forall_eq, Nat.reduceEqDiff, ↓reduceIte, Nat.reduceAdd, Nat.reduceLeDiff, Nat.reduceSub, Nat.reduceMul, Nat.reduceLT, Int.reduceBEq, Int.reduceBNe, Int.reduceToNat, Int.reduceLT, Int.reduceLE, Int.reduceAdd, Int.reduceSub, Int.reduceMul, reduceCtorEq]
    refine hK _ _ _ ?_
    clear hK K
    by_cases c3 : Mod (rawV L (rawP L p)) 7 = 3
    · rw [if_pos c3] at hR
      obtain ⟨e1, rfl⟩ := Prod.mk.inj hR
      obtain ⟨rfl, rfl⟩ := Prod.mk.inj e1
      have e : (Mod (rawV L (rawP L p)) 7 == 3) = true := by rw [c3]; rfl
      have hev : (l.map Mem.v).set j (.agg [.int l[j].host, .int l[j].group, .int (bentFl L (rawP L (rawP L p)) l[j].mode l[j].srcs).1.1, .sl 1 ((bentFl L (rawP L (rawP L p)) l[j].mode l[j].srcs).1.2.map .int) false, .int l[j].till]) = (l.set j ⟨l[j].host, l[j].group, (bentFl L (rawP L (rawP L p)) l[j].mode l[j].srcs).1.1, (bentFl L (rawP L (rawP L p)) l[j].mode l[j].srcs).1.2, l[j].till⟩).map Mem.v := by rw [List.map_set]; rfl
      refine AWP.cond (b := true) (congrArg AV.bool e) (fun c => ?_) (fun c => by cases c)
      refine AWP.reg' fun K hK => ?_
      try simp only [stepS, stepD, stepM, eq_self, implies_true, forall_eq_or_imp, forall_eq, Nat.reduceEqDiff, ↓reduceIte, Nat.reduceAdd, Nat.reduceLeDiff, Nat.reduceSub, Nat.reduceMul, Nat.reduceLT, Int.reduceBEq, Int.reduceBNe, Int.reduceToNat, Int.reduceLT, Int.reduceLE, Int.reduceAdd, Int.reduceSub, Int.reduceMul, reduceCtorEq, getD_mems hj]
      repeat (refine And.intro (by omega) ?_)
      refine evT_own (Bent_spec L (rawP L (rawP L p)) l[j].mode l[j].srcs hr2 (hs _ (List.getElem_mem hj))) Bent_fn (by repeat' (first | exact trivial | assumption | refine And.intro ?_ ?_)) (tp_pure _ _) (tp_pure _ _) (by repeat' (first | exact trivial | assumption | refine And.intro ?_ ?_)) rfl (by rfl) (by rfl) ?_
      try simp only [stepS, stepD, stepM, eq_self, implies_true, forall_eq_or_imp, forall_eq, Nat.reduceEqDiff, ↓reduceIte, Nat.reduceAdd, Nat.reduceLeDiff, Nat.reduceSub, Nat.reduceMul, Nat.reduceLT, Int.reduceBEq, Int.reduceBNe, Int.reduceToNat, Int.reduceLT, Int.reduceLE, Int.reduceAdd, Int.reduceSub, Int.reduceMul, reduceCtorEq, fltV, ints, getD_mems hj, hev]
      repeat (refine And.intro (by omega) ?_)
      refine hK _ _ _ ?_
      clear hK K
      refine Weak.nf [0, 17, 145, 113] _ _ ?_ ?_ ⟨rfl, rfl⟩ (by decide) (by decide) (by decide)
      · repeat' (first | exact trivial | exact And.intro rfl trivial | refine And.intro ?_ ?_ | rfl | exact Nat.le_of_ble_eq_true rfl | exact congrArg some (vec_ren (m := 0) hps').1.symm | exact (vec_ren (π := id) hps').2)
      · repeat' (first | exact trivial | exact And.intro rfl trivial | refine And.intro ?_ ?_ | rfl | exact Nat.le_of_ble_eq_true rfl | exact congrArg some (vec_ren (m := 0) hps').1.symm | exact (vec_ren (π := id) hps').2)
    have e3 : (Mod (rawV L (rawP L p)) 7 == 3) = false := by simpa using c3
    rw [if_neg c3] at hR
    refine AWP.cond (b := false) (congrArg AV.bool e3) (fun c => by cases c) (fun c => ?_)
    refine AWP.seq' ?_
    refine AWP.reg' fun K hK => ?_
    try simp only [stepS, stepD, stepM, eq_self, implies_true, forall_eq_or_imp, forall_eq, Nat.reduceEqDiff, ↓reduceIte, Nat.reduceAdd, Nat.reduceLeDiff, Nat.reduceSub, Nat.reduceMul, Nat.reduceLT, Int.reduceBEq, Int.reduceBNe, Int.reduceToNat, Int.reduceLT, Int.reduceLE, Int.reduceAdd, Int.reduceSub, Int.reduceMul, reduceCtorEq]
    refine hK _ _ _ ?_
    clear hK K
    by_cases c4 : Mod (rawV L (rawP L p)) 7 = 4
    · rw [if_pos c4] at hR
      obtain ⟨e1, rfl⟩ := Prod.mk.inj hR
      obtain ⟨rfl, rfl⟩ := Prod.mk.inj e1
      have e : (Mod (rawV L (rawP L p)) 7 == 4) = true := by rw [c4]; rfl
      have hev : (l.map Mem.v).set j (.agg [.int l[j].host, .int l[j].group, .int 1, .sl 1 [] false, .int l[j].till]) = (l.set j ⟨l[j].host, l[j].group, 1, [], l[j].till⟩).map Mem.v := by rw [List.map_set]; rfl
      refine AWP.cond (b := true) (congrArg AV.bool e) (fun c => ?_) (fun c => by cases c)
      refine AWP.reg' fun K hK => ?_
      try simp only [stepS, stepD, stepM, eq_self, implies_true, forall_eq_or_imp, forall_eq, Nat.reduceEqDiff, ↓reduceIte, Nat.reduceAdd, Nat.reduceLeDiff, Nat.reduceSub, Nat.reduceMul, Nat.reduceLT, Int.reduceBEq, Int.reduceBNe, Int.reduceToNat, Int.reduceLT, Int.reduceLE, Int.reduceAdd, Int.reduceSub, Int.reduceMul, reduceCtorEq]
      refine evT_pure (Nothing_spec) Nothing_fn rfl (by rfl) (by repeat' (first | exact trivial | assumption | refine And.intro ?_ ?_)) ?_
      try simp only [stepS, stepD, stepM, eq_self, implies_true, forall_eq_or_imp, forall_eq, Nat.reduceEqDiff, ↓reduceIte, Nat.reduceAdd, Nat.reduceLeDiff, Nat.reduceSub, Nat.reduceMul, Nat.reduceLT, Int.reduceBEq, Int.reduceBNe, Int.reduceToNat, Int.reduceLT, Int.reduceLE, Int.reduceAdd, Int.reduceSub, Int.reduceMul, reduceCtorEq, fltV, ints, getD_mems hj, hev]
      repeat (refine And.intro (by omega) ?_)
      refine hK _ _ _ ?_
      clear hK K
      refine Weak.nf [0, 17, 145, 113] _ _ ?_ ?_ ⟨rfl, rfl⟩ (by decide) (by decide) (by decide)
      · repeat' (first | exact trivial | exact And.intro rfl trivial | refine And.intro ?_ ?_ | rfl | exact Nat.le_of_ble_eq_true rfl | exact congrArg some (vec_ren (m := 0) hps').1.symm | exact (vec_ren (π := id) hps').2)
      · repeat' (first | exact trivial | exact And.intro rfl trivial | refine And.intro ?_ ?_ | rfl | exact Nat.le_of_ble_eq_true rfl | exact congrArg some (vec_ren (m := 0) hps').1.symm | exact (vec_ren (π := id) hps').2)
    have e4 : (Mod (rawV L (rawP L p)) 7 == 4) = false := by simpa using c4
    rw [if_neg c4] at hR
    refine AWP.cond (b := false) (congrArg AV.bool e4) (fun c => by cases c) (fun c => ?_)
    refine AWP.seq' ?_
    refine AWP.reg' fun K hK => ?_
    try simp only [stepS, stepD, stepM, eq_self, implies_true, forall_eq_or_imp, forall_eq, Nat.reduceEqDiff, ↓reduceIte, Nat.reduceAdd, Nat.reduceLeDiff, Nat.reduceSub, Nat.reduceMul, Nat.reduceLT, Int.reduceBEq, Int.reduceBNe, Int.reduceToNat, Int.reduceLT, Int.reduceLE, Int.reduceAdd, Int.reduceSub, Int.reduceMul, reduceCtorEq]
    refine hK _ _ _ ?_
    clear hK K
    by_cases c5 : Mod (rawV L (rawP L p)) 7 = 5
    · rw [if_pos c5] at hR
      obtain ⟨e1, rfl⟩ := Prod.mk.inj hR
      obtain ⟨rfl, rfl⟩ := Prod.mk.inj e1
      have e : (Mod (rawV L (rawP L p)) 7 == 5) = true := by rw [c5]; rfl
      have hev : l.map Mem.v ++ [.agg [.int l[0].host, .int l[0].group, .int l[0].mode, .sl 1 (l[0].srcs.map .int) false, .int l[0].till]] = (l ++ [l.getD 0 ⟨0, 0, 0, [], 0⟩]).map Mem.v := by
        have : l.getD 0 ⟨0, 0, 0, [], 0⟩ = l[0] := getD_mem hl0
        rw [this, List.map_append]; rfl
      refine AWP.cond (b := true) (congrArg AV.bool e) (fun c => ?_) (fun c => by cases c)
      refine AWP.dreg' fun K hK => ?_
      try simp only [stepS, stepD, stepM, eq_self, implies_true, forall_eq_or_imp, forall_eq, Nat.reduceEqDiff, ↓reduceIte, Nat.reduceAdd, Nat.reduceLeDiff, Nat.reduceSub, Nat.reduceMul, Nat.reduceLT, Int.reduceBEq, Int.reduceBNe, Int.reduceToNat, Int.reduceLT, Int.reduceLE, Int.reduceAdd, Int.reduceSub, Int.reduceMul, reduceCtorEq, getD_mems hl0]
      repeat (refine And.intro (by omega) ?_)
      refine evD_lit ?_
      try simp only [stepS, stepD, stepM, eq_self, implies_true, forall_eq_or_imp, forall_eq, Nat.reduceEqDiff, ↓reduceIte, Nat.reduceAdd, Nat.reduceLeDiff, Nat.reduceSub, Nat.reduceMul, Nat.reduceLT, Int.reduceBEq, Int.reduceBNe, Int.reduceToNat, Int.reduceLT, Int.reduceLE, Int.reduceAdd, Int.reduceSub, Int.reduceMul, reduceCtorEq, appendA, srcA, hev]
      repeat (refine And.intro (by omega) ?_)
      refine ⟨by rfl, hK _ _ _ ?_⟩
      clear hK K
      refine Weak.nf [0, 17, 145, 721] _ _ ?_ ?_ ⟨rfl, rfl⟩ (by decide) (by decide) (by decide)
      · repeat' (first | exact trivial | exact And.intro rfl trivial | refine And.intro ?_ ?_ | rfl | exact Nat.le_of_ble_eq_true rfl | exact congrArg some (vec_ren (m := 0) hps').1.symm | exact (vec_ren (π := id) hps').2)
      · repeat' (first | exact trivial | exact And.intro rfl trivial | refine And.intro ?_ ?_ | rfl | exact Nat.le_of_ble_eq_true rfl | exact congrArg some (vec_ren (m := 0) hps').1.symm | exact (vec_ren (π := id) hps').2)
    have e5 : (Mod (rawV L (rawP L p)) 7 == 5) = false := by simpa using c5
    rw [if_neg c5] at hR
    refine AWP.cond (b := false) (congrArg AV.bool e5) (fun c => by cases c) (fun c => ?_)
    obtain ⟨e1, rfl⟩ := Prod.mk.inj hR
    obtain ⟨rfl, rfl⟩ := Prod.mk.inj e1
    refine AWP.reg' fun K hK => ?_
    try simp only [stepS, stepD, stepM, eq_self, implies_true, forall_eq_or_imp, forall_eq, Nat.reduceEqDiff, ↓reduceIte, Nat.reduceAdd, Nat.reduceLeDiff, Nat.reduceSub, Nat.reduceMul, Nat.reduceLT, Int.reduceBEq, Int.reduceBNe, Int.reduceToNat, Int.reduceLT, Int.reduceLE, Int.reduceAdd, Int.reduceSub, Int.reduceMul, reduceCtorEq]
    refine hK _ _ _ ?_
    clear hK K
    refine Weak.nf [0, 17, 145, 113] _ _ ?_ ?_ ⟨rfl, rfl⟩ (by decide) (by decide) (by decide)
    · repeat' (first | exact trivial | exact And.intro rfl trivial | refine And.intro ?_ ?_ | rfl | exact Nat.le_of_ble_eq_true rfl | exact congrArg some (vec_ren (m := 0) hps').1.symm | exact (vec_ren (π := id) hps').2)
    · repeat' (first | exact trivial | exact And.intro rfl trivial | refine And.intro ?_ ?_ | rfl | exact Nat.le_of_ble_eq_true rfl | exact congrArg some (vec_ren (m := 0) hps').1.symm | exact (vec_ren (π := id) hps').2)
  repeat (first
    | refine AWP.seq' ?_
    | refine AWP.skip ?_
    | (refine AWP.reg' fun K hK => ?_; simp only [stepS, stepD, stepM, eq_self, implies_true, forall_eq_or_imp, forall_eq, Nat.reduceEqDiff, ↓reduceIte, Nat.reduceAdd, Nat.reduceLeDiff, Nat.reduceSub, Nat.reduceMul, Nat.reduceLT, Int.reduceBEq, Int.reduceBNe, Int.reduceToNat, Int.reduceLT, Int.reduceLE, Int.reduceAdd, Int.reduceSub, Int.reduceMul, reduceCtorEq]; (repeat (refine And.intro (by omega) ?_)); refine hK _ _ _ ?_; clear hK K))
  refine AWP.weak (Weak.giveB 1 1 3 rfl rfl rfl hps') ?_
  exact AWP.ret (fin_ret rfl rfl ⟨rfl, trivial⟩)
end Go.Proofs.Ytaboolnmkfenlaa
