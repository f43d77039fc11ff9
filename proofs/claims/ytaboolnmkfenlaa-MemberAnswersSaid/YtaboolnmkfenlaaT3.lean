/- Contract of the draw Members. -/
import Derived.Test.YtaboolnmkfenlaaT2
import Derived.Test.YtaboolnmkfenlaaP1
namespace Go.Proofs.Ytaboolnmkfenlaa
open Go Go.Am
set_option linter.unusedVariables false
set_option linter.unusedSimpArgs false
theorem Members_fn : FnOk Try.prog 21 := fn_ok Try.func21 (by kernel_rfl)

def mkMem (now h g m : Int) (s : List Int) (u : Int) : Mem := ⟨h, g, if m = 1 ∧ s = [] then 2 else m, s, now + u⟩
def memStep (l : List Mem) (x : Mem) : List Mem := if hit l x.host x.group then l.set (posM l x.group x.host) x else insAt l (posM l x.group x.host) x
def memLoop (L : List Int) (now : Int) : Nat → List Mem → Nat → List Mem × Nat
  | 0, l, p => (l, p)
  | i + 1, l, p => memLoop L now i (memStep l (mkMem now (1 + Mod (rawV L p) 8) (1 + Mod (rawV L (rawP L p)) 4) (filterT L (rawP L (rawP L p))).1.1 (filterT L (rawP L (rawP L p))).1.2 (pickI [0, 1, 30, 1000] (rawV L (filterT L (rawP L (rawP L p))).2))))
      (rawP L (filterT L (rawP L (rawP L p))).2)
def membersF (L : List Int) (p : Nat) (n : Int) : (Int × List Mem) × Nat :=
  ((pickI [0, 10, 500, 998000] (rawV L p), (memLoop L (pickI [0, 10, 500, 998000] (rawV L p)) (Mod (rawV L (rawP L p)) (n + 1)).toNat [] (rawP L (rawP L p))).1), (memLoop L (pickI [0, 10, 500, 998000] (rawV L p)) (Mod (rawV L (rawP L p)) (n + 1)).toNat [] (rawP L (rawP L p))).2)

theorem Members_spec (L : List Int) (p : Nat) (n : Int) (hp : p ≤ L.length) (hn : 0 ≤ n ∧ n ≤ 60) :
    HSpec Try.prog 21 [.ref 0 0, .int n] [.box (tp L p)] (memsV (membersF L p n).1.1 (membersF L p n).1.2) [some (.box (tp L (membersF L p n).2))] := by
  have hml := maxLen_eq
  have hm := Mod_range (x := rawV L (rawP L p)) (show 1 ≤ n + 1 by omega)
  have w0 : IntKind.i64.wrap (n + 1) = n + 1 := wrap64 (by omega)
  have hnow : 0 ≤ pickI [0, 10, 500, 998000] (rawV L p) ∧ pickI [0, 10, 500, 998000] (rawV L p) ≤ 998000 := by
    have := pickI_mem (l := [0, 10, 500, 998000]) (by simp) (rawV L p)
    generalize pickI _ _ = v at this
    simp only [List.mem_cons, List.not_mem_nil, or_false] at this
    omega
  refine HSpec.walk Try.func21 cf21_ok (by simp [cf21]) ?_
  unfold cf21
  simp only [initT, initH, List.length_cons, List.length_nil]
  refine AWP.seq' ?_
  refine AWP.reg' fun K hK => ?_
  try simp only [stepS, stepD, stepM, eq_self, implies_true, forall_eq_or_imp, forall_eq, Nat.reduceEqDiff, ↓reduceIte, Nat.reduceAdd, Nat.reduceLeDiff, Nat.reduceSub, Nat.reduceMul, Nat.reduceLT, Int.reduceBEq, Int.reduceBNe, Int.reduceToNat, Int.reduceLT, Int.reduceLE, Int.reduceAdd, Int.reduceSub, Int.reduceMul, reduceCtorEq]
  refine hK _ _ _ ?_
  clear hK K
  refine AWP.seq' ?_
  refine AWP.reg' fun K hK => ?_
  try simp only [stepS, stepD, stepM, eq_self, implies_true, forall_eq_or_imp, forall_eq, Nat.reduceEqDiff, ↓reduceIte, Nat.reduceAdd, Nat.reduceLeDiff, Nat.reduceSub, Nat.reduceMul, Nat.reduceLT, Int.reduceBEq, Int.reduceBNe, Int.reduceToNat, Int.reduceLT, Int.reduceLE, Int.reduceAdd, Int.reduceSub, Int.reduceMul, reduceCtorEq]
  refine evT_lit ?_
  try simp only [stepS, stepD, stepM, eq_self, implies_true, forall_eq_or_imp, forall_eq, Nat.reduceEqDiff, ↓reduceIte, Nat.reduceAdd, Nat.reduceLeDiff, Nat.reduceSub, Nat.reduceMul, Nat.reduceLT, Int.reduceBEq, Int.reduceBNe, Int.reduceToNat, Int.reduceLT, Int.reduceLE, Int.reduceAdd, Int.reduceSub, Int.reduceMul, reduceCtorEq]
  refine evT_own (Pick_spec L p [0, 10, 500, 998000] true hp (by simp)) Pick_fn (by repeat' (first | exact trivial | assumption | refine And.intro ?_ ?_)) (tp_pure _ _) (tp_pure _ _) (by repeat' (first | exact trivial | assumption | refine And.intro ?_ ?_)) rfl (by rfl) (by rfl) ?_
  try simp only [stepS, stepD, stepM, eq_self, implies_true, forall_eq_or_imp, forall_eq, Nat.reduceEqDiff, ↓reduceIte, Nat.reduceAdd, Nat.reduceLeDiff, Nat.reduceSub, Nat.reduceMul, Nat.reduceLT, Int.reduceBEq, Int.reduceBNe, Int.reduceToNat, Int.reduceLT, Int.reduceLE, Int.reduceAdd, Int.reduceSub, Int.reduceMul, reduceCtorEq]
  refine hK _ _ _ ?_
  clear hK K
  refine AWP.seq' (AWP.seq' ?_)
  refine AWP.reg' fun K hK => ?_
  try simp only [stepS, stepD, stepM, eq_self, implies_true, forall_eq_or_imp, forall_eq, Nat.reduceEqDiff, ↓reduceIte, Nat.reduceAdd, Nat.reduceLeDiff, Nat.reduceSub, Nat.reduceMul, Nat.reduceLT, Int.reduceBEq, Int.reduceBNe, Int.reduceToNat, Int.reduceLT, Int.reduceLE, Int.reduceAdd, Int.reduceSub, Int.reduceMul, reduceCtorEq, w0]
  refine evT_own (N_spec L (rawP L p) (n + 1) (rawP_le hp)) N_fn (by repeat' (first | exact trivial | assumption | refine And.intro ?_ ?_)) (tp_pure _ _) (tp_pure _ _) (by repeat' (first | exact trivial | assumption | refine And.intro ?_ ?_)) rfl (by rfl) (by rfl) ?_
  try simp only [stepS, stepD, stepM, eq_self, implies_true, forall_eq_or_imp, forall_eq, Nat.reduceEqDiff, ↓reduceIte, Nat.reduceAdd, Nat.reduceLeDiff, Nat.reduceSub, Nat.reduceMul, Nat.reduceLT, Int.reduceBEq, Int.reduceBNe, Int.reduceToNat, Int.reduceLT, Int.reduceLE, Int.reduceAdd, Int.reduceSub, Int.reduceMul, reduceCtorEq]
  refine hK _ _ _ ?_
  clear hK K
  have hR : memsV (membersF L p n).1.1 (membersF L p n).1.2 = memsV (pickI [0, 10, 500, 998000] (rawV L p)) (membersF L p n).1.2 := rfl
  rw [hR]
  generalize hQ : (membersF L p n).1.2 = Q1
  generalize hQ2 : (membersF L p n).2 = Q2
  have hQ : (memLoop L (pickI [0, 10, 500, 998000] (rawV L p)) (Mod (rawV L (rawP L p)) (n + 1)).toNat [] (rawP L (rawP L p))) = (Q1, Q2) := by rw [← hQ, ← hQ2]; rfl
  generalize pickI [0, 10, 500, 998000] (rawV L p) = now at hnow hQ ⊢
  clear hR hQ2
  refine AWP.weak (Weak.nilvecB 81 1 0 5 [.int now, .sl 0 [] true] rfl rfl (by omega)) ?_
  refine AWP.block ?_
  refine AWP.loopS (σ := Nat × List Mem × Nat) (fun s => ⟨resT [(0, .ref 0 0), (4, .ref 1 0), (5, .ref 2 0), (6, .int (s.1 : Nat))],
      hpL 0 [some (.box (tp L s.2.2)), some (.box (.agg [.int 0, .sl 0 [] true])), some (.box (.agg [.int now, .vec 3])), some (.vec 5 (s.2.1.map Mem.v))], 4⟩)
    (fun s => memLoop L now s.1 s.2.1 s.2.2 = (Q1, Q2) ∧ s.2.2 ≤ L.length ∧ s.1 + s.2.1.length ≤ 1000) (fun s => s.1) (i0 := ((Mod (rawV L (rawP L p)) (n + 1)).toNat, [], rawP L (rawP L p))) ⟨hQ, rawP_le (rawP_le hp), by simp; omega⟩ ?_ ?_
  · have e : Mod (rawV L (rawP L p)) (n + 1) = ((Mod (rawV L (rawP L p)) (n + 1)).toNat : Int) := by omega
    simp only
    rw [← e]
    refine Weak.nf [0, 1, 81, 193] _ _ ?_ ?_ ⟨rfl, rfl⟩ (by decide) (by decide) (by decide)
    · repeat' (first | exact trivial | exact And.intro rfl trivial | refine And.intro ?_ ?_ | rfl | exact Nat.le_of_ble_eq_true rfl)
    · repeat' (first | exact trivial | exact And.intro rfl trivial | refine And.intro ?_ ?_ | rfl | exact Nat.le_of_ble_eq_true rfl)
  clear hQ
  rintro ⟨i, l, pos⟩ ⟨h1, h2, h3⟩
  simp only at h1 h2 h3 ⊢
  repeat (first
    | refine AWP.seq' ?_
    | refine AWP.skip ?_
    | (refine AWP.reg' fun K hK => ?_; simp only [stepS, stepD, stepM, eq_self, implies_true, forall_eq_or_imp, forall_eq, Nat.reduceEqDiff, ↓reduceIte, Nat.reduceAdd, Nat.reduceLeDiff, Nat.reduceSub, Nat.reduceMul, Nat.reduceLT, Int.reduceBEq, Int.reduceBNe, Int.reduceToNat, Int.reduceLT, Int.reduceLE, Int.reduceAdd, Int.reduceSub, Int.reduceMul, reduceCtorEq]; (repeat (refine And.intro (by omega) ?_)); refine hK _ _ _ ?_; clear hK K))
  refine AWP.cond (b := decide (0 < (i : Int))) rfl (fun c => ?_) (fun c => ?_)
  · have c : 0 < i := by have := of_decide_eq_true c; omega
    obtain ⟨i, rfl⟩ : ∃ k, i = k + 1 := ⟨i - 1, by omega⟩
    have w : IntKind.i64.wrap (((i + 1 : Nat) : Int) - 1) = (i : Int) := wrapN (by omega) (by omega)
    refine AWP.skip ?_
    refine AWP.seq' ?_
    refine AWP.block ?_
    refine AWP.seq' ?_
    have r1 : HSpec Try.prog 10 [.ref 0 0, .int 1, .int 8] [.box (tp L pos)] (.int (1 + Mod (rawV L pos) 8)) [some (.box (tp L (rawP L pos)))] := Range_spec L pos 1 8 h2 (by omega) (by omega) (by omega)
    have r2 : HSpec Try.prog 10 [.ref 0 0, .int 1, .int 4] [.box (tp L (rawP L pos))] (.int (1 + Mod (rawV L (rawP L pos)) 4)) [some (.box (tp L (rawP L (rawP L pos))))] := Range_spec L (rawP L pos) 1 4 (rawP_le h2) (by omega) (by omega) (by omega)
    have r3 := Filter_spec L (rawP L (rawP L pos)) (rawP_le (rawP_le h2))
    have p3 := filterT_pos (rawP_le (rawP_le h2))
    have r4 := Pick_spec L (filterT L (rawP L (rawP L pos))).2 [0, 1, 30, 1000] true p3 (by simp)
    have p4 := rawP_le p3
    have hu := pickI_mem (l := [0, 1, 30, 1000]) (by simp) (rawV L (filterT L (rawP L (rawP L pos))).2)
    have mh := Mod_range (x := rawV L pos) (show (1 : Int) ≤ 8 by omega)
    have mg := Mod_range (x := rawV L (rawP L pos)) (show (1 : Int) ≤ 4 by omega)
    have mf := filterT_ok L (rawP L (rawP L pos))
    rw [memLoop] at h1
    generalize 1 + Mod (rawV L pos) 8 = h at r1 h1
    generalize 1 + Mod (rawV L (rawP L pos)) 4 = g at r2 h1
    generalize (filterT L (rawP L (rawP L pos))).1.1 = m at r3 h1 mf
    generalize (filterT L (rawP L (rawP L pos))).1.2 = s at r3 h1 mf
    generalize pickI [0, 1, 30, 1000] (rawV L (filterT L (rawP L (rawP L pos))).2) = u at r4 h1 hu
    generalize rawP L (filterT L (rawP L (rawP L pos))).2 = pos' at r4 h1 p4
    generalize (filterT L (rawP L (rawP L pos))).2 = p2 at r3 r4 p3
    simp only [List.mem_cons, List.not_mem_nil, or_false] at hu
    have wu : IntKind.i64.wrap (now + u) = now + u := wrap64 (by omega)
    refine AWP.dreg' fun K hK => ?_
    try simp only [stepS, stepD, stepM, eq_self, implies_true, forall_eq_or_imp, forall_eq, Nat.reduceEqDiff, ↓reduceIte, Nat.reduceAdd, Nat.reduceLeDiff, Nat.reduceSub, Nat.reduceMul, Nat.reduceLT, Int.reduceBEq, Int.reduceBNe, Int.reduceToNat, Int.reduceLT, Int.reduceLE, Int.reduceAdd, Int.reduceSub, Int.reduceMul, reduceCtorEq]
    refine evD_own (r1) Range_fn (by repeat' (first | exact trivial | assumption | refine And.intro ?_ ?_)) (tp_pure _ _) (tp_pure _ _) (by repeat' (first | exact trivial | assumption | refine And.intro ?_ ?_)) rfl (by rfl) (by rfl) ?_
    try simp only [stepS, stepD, stepM, eq_self, implies_true, forall_eq_or_imp, forall_eq, Nat.reduceEqDiff, ↓reduceIte, Nat.reduceAdd, Nat.reduceLeDiff, Nat.reduceSub, Nat.reduceMul, Nat.reduceLT, Int.reduceBEq, Int.reduceBNe, Int.reduceToNat, Int.reduceLT, Int.reduceLE, Int.reduceAdd, Int.reduceSub, Int.reduceMul, reduceCtorEq]
    refine evD_own (r2) Range_fn (by repeat' (first | exact trivial | assumption | refine And.intro ?_ ?_)) (tp_pure _ _) (tp_pure _ _) (by repeat' (first | exact trivial | assumption | refine And.intro ?_ ?_)) rfl (by rfl) (by rfl) ?_
    try simp only [stepS, stepD, stepM, eq_self, implies_true, forall_eq_or_imp, forall_eq, Nat.reduceEqDiff, ↓reduceIte, Nat.reduceAdd, Nat.reduceLeDiff, Nat.reduceSub, Nat.reduceMul, Nat.reduceLT, Int.reduceBEq, Int.reduceBNe, Int.reduceToNat, Int.reduceLT, Int.reduceLE, Int.reduceAdd, Int.reduceSub, Int.reduceMul, reduceCtorEq]
    refine evD_own (r3) Filter_fn (by repeat' (first | exact trivial | assumption | refine And.intro ?_ ?_)) (tp_pure _ _) (tp_pure _ _) (by repeat' (first | exact trivial | assumption | refine And.intro ?_ ?_)) rfl (by rfl) (by rfl) ?_
    try simp only [stepS, stepD, stepM, eq_self, implies_true, forall_eq_or_imp, forall_eq, Nat.reduceEqDiff, ↓reduceIte, Nat.reduceAdd, Nat.reduceLeDiff, Nat.reduceSub, Nat.reduceMul, Nat.reduceLT, Int.reduceBEq, Int.reduceBNe, Int.reduceToNat, Int.reduceLT, Int.reduceLE, Int.reduceAdd, Int.reduceSub, Int.reduceMul, reduceCtorEq, fltV, ints]
    refine evD_lit ?_
    try simp only [stepS, stepD, stepM, eq_self, implies_true, forall_eq_or_imp, forall_eq, Nat.reduceEqDiff, ↓reduceIte, Nat.reduceAdd, Nat.reduceLeDiff, Nat.reduceSub, Nat.reduceMul, Nat.reduceLT, Int.reduceBEq, Int.reduceBNe, Int.reduceToNat, Int.reduceLT, Int.reduceLE, Int.reduceAdd, Int.reduceSub, Int.reduceMul, reduceCtorEq]
    refine evD_own (r4) Pick_fn (by repeat' (first | exact trivial | assumption | refine And.intro ?_ ?_)) (tp_pure _ _) (tp_pure _ _) (by repeat' (first | exact trivial | assumption | refine And.intro ?_ ?_)) rfl (by rfl) (by rfl) ?_
    try simp only [stepS, stepD, stepM, eq_self, implies_true, forall_eq_or_imp, forall_eq, Nat.reduceEqDiff, ↓reduceIte, Nat.reduceAdd, Nat.reduceLeDiff, Nat.reduceSub, Nat.reduceMul, Nat.reduceLT, Int.reduceBEq, Int.reduceBNe, Int.reduceToNat, Int.reduceLT, Int.reduceLE, Int.reduceAdd, Int.reduceSub, Int.reduceMul, reduceCtorEq, wu]
    refine ⟨by rfl, hK _ _ _ ?_⟩
    clear hK K
    have hpl := pureL_mems l
    generalize hmm : (if m = 1 ∧ s = [] then 2 else m) = mm
    have hX : mkMem now h g m s u = ⟨h, g, mm, s, now + u⟩ := by rw [mkMem, hmm]
    rw [hX] at h1
    refine AWP.seqW ⟨resT [(0, .ref 0 0), (4, .ref 1 0), (5, .ref 2 0), (6, .int ((i + 1 : Nat) : Int)), (7, .ref 4 0)], hpL 0 [some (.box (tp L pos')), some (.box (.agg [.int 0, .sl 0 [] true])), some (.box (.agg [.int now, .vec 3])), some (.vec 5 (l.map Mem.v)), some (.box (.agg [.int h, .int g, .int mm, .sl 1 (s.map .int) false, .int (now + u)]))], 5⟩ ?_ ?_
    · refine AWP.seq' ?_
      by_cases m1 : m = 1
      case neg =>
        have e : (m == 1) = false := by simpa using m1
        rw [if_neg (fun x => m1 x.1)] at hmm
        subst hmm
        refine AWP.reg' fun K hK => ?_
        try simp only [stepS, stepD, stepM, eq_self, implies_true, forall_eq_or_imp, forall_eq, Nat.reduceEqDiff, ↓reduceIte, Nat.reduceAdd, Nat.reduceLeDiff, Nat.reduceSub, Nat.reduceMul, Nat.reduceLT, Int.reduceBEq, Int.reduceBNe, Int.reduceToNat, Int.reduceLT, Int.reduceLE, Int.reduceAdd, Int.reduceSub, Int.reduceMul, reduceCtorEq, e]
        refine hK _ _ _ ?_
        clear hK K
        refine AWP.cond (b := false) rfl (fun c => by cases c) (fun c => ?_)
        refine AWP.skip ?_
        refine Weak.nf [0, 1, 2, 3, 244] _ _ ?_ ?_ ⟨rfl, rfl⟩ (by decide) (by decide) (by decide)
        · repeat' (first | exact trivial | exact And.intro rfl trivial | refine And.intro ?_ ?_ | rfl | exact Nat.le_of_ble_eq_true rfl | exact congrArg some (vec_ren (m := 0) hpl).1.symm | exact (vec_ren (π := id) hpl).2)
        · repeat' (first | exact trivial | exact And.intro rfl trivial | refine And.intro ?_ ?_ | rfl | exact Nat.le_of_ble_eq_true rfl | exact congrArg some (vec_ren (m := 0) hpl).1.symm | exact (vec_ren (π := id) hpl).2)
      have e : (m == 1) = true := by simpa using m1
      refine AWP.reg' fun K hK => ?_
      try simp only [stepS, stepD, stepM, eq_self, implies_true, forall_eq_or_imp, forall_eq, Nat.reduceEqDiff, ↓reduceIte, Nat.reduceAdd, Nat.reduceLeDiff, Nat.reduceSub, Nat.reduceMul, Nat.reduceLT, Int.reduceBEq, Int.reduceBNe, Int.reduceToNat, Int.reduceLT, Int.reduceLE, Int.reduceAdd, Int.reduceSub, Int.reduceMul, reduceCtorEq, e]
      refine hK _ _ _ ?_
      clear hK K
      refine AWP.cond (b := ((s.length : Int) == 0)) rfl (fun c => ?_) (fun c => ?_)
      · have hs : s = [] := by have := eq_of_beq c; exact List.length_eq_zero_iff.mp (by omega)
        rw [if_pos ⟨m1, hs⟩] at hmm
        subst hmm
        refine AWP.reg' fun K hK => ?_
        try simp only [stepS, stepD, stepM, eq_self, implies_true, forall_eq_or_imp, forall_eq, Nat.reduceEqDiff, ↓reduceIte, Nat.reduceAdd, Nat.reduceLeDiff, Nat.reduceSub, Nat.reduceMul, Nat.reduceLT, Int.reduceBEq, Int.reduceBNe, Int.reduceToNat, Int.reduceLT, Int.reduceLE, Int.reduceAdd, Int.reduceSub, Int.reduceMul, reduceCtorEq]
        refine hK _ _ _ ?_
        clear hK K
        refine Weak.nf [0, 1, 2, 3, 244] _ _ ?_ ?_ ⟨rfl, rfl⟩ (by decide) (by decide) (by decide)
        · repeat' (first | exact trivial | exact And.intro rfl trivial | refine And.intro ?_ ?_ | rfl | exact Nat.le_of_ble_eq_true rfl | exact congrArg some (vec_ren (m := 0) hpl).1.symm | exact (vec_ren (π := id) hpl).2)
        · repeat' (first | exact trivial | exact And.intro rfl trivial | refine And.intro ?_ ?_ | rfl | exact Nat.le_of_ble_eq_true rfl | exact congrArg some (vec_ren (m := 0) hpl).1.symm | exact (vec_ren (π := id) hpl).2)
      have hs : s ≠ [] := fun e => by subst e; cases c
      rw [if_neg (fun x => hs x.2)] at hmm
      subst hmm
      refine AWP.skip ?_
      refine Weak.nf [0, 1, 2, 3, 244] _ _ ?_ ?_ ⟨rfl, rfl⟩ (by decide) (by decide) (by decide)
      · repeat' (first | exact trivial | exact And.intro rfl trivial | refine And.intro ?_ ?_ | rfl | exact Nat.le_of_ble_eq_true rfl | exact congrArg some (vec_ren (m := 0) hpl).1.symm | exact (vec_ren (π := id) hpl).2)
      · repeat' (first | exact trivial | exact And.intro rfl trivial | refine And.intro ?_ ?_ | rfl | exact Nat.le_of_ble_eq_true rfl | exact congrArg some (vec_ren (m := 0) hpl).1.symm | exact (vec_ren (π := id) hpl).2)
    clear hmm hX
    refine AWP.seq' ?_
    refine AWP.reg' fun K hK => ?_
    try simp only [stepS, stepD, stepM, eq_self, implies_true, forall_eq_or_imp, forall_eq, Nat.reduceEqDiff, ↓reduceIte, Nat.reduceAdd, Nat.reduceLeDiff, Nat.reduceSub, Nat.reduceMul, Nat.reduceLT, Int.reduceBEq, Int.reduceBNe, Int.reduceToNat, Int.reduceLT, Int.reduceLE, Int.reduceAdd, Int.reduceSub, Int.reduceMul, reduceCtorEq]
    refine hK _ _ _ ?_
    clear hK K
    have hq : posM l g h ≤ l.length := posM_le _ _ _
    have hlo : ∀ j, (hj : j < l.length) → j < posM l g h → ltM l[j] g h := posM_lo
    have hhi : (hj : posM l g h < l.length) → ¬ ltM l[posM l g h] g h := fun hj => by
      have := List.findIdx_getElem (p := fun x => !decide (ltM x g h)) (xs := l) (w := hj)
      rw [Bool.not_eq_true'] at this
      exact of_decide_eq_false this
    have hstep : memStep l ⟨h, g, mm, s, now + u⟩ = if (posM l g h < l.length ∧ (l.getD (posM l g h) mem0).group = g ∧ (l.getD (posM l g h) mem0).host = h) then l.set (posM l g h) ⟨h, g, mm, s, now + u⟩ else insAt l (posM l g h) ⟨h, g, mm, s, now + u⟩ := rfl
    generalize posM l g h = q at hq hlo hhi hstep
    refine AWP.seqW ⟨resT [(0, .ref 0 0), (4, .ref 1 0), (5, .ref 2 0), (6, .int ((i + 1 : Nat) : Int)), (7, .ref 4 0), (8, .int (q : Nat))], hpL 0 [some (.box (tp L pos')), some (.box (.agg [.int 0, .sl 0 [] true])), some (.box (.agg [.int now, .vec 3])), some (.vec 5 (l.map Mem.v)), some (.box (.agg [.int h, .int g, .int mm, .sl 1 (s.map .int) false, .int (now + u)]))], 5⟩ ?_ ?_
    · refine AWP.block ?_
      refine AWP.loopS (fun k => ⟨resT [(0, .ref 0 0), (4, .ref 1 0), (5, .ref 2 0), (6, .int ((i + 1 : Nat) : Int)), (7, .ref 4 0), (8, .int (k : Nat))], hpL 0 [some (.box (tp L pos')), some (.box (.agg [.int 0, .sl 0 [] true])), some (.box (.agg [.int now, .vec 3])), some (.vec 5 (l.map Mem.v)), some (.box (.agg [.int h, .int g, .int mm, .sl 1 (s.map .int) false, .int (now + u)]))], 5⟩) (fun k => k ≤ q) (fun k => l.length - k) (i0 := 0) (Nat.zero_le _) ?_ ?_
      · refine Weak.nf [0, 1, 2, 3, 4] _ _ ?_ ?_ ⟨rfl, rfl⟩ (by decide) (by decide) (by decide)
        · repeat' (first | exact trivial | exact And.intro rfl trivial | refine And.intro ?_ ?_ | rfl | exact Nat.le_of_ble_eq_true rfl | exact congrArg some (vec_ren (m := 0) hpl).1.symm | exact (vec_ren (π := id) hpl).2)
        · repeat' (first | exact trivial | exact And.intro rfl trivial | refine And.intro ?_ ?_ | rfl | exact Nat.le_of_ble_eq_true rfl | exact congrArg some (vec_ren (m := 0) hpl).1.symm | exact (vec_ren (π := id) hpl).2)
      intro k hk
      refine AWP.seq' (AWP.seq' ?_)
      by_cases h2' : k < l.length
      case neg =>
        have e : ¬ (k : Int) < l.length := by omega
        have hkq : k = q := by omega
        subst hkq
        refine AWP.dreg' fun K hK => ?_
        try simp only [stepS, stepD, stepM, eq_self, implies_true, forall_eq_or_imp, forall_eq, Nat.reduceEqDiff, ↓reduceIte, Nat.reduceAdd, Nat.reduceLeDiff, Nat.reduceSub, Nat.reduceMul, Nat.reduceLT, Int.reduceBEq, Int.reduceBNe, Int.reduceToNat, Int.reduceLT, Int.reduceLE, Int.reduceAdd, Int.reduceSub, Int.reduceMul, reduceCtorEq, e]
        refine ⟨by rfl, hK _ _ _ ?_⟩
        clear hK K
        refine AWP.cond (b := false) rfl (fun c => by cases c) (fun c => ?_)
        refine AWP.exit ?_
        refine Weak.nf [0, 1, 2, 3, 4] _ _ ?_ ?_ ⟨rfl, rfl⟩ (by decide) (by decide) (by decide)
        · repeat' (first | exact trivial | exact And.intro rfl trivial | refine And.intro ?_ ?_ | rfl | exact Nat.le_of_ble_eq_true rfl | exact congrArg some (vec_ren (m := 0) hpl).1.symm | exact (vec_ren (π := id) hpl).2)
        · repeat' (first | exact trivial | exact And.intro rfl trivial | refine And.intro ?_ ?_ | rfl | exact Nat.le_of_ble_eq_true rfl | exact congrArg some (vec_ren (m := 0) hpl).1.symm | exact (vec_ren (π := id) hpl).2)
      have e : (k : Int) < l.length := by omega
      have wk : IntKind.i64.wrap ((k : Int) + 1) = ((k + 1 : Nat) : Int) := wrapN (by omega) (by omega)
      by_cases h4 : ltM l[k] g h
      · have hkq : k < q := by
          refine Classical.byContradiction fun e => ?_
          have : k = q := by omega
          subst this
          exact hhi h2' h4
        by_cases g1 : l[k].group < g
        · refine AWP.dreg' fun K hK => ?_
          try simp only [stepS, stepD, stepM, eq_self, implies_true, forall_eq_or_imp, forall_eq, Nat.reduceEqDiff, ↓reduceIte, Nat.reduceAdd, Nat.reduceLeDiff, Nat.reduceSub, Nat.reduceMul, Nat.reduceLT, Int.reduceBEq, Int.reduceBNe, Int.reduceToNat, Int.reduceLT, Int.reduceLE, Int.reduceAdd, Int.reduceSub, Int.reduceMul, reduceCtorEq, e, getD_mems h2', g1]
          repeat (refine And.intro (by omega) ?_)
          refine ⟨by rfl, hK _ _ _ ?_⟩
          clear hK K
          refine AWP.cond (b := true) rfl (fun c => ?_) (fun c => by cases c)
          refine AWP.skip ?_
          refine AWP.block ?_
          refine AWP.reg' fun K hK => ?_
          try simp only [stepS, stepD, stepM, eq_self, implies_true, forall_eq_or_imp, forall_eq, Nat.reduceEqDiff, ↓reduceIte, Nat.reduceAdd, Nat.reduceLeDiff, Nat.reduceSub, Nat.reduceMul, Nat.reduceLT, Int.reduceBEq, Int.reduceBNe, Int.reduceToNat, Int.reduceLT, Int.reduceLE, Int.reduceAdd, Int.reduceSub, Int.reduceMul, reduceCtorEq, wk]
          refine hK _ _ _ ?_
          clear hK K
          refine ⟨k + 1, hkq, by omega, ?_⟩
          refine Weak.nf [0, 1, 2, 3, 4] _ _ ?_ ?_ ⟨rfl, rfl⟩ (by decide) (by decide) (by decide)
          · repeat' (first | exact trivial | exact And.intro rfl trivial | refine And.intro ?_ ?_ | rfl | exact Nat.le_of_ble_eq_true rfl | exact congrArg some (vec_ren (m := 0) hpl).1.symm | exact (vec_ren (π := id) hpl).2)
          · repeat' (first | exact trivial | exact And.intro rfl trivial | refine And.intro ?_ ?_ | rfl | exact Nat.le_of_ble_eq_true rfl | exact congrArg some (vec_ren (m := 0) hpl).1.symm | exact (vec_ren (π := id) hpl).2)
        have g2 : (l[k].group == g) = true := by unfold ltM at h4; simp; omega
        have g3 : l[k].host < h := by unfold ltM at h4; omega
        refine AWP.dreg' fun K hK => ?_
        try simp only [stepS, stepD, stepM, eq_self, implies_true, forall_eq_or_imp, forall_eq, Nat.reduceEqDiff, ↓reduceIte, Nat.reduceAdd, Nat.reduceLeDiff, Nat.reduceSub, Nat.reduceMul, Nat.reduceLT, Int.reduceBEq, Int.reduceBNe, Int.reduceToNat, Int.reduceLT, Int.reduceLE, Int.reduceAdd, Int.reduceSub, Int.reduceMul, reduceCtorEq, e, getD_mems h2', g1, g2, g3]
        repeat (refine And.intro (by omega) ?_)
        refine ⟨by rfl, hK _ _ _ ?_⟩
        clear hK K
        refine AWP.cond (b := true) rfl (fun c => ?_) (fun c => by cases c)
        refine AWP.skip ?_
        refine AWP.block ?_
        refine AWP.reg' fun K hK => ?_
        try simp only [stepS, stepD, stepM, eq_self, implies_true, forall_eq_or_imp, forall_eq, Nat.reduceEqDiff, ↓reduceIte, Nat.reduceAdd, Nat.reduceLeDiff, Nat.reduceSub, Nat.reduceMul, Nat.reduceLT, Int.reduceBEq, Int.reduceBNe, Int.reduceToNat, Int.reduceLT, Int.reduceLE, Int.reduceAdd, Int.reduceSub, Int.reduceMul, reduceCtorEq, wk]
        refine hK _ _ _ ?_
        clear hK K
        refine ⟨k + 1, hkq, by omega, ?_⟩
        refine Weak.nf [0, 1, 2, 3, 4] _ _ ?_ ?_ ⟨rfl, rfl⟩ (by decide) (by decide) (by decide)
        · repeat' (first | exact trivial | exact And.intro rfl trivial | refine And.intro ?_ ?_ | rfl | exact Nat.le_of_ble_eq_true rfl | exact congrArg some (vec_ren (m := 0) hpl).1.symm | exact (vec_ren (π := id) hpl).2)
        · repeat' (first | exact trivial | exact And.intro rfl trivial | refine And.intro ?_ ?_ | rfl | exact Nat.le_of_ble_eq_true rfl | exact congrArg some (vec_ren (m := 0) hpl).1.symm | exact (vec_ren (π := id) hpl).2)
      have hkq : k = q := Classical.byContradiction fun e => h4 (hlo k h2' (by omega))
      subst hkq
      have g1 : ¬ l[k].group < g := fun x => h4 (.inl x)
      by_cases g2 : l[k].group = g
      · have g2' : (l[k].group == g) = true := by simpa using g2
        have g3 : ¬ l[k].host < h := fun x => h4 (.inr ⟨g2, x⟩)
        refine AWP.dreg' fun K hK => ?_
        try simp only [stepS, stepD, stepM, eq_self, implies_true, forall_eq_or_imp, forall_eq, Nat.reduceEqDiff, ↓reduceIte, Nat.reduceAdd, Nat.reduceLeDiff, Nat.reduceSub, Nat.reduceMul, Nat.reduceLT, Int.reduceBEq, Int.reduceBNe, Int.reduceToNat, Int.reduceLT, Int.reduceLE, Int.reduceAdd, Int.reduceSub, Int.reduceMul, reduceCtorEq, e, getD_mems h2', g1, g2', g3]
        repeat (refine And.intro (by omega) ?_)
        refine ⟨by rfl, hK _ _ _ ?_⟩
        clear hK K
        refine AWP.cond (b := false) rfl (fun c => by cases c) (fun c => ?_)
        refine AWP.exit ?_
        refine Weak.nf [0, 1, 2, 3, 4] _ _ ?_ ?_ ⟨rfl, rfl⟩ (by decide) (by decide) (by decide)
        · repeat' (first | exact trivial | exact And.intro rfl trivial | refine And.intro ?_ ?_ | rfl | exact Nat.le_of_ble_eq_true rfl | exact congrArg some (vec_ren (m := 0) hpl).1.symm | exact (vec_ren (π := id) hpl).2)
        · repeat' (first | exact trivial | exact And.intro rfl trivial | refine And.intro ?_ ?_ | rfl | exact Nat.le_of_ble_eq_true rfl | exact congrArg some (vec_ren (m := 0) hpl).1.symm | exact (vec_ren (π := id) hpl).2)
      have g2' : (l[k].group == g) = false := by simpa using g2
      refine AWP.dreg' fun K hK => ?_
      try simp only [stepS, stepD, stepM, eq_self, implies_true, forall_eq_or_imp, forall_eq, Nat.reduceEqDiff, ↓reduceIte, Nat.reduceAdd, Nat.reduceLeDiff, Nat.reduceSub, Nat.reduceMul, Nat.reduceLT, Int.reduceBEq, Int.reduceBNe, Int.reduceToNat, Int.reduceLT, Int.reduceLE, Int.reduceAdd, Int.reduceSub, Int.reduceMul, reduceCtorEq, e, getD_mems h2', g1, g2']
      repeat (refine And.intro (by omega) ?_)
      refine ⟨by rfl, hK _ _ _ ?_⟩
      clear hK K
      refine AWP.cond (b := false) rfl (fun c => by cases c) (fun c => ?_)
      refine AWP.exit ?_
      refine Weak.nf [0, 1, 2, 3, 4] _ _ ?_ ?_ ⟨rfl, rfl⟩ (by decide) (by decide) (by decide)
      · repeat' (first | exact trivial | exact And.intro rfl trivial | refine And.intro ?_ ?_ | rfl | exact Nat.le_of_ble_eq_true rfl | exact congrArg some (vec_ren (m := 0) hpl).1.symm | exact (vec_ren (π := id) hpl).2)
      · repeat' (first | exact trivial | exact And.intro rfl trivial | refine And.intro ?_ ?_ | rfl | exact Nat.le_of_ble_eq_true rfl | exact congrArg some (vec_ren (m := 0) hpl).1.symm | exact (vec_ren (π := id) hpl).2)
    by_cases hhit : q < l.length ∧ (l.getD q mem0).group = g ∧ (l.getD q mem0).host = h
    · rw [if_pos hhit] at hstep
      rw [hstep] at h1
      obtain ⟨q1, q2, q3⟩ := hhit
      rw [getD_mem q1] at q2 q3
      have e1 : (q : Int) < l.length := by omega
      have e2 : (l[q].group == g) = true := by simpa using q2
      have e3 : (l[q].host == h) = true := by simpa using q3
      have hps := pureL_mems (l.set q ⟨h, g, mm, s, now + u⟩)
      have hset : (l.map Mem.v).set q (.agg [.int h, .int g, .int mm, .sl 1 (s.map .int) false, .int (now + u)]) = (l.set q ⟨h, g, mm, s, now + u⟩).map Mem.v := by rw [List.map_set]; rfl
      refine AWP.seq' (AWP.seq' ?_)
      refine AWP.dreg' fun K hK => ?_
      try simp only [stepS, stepD, stepM, eq_self, implies_true, forall_eq_or_imp, forall_eq, Nat.reduceEqDiff, ↓reduceIte, Nat.reduceAdd, Nat.reduceLeDiff, Nat.reduceSub, Nat.reduceMul, Nat.reduceLT, Int.reduceBEq, Int.reduceBNe, Int.reduceToNat, Int.reduceLT, Int.reduceLE, Int.reduceAdd, Int.reduceSub, Int.reduceMul, reduceCtorEq, e1, getD_mems q1, e2, e3]
      repeat (refine And.intro (by omega) ?_)
      refine ⟨by rfl, hK _ _ _ ?_⟩
      clear hK K
      refine AWP.cond (b := true) rfl (fun c => ?_) (fun c => by cases c)
      refine AWP.seq' ?_
      refine AWP.reg' fun K hK => ?_
      try simp only [stepS, stepD, stepM, eq_self, implies_true, forall_eq_or_imp, forall_eq, Nat.reduceEqDiff, ↓reduceIte, Nat.reduceAdd, Nat.reduceLeDiff, Nat.reduceSub, Nat.reduceMul, Nat.reduceLT, Int.reduceBEq, Int.reduceBNe, Int.reduceToNat, Int.reduceLT, Int.reduceLE, Int.reduceAdd, Int.reduceSub, Int.reduceMul, reduceCtorEq, getD_mems q1, hset]
      repeat (refine And.intro (by omega) ?_)
      refine hK _ _ _ ?_
      clear hK K
      refine AWP.exit ?_
      refine AWP.reg' fun K hK => ?_
      try simp only [stepS, stepD, stepM, eq_self, implies_true, forall_eq_or_imp, forall_eq, Nat.reduceEqDiff, ↓reduceIte, Nat.reduceAdd, Nat.reduceLeDiff, Nat.reduceSub, Nat.reduceMul, Nat.reduceLT, Int.reduceBEq, Int.reduceBNe, Int.reduceToNat, Int.reduceLT, Int.reduceLE, Int.reduceAdd, Int.reduceSub, Int.reduceMul, reduceCtorEq, w]
      refine hK _ _ _ ?_
      clear hK K
      refine ⟨(i, l.set q ⟨h, g, mm, s, now + u⟩, pos'), ⟨h1, p4, by show i + (l.set q _).length ≤ 1000; rw [List.length_set]; omega⟩, Nat.lt_succ_self i, ?_⟩
      refine Weak.nf [0, 1, 2, 3] _ _ ?_ ?_ ⟨rfl, rfl⟩ (by decide) (by decide) (by decide)
      · repeat' (first | exact trivial | exact And.intro rfl trivial | refine And.intro ?_ ?_ | rfl | exact Nat.le_of_ble_eq_true rfl | exact congrArg some (vec_ren (m := 0) hps).1.symm | exact (vec_ren (π := id) hps).2)
      · repeat' (first | exact trivial | exact And.intro rfl trivial | refine And.intro ?_ ?_ | rfl | exact Nat.le_of_ble_eq_true rfl | exact congrArg some (vec_ren (m := 0) hps).1.symm | exact (vec_ren (π := id) hps).2)
    rw [if_neg hhit] at hstep
    rw [hstep] at h1
    refine AWP.seqW ⟨resT [(0, .ref 0 0), (4, .ref 1 0), (5, .ref 2 0), (6, .int ((i + 1 : Nat) : Int)), (7, .ref 4 0), (8, .int (q : Nat))], hpL 0 [some (.box (tp L pos')), some (.box (.agg [.int 0, .sl 0 [] true])), some (.box (.agg [.int now, .vec 3])), some (.vec 5 (l.map Mem.v)), some (.box (.agg [.int h, .int g, .int mm, .sl 1 (s.map .int) false, .int (now + u)]))], 5⟩ ?_ ?_
    · refine AWP.seq' ?_
      by_cases q1 : q < l.length
      case neg =>
        have e1 : ¬ (q : Int) < l.length := by omega
        refine AWP.dreg' fun K hK => ?_
        try simp only [stepS, stepD, stepM, eq_self, implies_true, forall_eq_or_imp, forall_eq, Nat.reduceEqDiff, ↓reduceIte, Nat.reduceAdd, Nat.reduceLeDiff, Nat.reduceSub, Nat.reduceMul, Nat.reduceLT, Int.reduceBEq, Int.reduceBNe, Int.reduceToNat, Int.reduceLT, Int.reduceLE, Int.reduceAdd, Int.reduceSub, Int.reduceMul, reduceCtorEq, e1]
        refine ⟨by rfl, hK _ _ _ ?_⟩
        clear hK K
        refine AWP.cond (b := false) rfl (fun c => by cases c) (fun c => ?_)
        refine AWP.skip ?_
        refine Weak.nf [0, 1, 2, 3, 4] _ _ ?_ ?_ ⟨rfl, rfl⟩ (by decide) (by decide) (by decide)
        · repeat' (first | exact trivial | exact And.intro rfl trivial | refine And.intro ?_ ?_ | rfl | exact Nat.le_of_ble_eq_true rfl | exact congrArg some (vec_ren (m := 0) hpl).1.symm | exact (vec_ren (π := id) hpl).2)
        · repeat' (first | exact trivial | exact And.intro rfl trivial | refine And.intro ?_ ?_ | rfl | exact Nat.le_of_ble_eq_true rfl | exact congrArg some (vec_ren (m := 0) hpl).1.symm | exact (vec_ren (π := id) hpl).2)
      have e1 : (q : Int) < l.length := by omega
      rw [getD_mem q1] at hhit
      by_cases q2 : l[q].group = g
      case neg =>
        have e2 : (l[q].group == g) = false := by simpa using q2
        refine AWP.dreg' fun K hK => ?_
        try simp only [stepS, stepD, stepM, eq_self, implies_true, forall_eq_or_imp, forall_eq, Nat.reduceEqDiff, ↓reduceIte, Nat.reduceAdd, Nat.reduceLeDiff, Nat.reduceSub, Nat.reduceMul, Nat.reduceLT, Int.reduceBEq, Int.reduceBNe, Int.reduceToNat, Int.reduceLT, Int.reduceLE, Int.reduceAdd, Int.reduceSub, Int.reduceMul, reduceCtorEq, e1, getD_mems q1, e2]
        repeat (refine And.intro (by omega) ?_)
        refine ⟨by rfl, hK _ _ _ ?_⟩
        clear hK K
        refine AWP.cond (b := false) rfl (fun c => by cases c) (fun c => ?_)
        refine AWP.skip ?_
        refine Weak.nf [0, 1, 2, 3, 4] _ _ ?_ ?_ ⟨rfl, rfl⟩ (by decide) (by decide) (by decide)
        · repeat' (first | exact trivial | exact And.intro rfl trivial | refine And.intro ?_ ?_ | rfl | exact Nat.le_of_ble_eq_true rfl | exact congrArg some (vec_ren (m := 0) hpl).1.symm | exact (vec_ren (π := id) hpl).2)
        · repeat' (first | exact trivial | exact And.intro rfl trivial | refine And.intro ?_ ?_ | rfl | exact Nat.le_of_ble_eq_true rfl | exact congrArg some (vec_ren (m := 0) hpl).1.symm | exact (vec_ren (π := id) hpl).2)
      have e2 : (l[q].group == g) = true := by simpa using q2
      have e3 : (l[q].host == h) = false := by
        have : l[q].host ≠ h := fun x => hhit ⟨q1, q2, x⟩
        simpa using this
      refine AWP.dreg' fun K hK => ?_
      try simp only [stepS, stepD, stepM, eq_self, implies_true, forall_eq_or_imp, forall_eq, Nat.reduceEqDiff, ↓reduceIte, Nat.reduceAdd, Nat.reduceLeDiff, Nat.reduceSub, Nat.reduceMul, Nat.reduceLT, Int.reduceBEq, Int.reduceBNe, Int.reduceToNat, Int.reduceLT, Int.reduceLE, Int.reduceAdd, Int.reduceSub, Int.reduceMul, reduceCtorEq, e1, getD_mems q1, e2, e3]
      repeat (refine And.intro (by omega) ?_)
      refine ⟨by rfl, hK _ _ _ ?_⟩
      clear hK K
      refine AWP.cond (b := false) rfl (fun c => by cases c) (fun c => ?_)
      refine AWP.skip ?_
      refine Weak.nf [0, 1, 2, 3, 4] _ _ ?_ ?_ ⟨rfl, rfl⟩ (by decide) (by decide) (by decide)
      · repeat' (first | exact trivial | exact And.intro rfl trivial | refine And.intro ?_ ?_ | rfl | exact Nat.le_of_ble_eq_true rfl | exact congrArg some (vec_ren (m := 0) hpl).1.symm | exact (vec_ren (π := id) hpl).2)
      · repeat' (first | exact trivial | exact And.intro rfl trivial | refine And.intro ?_ ?_ | rfl | exact Nat.le_of_ble_eq_true rfl | exact congrArg some (vec_ren (m := 0) hpl).1.symm | exact (vec_ren (π := id) hpl).2)
    refine AWP.weak (Weak.giveB 2 1 3 rfl rfl rfl hpl) ?_
    have d1 : List.take l.length (l.map Mem.v) = l.map Mem.v := List.take_of_length_le (by simp)
    have d2 : List.drop q (l.map Mem.v) = (l.drop q).map Mem.v := by rw [List.map_drop]
    have d3 : List.take q (l.map Mem.v) = (l.take q).map Mem.v := by rw [List.map_take]
    refine AWP.seq' ?_
    refine AWP.dreg' fun K hK => ?_
    try simp only [stepS, stepD, stepM, eq_self, implies_true, forall_eq_or_imp, forall_eq, Nat.reduceEqDiff, ↓reduceIte, Nat.reduceAdd, Nat.reduceLeDiff, Nat.reduceSub, Nat.reduceMul, Nat.reduceLT, Int.reduceBEq, Int.reduceBNe, Int.reduceToNat, Int.reduceLT, Int.reduceLE, Int.reduceAdd, Int.reduceSub, Int.reduceMul, reduceCtorEq, List.set_cons_succ, List.set_cons_zero]
    refine evD_litv ?_
    try simp only [stepS, stepD, stepM, eq_self, implies_true, forall_eq_or_imp, forall_eq, Nat.reduceEqDiff, ↓reduceIte, Nat.reduceAdd, Nat.reduceLeDiff, Nat.reduceSub, Nat.reduceMul, Nat.reduceLT, Int.reduceBEq, Int.reduceBNe, Int.reduceToNat, Int.reduceLT, Int.reduceLE, Int.reduceAdd, Int.reduceSub, Int.reduceMul, reduceCtorEq, evL, appendA, srcA, d1, d2, List.length_drop, List.set_cons_succ, List.set_cons_zero]
    repeat (refine And.intro (by omega) ?_)
    refine ⟨by rfl, hK _ _ _ ?_⟩
    clear hK K
    have hps := pureL_mems (insAt l q ⟨h, g, mm, s, now + u⟩)
    have hev : (l.take q).map Mem.v ++ AV.agg [.int h, .int g, .int mm, .sl 1 (s.map .int) false, .int (now + u)] :: (l.drop q).map Mem.v = (insAt l q ⟨h, g, mm, s, now + u⟩).map Mem.v := by simp [insAt]; rfl
    have hlen : (insAt l q (⟨h, g, mm, s, now + u⟩ : Mem)).length = l.length + 1 := by unfold insAt; simp; omega
    have hinv : memLoop L now i (insAt l q ⟨h, g, mm, s, now + u⟩) pos' = (Q1, Q2) ∧ pos' ≤ L.length ∧ i + (insAt l q (⟨h, g, mm, s, now + u⟩ : Mem)).length ≤ 1000 := ⟨h1, p4, by omega⟩
    by_cases h0 : (l.take q).map Mem.v = []
    · have hev2 : AV.agg [.int h, .int g, .int mm, .sl 1 (s.map .int) false, .int (now + u)] :: (l.drop q).map Mem.v = (insAt l q ⟨h, g, mm, s, now + u⟩).map Mem.v := by rw [← hev, h0]; rfl
      refine AWP.reg' fun K hK => ?_
      try simp only [stepS, stepD, stepM, eq_self, implies_true, forall_eq_or_imp, forall_eq, Nat.reduceEqDiff, ↓reduceIte, Nat.reduceAdd, Nat.reduceLeDiff, Nat.reduceSub, Nat.reduceMul, Nat.reduceLT, Int.reduceBEq, Int.reduceBNe, Int.reduceToNat, Int.reduceLT, Int.reduceLE, Int.reduceAdd, Int.reduceSub, Int.reduceMul, reduceCtorEq, appendA, srcA, d3, h0, hev2, List.length_drop, hlen]
      repeat (refine And.intro (by omega) ?_)
      refine hK _ _ _ ?_
      clear hK K
      refine AWP.reg' fun K hK => ?_
      try simp only [stepS, stepD, stepM, eq_self, implies_true, forall_eq_or_imp, forall_eq, Nat.reduceEqDiff, ↓reduceIte, Nat.reduceAdd, Nat.reduceLeDiff, Nat.reduceSub, Nat.reduceMul, Nat.reduceLT, Int.reduceBEq, Int.reduceBNe, Int.reduceToNat, Int.reduceLT, Int.reduceLE, Int.reduceAdd, Int.reduceSub, Int.reduceMul, reduceCtorEq, w]
      refine hK _ _ _ ?_
      clear hK K
      refine ⟨(i, insAt l q ⟨h, g, mm, s, now + u⟩, pos'), hinv, Nat.lt_succ_self i, ?_⟩
      refine Weak.nf [0, 1, 2, 229] _ _ ?_ ?_ ⟨rfl, rfl⟩ (by decide) (by decide) (by decide)
      · repeat' (first | exact trivial | exact And.intro rfl trivial | refine And.intro ?_ ?_ | rfl | exact Nat.le_of_ble_eq_true rfl | exact congrArg some (vec_ren (m := 0) hps).1.symm | exact (vec_ren (π := id) hps).2)
      · repeat' (first | exact trivial | exact And.intro rfl trivial | refine And.intro ?_ ?_ | rfl | exact Nat.le_of_ble_eq_true rfl | exact congrArg some (vec_ren (m := 0) hps).1.symm | exact (vec_ren (π := id) hps).2)
    have ht : (l.take q).length = q := by simp; omega
    refine AWP.reg' fun K hK => ?_
    try simp only [stepS, stepD, stepM, eq_self, implies_true, forall_eq_or_imp, forall_eq, Nat.reduceEqDiff, ↓reduceIte, Nat.reduceAdd, Nat.reduceLeDiff, Nat.reduceSub, Nat.reduceMul, Nat.reduceLT, Int.reduceBEq, Int.reduceBNe, Int.reduceToNat, Int.reduceLT, Int.reduceLE, Int.reduceAdd, Int.reduceSub, Int.reduceMul, reduceCtorEq, appendA, srcA, d3, h0, hev, List.length_drop, ht]
    repeat (refine And.intro (by omega) ?_)
    refine hK _ _ _ ?_
    clear hK K
    refine AWP.reg' fun K hK => ?_
    try simp only [stepS, stepD, stepM, eq_self, implies_true, forall_eq_or_imp, forall_eq, Nat.reduceEqDiff, ↓reduceIte, Nat.reduceAdd, Nat.reduceLeDiff, Nat.reduceSub, Nat.reduceMul, Nat.reduceLT, Int.reduceBEq, Int.reduceBNe, Int.reduceToNat, Int.reduceLT, Int.reduceLE, Int.reduceAdd, Int.reduceSub, Int.reduceMul, reduceCtorEq, w]
    refine hK _ _ _ ?_
    clear hK K
    refine ⟨(i, insAt l q ⟨h, g, mm, s, now + u⟩, pos'), hinv, Nat.lt_succ_self i, ?_⟩
    refine Weak.nf [0, 1, 2, 229] _ _ ?_ ?_ ⟨rfl, rfl⟩ (by decide) (by decide) (by decide)
    · repeat' (first | exact trivial | exact And.intro rfl trivial | refine And.intro ?_ ?_ | rfl | exact Nat.le_of_ble_eq_true rfl | exact congrArg some (vec_ren (m := 0) hps).1.symm | exact (vec_ren (π := id) hps).2)
    · repeat' (first | exact trivial | exact And.intro rfl trivial | refine And.intro ?_ ?_ | rfl | exact Nat.le_of_ble_eq_true rfl | exact congrArg some (vec_ren (m := 0) hps).1.symm | exact (vec_ren (π := id) hps).2)
  have c : i = 0 := by have := of_decide_eq_false c; omega
  subst c
  have e : (l, pos) = (Q1, Q2) := h1
  obtain ⟨rfl, rfl⟩ := Prod.mk.inj e
  have hps := pureL_mems l
  refine AWP.exit ?_
  repeat (first
    | refine AWP.seq' ?_
    | refine AWP.skip ?_
    | (refine AWP.reg' fun K hK => ?_; simp only [stepS, stepD, stepM, eq_self, implies_true, forall_eq_or_imp, forall_eq, Nat.reduceEqDiff, ↓reduceIte, Nat.reduceAdd, Nat.reduceLeDiff, Nat.reduceSub, Nat.reduceMul, Nat.reduceLT, Int.reduceBEq, Int.reduceBNe, Int.reduceToNat, Int.reduceLT, Int.reduceLE, Int.reduceAdd, Int.reduceSub, Int.reduceMul, reduceCtorEq]; (repeat (refine And.intro (by omega) ?_)); refine hK _ _ _ ?_; clear hK K))
  refine AWP.weak (Weak.giveB 1 1 3 rfl rfl rfl hps) ?_
  exact AWP.ret (fin_ret rfl rfl ⟨rfl, trivial⟩)
end Go.Proofs.Ytaboolnmkfenlaa
