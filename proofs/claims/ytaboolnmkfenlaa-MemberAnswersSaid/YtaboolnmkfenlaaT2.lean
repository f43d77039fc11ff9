/- Contracts of the draws: Sources, Filter. -/
import Derived.Test.YtaboolnmkfenlaaT1
namespace Go.Proofs.Ytaboolnmkfenlaa
open Go Go.Am
set_option linter.unusedVariables false
set_option linter.unusedSimpArgs false

def srcLoop (L : List Int) : Nat → List Int → Nat → List Int × Nat
  | 0, out, p => (out, p)
  | i + 1, out, p => srcLoop L i (put out (pickI [1 + Mod (rawV L p) (6 - 1 + 1), 1 + Mod (rawV L (rawP L p)) (20 - 1 + 1), 1 + Mod (rawV L (rawP L (rawP L p))) (99 - 1 + 1)] (rawV L (rawP L (rawP L (rawP L p)))))) (rawP L (rawP L (rawP L (rawP L p))))
def sources (L : List Int) (p : Nat) (n : Int) : List Int × Nat := srcLoop L (Mod (rawV L p) (n + 1)).toNat [] (rawP L p)
theorem srcLoop_pos {L : List Int} : ∀ {i : Nat} {out : List Int} {p : Nat}, p ≤ L.length → (srcLoop L i out p).2 ≤ L.length
  | 0, _, _, h => h
  | i + 1, _, _, h => by rw [srcLoop]; exact srcLoop_pos (rawP_le (rawP_le (rawP_le (rawP_le h))))
theorem srcLoop_ok {L : List Int} : ∀ {i : Nat} {out : List Int} {p : Nat}, rngI out → ascI out → rngI (srcLoop L i out p).1 ∧ ascI (srcLoop L i out p).1
  | 0, _, _, h, h2 => ⟨h, h2⟩
  | i + 1, out, p, h, h2 => by
    rw [srcLoop]
    refine srcLoop_ok (put_rng h ?_) (put_asc h2)
    have h1 := Mod_range (x := rawV L p) (show (1 : Int) ≤ 6 - 1 + 1 by omega)
    have h2 := Mod_range (x := rawV L (rawP L p)) (show (1 : Int) ≤ 20 - 1 + 1 by omega)
    have h3 := Mod_range (x := rawV L (rawP L (rawP L p))) (show (1 : Int) ≤ 99 - 1 + 1 by omega)
    have := pickI_mem (l := [1 + Mod (rawV L p) (6 - 1 + 1), 1 + Mod (rawV L (rawP L p)) (20 - 1 + 1), 1 + Mod (rawV L (rawP L (rawP L p))) (99 - 1 + 1)]) (by simp) (rawV L (rawP L (rawP L (rawP L p))))
    generalize pickI _ _ = v at this
    simp only [List.mem_cons, List.not_mem_nil, or_false] at this
    omega
theorem sources_ok (L : List Int) (p : Nat) (n : Int) : rngI (sources L p n).1 ∧ ascI (sources L p n).1 := srcLoop_ok (fun _ h => by simp at h) (fun i h => by simp at h)
theorem sources_pos {L : List Int} {p : Nat} (h : p ≤ L.length) (n : Int) : (sources L p n).2 ≤ L.length := srcLoop_pos (rawP_le h)

theorem Sources_spec (L : List Int) (p : Nat) (n : Int) (hp : p ≤ L.length) (hn : 0 ≤ n ∧ n ≤ 1000) :
    HSpec Try.prog 51 [.ref 0 0, .int n] [.box (tp L p)] (ints (sources L p n).1) [some (.box (tp L (sources L p n).2))] := by
  have hm := Mod_range (x := rawV L p) (show 1 ≤ n + 1 by omega)
  have w0 : IntKind.i64.wrap (n + 1) = n + 1 := wrap64 (by omega)
  refine HSpec.walk Try.func51 cf51_ok (by simp [cf51]) ?_
  unfold cf51
  simp only [initT, initH, List.length_cons, List.length_nil]
  refine AWP.seq' ?_
  refine AWP.reg' fun K hK => ?_
  try simp only [stepS, stepD, stepM, eq_self, implies_true, forall_eq_or_imp, forall_eq, Nat.reduceEqDiff, ↓reduceIte, Nat.reduceAdd, Nat.reduceLeDiff, Nat.reduceSub, Nat.reduceMul, Nat.reduceLT, Int.reduceBEq, Int.reduceBNe, Int.reduceToNat, Int.reduceLT, Int.reduceLE, Int.reduceAdd, Int.reduceSub, Int.reduceMul, reduceCtorEq]
  refine hK _ _ _ ?_
  clear hK K
  refine AWP.seq' ?_
  refine AWP.reg' fun K hK => ?_
  try simp only [stepS, stepD, stepM, eq_self, implies_true, forall_eq_or_imp, forall_eq, Nat.reduceEqDiff, ↓reduceIte, Nat.reduceAdd, Nat.reduceLeDiff, Nat.reduceSub, Nat.reduceMul, Nat.reduceLT, Int.reduceBEq, Int.reduceBNe, Int.reduceToNat, Int.reduceLT, Int.reduceLE, Int.reduceAdd, Int.reduceSub, Int.reduceMul, reduceCtorEq]
  refine hK _ _ _ ?_
  clear hK K
  refine AWP.seq' (AWP.seq' ?_)
  refine AWP.reg' fun K hK => ?_
  try simp only [stepS, stepD, stepM, eq_self, implies_true, forall_eq_or_imp, forall_eq, Nat.reduceEqDiff, ↓reduceIte, Nat.reduceAdd, Nat.reduceLeDiff, Nat.reduceSub, Nat.reduceMul, Nat.reduceLT, Int.reduceBEq, Int.reduceBNe, Int.reduceToNat, Int.reduceLT, Int.reduceLE, Int.reduceAdd, Int.reduceSub, Int.reduceMul, reduceCtorEq, w0]
  refine evT_own (N_spec L p (n + 1) hp) N_fn (by repeat' (first | exact trivial | assumption | refine And.intro ?_ ?_)) (tp_pure _ _) (tp_pure _ _) (by repeat' (first | exact trivial | assumption | refine And.intro ?_ ?_)) rfl (by rfl) (by rfl) ?_
  try simp only [stepS, stepD, stepM, eq_self, implies_true, forall_eq_or_imp, forall_eq, Nat.reduceEqDiff, ↓reduceIte, Nat.reduceAdd, Nat.reduceLeDiff, Nat.reduceSub, Nat.reduceMul, Nat.reduceLT, Int.reduceBEq, Int.reduceBNe, Int.reduceToNat, Int.reduceLT, Int.reduceLE, Int.reduceAdd, Int.reduceSub, Int.reduceMul, reduceCtorEq]
  refine hK _ _ _ ?_
  clear hK K
  refine AWP.weak (Weak.subT 5 (Sub.nil (kk := 1))) ?_
  refine AWP.block ?_
  refine AWP.loopS (σ := Nat × List Int × Nat) (fun s => ⟨resT [(0, .ref 0 0), (5, .sl 1 (s.2.1.map .int) false), (6, .int (s.1 : Nat))], hpL 0 [some (.box (tp L s.2.2))], 1⟩)
    (fun s => srcLoop L s.1 s.2.1 s.2.2 = sources L p n ∧ s.2.2 ≤ L.length ∧ s.1 + s.2.1.length ≤ 2000) (fun s => s.1) (i0 := ((Mod (rawV L p) (n + 1)).toNat, [], rawP L p)) ⟨rfl, rawP_le hp, by simp; omega⟩ ?_ ?_
  · have e : Mod (rawV L p) (n + 1) = ((Mod (rawV L p) (n + 1)).toNat : Int) := by omega
    simp only
    rw [← e]
    refine Weak.nf [0] _ _ ?_ ?_ ⟨rfl, rfl⟩ (by decide) (by decide) (by decide)
    · repeat' (first | exact trivial | exact And.intro rfl trivial | refine And.intro ?_ ?_ | rfl | exact Nat.le_of_ble_eq_true rfl)
    · repeat' (first | exact trivial | exact And.intro rfl trivial | refine And.intro ?_ ?_ | rfl | exact Nat.le_of_ble_eq_true rfl)
  rintro ⟨i, out, pos⟩ ⟨h1, h2, h3⟩
  simp only at h1 h2 h3 ⊢
  repeat (first
    | refine AWP.seq' ?_
    | refine AWP.skip ?_
    | (refine AWP.reg' fun K hK => ?_; simp only [stepS, stepD, stepM, eq_self, implies_true, forall_eq_or_imp, forall_eq, Nat.reduceEqDiff, ↓reduceIte, Nat.reduceAdd, Nat.reduceLeDiff, Nat.reduceSub, Nat.reduceMul, Nat.reduceLT, Int.reduceBEq, Int.reduceBNe, Int.reduceToNat, Int.reduceLT, Int.reduceLE, Int.reduceAdd, Int.reduceSub, Int.reduceMul, reduceCtorEq]; (repeat (refine And.intro (by omega) ?_)); refine hK _ _ _ ?_; clear hK K))
  refine AWP.cond (b := decide (0 < (i : Int))) rfl (fun c => ?_) (fun c => ?_)
  · have c : 0 < i := by have := of_decide_eq_true c; omega
    obtain ⟨i, rfl⟩ : ∃ k, i = k + 1 := ⟨i - 1, by omega⟩
    have w : IntKind.i64.wrap (((i + 1 : Nat) : Int) - 1) = (i : Int) := wrapN (by omega) (by omega)
    refine AWP.skip ?_
    refine AWP.seq' ?_
    refine AWP.block ?_
    have m1 := Mod_range (x := rawV L pos) (show (1 : Int) ≤ 6 - 1 + 1 by omega)
    have m2 := Mod_range (x := rawV L (rawP L pos)) (show (1 : Int) ≤ 20 - 1 + 1 by omega)
    have m3 := Mod_range (x := rawV L (rawP L (rawP L pos))) (show (1 : Int) ≤ 99 - 1 + 1 by omega)
    refine AWP.reg' fun K hK => ?_
    try simp only [stepS, stepD, stepM, eq_self, implies_true, forall_eq_or_imp, forall_eq, Nat.reduceEqDiff, ↓reduceIte, Nat.reduceAdd, Nat.reduceLeDiff, Nat.reduceSub, Nat.reduceMul, Nat.reduceLT, Int.reduceBEq, Int.reduceBNe, Int.reduceToNat, Int.reduceLT, Int.reduceLE, Int.reduceAdd, Int.reduceSub, Int.reduceMul, reduceCtorEq]
    refine evT_own (Range_spec L pos 1 6 h2 (by omega) (by omega) (by omega)) Range_fn (by repeat' (first | exact trivial | assumption | refine And.intro ?_ ?_)) (tp_pure _ _) (tp_pure _ _) (by repeat' (first | exact trivial | assumption | refine And.intro ?_ ?_)) rfl (by rfl) (by rfl) ?_
    try simp only [stepS, stepD, stepM, eq_self, implies_true, forall_eq_or_imp, forall_eq, Nat.reduceEqDiff, ↓reduceIte, Nat.reduceAdd, Nat.reduceLeDiff, Nat.reduceSub, Nat.reduceMul, Nat.reduceLT, Int.reduceBEq, Int.reduceBNe, Int.reduceToNat, Int.reduceLT, Int.reduceLE, Int.reduceAdd, Int.reduceSub, Int.reduceMul, reduceCtorEq]
    refine evT_own (Range_spec L (rawP L pos) 1 20 (rawP_le h2) (by omega) (by omega) (by omega)) Range_fn (by repeat' (first | exact trivial | assumption | refine And.intro ?_ ?_)) (tp_pure _ _) (tp_pure _ _) (by repeat' (first | exact trivial | assumption | refine And.intro ?_ ?_)) rfl (by rfl) (by rfl) ?_
    try simp only [stepS, stepD, stepM, eq_self, implies_true, forall_eq_or_imp, forall_eq, Nat.reduceEqDiff, ↓reduceIte, Nat.reduceAdd, Nat.reduceLeDiff, Nat.reduceSub, Nat.reduceMul, Nat.reduceLT, Int.reduceBEq, Int.reduceBNe, Int.reduceToNat, Int.reduceLT, Int.reduceLE, Int.reduceAdd, Int.reduceSub, Int.reduceMul, reduceCtorEq]
    refine evT_own (Range_spec L (rawP L (rawP L pos)) 1 99 (rawP_le (rawP_le h2)) (by omega) (by omega) (by omega)) Range_fn (by repeat' (first | exact trivial | assumption | refine And.intro ?_ ?_)) (tp_pure _ _) (tp_pure _ _) (by repeat' (first | exact trivial | assumption | refine And.intro ?_ ?_)) rfl (by rfl) (by rfl) ?_
    try simp only [stepS, stepD, stepM, eq_self, implies_true, forall_eq_or_imp, forall_eq, Nat.reduceEqDiff, ↓reduceIte, Nat.reduceAdd, Nat.reduceLeDiff, Nat.reduceSub, Nat.reduceMul, Nat.reduceLT, Int.reduceBEq, Int.reduceBNe, Int.reduceToNat, Int.reduceLT, Int.reduceLE, Int.reduceAdd, Int.reduceSub, Int.reduceMul, reduceCtorEq]
    refine evT_lit ?_
    try simp only [stepS, stepD, stepM, eq_self, implies_true, forall_eq_or_imp, forall_eq, Nat.reduceEqDiff, ↓reduceIte, Nat.reduceAdd, Nat.reduceLeDiff, Nat.reduceSub, Nat.reduceMul, Nat.reduceLT, Int.reduceBEq, Int.reduceBNe, Int.reduceToNat, Int.reduceLT, Int.reduceLE, Int.reduceAdd, Int.reduceSub, Int.reduceMul, reduceCtorEq]
    refine evT_own (Pick_spec L (rawP L (rawP L (rawP L pos))) [1 + Mod (rawV L pos) (6 - 1 + 1), 1 + Mod (rawV L (rawP L pos)) (20 - 1 + 1), 1 + Mod (rawV L (rawP L (rawP L pos))) (99 - 1 + 1)] true (rawP_le (rawP_le (rawP_le h2))) (by simp)) Pick_fn (by repeat' (first | exact trivial | assumption | refine And.intro ?_ ?_)) (tp_pure _ _) (tp_pure _ _) (by repeat' (first | exact trivial | assumption | refine And.intro ?_ ?_)) rfl (by rfl) (by rfl) ?_
    try simp only [stepS, stepD, stepM, eq_self, implies_true, forall_eq_or_imp, forall_eq, Nat.reduceEqDiff, ↓reduceIte, Nat.reduceAdd, Nat.reduceLeDiff, Nat.reduceSub, Nat.reduceMul, Nat.reduceLT, Int.reduceBEq, Int.reduceBNe, Int.reduceToNat, Int.reduceLT, Int.reduceLE, Int.reduceAdd, Int.reduceSub, Int.reduceMul, reduceCtorEq]
    refine evT_pure (Put_spec out (pickI [1 + Mod (rawV L pos) (6 - 1 + 1), 1 + Mod (rawV L (rawP L pos)) (20 - 1 + 1), 1 + Mod (rawV L (rawP L (rawP L pos))) (99 - 1 + 1)] (rawV L (rawP L (rawP L (rawP L pos))))) (by omega)) Put_fn rfl (by rfl) (by repeat' (first | exact trivial | assumption | refine And.intro ?_ ?_)) ?_
    try simp only [stepS, stepD, stepM, eq_self, implies_true, forall_eq_or_imp, forall_eq, Nat.reduceEqDiff, ↓reduceIte, Nat.reduceAdd, Nat.reduceLeDiff, Nat.reduceSub, Nat.reduceMul, Nat.reduceLT, Int.reduceBEq, Int.reduceBNe, Int.reduceToNat, Int.reduceLT, Int.reduceLE, Int.reduceAdd, Int.reduceSub, Int.reduceMul, reduceCtorEq, ints]
    refine hK _ _ _ ?_
    clear hK K
    refine AWP.reg' fun K hK => ?_
    try simp only [stepS, stepD, stepM, eq_self, implies_true, forall_eq_or_imp, forall_eq, Nat.reduceEqDiff, ↓reduceIte, Nat.reduceAdd, Nat.reduceLeDiff, Nat.reduceSub, Nat.reduceMul, Nat.reduceLT, Int.reduceBEq, Int.reduceBNe, Int.reduceToNat, Int.reduceLT, Int.reduceLE, Int.reduceAdd, Int.reduceSub, Int.reduceMul, reduceCtorEq, w]
    refine hK _ _ _ ?_
    clear hK K
    refine ⟨(i, _, _), ⟨h1, rawP_le (rawP_le (rawP_le (rawP_le h2))), ?_⟩, Nat.lt_succ_self i, ?_⟩
    · have := put_length out (pickI [1 + Mod (rawV L pos) (6 - 1 + 1), 1 + Mod (rawV L (rawP L pos)) (20 - 1 + 1), 1 + Mod (rawV L (rawP L (rawP L pos))) (99 - 1 + 1)] (rawV L (rawP L (rawP L (rawP L pos)))))
      show i + (put _ _).length ≤ 2000
      omega
    refine Weak.nf [0] _ _ ?_ ?_ ⟨rfl, rfl⟩ (by decide) (by decide) (by decide)
    · repeat' (first | exact trivial | exact And.intro rfl trivial | refine And.intro ?_ ?_ | rfl | exact Nat.le_of_ble_eq_true rfl)
    · repeat' (first | exact trivial | exact And.intro rfl trivial | refine And.intro ?_ ?_ | rfl | exact Nat.le_of_ble_eq_true rfl)
  have c : i = 0 := by have := of_decide_eq_false c; omega
  subst c
  have e : sources L p n = (out, pos) := h1.symm
  refine AWP.exit ?_
  repeat (first
    | refine AWP.seq' ?_
    | refine AWP.skip ?_
    | (refine AWP.reg' fun K hK => ?_; simp only [stepS, stepD, stepM, eq_self, implies_true, forall_eq_or_imp, forall_eq, Nat.reduceEqDiff, ↓reduceIte, Nat.reduceAdd, Nat.reduceLeDiff, Nat.reduceSub, Nat.reduceMul, Nat.reduceLT, Int.reduceBEq, Int.reduceBNe, Int.reduceToNat, Int.reduceLT, Int.reduceLE, Int.reduceAdd, Int.reduceSub, Int.reduceMul, reduceCtorEq]; (repeat (refine And.intro (by omega) ?_)); refine hK _ _ _ ?_; clear hK K))
  exact AWP.ret (fin_ret rfl (by rw [e]; rfl) (by rw [e]; exact ⟨rfl, trivial⟩))

def filterT (L : List Int) (p : Nat) : (Int × List Int) × Nat :=
  ((1 + Mod (rawV L (rawP L p)) (2 - 1 + 1), (sources L (rawP L (rawP L p)) (pickI [0, 2, 4, 4, 16, 99] (rawV L p))).1), (sources L (rawP L (rawP L p)) (pickI [0, 2, 4, 4, 16, 99] (rawV L p))).2)
theorem filterT_pos {L : List Int} {p : Nat} (h : p ≤ L.length) : (filterT L p).2 ≤ L.length := sources_pos (rawP_le (rawP_le h)) _
theorem filterT_ok (L : List Int) (p : Nat) : fltErr (filterT L p).1.1 (filterT L p).1.2 = 0 := by
  have h1 := Mod_range (x := rawV L (rawP L p)) (show (1 : Int) ≤ 2 - 1 + 1 by omega)
  have h2 : rngI (filterT L p).1.2 ∧ ascI (filterT L p).1.2 := sources_ok L (rawP L (rawP L p)) (pickI [0, 2, 4, 4, 16, 99] (rawV L p))
  unfold fltErr
  rw [if_neg, if_neg (not_not_intro h2.1), if_neg (not_not_intro h2.2)]
  refine not_not_intro ?_
  show 1 + Mod (rawV L (rawP L p)) (2 - 1 + 1) = 1 ∨ 1 + Mod (rawV L (rawP L p)) (2 - 1 + 1) = 2
  omega
theorem Filter_spec (L : List Int) (p : Nat) (hp : p ≤ L.length) : HSpec Try.prog 22 [.ref 0 0] [.box (tp L p)] (fltV (filterT L p).1.1 (filterT L p).1.2) [some (.box (tp L (filterT L p).2))] := by
  have hn : 0 ≤ pickI [0, 2, 4, 4, 16, 99] (rawV L p) ∧ pickI [0, 2, 4, 4, 16, 99] (rawV L p) ≤ 1000 := by
    have := pickI_mem (l := [0, 2, 4, 4, 16, 99]) (by simp) (rawV L p)
    generalize pickI _ _ = v at this
    simp only [List.mem_cons, List.not_mem_nil, or_false] at this
    omega
  have m1 := Mod_range (x := rawV L (rawP L p)) (show (1 : Int) ≤ 2 - 1 + 1 by omega)
  refine HSpec.walk Try.func22 cf22_ok (by simp [cf22]) ?_
  unfold cf22
  simp only [initT, initH, List.length_cons, List.length_nil]
  refine AWP.seq' ?_
  refine AWP.reg' fun K hK => ?_
  try simp only [stepS, stepD, stepM, eq_self, implies_true, forall_eq_or_imp, forall_eq, Nat.reduceEqDiff, ↓reduceIte, Nat.reduceAdd, Nat.reduceLeDiff, Nat.reduceSub, Nat.reduceMul, Nat.reduceLT, Int.reduceBEq, Int.reduceBNe, Int.reduceToNat, Int.reduceLT, Int.reduceLE, Int.reduceAdd, Int.reduceSub, Int.reduceMul, reduceCtorEq]
  refine hK _ _ _ ?_
  clear hK K
  refine AWP.seq' ?_
  refine AWP.reg' fun K hK => ?_
  try simp only [stepS, stepD, stepM, eq_self, implies_true, forall_eq_or_imp, forall_eq, Nat.reduceEqDiff, ↓reduceIte, Nat.reduceAdd, Nat.reduceLeDiff, Nat.reduceSub, Nat.reduceMul, Nat.reduceLT, Int.reduceBEq, Int.reduceBNe, Int.reduceToNat, Int.reduceLT, Int.reduceLE, Int.reduceAdd, Int.reduceSub, Int.reduceMul, reduceCtorEq]
  refine evT_lit ?_
  try simp only [stepS, stepD, stepM, eq_self, implies_true, forall_eq_or_imp, forall_eq, Nat.reduceEqDiff, ↓reduceIte, Nat.reduceAdd, Nat.reduceLeDiff, Nat.reduceSub, Nat.reduceMul, Nat.reduceLT, Int.reduceBEq, Int.reduceBNe, Int.reduceToNat, Int.reduceLT, Int.reduceLE, Int.reduceAdd, Int.reduceSub, Int.reduceMul, reduceCtorEq]
  refine evT_own (Pick_spec L p [0, 2, 4, 4, 16, 99] true hp (by simp)) Pick_fn (by repeat' (first | exact trivial | assumption | refine And.intro ?_ ?_)) (tp_pure _ _) (tp_pure _ _) (by repeat' (first | exact trivial | assumption | refine And.intro ?_ ?_)) rfl (by rfl) (by rfl) ?_
  try simp only [stepS, stepD, stepM, eq_self, implies_true, forall_eq_or_imp, forall_eq, Nat.reduceEqDiff, ↓reduceIte, Nat.reduceAdd, Nat.reduceLeDiff, Nat.reduceSub, Nat.reduceMul, Nat.reduceLT, Int.reduceBEq, Int.reduceBNe, Int.reduceToNat, Int.reduceLT, Int.reduceLE, Int.reduceAdd, Int.reduceSub, Int.reduceMul, reduceCtorEq]
  refine hK _ _ _ ?_
  clear hK K
  refine AWP.seq' ?_
  refine AWP.reg' fun K hK => ?_
  try simp only [stepS, stepD, stepM, eq_self, implies_true, forall_eq_or_imp, forall_eq, Nat.reduceEqDiff, ↓reduceIte, Nat.reduceAdd, Nat.reduceLeDiff, Nat.reduceSub, Nat.reduceMul, Nat.reduceLT, Int.reduceBEq, Int.reduceBNe, Int.reduceToNat, Int.reduceLT, Int.reduceLE, Int.reduceAdd, Int.reduceSub, Int.reduceMul, reduceCtorEq]
  refine evT_own (Range_spec L (rawP L p) 1 2 (rawP_le hp) (by omega) (by omega) (by omega)) Range_fn (by repeat' (first | exact trivial | assumption | refine And.intro ?_ ?_)) (tp_pure _ _) (tp_pure _ _) (by repeat' (first | exact trivial | assumption | refine And.intro ?_ ?_)) rfl (by rfl) (by rfl) ?_
  try simp only [stepS, stepD, stepM, eq_self, implies_true, forall_eq_or_imp, forall_eq, Nat.reduceEqDiff, ↓reduceIte, Nat.reduceAdd, Nat.reduceLeDiff, Nat.reduceSub, Nat.reduceMul, Nat.reduceLT, Int.reduceBEq, Int.reduceBNe, Int.reduceToNat, Int.reduceLT, Int.reduceLE, Int.reduceAdd, Int.reduceSub, Int.reduceMul, reduceCtorEq]
  refine evT_own (Sources_spec L (rawP L (rawP L p)) (pickI [0, 2, 4, 4, 16, 99] (rawV L p)) (rawP_le (rawP_le hp)) hn) Sources_fn (by repeat' (first | exact trivial | assumption | refine And.intro ?_ ?_)) (tp_pure _ _) (tp_pure _ _) (by repeat' (first | exact trivial | assumption | refine And.intro ?_ ?_)) rfl (by rfl) (by rfl) ?_
  try simp only [stepS, stepD, stepM, eq_self, implies_true, forall_eq_or_imp, forall_eq, Nat.reduceEqDiff, ↓reduceIte, Nat.reduceAdd, Nat.reduceLeDiff, Nat.reduceSub, Nat.reduceMul, Nat.reduceLT, Int.reduceBEq, Int.reduceBNe, Int.reduceToNat, Int.reduceLT, Int.reduceLE, Int.reduceAdd, Int.reduceSub, Int.reduceMul, reduceCtorEq, ints]
  refine hK _ _ _ ?_
  clear hK K
  exact AWP.ret (fin_ret rfl rfl ⟨rfl, trivial⟩)
end Go.Proofs.Ytaboolnmkfenlaa
