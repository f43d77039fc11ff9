/- Contracts of the test helpers: Mod, the draws. -/
import Derived.Test.YtaboolnmkfenlaaCode
import Derived.Test.YtaboolnmkfenlaaAmB
namespace Go.Proofs.Ytaboolnmkfenlaa
open Go Go.Am
set_option linter.unusedVariables false
set_option linter.unusedSimpArgs false

theorem maxLen_eq : maxLen = 9223372036854775807 := rfl
def Mod (x n : Int) : Int := if n < 1 then 0 else if x.tmod n < 0 then x.tmod n + n else x.tmod n

theorem Mod_spec (x n : Int) : PSpec Try.prog 16 [.int x, .int n] (.int (Mod x n)) := by
  refine PSpec.of_ok fun ok => ?_
  simp only [okL, AV.ok, plainV, inK64, and_true] at ok
  refine PSpec.walk Try.func16 cf16_ok (by simp [cf16]) trivial ?_
  unfold cf16
  simp only [initT]
  refine AWP.seq' ?_
  refine AWP.reg' fun K hK => ?_
  try simp only [stepS, stepD, stepM, eq_self, implies_true, forall_eq_or_imp, forall_eq, Nat.reduceEqDiff, ↓reduceIte, Nat.reduceAdd, Nat.reduceLeDiff, Nat.reduceSub, Nat.reduceMul, Nat.reduceLT, Int.reduceBEq, Int.reduceBNe, Int.reduceToNat, Int.reduceLT, Int.reduceLE, Int.reduceAdd, Int.reduceSub, Int.reduceMul, reduceCtorEq]
  refine hK _ _ _ ?_
  clear hK K
  refine AWP.seq' (AWP.seq' ?_)
  refine AWP.reg' fun K hK => ?_
  try simp only [stepS, stepD, stepM, eq_self, implies_true, forall_eq_or_imp, forall_eq, Nat.reduceEqDiff, ↓reduceIte, Nat.reduceAdd, Nat.reduceLeDiff, Nat.reduceSub, Nat.reduceMul, Nat.reduceLT, Int.reduceBEq, Int.reduceBNe, Int.reduceToNat, Int.reduceLT, Int.reduceLE, Int.reduceAdd, Int.reduceSub, Int.reduceMul, reduceCtorEq]
  refine hK _ _ _ ?_
  clear hK K
  refine AWP.cond (b := decide (n < 1)) rfl (fun h => ?_) (fun h => ?_)
  · refine AWP.seq' ?_
    refine AWP.reg' fun K hK => ?_
    try simp only [stepS, stepD, stepM, eq_self, implies_true, forall_eq_or_imp, forall_eq, Nat.reduceEqDiff, ↓reduceIte, Nat.reduceAdd, Nat.reduceLeDiff, Nat.reduceSub, Nat.reduceMul, Nat.reduceLT, Int.reduceBEq, Int.reduceBNe, Int.reduceToNat, Int.reduceLT, Int.reduceLE, Int.reduceAdd, Int.reduceSub, Int.reduceMul, reduceCtorEq]
    refine hK _ _ _ ?_
    clear hK K
    refine AWP.ret ?_
    refine finP_ret rfl ?_ trivial
    have h : n < 1 := by simpa using h
    simp only [Mod, if_pos h]
    rfl
  have h : ¬ n < 1 := by simpa using h
  refine AWP.skip ?_
  refine AWP.seq' ?_
  refine AWP.reg' fun K hK => ?_
  try simp only [stepS, stepD, stepM, eq_self, implies_true, forall_eq_or_imp, forall_eq, Nat.reduceEqDiff, ↓reduceIte, Nat.reduceAdd, Nat.reduceLeDiff, Nat.reduceSub, Nat.reduceMul, Nat.reduceLT, Int.reduceBEq, Int.reduceBNe, Int.reduceToNat, Int.reduceLT, Int.reduceLE, Int.reduceAdd, Int.reduceSub, Int.reduceMul, reduceCtorEq]
  refine ⟨by omega, ?_⟩
  refine hK _ _ _ ?_
  clear hK K
  refine AWP.seq' (AWP.seq' ?_)
  refine AWP.reg' fun K hK => ?_
  try simp only [stepS, stepD, stepM, eq_self, implies_true, forall_eq_or_imp, forall_eq, Nat.reduceEqDiff, ↓reduceIte, Nat.reduceAdd, Nat.reduceLeDiff, Nat.reduceSub, Nat.reduceMul, Nat.reduceLT, Int.reduceBEq, Int.reduceBNe, Int.reduceToNat, Int.reduceLT, Int.reduceLE, Int.reduceAdd, Int.reduceSub, Int.reduceMul, reduceCtorEq]
  refine hK _ _ _ ?_
  clear hK K
  have hb := Int.tmod_lt_of_pos x (show 0 < n by omega)
  have hb' := Int.lt_tmod_of_pos x (show 0 < n by omega)
  refine AWP.cond (b := decide (x.tmod n < 0)) rfl (fun h2 => ?_) (fun h2 => ?_)
  · have h2 : x.tmod n < 0 := by simpa using h2
    refine AWP.reg' fun K hK => ?_
    try simp only [stepS, stepD, stepM, eq_self, implies_true, forall_eq_or_imp, forall_eq, Nat.reduceEqDiff, ↓reduceIte, Nat.reduceAdd, Nat.reduceLeDiff, Nat.reduceSub, Nat.reduceMul, Nat.reduceLT, Int.reduceBEq, Int.reduceBNe, Int.reduceToNat, Int.reduceLT, Int.reduceLE, Int.reduceAdd, Int.reduceSub, Int.reduceMul, reduceCtorEq]
    refine hK _ _ _ ?_
    clear hK K
    refine AWP.seq' ?_
    refine AWP.reg' fun K hK => ?_
    try simp only [stepS, stepD, stepM, eq_self, implies_true, forall_eq_or_imp, forall_eq, Nat.reduceEqDiff, ↓reduceIte, Nat.reduceAdd, Nat.reduceLeDiff, Nat.reduceSub, Nat.reduceMul, Nat.reduceLT, Int.reduceBEq, Int.reduceBNe, Int.reduceToNat, Int.reduceLT, Int.reduceLE, Int.reduceAdd, Int.reduceSub, Int.reduceMul, reduceCtorEq]
    refine hK _ _ _ ?_
    clear hK K
    refine AWP.ret (finP_ret rfl ?_ trivial)
    simp only [Mod, if_neg h, if_pos h2]
    rw [wrap64 (by omega)]
    rfl
  · have h2 : ¬ x.tmod n < 0 := by simpa using h2
    refine AWP.skip ?_
    refine AWP.seq' ?_
    refine AWP.reg' fun K hK => ?_
    try simp only [stepS, stepD, stepM, eq_self, implies_true, forall_eq_or_imp, forall_eq, Nat.reduceEqDiff, ↓reduceIte, Nat.reduceAdd, Nat.reduceLeDiff, Nat.reduceSub, Nat.reduceMul, Nat.reduceLT, Int.reduceBEq, Int.reduceBNe, Int.reduceToNat, Int.reduceLT, Int.reduceLE, Int.reduceAdd, Int.reduceSub, Int.reduceMul, reduceCtorEq]
    refine hK _ _ _ ?_
    clear hK K
    refine AWP.ret (finP_ret rfl ?_ trivial)
    simp only [Mod, if_neg h, if_neg h2]
    rfl

end Go.Proofs.Ytaboolnmkfenlaa
