/- Contract of slices.Delete of one element. -/
import Derived.Test.YtaboolnmkfenlaaS3
import Derived.Test.YtaboolnmkfenlaaAmB
namespace Go.Proofs.Ytaboolnmkfenlaa
open Go Go.Am
set_option linter.unusedVariables false
set_option linter.unusedSimpArgs false
theorem Delete_fn : FnOk Try.prog 55 := fn_ok Try.func55 (by kernel_rfl)
def delAt {α : Type} (es : List α) (i : Nat) : List α := es.take i ++ es.drop (i + 1)
theorem pureL_delAt {es : List AV} (h : pureL es) (i : Nat) : pureL (delAt es i) := pureL_append (pureL_take h i) (pureL_drop h (i + 1))

theorem Delete_spec (es : List AV) (i : Nat) (hi : i < es.length) (hs : es.length ≤ 1000000) (hp : pureL es) :
    HSpec Try.prog 55 [.vec 0, .int i, .int ((i + 1 : Nat) : Int)] [.vec 5 es] (.vec 1) [none, some (.vec 5 (delAt es i))] := by
  refine HSpec.of_row (fun cap h1 h2 => ?_) (fun h => by subst h; simp at hi)
  have hml := maxLen_eq
  refine HSpec.walk Try.func55 cf55_ok (by simp [cf55]) ?_
  unfold cf55
  simp only [initT, initH, List.length_cons, List.length_nil]
  have e1 : ((i : Int) == ((i + 1 : Nat) : Int)) = false := by simp; omega
  repeat (first
    | refine AWP.seq' ?_
    | refine AWP.skip ?_
    | (refine AWP.reg' fun K hK => ?_; simp only [stepS, stepD, stepM, eq_self, implies_true, forall_eq_or_imp, forall_eq, Nat.reduceEqDiff, ↓reduceIte, Nat.reduceAdd, Nat.reduceLeDiff, Nat.reduceSub, Nat.reduceMul, Nat.reduceLT, Int.reduceBEq, Int.reduceBNe, Int.reduceToNat, Int.reduceLT, Int.reduceLE, Int.reduceAdd, Int.reduceSub, Int.reduceMul, reduceCtorEq, e1]; (repeat (refine And.intro (by omega) ?_)); refine hK _ _ _ ?_; clear hK K))
  refine AWP.cond (b := false) rfl (fun h => by cases h) (fun h => ?_)
  repeat (first
    | refine AWP.seq' ?_
    | refine AWP.skip ?_
    | (refine AWP.reg' fun K hK => ?_; simp only [stepS, stepD, stepM, eq_self, implies_true, forall_eq_or_imp, forall_eq, Nat.reduceEqDiff, ↓reduceIte, Nat.reduceAdd, Nat.reduceLeDiff, Nat.reduceSub, Nat.reduceMul, Nat.reduceLT, Int.reduceBEq, Int.reduceBNe, Int.reduceToNat, Int.reduceLT, Int.reduceLE, Int.reduceAdd, Int.reduceSub, Int.reduceMul, reduceCtorEq]; (repeat (refine And.intro (by omega) ?_)); refine hK _ _ _ ?_; clear hK K))
  have g1 : ((es.length : Int) - ((i + 1 : Nat) : Int)).toNat = es.length - (i + 1) := by omega
  have g2 : ((i : Int) - 0).toNat = i := by omega
  have g3 : (es.drop (i + 1)).take (es.length - (i + 1)) = es.drop (i + 1) := List.take_of_length_le (by simp)
  have g4 : (es.drop (i + 1)).length = es.length - (i + 1) := List.length_drop ..
  have g5 : i + (es.length - (i + 1)) = es.length - 1 := by omega
  have g6 : ¬ ((es.length : Int) < (i : Int)) := by omega
  have g7 : i + 1 + (es.length - (i + 1)) ≤ es.length := by omega
  refine AWP.dreg' fun K hK => ?_
  try simp only [stepS, stepD, stepM, eq_self, implies_true, forall_eq_or_imp, forall_eq, Nat.reduceEqDiff, ↓reduceIte, Nat.reduceAdd, Nat.reduceLeDiff, Nat.reduceSub, Nat.reduceMul, Nat.reduceLT, Int.reduceBEq, Int.reduceBNe, Int.reduceToNat, Int.reduceLT, Int.reduceLE, Int.reduceAdd, Int.reduceSub, Int.reduceMul, reduceCtorEq, appendA, srcA, g1, g2, g3, g4, g5, g6, g7]
  repeat (refine And.intro (by omega) ?_)
  refine ⟨by rfl, hK _ _ _ ?_⟩
  clear hK K
  have hd : es.take i ++ es.drop (i + 1) = delAt es i := rfl
  have hdl : (delAt es i).length = es.length - 1 := by unfold delAt; simp; omega
  refine AWP.seq' ?_
  have g8 : ((es.length : Int) - ((es.length - 1 : Nat) : Int)).toNat = 1 := by omega
  refine AWP.reg' fun K hK => ?_
  try simp only [stepS, stepD, stepM, eq_self, implies_true, forall_eq_or_imp, forall_eq, Nat.reduceEqDiff, ↓reduceIte, Nat.reduceAdd, Nat.reduceLeDiff, Nat.reduceSub, Nat.reduceMul, Nat.reduceLT, Int.reduceBEq, Int.reduceBNe, Int.reduceToNat, Int.reduceLT, Int.reduceLE, Int.reduceAdd, Int.reduceSub, Int.reduceMul, reduceCtorEq, hd, hdl, g8, clearA]
  repeat (refine And.intro (by omega) ?_)
  refine hK _ _ _ ?_
  clear hK K
  repeat (first
    | refine AWP.seq' ?_
    | refine AWP.skip ?_
    | (refine AWP.reg' fun K hK => ?_; simp only [stepS, stepD, stepM, eq_self, implies_true, forall_eq_or_imp, forall_eq, Nat.reduceEqDiff, ↓reduceIte, Nat.reduceAdd, Nat.reduceLeDiff, Nat.reduceSub, Nat.reduceMul, Nat.reduceLT, Int.reduceBEq, Int.reduceBNe, Int.reduceToNat, Int.reduceLT, Int.reduceLE, Int.reduceAdd, Int.reduceSub, Int.reduceMul, reduceCtorEq]; (repeat (refine And.intro (by omega) ?_)); refine hK _ _ _ ?_; clear hK K))
  refine AWP.ret (fin_weak (Weak.row (b := 305) (cap := cap) (k := 5) (es := delAt es i) (by rw [hdl]; rfl)) (fin_ren [0, 305] [(6, .vec 1)] rfl rfl ?_ ?_ rfl (by simp) ?_ (by simp)))
  · simp only [List.mem_singleton, forall_eq]
    exact ⟨rfl, show (1 : Nat) < 2 by omega⟩
  · refine ⟨⟨?_, ?_⟩, trivial⟩
    · rw [(vec_ren (m := 0) (pureL_delAt hp i)).1]
      rfl
    · exact (vec_ren (π := id) (pureL_delAt hp i)).2
  · intro b hb
    match b, hb with
    | 0, _ => rfl
end Go.Proofs.Ytaboolnmkfenlaa
