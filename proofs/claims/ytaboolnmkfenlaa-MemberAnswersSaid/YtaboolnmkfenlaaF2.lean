/- Contracts of the draws: New, Raw, N, Range. -/
import Derived.Test.YtaboolnmkfenlaaF1
namespace Go.Proofs.Ytaboolnmkfenlaa
open Go Go.Am
set_option linter.unusedVariables false
set_option linter.unusedSimpArgs false

/-- The block of a tape: the numbers and the place. -/
def tp (L : List Int) (p : Nat) : AV := .agg [.sl 1 (L.map .int) false, .int p]
theorem tp_pure (L : List Int) (p : Nat) : (tp L p).pure := ⟨trivial, trivial, trivial⟩
def rawP (L : List Int) (p : Nat) : Nat := if L.length ≤ p then p else p + 1
def rawV (L : List Int) (p : Nat) : Int := L.getD p 0
theorem rawP_le {L : List Int} {p : Nat} (h : p ≤ L.length) : rawP L p ≤ L.length := by
  unfold rawP; split <;> omega

theorem fn_ok {f : FuncId} {fn : Func} (h : Try.prog.funcs[f]? = some fn) (h2 : (fn.body.isSome && !(fn.name == "runtime.NumGoroutine")) = true) : FnOk Try.prog f := by
  simp at h2
  exact ⟨fn, h, by simp [h2.1], by simp [h2.2]⟩
theorem Mod_fn : FnOk Try.prog 16 := fn_ok Try.func16 (by kernel_rfl)
theorem Raw_fn : FnOk Try.prog 53 := fn_ok Try.func53 (by kernel_rfl)
theorem N_fn : FnOk Try.prog 24 := fn_ok Try.func24 (by kernel_rfl)
theorem Range_fn : FnOk Try.prog 10 := fn_ok Try.func10 (by kernel_rfl)
theorem New_fn : FnOk Try.prog 9 := fn_ok Try.func9 (by kernel_rfl)

theorem Raw_spec (L : List Int) (p : Nat) (hp : p ≤ L.length) : HSpec Try.prog 53 [.ref 0 0] [.box (tp L p)] (.int (rawV L p)) [some (.box (tp L (rawP L p)))] := by
  refine HSpec.of_okh fun _ ok => ?_
  have ok := ok (.box (tp L p)) (by simp)
  simp only [Blk.ok, tp, AV.ok, okL, plainV, inK64, and_true, List.length_map, maxLen_eq] at ok
  refine HSpec.walk Try.func53 cf53_ok (by simp [cf53]) ?_
  unfold cf53
  simp only [initT, initH, tp, List.length_cons, List.length_nil]
  refine AWP.seq' ?_
  refine AWP.reg' fun K hK => ?_
  try simp only [stepS, stepD, stepM, eq_self, implies_true, forall_eq_or_imp, forall_eq, Nat.reduceEqDiff, ↓reduceIte, Nat.reduceAdd, Nat.reduceLeDiff, Nat.reduceSub, Nat.reduceMul, Nat.reduceLT, Int.reduceBEq, Int.reduceBNe, Int.reduceToNat, Int.reduceLT, Int.reduceLE, Int.reduceAdd, Int.reduceSub, Int.reduceMul, reduceCtorEq]
  refine hK _ _ _ ?_
  clear hK K
  refine AWP.seq' (AWP.seq' ?_)
  refine AWP.dreg' fun K hK => ?_
  try simp only [stepS, stepD, stepM, eq_self, implies_true, forall_eq_or_imp, forall_eq, Nat.reduceEqDiff, ↓reduceIte, Nat.reduceAdd, Nat.reduceLeDiff, Nat.reduceSub, Nat.reduceMul, Nat.reduceLT, Int.reduceBEq, Int.reduceBNe, Int.reduceToNat, Int.reduceLT, Int.reduceLE, Int.reduceAdd, Int.reduceSub, Int.reduceMul, reduceCtorEq, List.length_map]
  refine ⟨by rfl, hK _ _ _ ?_⟩
  clear hK K
  have hlen : (L.map AV.int).length = L.length := List.length_map ..
  refine AWP.cond (b := decide ((L.length : Int) ≤ p)) rfl (fun h => ?_) (fun h => ?_)
  · have h : L.length ≤ p := by simpa using h
    refine AWP.seq' ?_
    refine AWP.reg' fun K hK => ?_
    try simp only [stepS, stepD, stepM, eq_self, implies_true, forall_eq_or_imp, forall_eq, Nat.reduceEqDiff, ↓reduceIte, Nat.reduceAdd, Nat.reduceLeDiff, Nat.reduceSub, Nat.reduceMul, Nat.reduceLT, Int.reduceBEq, Int.reduceBNe, Int.reduceToNat, Int.reduceLT, Int.reduceLE, Int.reduceAdd, Int.reduceSub, Int.reduceMul, reduceCtorEq]
    refine hK _ _ _ ?_
    clear hK K
    refine AWP.ret (fin_ret rfl ?_ ?_)
    · have : rawV L p = 0 := by simp [rawV, List.getElem?_eq_none h]
      rw [this]; rfl
    · rw [show rawP L p = p by simp [rawP, h]]
      exact ⟨rfl, trivial⟩
  have h : ¬ L.length ≤ p := by simpa using h
  have hw1 : IntKind.i64.wrap ((p : Int) + 1) = p + 1 := wrap64 (by omega)
  have hw2 : IntKind.i64.wrap ((p : Int) + 1 - 1) = p := by rw [wrap64 (by omega)]; omega
  have hg : (L.map AV.int).getD p .unk = .int (rawV L p) := by
    simp [rawV, List.getD_eq_getElem?_getD, List.getElem?_eq_getElem (show p < L.length by omega)]
  refine AWP.skip ?_
  refine AWP.seq' ?_
  refine AWP.reg' fun K hK => ?_
  try simp only [stepS, stepD, stepM, eq_self, implies_true, forall_eq_or_imp, forall_eq, Nat.reduceEqDiff, ↓reduceIte, Nat.reduceAdd, Nat.reduceLeDiff, Nat.reduceSub, Nat.reduceMul, Nat.reduceLT, Int.reduceBEq, Int.reduceBNe, Int.reduceToNat, Int.reduceLT, Int.reduceLE, Int.reduceAdd, Int.reduceSub, Int.reduceMul, reduceCtorEq, hw1]
  refine hK _ _ _ ?_
  clear hK K
  refine AWP.seq' ?_
  refine AWP.dreg' fun K hK => ?_
  try simp only [stepS, stepD, stepM, eq_self, implies_true, forall_eq_or_imp, forall_eq, Nat.reduceEqDiff, ↓reduceIte, Nat.reduceAdd, Nat.reduceLeDiff, Nat.reduceSub, Nat.reduceMul, Nat.reduceLT, Int.reduceBEq, Int.reduceBNe, Int.reduceToNat, Int.reduceLT, Int.reduceLE, Int.reduceAdd, Int.reduceSub, Int.reduceMul, reduceCtorEq, List.length_map, hw2, Int.toNat_natCast, hg]
  refine ⟨⟨by omega, by omega⟩, ?_⟩
  refine ⟨by rfl, hK _ _ _ ?_⟩
  clear hK K
  refine AWP.ret (fin_ret rfl rfl ?_)
  rw [show rawP L p = p + 1 by simp [rawP, h]]
  exact ⟨rfl, trivial⟩

theorem New_spec (es : List AV) (full : Bool) : HSpec Try.prog 9 [.sl 1 es full] [] (.ref 0 0) [some (.box (.agg [.sl 1 (es.take 2000) (full && decide (es.length ≤ 2000)), .int 0]))] := by
  refine HSpec.of_okh fun ok _ => ?_
  simp only [AV.ok, okL, and_true] at ok
  refine HSpec.walk Try.func9 cf9_ok (by simp [cf9]) ?_
  unfold cf9
  simp only [initT, initH, List.length_cons, List.length_nil]
  refine AWP.seq' ?_
  refine AWP.reg' fun K hK => ?_
  try simp only [stepS, stepD, stepM, eq_self, implies_true, forall_eq_or_imp, forall_eq, Nat.reduceEqDiff, ↓reduceIte, Nat.reduceAdd, Nat.reduceLeDiff, Nat.reduceSub, Nat.reduceMul, Nat.reduceLT, Int.reduceBEq, Int.reduceBNe, Int.reduceToNat, Int.reduceLT, Int.reduceLE, Int.reduceAdd, Int.reduceSub, Int.reduceMul, reduceCtorEq]
  refine hK _ _ _ ?_
  clear hK K
  refine AWP.seq' ?_
  refine AWP.reg' fun K hK => ?_
  try simp only [stepS, stepD, stepM, eq_self, implies_true, forall_eq_or_imp, forall_eq, Nat.reduceEqDiff, ↓reduceIte, Nat.reduceAdd, Nat.reduceLeDiff, Nat.reduceSub, Nat.reduceMul, Nat.reduceLT, Int.reduceBEq, Int.reduceBNe, Int.reduceToNat, Int.reduceLT, Int.reduceLE, Int.reduceAdd, Int.reduceSub, Int.reduceMul, reduceCtorEq, foldA, foldI]
  have hm : minI (es.length : Int) 2000 = ((min es.length 2000 : Nat) : Int) := by unfold minI; split <;> omega
  have ht : es.take (min es.length 2000) = es.take 2000 := by
    rcases Nat.le_total es.length 2000 with h | h
    · rw [Nat.min_eq_left h, List.take_of_length_le (Nat.le_refl _), List.take_of_length_le h]
    · rw [Nat.min_eq_right h]
  have hf : (decide (((min es.length 2000 : Nat) : Int) = es.length) && full) = (full && decide (es.length ≤ 2000)) := by
    rw [Bool.and_comm]; congr 1
    exact decide_eq_decide.mpr (by omega)
  rw [hm, Int.toNat_natCast, ht, hf]
  refine ⟨by omega, ?_⟩
  refine hK _ _ _ ?_
  clear hK K
  refine AWP.ret (fin_ren [112] [(2, .ref 0 0)] rfl rfl ?_ ?_ rfl (by simp) (by simp) (by simp))
  · simp only [List.mem_singleton, forall_eq]
    exact ⟨rfl, Nat.zero_lt_one⟩
  · refine ⟨⟨?_, trivial, trivial, trivial⟩, trivial⟩
    rfl

theorem N_spec (L : List Int) (p : Nat) (n : Int) (hp : p ≤ L.length) : HSpec Try.prog 24 [.ref 0 0, .int n] [.box (tp L p)] (.int (Mod (rawV L p) n)) [some (.box (tp L (rawP L p)))] := by
  refine HSpec.walk Try.func24 cf24_ok (by simp [cf24]) ?_
  unfold cf24
  simp only [initT, initH, List.length_cons, List.length_nil]
  refine AWP.seq' ?_
  refine AWP.reg' fun K hK => ?_
  try simp only [stepS, stepD, stepM, eq_self, implies_true, forall_eq_or_imp, forall_eq, Nat.reduceEqDiff, ↓reduceIte, Nat.reduceAdd, Nat.reduceLeDiff, Nat.reduceSub, Nat.reduceMul, Nat.reduceLT, Int.reduceBEq, Int.reduceBNe, Int.reduceToNat, Int.reduceLT, Int.reduceLE, Int.reduceAdd, Int.reduceSub, Int.reduceMul, reduceCtorEq]
  refine hK _ _ _ ?_
  clear hK K
  refine AWP.seq' ?_
  refine AWP.reg' fun K hK => ?_
  try simp only [stepS, stepD, stepM, eq_self, implies_true, forall_eq_or_imp, forall_eq, Nat.reduceEqDiff, ↓reduceIte, Nat.reduceAdd, Nat.reduceLeDiff, Nat.reduceSub, Nat.reduceMul, Nat.reduceLT, Int.reduceBEq, Int.reduceBNe, Int.reduceToNat, Int.reduceLT, Int.reduceLE, Int.reduceAdd, Int.reduceSub, Int.reduceMul, reduceCtorEq]
  refine evT_own (Raw_spec L p hp) Raw_fn trivial (tp_pure _ _) (tp_pure _ _) trivial rfl rfl rfl ?_
  try simp only [stepS, stepD, stepM, eq_self, implies_true, forall_eq_or_imp, forall_eq, Nat.reduceEqDiff, ↓reduceIte, Nat.reduceAdd, Nat.reduceLeDiff, Nat.reduceSub, Nat.reduceMul, Nat.reduceLT, Int.reduceBEq, Int.reduceBNe, Int.reduceToNat, Int.reduceLT, Int.reduceLE, Int.reduceAdd, Int.reduceSub, Int.reduceMul, reduceCtorEq]
  refine evT_pure (Mod_spec (rawV L p) n) Mod_fn rfl rfl ⟨trivial, trivial, trivial⟩ ?_
  try simp only [stepS, stepD, stepM, eq_self, implies_true, forall_eq_or_imp, forall_eq, Nat.reduceEqDiff, ↓reduceIte, Nat.reduceAdd, Nat.reduceLeDiff, Nat.reduceSub, Nat.reduceMul, Nat.reduceLT, Int.reduceBEq, Int.reduceBNe, Int.reduceToNat, Int.reduceLT, Int.reduceLE, Int.reduceAdd, Int.reduceSub, Int.reduceMul, reduceCtorEq]
  refine hK _ _ _ ?_
  clear hK K
  exact AWP.ret (fin_ret rfl rfl ⟨rfl, trivial⟩)

theorem Mod_range {x n : Int} (h : 1 ≤ n) : 0 ≤ Mod x n ∧ Mod x n < n := by
  have hb := Int.tmod_lt_of_pos x (show 0 < n by omega)
  have hb' := Int.lt_tmod_of_pos x (show 0 < n by omega)
  unfold Mod
  rw [if_neg (by omega)]
  split <;> omega

theorem Range_spec (L : List Int) (p : Nat) (lo hi : Int) (hp : p ≤ L.length) (h0 : 0 ≤ lo) (h1 : lo ≤ hi) (h2 : hi < 4611686018427387904) :
    HSpec Try.prog 10 [.ref 0 0, .int lo, .int hi] [.box (tp L p)] (.int (lo + Mod (rawV L p) (hi - lo + 1))) [some (.box (tp L (rawP L p)))] := by
  have hm := Mod_range (x := rawV L p) (show 1 ≤ hi - lo + 1 by omega)
  have w1 : IntKind.i64.wrap (hi - lo) = hi - lo := wrap64 (by omega)
  have w2 : IntKind.i64.wrap (hi - lo + 1) = hi - lo + 1 := wrap64 (by omega)
  have w3 : IntKind.i64.wrap (lo + Mod (rawV L p) (hi - lo + 1)) = lo + Mod (rawV L p) (hi - lo + 1) := wrap64 (by omega)
  refine HSpec.walk Try.func10 cf10_ok (by simp [cf10]) ?_
  unfold cf10
  simp only [initT, initH, List.length_cons, List.length_nil]
  refine AWP.seq' ?_
  refine AWP.reg' fun K hK => ?_
  try simp only [stepS, stepD, stepM, eq_self, implies_true, forall_eq_or_imp, forall_eq, Nat.reduceEqDiff, ↓reduceIte, Nat.reduceAdd, Nat.reduceLeDiff, Nat.reduceSub, Nat.reduceMul, Nat.reduceLT, Int.reduceBEq, Int.reduceBNe, Int.reduceToNat, Int.reduceLT, Int.reduceLE, Int.reduceAdd, Int.reduceSub, Int.reduceMul, reduceCtorEq]
  refine hK _ _ _ ?_
  clear hK K
  refine AWP.seq' ?_
  refine AWP.reg' fun K hK => ?_
  try simp only [stepS, stepD, stepM, eq_self, implies_true, forall_eq_or_imp, forall_eq, Nat.reduceEqDiff, ↓reduceIte, Nat.reduceAdd, Nat.reduceLeDiff, Nat.reduceSub, Nat.reduceMul, Nat.reduceLT, Int.reduceBEq, Int.reduceBNe, Int.reduceToNat, Int.reduceLT, Int.reduceLE, Int.reduceAdd, Int.reduceSub, Int.reduceMul, reduceCtorEq, w1, w2]
  refine evT_own (N_spec L p (hi - lo + 1) hp) N_fn ⟨trivial, trivial⟩ (tp_pure _ _) (tp_pure _ _) trivial rfl rfl rfl ?_
  try simp only [stepS, stepD, stepM, eq_self, implies_true, forall_eq_or_imp, forall_eq, Nat.reduceEqDiff, ↓reduceIte, Nat.reduceAdd, Nat.reduceLeDiff, Nat.reduceSub, Nat.reduceMul, Nat.reduceLT, Int.reduceBEq, Int.reduceBNe, Int.reduceToNat, Int.reduceLT, Int.reduceLE, Int.reduceAdd, Int.reduceSub, Int.reduceMul, reduceCtorEq, w3]
  refine hK _ _ _ ?_
  clear hK K
  exact AWP.ret (fin_ret rfl rfl ⟨rfl, trivial⟩)
end Go.Proofs.Ytaboolnmkfenlaa
