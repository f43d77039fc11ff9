/- Contracts of the draws: Pick, Put, Sources, Filter. -/
import Derived.Test.YtaboolnmkfenlaaS9
namespace Go.Proofs.Ytaboolnmkfenlaa
open Go Go.Am
set_option linter.unusedVariables false
set_option linter.unusedSimpArgs false
theorem Pick_fn : FnOk Try.prog 36 := fn_ok Try.func36 (by kernel_rfl)
theorem Put_fn : FnOk Try.prog 63 := fn_ok Try.func63 (by kernel_rfl)
theorem Sources_fn : FnOk Try.prog 51 := fn_ok Try.func51 (by kernel_rfl)
theorem Filter_fn : FnOk Try.prog 22 := fn_ok Try.func22 (by kernel_rfl)

def pickI (l : List Int) (r : Int) : Int := l.getD (Mod r l.length).toNat 0
theorem pickI_mem {l : List Int} (h : l ≠ []) (r : Int) : pickI l r ∈ l := by
  have hl : 0 < l.length := List.length_pos_iff.mpr h
  have := Mod_range (x := r) (show 1 ≤ (l.length : Int) by omega)
  have hi : (Mod r l.length).toNat < l.length := by omega
  rw [pickI, getD_get hi]
  exact List.getElem_mem hi
theorem Pick_spec (L : List Int) (p : Nat) (l : List Int) (full : Bool) (hp : p ≤ L.length) (hl : l ≠ []) :
    HSpec Try.prog 36 [.ref 0 0, .sl 1 (l.map .int) full] [.box (tp L p)] (.int (pickI l (rawV L p))) [some (.box (tp L (rawP L p)))] := by
  have hl : 0 < l.length := List.length_pos_iff.mpr hl
  have hm := Mod_range (x := rawV L p) (show 1 ≤ (l.length : Int) by omega)
  have hi : (Mod (rawV L p) l.length).toNat < l.length := by omega
  have he : pickI l (rawV L p) = l[(Mod (rawV L p) l.length).toNat] := by rw [pickI, getD_get hi]
  refine HSpec.walk Try.func36 cf36_ok (by simp [cf36]) ?_
  unfold cf36
  simp only [initT, initH, List.length_cons, List.length_nil]
  refine AWP.seq' ?_
  refine AWP.reg' fun K hK => ?_
  try simp only [stepS, stepD, stepM, eq_self, implies_true, forall_eq_or_imp, forall_eq, Nat.reduceEqDiff, ↓reduceIte, Nat.reduceAdd, Nat.reduceLeDiff, Nat.reduceSub, Nat.reduceMul, Nat.reduceLT, Int.reduceBEq, Int.reduceBNe, Int.reduceToNat, Int.reduceLT, Int.reduceLE, Int.reduceAdd, Int.reduceSub, Int.reduceMul, reduceCtorEq]
  refine hK _ _ _ ?_
  clear hK K
  refine AWP.seq' ?_
  refine AWP.reg' fun K hK => ?_
  try simp only [stepS, stepD, stepM, eq_self, implies_true, forall_eq_or_imp, forall_eq, Nat.reduceEqDiff, ↓reduceIte, Nat.reduceAdd, Nat.reduceLeDiff, Nat.reduceSub, Nat.reduceMul, Nat.reduceLT, Int.reduceBEq, Int.reduceBNe, Int.reduceToNat, Int.reduceLT, Int.reduceLE, Int.reduceAdd, Int.reduceSub, Int.reduceMul, reduceCtorEq]
  refine evT_own (N_spec L p l.length hp) N_fn (by repeat' (first | exact trivial | assumption | refine And.intro ?_ ?_)) (tp_pure _ _) (tp_pure _ _) (by repeat' (first | exact trivial | assumption | refine And.intro ?_ ?_)) rfl (by rfl) (by rfl) ?_
  try simp only [stepS, stepD, stepM, eq_self, implies_true, forall_eq_or_imp, forall_eq, Nat.reduceEqDiff, ↓reduceIte, Nat.reduceAdd, Nat.reduceLeDiff, Nat.reduceSub, Nat.reduceMul, Nat.reduceLT, Int.reduceBEq, Int.reduceBNe, Int.reduceToNat, Int.reduceLT, Int.reduceLE, Int.reduceAdd, Int.reduceSub, Int.reduceMul, reduceCtorEq, getD_ints hi]
  repeat (refine And.intro (by omega) ?_)
  refine hK _ _ _ ?_
  clear hK K
  exact AWP.ret (fin_ret rfl (by rw [he]; rfl) ⟨rfl, trivial⟩)

/-! ### Put -/
def putP (l : List Int) (x : Int) : Nat := l.findIdx (fun y => !decide (y < x))
def put (l : List Int) (x : Int) : List Int := if l[putP l x]? = some x then l else insAt l (putP l x) x
theorem Put_spec (l : List Int) (x : Int) (hl : l.length ≤ 1000000) : PSpec Try.prog 63 [ints l, .int x] (ints (put l x)) := by
  have hml := maxLen_eq
  refine PSpec.walk Try.func63 cf63_ok (by simp [cf63]) trivial ?_
  unfold cf63
  simp only [initT, ints]
  have hq : putP l x ≤ l.length := List.findIdx_le_length
  have hlo : ∀ j, (hj : j < l.length) → j < putP l x → l[j] < x := fun j hj h => by
    have := List.not_of_lt_findIdx h
    simpa using this
  have hhi : (h : putP l x < l.length) → ¬ l[putP l x] < x := fun h => by
    have := List.findIdx_getElem (p := fun y => !decide (y < x)) (xs := l) (w := h)
    rw [Bool.not_eq_true'] at this
    exact of_decide_eq_false this
  generalize hqe : putP l x = q at hq hlo hhi
  refine AWP.seq' ?_
  refine AWP.reg' fun K hK => ?_
  try simp only [stepS, stepD, stepM, eq_self, implies_true, forall_eq_or_imp, forall_eq, Nat.reduceEqDiff, ↓reduceIte, Nat.reduceAdd, Nat.reduceLeDiff, Nat.reduceSub, Nat.reduceMul, Nat.reduceLT, Int.reduceBEq, Int.reduceBNe, Int.reduceToNat, Int.reduceLT, Int.reduceLE, Int.reduceAdd, Int.reduceSub, Int.reduceMul, reduceCtorEq]
  refine hK _ _ _ ?_
  clear hK K
  refine AWP.seq' ?_
  refine AWP.reg' fun K hK => ?_
  try simp only [stepS, stepD, stepM, eq_self, implies_true, forall_eq_or_imp, forall_eq, Nat.reduceEqDiff, ↓reduceIte, Nat.reduceAdd, Nat.reduceLeDiff, Nat.reduceSub, Nat.reduceMul, Nat.reduceLT, Int.reduceBEq, Int.reduceBNe, Int.reduceToNat, Int.reduceLT, Int.reduceLE, Int.reduceAdd, Int.reduceSub, Int.reduceMul, reduceCtorEq]
  refine hK _ _ _ ?_
  clear hK K
  refine AWP.seqW ⟨resT [(0, .sl 1 (l.map .int) false), (1, .int x), (5, .int (q : Nat))], hpL 0 [], 0⟩ ?_ ?_
  · refine AWP.block ?_
    refine AWP.loopS (fun i => ⟨resT [(0, .sl 1 (l.map .int) false), (1, .int x), (5, .int (i : Nat))], hpL 0 [], 0⟩)
      (fun i => i ≤ q) (fun i => l.length - i) (i0 := 0) (Nat.zero_le _) ?_ ?_
    · refine Weak.nf [] _ _ ?_ ?_ ⟨rfl, rfl⟩ (by decide) (by decide) (by decide)
      · repeat' (first | exact trivial | exact And.intro rfl trivial | refine And.intro ?_ ?_ | rfl | exact Nat.le_of_ble_eq_true rfl)
      · repeat' (first | exact trivial | exact And.intro rfl trivial | refine And.intro ?_ ?_ | rfl | exact Nat.le_of_ble_eq_true rfl)
    intro i h1
    refine AWP.seq' (AWP.seq' ?_)
    by_cases h2 : i < l.length
    case neg =>
      have e : ¬ (i : Int) < l.length := by omega
      have hiq : i = q := by omega
      subst hiq
      refine AWP.reg' fun K hK => ?_
      try simp only [stepS, stepD, stepM, eq_self, implies_true, forall_eq_or_imp, forall_eq, Nat.reduceEqDiff, ↓reduceIte, Nat.reduceAdd, Nat.reduceLeDiff, Nat.reduceSub, Nat.reduceMul, Nat.reduceLT, Int.reduceBEq, Int.reduceBNe, Int.reduceToNat, Int.reduceLT, Int.reduceLE, Int.reduceAdd, Int.reduceSub, Int.reduceMul, reduceCtorEq, e]
      refine hK _ _ _ ?_
      clear hK K
      refine AWP.cond (b := false) rfl (fun c => by cases c) (fun c => ?_)
      refine AWP.exit ?_
      refine Weak.nf [] _ _ ?_ ?_ ⟨rfl, rfl⟩ (by decide) (by decide) (by decide)
      · repeat' (first | exact trivial | exact And.intro rfl trivial | refine And.intro ?_ ?_ | rfl | exact Nat.le_of_ble_eq_true rfl)
      · repeat' (first | exact trivial | exact And.intro rfl trivial | refine And.intro ?_ ?_ | rfl | exact Nat.le_of_ble_eq_true rfl)
    have e : (i : Int) < l.length := by omega
    by_cases h3 : l[i] < x
    case neg =>
      have hiq : i = q := Classical.byContradiction fun e => h3 (hlo i h2 (by omega))
      subst hiq
      refine AWP.reg' fun K hK => ?_
      try simp only [stepS, stepD, stepM, eq_self, implies_true, forall_eq_or_imp, forall_eq, Nat.reduceEqDiff, ↓reduceIte, Nat.reduceAdd, Nat.reduceLeDiff, Nat.reduceSub, Nat.reduceMul, Nat.reduceLT, Int.reduceBEq, Int.reduceBNe, Int.reduceToNat, Int.reduceLT, Int.reduceLE, Int.reduceAdd, Int.reduceSub, Int.reduceMul, reduceCtorEq, e, getD_ints h2, h3]
      repeat (refine And.intro (by omega) ?_)
      refine hK _ _ _ ?_
      clear hK K
      refine AWP.cond (b := false) rfl (fun c => by cases c) (fun c => ?_)
      refine AWP.exit ?_
      refine Weak.nf [] _ _ ?_ ?_ ⟨rfl, rfl⟩ (by decide) (by decide) (by decide)
      · repeat' (first | exact trivial | exact And.intro rfl trivial | refine And.intro ?_ ?_ | rfl | exact Nat.le_of_ble_eq_true rfl)
      · repeat' (first | exact trivial | exact And.intro rfl trivial | refine And.intro ?_ ?_ | rfl | exact Nat.le_of_ble_eq_true rfl)
    have hiq : i < q := by
      refine Classical.byContradiction fun e => ?_
      have : i = q := by omega
      subst this
      exact hhi h2 h3
    have w : IntKind.i64.wrap ((i : Int) + 1) = ((i + 1 : Nat) : Int) := wrapN (by omega) (by omega)
    refine AWP.reg' fun K hK => ?_
    try simp only [stepS, stepD, stepM, eq_self, implies_true, forall_eq_or_imp, forall_eq, Nat.reduceEqDiff, ↓reduceIte, Nat.reduceAdd, Nat.reduceLeDiff, Nat.reduceSub, Nat.reduceMul, Nat.reduceLT, Int.reduceBEq, Int.reduceBNe, Int.reduceToNat, Int.reduceLT, Int.reduceLE, Int.reduceAdd, Int.reduceSub, Int.reduceMul, reduceCtorEq, e, getD_ints h2, h3]
    repeat (refine And.intro (by omega) ?_)
    refine hK _ _ _ ?_
    clear hK K
    refine AWP.cond (b := true) rfl (fun c => ?_) (fun c => by cases c)
    refine AWP.skip ?_
    refine AWP.block ?_
    refine AWP.reg' fun K hK => ?_
    try simp only [stepS, stepD, stepM, eq_self, implies_true, forall_eq_or_imp, forall_eq, Nat.reduceEqDiff, ↓reduceIte, Nat.reduceAdd, Nat.reduceLeDiff, Nat.reduceSub, Nat.reduceMul, Nat.reduceLT, Int.reduceBEq, Int.reduceBNe, Int.reduceToNat, Int.reduceLT, Int.reduceLE, Int.reduceAdd, Int.reduceSub, Int.reduceMul, reduceCtorEq, w]
    refine hK _ _ _ ?_
    clear hK K
    refine ⟨i + 1, hiq, by omega, ?_⟩
    refine Weak.nf [] _ _ ?_ ?_ ⟨rfl, rfl⟩ (by decide) (by decide) (by decide)
    · repeat' (first | exact trivial | exact And.intro rfl trivial | refine And.intro ?_ ?_ | rfl | exact Nat.le_of_ble_eq_true rfl)
    · repeat' (first | exact trivial | exact And.intro rfl trivial | refine And.intro ?_ ?_ | rfl | exact Nat.le_of_ble_eq_true rfl)
  by_cases hx : l[q]? = some x
  · have e : put l x = l := by rw [put, hqe, if_pos hx]
    obtain ⟨h2, h3⟩ := List.getElem?_eq_some_iff.mp hx
    have e1 : (q : Int) < l.length := by omega
    have e2 : (l[q] == x) = true := by rw [h3]; simp
    refine AWP.seq' (AWP.seq' ?_)
    refine AWP.reg' fun K hK => ?_
    try simp only [stepS, stepD, stepM, eq_self, implies_true, forall_eq_or_imp, forall_eq, Nat.reduceEqDiff, ↓reduceIte, Nat.reduceAdd, Nat.reduceLeDiff, Nat.reduceSub, Nat.reduceMul, Nat.reduceLT, Int.reduceBEq, Int.reduceBNe, Int.reduceToNat, Int.reduceLT, Int.reduceLE, Int.reduceAdd, Int.reduceSub, Int.reduceMul, reduceCtorEq, e1, getD_ints h2, e2]
    repeat (refine And.intro (by omega) ?_)
    refine hK _ _ _ ?_
    clear hK K
    refine AWP.cond (b := true) rfl (fun c => ?_) (fun c => by cases c)
    repeat (first
      | refine AWP.seq' ?_
      | refine AWP.skip ?_
      | (refine AWP.reg' fun K hK => ?_; simp only [stepS, stepD, stepM, eq_self, implies_true, forall_eq_or_imp, forall_eq, Nat.reduceEqDiff, ↓reduceIte, Nat.reduceAdd, Nat.reduceLeDiff, Nat.reduceSub, Nat.reduceMul, Nat.reduceLT, Int.reduceBEq, Int.reduceBNe, Int.reduceToNat, Int.reduceLT, Int.reduceLE, Int.reduceAdd, Int.reduceSub, Int.reduceMul, reduceCtorEq]; (repeat (refine And.intro (by omega) ?_)); refine hK _ _ _ ?_; clear hK K))
    exact AWP.ret (finP_ret rfl (by rw [e]; rfl) trivial)
  have e : put l x = insAt l q x := by rw [put, hqe, if_neg hx]
  refine AWP.seqW ⟨resT [(0, .sl 1 (l.map .int) false), (1, .int x), (5, .int (q : Nat))], hpL 0 [], 0⟩ ?_ ?_
  · refine AWP.seq' ?_
    by_cases h2 : q < l.length
    case neg =>
      have e1 : ¬ (q : Int) < l.length := by omega
      refine AWP.reg' fun K hK => ?_
      try simp only [stepS, stepD, stepM, eq_self, implies_true, forall_eq_or_imp, forall_eq, Nat.reduceEqDiff, ↓reduceIte, Nat.reduceAdd, Nat.reduceLeDiff, Nat.reduceSub, Nat.reduceMul, Nat.reduceLT, Int.reduceBEq, Int.reduceBNe, Int.reduceToNat, Int.reduceLT, Int.reduceLE, Int.reduceAdd, Int.reduceSub, Int.reduceMul, reduceCtorEq, e1]
      refine hK _ _ _ ?_
      clear hK K
      refine AWP.cond (b := false) rfl (fun c => by cases c) (fun c => ?_)
      refine AWP.skip ?_
      refine Weak.nf [] _ _ ?_ ?_ ⟨rfl, rfl⟩ (by decide) (by decide) (by decide)
      · repeat' (first | exact trivial | exact And.intro rfl trivial | refine And.intro ?_ ?_ | rfl | exact Nat.le_of_ble_eq_true rfl)
      · repeat' (first | exact trivial | exact And.intro rfl trivial | refine And.intro ?_ ?_ | rfl | exact Nat.le_of_ble_eq_true rfl)
    have e1 : (q : Int) < l.length := by omega
    have e2 : (l[q] == x) = false := by
      rw [List.getElem?_eq_getElem h2] at hx
      simpa using hx
    refine AWP.reg' fun K hK => ?_
    try simp only [stepS, stepD, stepM, eq_self, implies_true, forall_eq_or_imp, forall_eq, Nat.reduceEqDiff, ↓reduceIte, Nat.reduceAdd, Nat.reduceLeDiff, Nat.reduceSub, Nat.reduceMul, Nat.reduceLT, Int.reduceBEq, Int.reduceBNe, Int.reduceToNat, Int.reduceLT, Int.reduceLE, Int.reduceAdd, Int.reduceSub, Int.reduceMul, reduceCtorEq, e1, getD_ints h2, e2]
    repeat (refine And.intro (by omega) ?_)
    refine hK _ _ _ ?_
    clear hK K
    refine AWP.cond (b := false) rfl (fun c => by cases c) (fun c => ?_)
    refine AWP.skip ?_
    refine Weak.nf [] _ _ ?_ ?_ ⟨rfl, rfl⟩ (by decide) (by decide) (by decide)
    · repeat' (first | exact trivial | exact And.intro rfl trivial | refine And.intro ?_ ?_ | rfl | exact Nat.le_of_ble_eq_true rfl)
    · repeat' (first | exact trivial | exact And.intro rfl trivial | refine And.intro ?_ ?_ | rfl | exact Nat.le_of_ble_eq_true rfl)
  have d1 : List.take l.length (l.map AV.int) = l.map AV.int := List.take_of_length_le (by simp)
  have d2 : List.drop q (l.map AV.int) = (l.drop q).map AV.int := by rw [List.map_drop]
  have d3 : List.take q (l.map AV.int) = (l.take q).map AV.int := by rw [List.map_take]
  refine AWP.seq' ?_
  refine AWP.reg' fun K hK => ?_
  try simp only [stepS, stepD, stepM, eq_self, implies_true, forall_eq_or_imp, forall_eq, Nat.reduceEqDiff, ↓reduceIte, Nat.reduceAdd, Nat.reduceLeDiff, Nat.reduceSub, Nat.reduceMul, Nat.reduceLT, Int.reduceBEq, Int.reduceBNe, Int.reduceToNat, Int.reduceLT, Int.reduceLE, Int.reduceAdd, Int.reduceSub, Int.reduceMul, reduceCtorEq]
  refine evT_litv ?_
  try simp only [stepS, stepD, stepM, eq_self, implies_true, forall_eq_or_imp, forall_eq, Nat.reduceEqDiff, ↓reduceIte, Nat.reduceAdd, Nat.reduceLeDiff, Nat.reduceSub, Nat.reduceMul, Nat.reduceLT, Int.reduceBEq, Int.reduceBNe, Int.reduceToNat, Int.reduceLT, Int.reduceLE, Int.reduceAdd, Int.reduceSub, Int.reduceMul, reduceCtorEq, evL, appendA, srcA, d1, d2, List.length_drop]
  repeat (refine And.intro (by omega) ?_)
  refine hK _ _ _ ?_
  clear hK K
  refine AWP.seq' ?_
  have hpv := pureL_ints (insAt l q x)
  have hev : (l.take q).map AV.int ++ ([AV.int x] ++ (l.drop q).map AV.int) = (insAt l q x).map AV.int := by simp [insAt]
  by_cases h0 : (l.take q).map AV.int = []
  · have h1 : AV.int x :: (l.drop q).map AV.int = (insAt l q x).map AV.int := by rw [← hev, h0]; rfl
    refine AWP.reg' fun K hK => ?_
    try simp only [stepS, stepD, stepM, eq_self, implies_true, forall_eq_or_imp, forall_eq, Nat.reduceEqDiff, ↓reduceIte, Nat.reduceAdd, Nat.reduceLeDiff, Nat.reduceSub, Nat.reduceMul, Nat.reduceLT, Int.reduceBEq, Int.reduceBNe, Int.reduceToNat, Int.reduceLT, Int.reduceLE, Int.reduceAdd, Int.reduceSub, Int.reduceMul, reduceCtorEq, appendA, srcA, d3, h0, List.length_drop]
    repeat (refine And.intro (by omega) ?_)
    rw [h1]
    refine hK _ _ _ ?_
    clear hK K
    refine AWP.weak (Weak.giveT 4 _ rfl rfl hpv) ?_
    exact AWP.ret (finP_ret rfl (by rw [e]; rfl) trivial)
  have h2 : (l.take q).length = q := by simp; omega
  have h1 : (l.take q).map AV.int ++ AV.int x :: (l.drop q).map AV.int = (insAt l q x).map AV.int := by rw [← hev]; rfl
  refine AWP.reg' fun K hK => ?_
  try simp only [stepS, stepD, stepM, eq_self, implies_true, forall_eq_or_imp, forall_eq, Nat.reduceEqDiff, ↓reduceIte, Nat.reduceAdd, Nat.reduceLeDiff, Nat.reduceSub, Nat.reduceMul, Nat.reduceLT, Int.reduceBEq, Int.reduceBNe, Int.reduceToNat, Int.reduceLT, Int.reduceLE, Int.reduceAdd, Int.reduceSub, Int.reduceMul, reduceCtorEq, appendA, srcA, d3, h0, h1, h2, List.length_drop]
  repeat (refine And.intro (by omega) ?_)
  refine hK _ _ _ ?_
  clear hK K
  refine AWP.weak (Weak.giveT 4 _ rfl rfl hpv) ?_
  exact AWP.ret (finP_ret rfl (by rw [e]; rfl) trivial)

theorem put_mem {l : List Int} {x y : Int} : y ∈ put l x → y ∈ l ∨ y = x := by
  unfold put
  split
  · exact .inl
  · unfold insAt
    intro h
    rcases List.mem_append.mp h with h | h
    · rcases List.mem_append.mp h with h | h
      · exact .inl (List.mem_of_mem_take h)
      · exact .inr (by simpa using h)
    · exact .inl (List.mem_of_mem_drop h)
theorem put_length (l : List Int) (x : Int) : (put l x).length ≤ l.length + 1 := by
  unfold put
  split
  · omega
  · unfold insAt; simp; omega
theorem asc_pw {l : List Int} : ascI l ↔ l.Pairwise (· < ·) := by
  rw [List.pairwise_iff_getElem]
  constructor
  · intro h
    have key : ∀ i d, (hi : i + d + 1 < l.length) → l.getD i 0 < l.getD (i + d + 1) 0 := by
      intro i d
      induction d with
      | zero => intro hi; exact h i (by omega)
      | succ d ih => intro hi; exact Int.lt_trans (ih (by omega)) (h (i + d + 1) (by omega))
    intro i j hi hj hij
    have := key i (j - i - 1) (by omega)
    rw [show i + (j - i - 1) + 1 = j by omega, getD_get hi, getD_get hj] at this
    exact this
  · intro h i hi
    have h1 : i < l.length := by omega
    have h2 : i + 1 < l.length := by omega
    rw [getD_get h1, getD_get h2]
    exact h i (i + 1) h1 h2 (by omega)
theorem put_asc {l : List Int} {x : Int} (h : ascI l) : ascI (put l x) := by
  unfold put
  split
  · exact h
  rename_i hx
  rw [asc_pw] at *
  have hlo : ∀ a ∈ l.take (putP l x), a < x := fun a ha => by
    obtain ⟨i, hi, rfl⟩ := List.getElem_of_mem ha
    rw [List.getElem_take]
    have h1 : i < putP l x := by simp at hi; omega
    have := List.not_of_lt_findIdx h1
    simpa using this
  have hhi : ∀ a ∈ l.drop (putP l x), x < a := fun a ha => by
    have hne : l.drop (putP l x) ≠ [] := fun e => by rw [e] at ha; simp at ha
    have hlt : putP l x < l.length := by
      refine Classical.byContradiction fun e => hne (List.drop_of_length_le (by omega))
    have h1 : ¬ l[putP l x] < x := by
      have := List.findIdx_getElem (p := fun y => !decide (y < x)) (xs := l) (w := hlt)
      rw [Bool.not_eq_true'] at this
      exact of_decide_eq_false this
    have h2 : l[putP l x] ≠ x := fun e => hx (by rw [List.getElem?_eq_getElem hlt, e])
    rw [List.drop_eq_getElem_cons hlt] at ha
    have h3 : (l.drop (putP l x)).Pairwise (· < ·) := h.sublist (List.drop_sublist _ _)
    rw [List.drop_eq_getElem_cons hlt, List.pairwise_cons] at h3
    rcases List.mem_cons.mp ha with rfl | ha
    · omega
    · have := h3.1 a ha; omega
  unfold insAt
  rw [List.pairwise_append, List.pairwise_append]
  refine ⟨⟨h.sublist (List.take_sublist _ _), List.pairwise_singleton _ _, fun a ha b hb => ?_⟩, h.sublist (List.drop_sublist _ _), fun a ha b hb => ?_⟩
  · rw [List.mem_singleton] at hb; subst hb; exact hlo a ha
  · rcases List.mem_append.mp ha with ha | ha
    · exact Int.lt_trans (hlo a ha) (hhi b hb)
    · rw [List.mem_singleton] at ha; subst ha; exact hhi b hb
theorem put_rng {l : List Int} {x : Int} (h : rngI l) (hx : 1 ≤ x ∧ x ≤ 99) : rngI (put l x) := fun y hy => by
  rcases put_mem hy with hy | rfl
  · exact h y hy
  · exact hx
end Go.Proofs.Ytaboolnmkfenlaa
