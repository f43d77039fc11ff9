/- Contract of slices.Compact. -/
import Derived.Test.YtaboolnmkfenlaaS9
import Derived.Test.YtaboolnmkfenlaaAmC
namespace Go.Proofs.Ytaboolnmkfenlaa
open Go Go.Am
set_option linter.unusedVariables false
set_option linter.unusedSimpArgs false
theorem Compact_fn : FnOk Try.prog 62 := fn_ok Try.func62 (by kernel_rfl)
def comp1 (out : List Int) (x : Int) : List Int := if out.getLast? = some x then out else out ++ [x]
def compact (l : List Int) : List Int := l.foldl comp1 []
theorem compact_take {l : List Int} {i : Nat} (h : i < l.length) : compact (l.take (i + 1)) = comp1 (compact (l.take i)) l[i] := by
  unfold compact
  rw [List.take_add_one, List.getElem?_eq_getElem h]
  show List.foldl comp1 [] (l.take i ++ [l[i]]) = _
  rw [List.foldl_append]
  rfl
theorem compact_last {l : List Int} {i : Nat} (h : i < l.length) : (compact (l.take (i + 1))).getLast? = some l[i] := by
  rw [compact_take h, comp1]
  split
  · assumption
  · simp
theorem compact_len (l : List Int) : (compact l).length ≤ l.length := by
  have key : ∀ (l out : List Int), (l.foldl comp1 out).length ≤ out.length + l.length := by
    intro l
    induction l with
    | nil => intro out; simp
    | cons x l ih =>
      intro out
      rw [List.foldl_cons]
      have := ih (comp1 out x)
      have : (comp1 out x).length ≤ out.length + 1 := by unfold comp1; split <;> simp
      simp; omega
  have h := key l []
  simp only [List.length_nil, Nat.zero_add] at h
  exact h
/-- Where neighbours differ nothing is left out. -/
theorem compact_same {l : List Int} : ∀ {n : Nat}, n ≤ l.length → (∀ i, i + 1 < n → l.getD i 0 ≠ l.getD (i + 1) 0) → compact (l.take n) = l.take n
  | 0, _, _ => by simp [compact]
  | 1, h, _ => by
    rw [compact_take (by omega), List.take_zero]
    rw [List.take_add_one, List.getElem?_eq_getElem (by omega)]
    simp [compact, comp1]
  | n + 2, h, hd => by
    have ih := compact_same (n := n + 1) (by omega) fun i hi => hd i (by omega)
    have h1 := hd n (by omega)
    rw [getD_get (by omega), getD_get (by omega)] at h1
    rw [compact_take (show n + 1 < l.length by omega), comp1, compact_last (by omega), if_neg (by simpa using h1), ih, List.take_add_one (i := n + 1), List.getElem?_eq_getElem (show n + 1 < l.length by omega)]
    rfl

theorem Compact_spec (gs : List Int) (hl : gs.length ≤ 1000000) : HSpec Try.prog 62 [.vec 0] [.vec 1 (gs.map .int)] (ints (compact gs)) [none] := by
  have hml := maxLen_eq
  have hpg := pureL_ints gs
  refine HSpec.walk Try.func62 cf62_ok (by simp [cf62]) ?_
  unfold cf62
  simp only [initT, initH, List.length_cons, List.length_nil]
  refine AWP.seq' ?_
  refine AWP.reg' fun K hK => ?_
  try simp only [stepS, stepD, stepM, eq_self, implies_true, forall_eq_or_imp, forall_eq, Nat.reduceEqDiff, ↓reduceIte, Nat.reduceAdd, Nat.reduceLeDiff, Nat.reduceSub, Nat.reduceMul, Nat.reduceLT, Int.reduceBEq, Int.reduceBNe, Int.reduceToNat, Int.reduceLT, Int.reduceLE, Int.reduceAdd, Int.reduceSub, Int.reduceMul, reduceCtorEq]
  refine hK _ _ _ ?_
  clear hK K
  refine AWP.seq' (AWP.seq' ?_)
  refine AWP.reg' fun K hK => ?_
  try simp only [stepS, stepD, stepM, eq_self, implies_true, forall_eq_or_imp, forall_eq, Nat.reduceEqDiff, ↓reduceIte, Nat.reduceAdd, Nat.reduceLeDiff, Nat.reduceSub, Nat.reduceMul, Nat.reduceLT, Int.reduceBEq, Int.reduceBNe, Int.reduceToNat, Int.reduceLT, Int.reduceLE, Int.reduceAdd, Int.reduceSub, Int.reduceMul, reduceCtorEq]
  refine hK _ _ _ ?_
  clear hK K
  have done : (∀ i, i + 1 < gs.length → gs.getD i 0 ≠ gs.getD (i + 1) 0) → compact gs = gs := fun h => by
    have := compact_same (l := gs) (n := gs.length) (Nat.le_refl _) h
    rwa [List.take_length] at this
  refine AWP.cond (b := decide ((gs.length : Int) < 2)) rfl (fun c => ?_) (fun c => ?_)
  · have c := of_decide_eq_true c
    have e := done (fun i hi => by omega)
    repeat (first
      | refine AWP.seq' ?_
      | refine AWP.skip ?_
      | (refine AWP.reg' fun K hK => ?_; simp only [stepS, stepD, stepM, eq_self, implies_true, forall_eq_or_imp, forall_eq, Nat.reduceEqDiff, ↓reduceIte, Nat.reduceAdd, Nat.reduceLeDiff, Nat.reduceSub, Nat.reduceMul, Nat.reduceLT, Int.reduceBEq, Int.reduceBNe, Int.reduceToNat, Int.reduceLT, Int.reduceLE, Int.reduceAdd, Int.reduceSub, Int.reduceMul, reduceCtorEq]; (repeat (refine And.intro (by omega) ?_)); refine hK _ _ _ ?_; clear hK K))
    refine AWP.weak (Weak.giveT 2 0 rfl rfl hpg) ?_
    exact AWP.ret (fin_ret rfl (by rw [e]; rfl) trivial)
  have hge : 2 ≤ gs.length := by have := of_decide_eq_false c; omega
  repeat (first
    | refine AWP.seq' ?_
    | refine AWP.skip ?_
    | (refine AWP.reg' fun K hK => ?_; simp only [stepS, stepD, stepM, eq_self, implies_true, forall_eq_or_imp, forall_eq, Nat.reduceEqDiff, ↓reduceIte, Nat.reduceAdd, Nat.reduceLeDiff, Nat.reduceSub, Nat.reduceMul, Nat.reduceLT, Int.reduceBEq, Int.reduceBNe, Int.reduceToNat, Int.reduceLT, Int.reduceLE, Int.reduceAdd, Int.reduceSub, Int.reduceMul, reduceCtorEq]; (repeat (refine And.intro (by omega) ?_)); refine hK _ _ _ ?_; clear hK K))
  refine AWP.block ?_
  refine AWP.loopS (fun i => ⟨resT [(0, .vec 0), (3, .int ((i + 1 : Nat) : Int))], hpL 0 [some (.vec 1 (gs.map .int))], 1⟩)
    (fun i => i < gs.length ∧ ∀ j, j < i → gs.getD j 0 ≠ gs.getD (j + 1) 0) (fun i => gs.length - i) (i0 := 0) ⟨by omega, fun _ h => by omega⟩ ?_ ?_
  · refine Weak.nf [0] _ _ ?_ ?_ ⟨rfl, rfl⟩ (by decide) (by decide) (by decide)
    · repeat' (first | exact trivial | exact And.intro rfl trivial | refine And.intro ?_ ?_ | rfl | exact Nat.le_of_ble_eq_true rfl | exact congrArg some (vec_ren (m := 0) hpg).1.symm | exact (vec_ren (π := id) hpg).2)
    · repeat' (first | exact trivial | exact And.intro rfl trivial | refine And.intro ?_ ?_ | rfl | exact Nat.le_of_ble_eq_true rfl | exact congrArg some (vec_ren (m := 0) hpg).1.symm | exact (vec_ren (π := id) hpg).2)
  rintro i ⟨h1, h2⟩
  repeat (first
    | refine AWP.seq' ?_
    | refine AWP.skip ?_
    | (refine AWP.reg' fun K hK => ?_; simp only [stepS, stepD, stepM, eq_self, implies_true, forall_eq_or_imp, forall_eq, Nat.reduceEqDiff, ↓reduceIte, Nat.reduceAdd, Nat.reduceLeDiff, Nat.reduceSub, Nat.reduceMul, Nat.reduceLT, Int.reduceBEq, Int.reduceBNe, Int.reduceToNat, Int.reduceLT, Int.reduceLE, Int.reduceAdd, Int.reduceSub, Int.reduceMul, reduceCtorEq]; (repeat (refine And.intro (by omega) ?_)); refine hK _ _ _ ?_; clear hK K))
  refine AWP.cond (b := decide (((i + 1 : Nat) : Int) < gs.length)) rfl (fun h => ?_) (fun h => ?_)
  case refine_2 =>
    have h : ¬ i + 1 < gs.length := by have := of_decide_eq_false h; omega
    have e := done (fun j hj => h2 j (by omega))
    refine AWP.exit ?_
    repeat (first
      | refine AWP.seq' ?_
      | refine AWP.skip ?_
      | (refine AWP.reg' fun K hK => ?_; simp only [stepS, stepD, stepM, eq_self, implies_true, forall_eq_or_imp, forall_eq, Nat.reduceEqDiff, ↓reduceIte, Nat.reduceAdd, Nat.reduceLeDiff, Nat.reduceSub, Nat.reduceMul, Nat.reduceLT, Int.reduceBEq, Int.reduceBNe, Int.reduceToNat, Int.reduceLT, Int.reduceLE, Int.reduceAdd, Int.reduceSub, Int.reduceMul, reduceCtorEq]; (repeat (refine And.intro (by omega) ?_)); refine hK _ _ _ ?_; clear hK K))
    refine AWP.weak (Weak.giveT 2 0 rfl rfl hpg) ?_
    exact AWP.ret (fin_ret rfl (by rw [e]; rfl) trivial)
  have h : i + 1 < gs.length := by have := of_decide_eq_true h; omega
  have w1 : IntKind.i64.wrap (((i + 1 : Nat) : Int) - 1) = (i : Int) := wrapN (by omega) (by omega)
  have w2 : IntKind.i64.wrap (((i + 1 : Nat) : Int) + 1) = ((i + 1 + 1 : Nat) : Int) := wrapN (by omega) (by omega)
  refine AWP.skip ?_
  refine AWP.seq' ?_
  refine AWP.block ?_
  refine AWP.seq' ?_
  refine AWP.dreg' fun K hK => ?_
  try simp only [stepS, stepD, stepM, eq_self, implies_true, forall_eq_or_imp, forall_eq, Nat.reduceEqDiff, ↓reduceIte, Nat.reduceAdd, Nat.reduceLeDiff, Nat.reduceSub, Nat.reduceMul, Nat.reduceLT, Int.reduceBEq, Int.reduceBNe, Int.reduceToNat, Int.reduceLT, Int.reduceLE, Int.reduceAdd, Int.reduceSub, Int.reduceMul, reduceCtorEq, w1, getD_ints h, getD_ints h1]
  repeat (refine And.intro (by omega) ?_)
  refine ⟨by rfl, hK _ _ _ ?_⟩
  clear hK K
  refine AWP.cond (b := (gs[i + 1] == gs[i])) rfl (fun g => ?_) (fun g => ?_)
  case refine_2 =>
    have g : gs[i + 1] ≠ gs[i] := by simpa using g
    refine AWP.skip ?_
    refine AWP.reg' fun K hK => ?_
    try simp only [stepS, stepD, stepM, eq_self, implies_true, forall_eq_or_imp, forall_eq, Nat.reduceEqDiff, ↓reduceIte, Nat.reduceAdd, Nat.reduceLeDiff, Nat.reduceSub, Nat.reduceMul, Nat.reduceLT, Int.reduceBEq, Int.reduceBNe, Int.reduceToNat, Int.reduceLT, Int.reduceLE, Int.reduceAdd, Int.reduceSub, Int.reduceMul, reduceCtorEq, w2]
    refine hK _ _ _ ?_
    clear hK K
    refine ⟨i + 1, ⟨h, fun j hj => ?_⟩, by omega, ?_⟩
    · by_cases e : j = i
      · subst e; rw [getD_get h1, getD_get h]; exact Ne.symm g
      · exact h2 j (by omega)
    refine Weak.nf [0] _ _ ?_ ?_ ⟨rfl, rfl⟩ (by decide) (by decide) (by decide)
    · repeat' (first | exact trivial | exact And.intro rfl trivial | refine And.intro ?_ ?_ | rfl | exact Nat.le_of_ble_eq_true rfl | exact congrArg some (vec_ren (m := 0) hpg).1.symm | exact (vec_ren (π := id) hpg).2)
    · repeat' (first | exact trivial | exact And.intro rfl trivial | refine And.intro ?_ ?_ | rfl | exact Nat.le_of_ble_eq_true rfl | exact congrArg some (vec_ren (m := 0) hpg).1.symm | exact (vec_ren (π := id) hpg).2)
  have g : gs[i + 1] = gs[i] := eq_of_beq g
  have hpre : compact (gs.take (i + 1)) = gs.take (i + 1) := compact_same (by omega) fun j hj => h2 j (by omega)
  have hsub : ((gs.length : Int) - ((i + 1 : Nat) : Int)).toNat = gs.length - (i + 1) := by omega
  refine AWP.seq' ?_
  have hpos : 0 < gs.length := by omega
  refine AWP.reg' fun K hK => ?_
  try simp only [stepS, stepD, stepM, eq_self, implies_true, forall_eq_or_imp, forall_eq, Nat.reduceEqDiff, ↓reduceIte, Nat.reduceAdd, Nat.reduceLeDiff, Nat.reduceSub, Nat.reduceMul, Nat.reduceLT, Int.reduceBEq, Int.reduceBNe, Int.reduceToNat, Int.reduceLT, Int.reduceLE, Int.reduceAdd, Int.reduceSub, Int.reduceMul, reduceCtorEq, hsub, hpos]
  repeat (refine And.intro (by omega) ?_)
  refine hK _ _ _ ?_
  clear hK K
  refine AWP.seq' (AWP.seq' ?_)
  refine AWP.reg' fun K hK => ?_
  try simp only [stepS, stepD, stepM, eq_self, implies_true, forall_eq_or_imp, forall_eq, Nat.reduceEqDiff, ↓reduceIte, Nat.reduceAdd, Nat.reduceLeDiff, Nat.reduceSub, Nat.reduceMul, Nat.reduceLT, Int.reduceBEq, Int.reduceBNe, Int.reduceToNat, Int.reduceLT, Int.reduceLE, Int.reduceAdd, Int.reduceSub, Int.reduceMul, reduceCtorEq]
  refine hK _ _ _ ?_
  clear hK K
  refine AWP.block ?_
  have hc0 : compact (gs.take (i + 1 + 1)) = gs.take (i + 1) := by
    rw [compact_take h, comp1, compact_last h1, if_pos (by rw [g]), hpre]
  refine AWP.loopS (σ := Nat × Nat × List Int) (fun s => ⟨resT [(0, .vec 0), (3, .int (s.1 : Nat)), (4, .vsub 0 (i + 1) (gs.length - (i + 1))), (5, .int (s.2.1 : Nat))], hpL 0 [some (.vec 1 (s.2.2.map .int))], 1⟩)
    (fun s => 1 ≤ s.2.1 ∧ s.2.1 ≤ gs.length - (i + 1) ∧ s.2.2.length = gs.length ∧ s.1 + 1 ≤ i + 1 + s.2.1 ∧ i + 1 ≤ s.1 ∧ s.2.2.take s.1 = compact (gs.take (i + 1 + s.2.1)) ∧ ∀ j, i + 1 + s.2.1 ≤ j + 1 → s.2.2[j]? = gs[j]?) (fun s => gs.length - s.2.1)
    (i0 := (i + 1, 1, gs)) ⟨Nat.le_refl _, by show 1 ≤ gs.length - (i + 1); omega, rfl, Nat.le_refl _, Nat.le_refl _, hc0.symm, fun _ _ => rfl⟩ ?_ ?_
  · refine Weak.nf [0] _ _ ?_ ?_ ⟨rfl, rfl⟩ (by decide) (by decide) (by decide)
    · repeat' (first | exact trivial | exact And.intro rfl trivial | refine And.intro ?_ ?_ | rfl | exact Nat.le_of_ble_eq_true rfl | exact congrArg some (vec_ren (m := 0) hpg).1.symm | exact (vec_ren (π := id) hpg).2)
    · repeat' (first | exact trivial | exact And.intro rfl trivial | refine And.intro ?_ ?_ | rfl | exact Nat.le_of_ble_eq_true rfl | exact congrArg some (vec_ren (m := 0) hpg).1.symm | exact (vec_ren (π := id) hpg).2)
  rintro ⟨k, k2, cur⟩ ⟨p1, p2, p3, p4, p4', p5, p6⟩
  simp only at p1 p2 p3 p4 p4' p5 p6 ⊢
  have hpc := pureL_ints cur
  have hcl : (cur.map AV.int).length = gs.length := by rw [List.length_map, p3]
  repeat (first
    | refine AWP.seq' ?_
    | refine AWP.skip ?_
    | (refine AWP.reg' fun K hK => ?_; simp only [stepS, stepD, stepM, eq_self, implies_true, forall_eq_or_imp, forall_eq, Nat.reduceEqDiff, ↓reduceIte, Nat.reduceAdd, Nat.reduceLeDiff, Nat.reduceSub, Nat.reduceMul, Nat.reduceLT, Int.reduceBEq, Int.reduceBNe, Int.reduceToNat, Int.reduceLT, Int.reduceLE, Int.reduceAdd, Int.reduceSub, Int.reduceMul, reduceCtorEq]; (repeat (refine And.intro (by omega) ?_)); refine hK _ _ _ ?_; clear hK K))
  refine AWP.cond (b := decide ((k2 : Int) < ((gs.length - (i + 1) : Nat) : Int))) rfl (fun hq => ?_) (fun hq => ?_)
  · have hq : k2 < gs.length - (i + 1) := by have := of_decide_eq_true hq; omega
    have j1 : i + 1 + k2 < gs.length := by omega
    have j2 : i + 1 + k2 - 1 < gs.length := by omega
    have a1 : (cur.map AV.int).getD (i + 1 + k2) .unk = .int gs[i + 1 + k2] := by
      rw [List.getD_eq_getElem?_getD, List.getElem?_map, p6 _ (by omega), List.getElem?_eq_getElem j1]; rfl
    have a2 : (cur.map AV.int).getD (i + 1 + (k2 - 1)) .unk = .int gs[i + 1 + k2 - 1] := by
      rw [show i + 1 + (k2 - 1) = i + 1 + k2 - 1 by omega, List.getD_eq_getElem?_getD, List.getElem?_map, p6 _ (by omega), List.getElem?_eq_getElem j2]; rfl
    have w3 : IntKind.i64.wrap ((k2 : Int) - 1) = ((k2 - 1 : Nat) : Int) := wrapN (by omega) (by omega)
    have w4 : IntKind.i64.wrap ((k2 : Int) + 1) = ((k2 + 1 : Nat) : Int) := wrapN (by omega) (by omega)
    have w5 : IntKind.i64.wrap ((k : Int) + 1) = ((k + 1 : Nat) : Int) := wrapN (by omega) (by omega)
    have hct : compact (gs.take (i + 1 + k2 + 1)) = comp1 (compact (gs.take (i + 1 + k2))) gs[i + 1 + k2] := compact_take j1
    have hla : (compact (gs.take (i + 1 + k2))).getLast? = some gs[i + 1 + k2 - 1] := by
      have := compact_last j2
      rwa [show i + 1 + k2 - 1 + 1 = i + 1 + k2 by omega] at this
    refine AWP.skip ?_
    refine AWP.seq' ?_
    refine AWP.block ?_
    refine AWP.seq' ?_
    refine AWP.dreg' fun K hK => ?_
    try simp only [stepS, stepD, stepM, eq_self, implies_true, forall_eq_or_imp, forall_eq, Nat.reduceEqDiff, ↓reduceIte, Nat.reduceAdd, Nat.reduceLeDiff, Nat.reduceSub, Nat.reduceMul, Nat.reduceLT, Int.reduceBEq, Int.reduceBNe, Int.reduceToNat, Int.reduceLT, Int.reduceLE, Int.reduceAdd, Int.reduceSub, Int.reduceMul, reduceCtorEq, a1, a2, w3]
    repeat (refine And.intro (by omega) ?_)
    refine ⟨by rfl, hK _ _ _ ?_⟩
    clear hK K
    refine AWP.cond (b := (gs[i + 1 + k2] != gs[i + 1 + k2 - 1])) rfl (fun g2 => ?_) (fun g2 => ?_)
    · have g2 : gs[i + 1 + k2] ≠ gs[i + 1 + k2 - 1] := by simpa using g2
      have hk : k < cur.length := by omega
      have hps := pureL_ints (cur.set k gs[i + 1 + k2])
      have hset : (cur.map AV.int).set k (.int gs[i + 1 + k2]) = (cur.set k gs[i + 1 + k2]).map AV.int := by rw [List.map_set]
      have a3 : ((cur.map AV.int).getD k .unk) = .int cur[k] := getD_ints hk
      refine AWP.seq' ?_
      refine AWP.reg' fun K hK => ?_
      try simp only [stepS, stepD, stepM, eq_self, implies_true, forall_eq_or_imp, forall_eq, Nat.reduceEqDiff, ↓reduceIte, Nat.reduceAdd, Nat.reduceLeDiff, Nat.reduceSub, Nat.reduceMul, Nat.reduceLT, Int.reduceBEq, Int.reduceBNe, Int.reduceToNat, Int.reduceLT, Int.reduceLE, Int.reduceAdd, Int.reduceSub, Int.reduceMul, reduceCtorEq, a1, a3, hset]
      repeat (refine And.intro (by omega) ?_)
      refine hK _ _ _ ?_
      clear hK K
      refine AWP.reg' fun K hK => ?_
      try simp only [stepS, stepD, stepM, eq_self, implies_true, forall_eq_or_imp, forall_eq, Nat.reduceEqDiff, ↓reduceIte, Nat.reduceAdd, Nat.reduceLeDiff, Nat.reduceSub, Nat.reduceMul, Nat.reduceLT, Int.reduceBEq, Int.reduceBNe, Int.reduceToNat, Int.reduceLT, Int.reduceLE, Int.reduceAdd, Int.reduceSub, Int.reduceMul, reduceCtorEq, w5]
      refine hK _ _ _ ?_
      clear hK K
      refine AWP.reg' fun K hK => ?_
      try simp only [stepS, stepD, stepM, eq_self, implies_true, forall_eq_or_imp, forall_eq, Nat.reduceEqDiff, ↓reduceIte, Nat.reduceAdd, Nat.reduceLeDiff, Nat.reduceSub, Nat.reduceMul, Nat.reduceLT, Int.reduceBEq, Int.reduceBNe, Int.reduceToNat, Int.reduceLT, Int.reduceLE, Int.reduceAdd, Int.reduceSub, Int.reduceMul, reduceCtorEq, w4]
      refine hK _ _ _ ?_
      clear hK K
      refine ⟨(k + 1, k2 + 1, cur.set k gs[i + 1 + k2]), ⟨by show 1 ≤ k2 + 1; omega, hq, by show (cur.set k _).length = _; rw [List.length_set, p3], by show k + 1 + 1 ≤ i + 1 + (k2 + 1); omega, by show i + 1 ≤ k + 1; omega, ?_, fun j hj => ?_⟩, by show gs.length - (k2 + 1) < gs.length - k2; omega, ?_⟩
      · show (cur.set k gs[i + 1 + k2]).take (k + 1) = compact (gs.take (i + 1 + (k2 + 1)))
        rw [show i + 1 + (k2 + 1) = i + 1 + k2 + 1 by omega, hct, comp1, hla, if_neg (by simpa using Ne.symm g2), ← p5, List.take_add_one, List.getElem?_set_self hk, List.take_set_of_le (Nat.le_refl _)]
        rfl
      · show (cur.set k gs[i + 1 + k2])[j]? = gs[j]?
        have hj : i + 1 + (k2 + 1) ≤ j + 1 := hj
        rw [List.getElem?_set_ne (by omega)]
        exact p6 j (by omega)
      refine Weak.nf [0] _ _ ?_ ?_ ⟨rfl, rfl⟩ (by decide) (by decide) (by decide)
      · repeat' (first | exact trivial | exact And.intro rfl trivial | refine And.intro ?_ ?_ | rfl | exact Nat.le_of_ble_eq_true rfl | exact congrArg some (vec_ren (m := 0) hps).1.symm | exact (vec_ren (π := id) hps).2)
      · repeat' (first | exact trivial | exact And.intro rfl trivial | refine And.intro ?_ ?_ | rfl | exact Nat.le_of_ble_eq_true rfl | exact congrArg some (vec_ren (m := 0) hps).1.symm | exact (vec_ren (π := id) hps).2)
    have g2 : gs[i + 1 + k2] = gs[i + 1 + k2 - 1] := by simpa using g2
    refine AWP.skip ?_
    refine AWP.reg' fun K hK => ?_
    try simp only [stepS, stepD, stepM, eq_self, implies_true, forall_eq_or_imp, forall_eq, Nat.reduceEqDiff, ↓reduceIte, Nat.reduceAdd, Nat.reduceLeDiff, Nat.reduceSub, Nat.reduceMul, Nat.reduceLT, Int.reduceBEq, Int.reduceBNe, Int.reduceToNat, Int.reduceLT, Int.reduceLE, Int.reduceAdd, Int.reduceSub, Int.reduceMul, reduceCtorEq, w4]
    refine hK _ _ _ ?_
    clear hK K
    refine ⟨(k, k2 + 1, cur), ⟨by show 1 ≤ k2 + 1; omega, hq, p3, by show k + 1 ≤ i + 1 + (k2 + 1); omega, p4', ?_, fun j hj => p6 j (by have hj : i + 1 + (k2 + 1) ≤ j + 1 := hj; omega)⟩, by show gs.length - (k2 + 1) < gs.length - k2; omega, ?_⟩
    · show cur.take k = compact (gs.take (i + 1 + (k2 + 1)))
      rw [show i + 1 + (k2 + 1) = i + 1 + k2 + 1 by omega, hct, comp1, hla, if_pos (by rw [g2]), p5]
    refine Weak.nf [0] _ _ ?_ ?_ ⟨rfl, rfl⟩ (by decide) (by decide) (by decide)
    · repeat' (first | exact trivial | exact And.intro rfl trivial | refine And.intro ?_ ?_ | rfl | exact Nat.le_of_ble_eq_true rfl | exact congrArg some (vec_ren (m := 0) hpc).1.symm | exact (vec_ren (π := id) hpc).2)
    · repeat' (first | exact trivial | exact And.intro rfl trivial | refine And.intro ?_ ?_ | rfl | exact Nat.le_of_ble_eq_true rfl | exact congrArg some (vec_ren (m := 0) hpc).1.symm | exact (vec_ren (π := id) hpc).2)
  have hq : k2 = gs.length - (i + 1) := by have := of_decide_eq_false hq; omega
  have hres : cur.take k = compact gs := by rw [p5, List.take_of_length_le (by omega)]
  have hsub2 : ((gs.length : Int) - (k : Int)).toNat = gs.length - k := by omega
  refine AWP.exit ?_
  refine AWP.seq' ?_
  have hlo : k + (gs.length - k) ≤ gs.length := by omega
  refine AWP.reg' fun K hK => ?_
  try simp only [stepS, stepD, stepM, eq_self, implies_true, forall_eq_or_imp, forall_eq, Nat.reduceEqDiff, ↓reduceIte, Nat.reduceAdd, Nat.reduceLeDiff, Nat.reduceSub, Nat.reduceMul, Nat.reduceLT, Int.reduceBEq, Int.reduceBNe, Int.reduceToNat, Int.reduceLT, Int.reduceLE, Int.reduceAdd, Int.reduceSub, Int.reduceMul, reduceCtorEq, clearA, p3, hsub2, hpos, hlo]
  repeat (refine And.intro (by omega) ?_)
  refine hK _ _ _ ?_
  clear hK K
  have hover : over (cur.map AV.int) k (List.replicate (gs.length - k) (AV.val (Value.int IntKind.i64 0))) = (cur.take k ++ List.replicate (gs.length - k) 0).map AV.int := by
    unfold over
    rw [List.drop_of_length_le (by simp; omega), List.append_nil, List.map_append, List.map_take, List.map_replicate]
  rw [hover]
  have hcut : (cur.take k ++ List.replicate (gs.length - k) 0).length = gs.length := by simp; omega
  have hctk : (cur.take k ++ List.replicate (gs.length - k) 0).take k = compact gs := by
    rw [List.take_append_of_le_length (by simp; omega), List.take_take, Nat.min_self, hres]
  generalize cur.take k ++ List.replicate (gs.length - k) 0 = cz at hcut hctk
  have hpz := pureL_ints cz
  refine AWP.seq' ?_
  have hk0 : ((k : Int) - 0).toNat = k := by omega
  refine AWP.reg' fun K hK => ?_
  try simp only [stepS, stepD, stepM, eq_self, implies_true, forall_eq_or_imp, forall_eq, Nat.reduceEqDiff, ↓reduceIte, Nat.reduceAdd, Nat.reduceLeDiff, Nat.reduceSub, Nat.reduceMul, Nat.reduceLT, Int.reduceBEq, Int.reduceBNe, Int.reduceToNat, Int.reduceLT, Int.reduceLE, Int.reduceAdd, Int.reduceSub, Int.reduceMul, reduceCtorEq, hcut, hpos]
  repeat (refine And.intro (by omega) ?_)
  refine hK _ _ _ ?_
  clear hK K
  refine AWP.weak (Weak.giveS 2 0 rfl rfl hpz (by rw [List.length_map]; omega)) ?_
  rw [← List.map_take, hctk]
  exact AWP.ret (fin_ret rfl rfl trivial)
end Go.Proofs.Ytaboolnmkfenlaa
