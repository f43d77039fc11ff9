/- Contract of member.Report. -/
import Derived.Test.YtaboolnmkfenlaaS6
namespace Go.Proofs.Ytaboolnmkfenlaa
open Go Go.Am
set_option linter.unusedVariables false
set_option linter.unusedSimpArgs false
theorem Report_fn : FnOk Try.prog 14 := fn_ok Try.func14 (by kernel_rfl)

/-! ### What it means that there is no error -/
theorem fltErr_ok {m : Int} {s : List Int} (h : fltErr m s = 0) : (m = 1 ∨ m = 2) ∧ rngI s ∧ ascI s := by
  unfold fltErr at h
  split at h
  · cases h
  split at h
  · cases h
  split at h
  · cases h
  rename_i h1 h2 h3
  exact ⟨Classical.byContradiction h1, Classical.byContradiction h2, Classical.byContradiction h3⟩
theorem asc_ge {s : List Int} (h : rngI s) (h2 : ascI s) : ∀ i, i < s.length → (i : Int) + 1 ≤ s.getD i 0
  | 0, hi => by
    have := h s[0] (List.getElem_mem hi)
    rw [getD_get hi]; omega
  | i + 1, hi => by
    have h1 := asc_ge h h2 i (by omega)
    have h2' := h2 i (by omega)
    omega
theorem flt_len {m : Int} {s : List Int} (h : fltErr m s = 0) : s.length ≤ 99 := by
  obtain ⟨_, h1, h2⟩ := fltErr_ok h
  rcases Nat.eq_zero_or_pos s.length with e | e
  · omega
  have h3 := asc_ge h1 h2 (s.length - 1) (by omega)
  have hi : s.length - 1 < s.length := by omega
  rw [getD_get hi] at h3
  have h4 := h1 _ (List.getElem_mem hi)
  omega
theorem orI_zero {l : List Int} (h : orI l = 0) : ∀ x ∈ l, x = 0 := by
  intro x hx
  refine Classical.byContradiction fun hne => ?_
  unfold orI at h
  cases e : l.find? (· != 0) with
  | none =>
    have := List.find?_eq_none.mp e x hx
    simp [hne] at this
  | some y =>
    have := List.find?_some e
    rw [e] at h
    simp at this h
    exact this h
structure MOk (now : Int) (l : List Mem) : Prop where
  rng : 0 ≤ now ∧ now ≤ 1000000
  len : l.length ≤ 64
  ok : ∀ x ∈ l, mOk now x
  flt : ∀ x ∈ l, fltErr x.mode x.srcs = 0
  no : ∀ x ∈ l, ¬ isNo x
  ord : ordM l
theorem memErr_ok {now : Int} {l : List Mem} (h : memErr now l = 0) : MOk now l := by
  unfold memErr at h
  split at h
  · cases h
  split at h
  · cases h
  split at h
  · cases h
  split at h
  · rename_i h1; exact absurd h h1
  split at h
  · cases h
  split at h
  · cases h
  rename_i h1 h2 h3 h4 h5 h6
  refine ⟨Classical.byContradiction h1, by omega, Classical.byContradiction h3, fun x hx => ?_, fun x hx hn => h5 ⟨x, hx, hn⟩, Classical.byContradiction h6⟩
  exact orI_zero (Classical.byContradiction h4) _ (List.mem_map.mpr ⟨x, hx, rfl⟩)
theorem MOk.err {now : Int} {l : List Mem} (h : MOk now l) : memErr now l = 0 := by
  unfold memErr
  have hf : fErrs l = 0 := by
    unfold fErrs orI
    have : (l.map fun x => fltErr x.mode x.srcs).find? (· != 0) = none := by
      rw [List.find?_eq_none]
      intro x hx
      obtain ⟨y, hy, rfl⟩ := List.mem_map.mp hx
      simp [h.flt y hy]
    rw [this]; rfl
  rw [if_neg (not_not_intro h.rng), if_neg (by have := h.len; omega), if_neg (not_not_intro h.ok), if_neg (not_not_intro hf), if_neg (fun ⟨x, hx, hn⟩ => h.no x hx hn), if_neg (not_not_intro h.ord)]
theorem MOk.srcs {now : Int} {l : List Mem} (h : MOk now l) : ∀ x ∈ l, x.srcs.length ≤ 1000000 := fun x hx => Nat.le_trans (flt_len (h.flt x hx)) (by omega)

/-! ### The order of members -/
theorem ltM_trans {x y : Mem} {g h : Int} (h1 : ltM x y.group y.host) (h2 : ltM y g h) : ltM x g h := by
  unfold ltM at *; omega
theorem ord_lt {l : List Mem} (h : ordM l) : ∀ i j, i < j → j < l.length → ltM (l.getD i mem0) (l.getD j mem0).group (l.getD j mem0).host
  | i, 0, h1, _ => by omega
  | i, j + 1, h1, h2 => by
    have s := h j (by omega)
    by_cases e : i = j
    · subst e; exact s
    · exact ltM_trans (ord_lt h i j (by omega) (by omega)) s
/-- The order, as a property of pairs. -/
theorem ord_pw {l : List Mem} : ordM l ↔ l.Pairwise (fun x y => ltM x y.group y.host) := by
  rw [List.pairwise_iff_getElem]
  constructor
  · intro h i j hi hj hij
    have := ord_lt h i j hij hj
    rwa [getD_mem hi, getD_mem hj] at this
  · intro h i hi
    have h1 : i < l.length := by omega
    have h2 : i + 1 < l.length := by omega
    rw [getD_mem h1, getD_mem h2]
    exact h i (i + 1) h1 h2 (by omega)
theorem ord_filter {l : List Mem} (p : Mem → Bool) (h : ordM l) : ordM (l.filter p) := ord_pw.mpr ((ord_pw.mp h).filter p)
def posM (l : List Mem) (g h : Int) : Nat := l.findIdx (fun x => !decide (ltM x g h))
theorem posM_le (l : List Mem) (g h : Int) : posM l g h ≤ l.length := List.findIdx_le_length
theorem posM_lo {l : List Mem} {g h : Int} : ∀ j, (hj : j < l.length) → j < posM l g h → ltM l[j] g h := fun j hj hlt => by
  have := List.not_of_lt_findIdx hlt
  simpa using this
theorem posM_hi {l : List Mem} {g h : Int} (ho : ordM l) : ∀ j, (hj : j < l.length) → posM l g h ≤ j → ¬ ltM l[j] g h := fun j hj hle hlt => by
  have hp : posM l g h < l.length := by omega
  have h1 : ¬ ltM l[posM l g h] g h := by
    have := List.findIdx_getElem (p := fun x => !decide (ltM x g h)) (xs := l) (w := hp)
    rw [Bool.not_eq_true'] at this
    exact of_decide_eq_false this
  by_cases e : posM l g h = j
  · subst e; exact h1 hlt
  · have := ord_lt ho _ j (show posM l g h < j by omega) hj
    rw [getD_mem hp, getD_mem hj] at this
    exact h1 (ltM_trans this hlt)
def insM (l : List Mem) (x : Mem) : List Mem := insAt l (posM l x.group x.host) x

abbrev MR := (Int × List Mem) × Int
def MR.v (r : MR) : AV := .tup [memsV r.1.1 r.1.2, .int r.2]
theorem MR.v_pure (r : MR) : r.v.pure := ⟨⟨trivial, trivial, trivial⟩, trivial, trivial⟩
def report (now : Int) (l : List Mem) (h g m : Int) (s : List Int) (life : Int) : MR :=
  if memErr now l ≠ 0 then ((0, []), memErr now l)
  else if ¬ ((1 ≤ h ∧ h ≤ 99) ∧ (1 ≤ g ∧ g ≤ 99) ∧ (1 ≤ life ∧ life ≤ 1000)) then ((0, []), 2)
  else if fltErr m s ≠ 0 then ((0, []), fltErr m s)
  else if m = 1 ∧ s = [] then ((now, l.filter (other h g)), 0)
  else if (l.filter (other h g)).length = 64 then ((0, []), 3)
  else ((now, insM (l.filter (other h g)) ⟨h, g, m, s, now + life⟩), 0)

theorem Report_spec (now : Int) (l : List Mem) (h g m : Int) (s : List Int) (life : Int) :
    PSpec Try.prog 14 [memsV now l, .int h, .int g, fltV m s, .int life] (report now l h g m s life).v := by
  refine PSpec.walk Try.func14 cf14_ok (by simp [cf14]) (MR.v_pure _) ?_
  unfold cf14
  simp only [initT, memsV, mems, fltV, ints]
  refine AWP.seq' ?_
  refine AWP.reg' fun K hK => ?_
  try simp only [stepS, stepD, stepM, eq_self, implies_true, forall_eq_or_imp, forall_eq, Nat.reduceEqDiff, ↓reduceIte, Nat.reduceAdd, Nat.reduceLeDiff, Nat.reduceSub, Nat.reduceMul, Nat.reduceLT, Int.reduceBEq, Int.reduceBNe, Int.reduceToNat, Int.reduceLT, Int.reduceLE, Int.reduceAdd, Int.reduceSub, Int.reduceMul, reduceCtorEq]
  refine hK _ _ _ ?_
  clear hK K
  refine AWP.seq' (AWP.seq' ?_)
  refine AWP.reg' fun K hK => ?_
  try simp only [stepS, stepD, stepM, eq_self, implies_true, forall_eq_or_imp, forall_eq, Nat.reduceEqDiff, ↓reduceIte, Nat.reduceAdd, Nat.reduceLeDiff, Nat.reduceSub, Nat.reduceMul, Nat.reduceLT, Int.reduceBEq, Int.reduceBNe, Int.reduceToNat, Int.reduceLT, Int.reduceLE, Int.reduceAdd, Int.reduceSub, Int.reduceMul, reduceCtorEq]
  refine evT_pure (MVal_spec now l) MVal_fn rfl (by rfl) (by repeat' (first | exact trivial | assumption | refine And.intro ?_ ?_)) ?_
  try simp only [stepS, stepD, stepM, eq_self, implies_true, forall_eq_or_imp, forall_eq, Nat.reduceEqDiff, ↓reduceIte, Nat.reduceAdd, Nat.reduceLeDiff, Nat.reduceSub, Nat.reduceMul, Nat.reduceLT, Int.reduceBEq, Int.reduceBNe, Int.reduceToNat, Int.reduceLT, Int.reduceLE, Int.reduceAdd, Int.reduceSub, Int.reduceMul, reduceCtorEq]
  refine hK _ _ _ ?_
  clear hK K
  repeat (first
    | refine AWP.seq' ?_
    | refine AWP.skip ?_
    | (refine AWP.reg' fun K hK => ?_; simp only [stepS, stepD, stepM, eq_self, implies_true, forall_eq_or_imp, forall_eq, Nat.reduceEqDiff, ↓reduceIte, Nat.reduceAdd, Nat.reduceLeDiff, Nat.reduceSub, Nat.reduceMul, Nat.reduceLT, Int.reduceBEq, Int.reduceBNe, Int.reduceToNat, Int.reduceLT, Int.reduceLE, Int.reduceAdd, Int.reduceSub, Int.reduceMul, reduceCtorEq]; (repeat (refine And.intro (by omega) ?_)); refine hK _ _ _ ?_; clear hK K))
  refine AWP.cond (b := (memErr now l != 0)) rfl (fun c => ?_) (fun c => ?_)
  · have c : memErr now l ≠ 0 := by simpa using c
    have e : report now l h g m s life = ((0, []), memErr now l) := by rw [report, if_pos c]
    repeat (first
      | refine AWP.seq' ?_
      | refine AWP.skip ?_
      | (refine AWP.reg' fun K hK => ?_; simp only [stepS, stepD, stepM, eq_self, implies_true, forall_eq_or_imp, forall_eq, Nat.reduceEqDiff, ↓reduceIte, Nat.reduceAdd, Nat.reduceLeDiff, Nat.reduceSub, Nat.reduceMul, Nat.reduceLT, Int.reduceBEq, Int.reduceBNe, Int.reduceToNat, Int.reduceLT, Int.reduceLE, Int.reduceAdd, Int.reduceSub, Int.reduceMul, reduceCtorEq]; (repeat (refine And.intro (by omega) ?_)); refine hK _ _ _ ?_; clear hK K))
    refine AWP.weak (Weak.subB 64 (x := .agg [.int 0, .sl 0 [] true]) (y := memsV 0 []) rfl (Sub.agg ⟨Sub.refl, Sub.nil, trivial⟩) rfl) ?_
    exact AWP.ret (finP_ret rfl (by rw [e]; rfl) (MR.v_pure _))
  have hm : memErr now l = 0 := by simpa using c
  have ok := memErr_ok hm
  refine AWP.skip ?_
  refine AWP.seq' (AWP.seq' ?_)
  have hbad : ¬ ((1 ≤ h ∧ h ≤ 99) ∧ (1 ≤ g ∧ g ≤ 99) ∧ (1 ≤ life ∧ life ≤ 1000)) → report now l h g m s life = ((0, []), 2) := fun c => by
    rw [report, if_neg (not_not_intro hm), if_pos c]
  by_cases g1 : 1 ≤ h ∧ h ≤ 99
  case neg =>
    have e := hbad (fun e => g1 e.1)
    refine AWP.reg' fun K hK => ?_
    try simp only [stepS, stepD, stepM, eq_self, implies_true, forall_eq_or_imp, forall_eq, Nat.reduceEqDiff, ↓reduceIte, Nat.reduceAdd, Nat.reduceLeDiff, Nat.reduceSub, Nat.reduceMul, Nat.reduceLT, Int.reduceBEq, Int.reduceBNe, Int.reduceToNat, Int.reduceLT, Int.reduceLE, Int.reduceAdd, Int.reduceSub, Int.reduceMul, reduceCtorEq]
    refine evT_pure (within_spec h 1 99) within_fn rfl (by rfl) (by repeat' (first | exact trivial | assumption | refine And.intro ?_ ?_)) ?_
    try simp only [stepS, stepD, stepM, eq_self, implies_true, forall_eq_or_imp, forall_eq, Nat.reduceEqDiff, ↓reduceIte, Nat.reduceAdd, Nat.reduceLeDiff, Nat.reduceSub, Nat.reduceMul, Nat.reduceLT, Int.reduceBEq, Int.reduceBNe, Int.reduceToNat, Int.reduceLT, Int.reduceLE, Int.reduceAdd, Int.reduceSub, Int.reduceMul, reduceCtorEq, g1]
    refine hK _ _ _ ?_
    clear hK K
    refine AWP.cond (b := true) rfl (fun c => ?_) (fun c => by cases c)
    repeat (first
      | refine AWP.seq' ?_
      | refine AWP.skip ?_
      | (refine AWP.reg' fun K hK => ?_; simp only [stepS, stepD, stepM, eq_self, implies_true, forall_eq_or_imp, forall_eq, Nat.reduceEqDiff, ↓reduceIte, Nat.reduceAdd, Nat.reduceLeDiff, Nat.reduceSub, Nat.reduceMul, Nat.reduceLT, Int.reduceBEq, Int.reduceBNe, Int.reduceToNat, Int.reduceLT, Int.reduceLE, Int.reduceAdd, Int.reduceSub, Int.reduceMul, reduceCtorEq]; (repeat (refine And.intro (by omega) ?_)); refine hK _ _ _ ?_; clear hK K))
    refine AWP.weak (Weak.subB 64 (x := .agg [.int 0, .sl 0 [] true]) (y := memsV 0 []) rfl (Sub.agg ⟨Sub.refl, Sub.nil, trivial⟩) rfl) ?_
    exact AWP.ret (finP_ret rfl (by rw [e]; rfl) (MR.v_pure _))
  by_cases g2 : 1 ≤ g ∧ g ≤ 99
  case neg =>
    have e := hbad (fun e => g2 e.2.1)
    refine AWP.reg' fun K hK => ?_
    try simp only [stepS, stepD, stepM, eq_self, implies_true, forall_eq_or_imp, forall_eq, Nat.reduceEqDiff, ↓reduceIte, Nat.reduceAdd, Nat.reduceLeDiff, Nat.reduceSub, Nat.reduceMul, Nat.reduceLT, Int.reduceBEq, Int.reduceBNe, Int.reduceToNat, Int.reduceLT, Int.reduceLE, Int.reduceAdd, Int.reduceSub, Int.reduceMul, reduceCtorEq]
    refine evT_pure (within_spec h 1 99) within_fn rfl (by rfl) (by repeat' (first | exact trivial | assumption | refine And.intro ?_ ?_)) ?_
    try simp only [stepS, stepD, stepM, eq_self, implies_true, forall_eq_or_imp, forall_eq, Nat.reduceEqDiff, ↓reduceIte, Nat.reduceAdd, Nat.reduceLeDiff, Nat.reduceSub, Nat.reduceMul, Nat.reduceLT, Int.reduceBEq, Int.reduceBNe, Int.reduceToNat, Int.reduceLT, Int.reduceLE, Int.reduceAdd, Int.reduceSub, Int.reduceMul, reduceCtorEq, g1]
    refine evT_pure (within_spec g 1 99) within_fn rfl (by rfl) (by repeat' (first | exact trivial | assumption | refine And.intro ?_ ?_)) ?_
    try simp only [stepS, stepD, stepM, eq_self, implies_true, forall_eq_or_imp, forall_eq, Nat.reduceEqDiff, ↓reduceIte, Nat.reduceAdd, Nat.reduceLeDiff, Nat.reduceSub, Nat.reduceMul, Nat.reduceLT, Int.reduceBEq, Int.reduceBNe, Int.reduceToNat, Int.reduceLT, Int.reduceLE, Int.reduceAdd, Int.reduceSub, Int.reduceMul, reduceCtorEq, g2]
    refine hK _ _ _ ?_
    clear hK K
    refine AWP.cond (b := true) rfl (fun c => ?_) (fun c => by cases c)
    repeat (first
      | refine AWP.seq' ?_
      | refine AWP.skip ?_
      | (refine AWP.reg' fun K hK => ?_; simp only [stepS, stepD, stepM, eq_self, implies_true, forall_eq_or_imp, forall_eq, Nat.reduceEqDiff, ↓reduceIte, Nat.reduceAdd, Nat.reduceLeDiff, Nat.reduceSub, Nat.reduceMul, Nat.reduceLT, Int.reduceBEq, Int.reduceBNe, Int.reduceToNat, Int.reduceLT, Int.reduceLE, Int.reduceAdd, Int.reduceSub, Int.reduceMul, reduceCtorEq]; (repeat (refine And.intro (by omega) ?_)); refine hK _ _ _ ?_; clear hK K))
    refine AWP.weak (Weak.subB 64 (x := .agg [.int 0, .sl 0 [] true]) (y := memsV 0 []) rfl (Sub.agg ⟨Sub.refl, Sub.nil, trivial⟩) rfl) ?_
    exact AWP.ret (finP_ret rfl (by rw [e]; rfl) (MR.v_pure _))
  by_cases g3 : 1 ≤ life ∧ life ≤ 1000
  case neg =>
    have e := hbad (fun e => g3 e.2.2)
    refine AWP.reg' fun K hK => ?_
    try simp only [stepS, stepD, stepM, eq_self, implies_true, forall_eq_or_imp, forall_eq, Nat.reduceEqDiff, ↓reduceIte, Nat.reduceAdd, Nat.reduceLeDiff, Nat.reduceSub, Nat.reduceMul, Nat.reduceLT, Int.reduceBEq, Int.reduceBNe, Int.reduceToNat, Int.reduceLT, Int.reduceLE, Int.reduceAdd, Int.reduceSub, Int.reduceMul, reduceCtorEq]
    refine evT_pure (within_spec h 1 99) within_fn rfl (by rfl) (by repeat' (first | exact trivial | assumption | refine And.intro ?_ ?_)) ?_
    try simp only [stepS, stepD, stepM, eq_self, implies_true, forall_eq_or_imp, forall_eq, Nat.reduceEqDiff, ↓reduceIte, Nat.reduceAdd, Nat.reduceLeDiff, Nat.reduceSub, Nat.reduceMul, Nat.reduceLT, Int.reduceBEq, Int.reduceBNe, Int.reduceToNat, Int.reduceLT, Int.reduceLE, Int.reduceAdd, Int.reduceSub, Int.reduceMul, reduceCtorEq, g1]
    refine evT_pure (within_spec g 1 99) within_fn rfl (by rfl) (by repeat' (first | exact trivial | assumption | refine And.intro ?_ ?_)) ?_
    try simp only [stepS, stepD, stepM, eq_self, implies_true, forall_eq_or_imp, forall_eq, Nat.reduceEqDiff, ↓reduceIte, Nat.reduceAdd, Nat.reduceLeDiff, Nat.reduceSub, Nat.reduceMul, Nat.reduceLT, Int.reduceBEq, Int.reduceBNe, Int.reduceToNat, Int.reduceLT, Int.reduceLE, Int.reduceAdd, Int.reduceSub, Int.reduceMul, reduceCtorEq, g2]
    refine evT_pure (within_spec life 1 1000) within_fn rfl (by rfl) (by repeat' (first | exact trivial | assumption | refine And.intro ?_ ?_)) ?_
    try simp only [stepS, stepD, stepM, eq_self, implies_true, forall_eq_or_imp, forall_eq, Nat.reduceEqDiff, ↓reduceIte, Nat.reduceAdd, Nat.reduceLeDiff, Nat.reduceSub, Nat.reduceMul, Nat.reduceLT, Int.reduceBEq, Int.reduceBNe, Int.reduceToNat, Int.reduceLT, Int.reduceLE, Int.reduceAdd, Int.reduceSub, Int.reduceMul, reduceCtorEq, g3]
    refine hK _ _ _ ?_
    clear hK K
    refine AWP.cond (b := true) rfl (fun c => ?_) (fun c => by cases c)
    repeat (first
      | refine AWP.seq' ?_
      | refine AWP.skip ?_
      | (refine AWP.reg' fun K hK => ?_; simp only [stepS, stepD, stepM, eq_self, implies_true, forall_eq_or_imp, forall_eq, Nat.reduceEqDiff, ↓reduceIte, Nat.reduceAdd, Nat.reduceLeDiff, Nat.reduceSub, Nat.reduceMul, Nat.reduceLT, Int.reduceBEq, Int.reduceBNe, Int.reduceToNat, Int.reduceLT, Int.reduceLE, Int.reduceAdd, Int.reduceSub, Int.reduceMul, reduceCtorEq]; (repeat (refine And.intro (by omega) ?_)); refine hK _ _ _ ?_; clear hK K))
    refine AWP.weak (Weak.subB 64 (x := .agg [.int 0, .sl 0 [] true]) (y := memsV 0 []) rfl (Sub.agg ⟨Sub.refl, Sub.nil, trivial⟩) rfl) ?_
    exact AWP.ret (finP_ret rfl (by rw [e]; rfl) (MR.v_pure _))
  have hg : ¬ ¬ ((1 ≤ h ∧ h ≤ 99) ∧ (1 ≤ g ∧ g ≤ 99) ∧ (1 ≤ life ∧ life ≤ 1000)) := not_not_intro ⟨g1, g2, g3⟩
  clear hbad
  refine AWP.reg' fun K hK => ?_
  try simp only [stepS, stepD, stepM, eq_self, implies_true, forall_eq_or_imp, forall_eq, Nat.reduceEqDiff, ↓reduceIte, Nat.reduceAdd, Nat.reduceLeDiff, Nat.reduceSub, Nat.reduceMul, Nat.reduceLT, Int.reduceBEq, Int.reduceBNe, Int.reduceToNat, Int.reduceLT, Int.reduceLE, Int.reduceAdd, Int.reduceSub, Int.reduceMul, reduceCtorEq]
  refine evT_pure (within_spec h 1 99) within_fn rfl (by rfl) (by repeat' (first | exact trivial | assumption | refine And.intro ?_ ?_)) ?_
  try simp only [stepS, stepD, stepM, eq_self, implies_true, forall_eq_or_imp, forall_eq, Nat.reduceEqDiff, ↓reduceIte, Nat.reduceAdd, Nat.reduceLeDiff, Nat.reduceSub, Nat.reduceMul, Nat.reduceLT, Int.reduceBEq, Int.reduceBNe, Int.reduceToNat, Int.reduceLT, Int.reduceLE, Int.reduceAdd, Int.reduceSub, Int.reduceMul, reduceCtorEq, g1]
  refine evT_pure (within_spec g 1 99) within_fn rfl (by rfl) (by repeat' (first | exact trivial | assumption | refine And.intro ?_ ?_)) ?_
  try simp only [stepS, stepD, stepM, eq_self, implies_true, forall_eq_or_imp, forall_eq, Nat.reduceEqDiff, ↓reduceIte, Nat.reduceAdd, Nat.reduceLeDiff, Nat.reduceSub, Nat.reduceMul, Nat.reduceLT, Int.reduceBEq, Int.reduceBNe, Int.reduceToNat, Int.reduceLT, Int.reduceLE, Int.reduceAdd, Int.reduceSub, Int.reduceMul, reduceCtorEq, g2]
  refine evT_pure (within_spec life 1 1000) within_fn rfl (by rfl) (by repeat' (first | exact trivial | assumption | refine And.intro ?_ ?_)) ?_
  try simp only [stepS, stepD, stepM, eq_self, implies_true, forall_eq_or_imp, forall_eq, Nat.reduceEqDiff, ↓reduceIte, Nat.reduceAdd, Nat.reduceLeDiff, Nat.reduceSub, Nat.reduceMul, Nat.reduceLT, Int.reduceBEq, Int.reduceBNe, Int.reduceToNat, Int.reduceLT, Int.reduceLE, Int.reduceAdd, Int.reduceSub, Int.reduceMul, reduceCtorEq, g3]
  refine hK _ _ _ ?_
  clear hK K
  refine AWP.cond (b := false) rfl (fun c => by cases c) (fun c => ?_)
  refine AWP.skip ?_
  refine AWP.seq' (AWP.seq' ?_)
  refine AWP.reg' fun K hK => ?_
  try simp only [stepS, stepD, stepM, eq_self, implies_true, forall_eq_or_imp, forall_eq, Nat.reduceEqDiff, ↓reduceIte, Nat.reduceAdd, Nat.reduceLeDiff, Nat.reduceSub, Nat.reduceMul, Nat.reduceLT, Int.reduceBEq, Int.reduceBNe, Int.reduceToNat, Int.reduceLT, Int.reduceLE, Int.reduceAdd, Int.reduceSub, Int.reduceMul, reduceCtorEq]
  refine evT_pure (FVal_spec m s) FVal_fn rfl (by rfl) (by repeat' (first | exact trivial | assumption | refine And.intro ?_ ?_)) ?_
  try simp only [stepS, stepD, stepM, eq_self, implies_true, forall_eq_or_imp, forall_eq, Nat.reduceEqDiff, ↓reduceIte, Nat.reduceAdd, Nat.reduceLeDiff, Nat.reduceSub, Nat.reduceMul, Nat.reduceLT, Int.reduceBEq, Int.reduceBNe, Int.reduceToNat, Int.reduceLT, Int.reduceLE, Int.reduceAdd, Int.reduceSub, Int.reduceMul, reduceCtorEq]
  refine hK _ _ _ ?_
  clear hK K
  repeat (first
    | refine AWP.seq' ?_
    | refine AWP.skip ?_
    | (refine AWP.reg' fun K hK => ?_; simp only [stepS, stepD, stepM, eq_self, implies_true, forall_eq_or_imp, forall_eq, Nat.reduceEqDiff, ↓reduceIte, Nat.reduceAdd, Nat.reduceLeDiff, Nat.reduceSub, Nat.reduceMul, Nat.reduceLT, Int.reduceBEq, Int.reduceBNe, Int.reduceToNat, Int.reduceLT, Int.reduceLE, Int.reduceAdd, Int.reduceSub, Int.reduceMul, reduceCtorEq]; (repeat (refine And.intro (by omega) ?_)); refine hK _ _ _ ?_; clear hK K))
  refine AWP.cond (b := (fltErr m s != 0)) rfl (fun c => ?_) (fun c => ?_)
  · have c : fltErr m s ≠ 0 := by simpa using c
    have e : report now l h g m s life = ((0, []), fltErr m s) := by rw [report, if_neg (not_not_intro hm), if_neg hg, if_pos c]
    repeat (first
      | refine AWP.seq' ?_
      | refine AWP.skip ?_
      | (refine AWP.reg' fun K hK => ?_; simp only [stepS, stepD, stepM, eq_self, implies_true, forall_eq_or_imp, forall_eq, Nat.reduceEqDiff, ↓reduceIte, Nat.reduceAdd, Nat.reduceLeDiff, Nat.reduceSub, Nat.reduceMul, Nat.reduceLT, Int.reduceBEq, Int.reduceBNe, Int.reduceToNat, Int.reduceLT, Int.reduceLE, Int.reduceAdd, Int.reduceSub, Int.reduceMul, reduceCtorEq]; (repeat (refine And.intro (by omega) ?_)); refine hK _ _ _ ?_; clear hK K))
    refine AWP.weak (Weak.subB 64 (x := .agg [.int 0, .sl 0 [] true]) (y := memsV 0 []) rfl (Sub.agg ⟨Sub.refl, Sub.nil, trivial⟩) rfl) ?_
    exact AWP.ret (finP_ret rfl (by rw [e]; rfl) (MR.v_pure _))
  have hf : fltErr m s = 0 := by simpa using c
  have e0 : report now l h g m s life = if m = 1 ∧ s = [] then ((now, l.filter (other h g)), 0) else if (l.filter (other h g)).length = 64 then ((0, []), 3)
      else ((now, insM (l.filter (other h g)) ⟨h, g, m, s, now + life⟩), 0) := by
    rw [report, if_neg (not_not_intro hm), if_neg hg, if_neg (not_not_intro hf)]
  refine AWP.skip ?_
  refine AWP.weak (Weak.giveR 6 16 0 rfl rfl trivial) ?_
  refine AWP.weak (Weak.giveR 7 32 0 rfl rfl trivial) ?_
  have hpl := pureL_mems (l.filter (other h g))
  refine AWP.seq' ?_
  refine AWP.dreg' fun K hK => ?_
  try simp only [stepS, stepD, stepM, eq_self, implies_true, forall_eq_or_imp, forall_eq, Nat.reduceEqDiff, ↓reduceIte, Nat.reduceAdd, Nat.reduceLeDiff, Nat.reduceSub, Nat.reduceMul, Nat.reduceLT, Int.reduceBEq, Int.reduceBNe, Int.reduceToNat, Int.reduceLT, Int.reduceLE, Int.reduceAdd, Int.reduceSub, Int.reduceMul, reduceCtorEq]
  refine evD_newV (selected_spec l (other h g) 45 [.rptr (.int h) 0, .rptr (.int g) 0] (fun x => RepC_spec x h g) RepC_fn ⟨trivial, trivial, trivial⟩ (Nat.le_trans ok.len (by omega)) ok.srcs) selected_fn ⟨trivial, ⟨trivial, trivial, trivial⟩, trivial⟩ hpl rfl rfl ?_
  try simp only [stepS, stepD, stepM, eq_self, implies_true, forall_eq_or_imp, forall_eq, Nat.reduceEqDiff, ↓reduceIte, Nat.reduceAdd, Nat.reduceLeDiff, Nat.reduceSub, Nat.reduceMul, Nat.reduceLT, Int.reduceBEq, Int.reduceBNe, Int.reduceToNat, Int.reduceLT, Int.reduceLE, Int.reduceAdd, Int.reduceSub, Int.reduceMul, reduceCtorEq]
  refine ⟨by rfl, hK _ _ _ ?_⟩
  clear hK K
  refine AWP.seq' (AWP.seq' ?_)
  refine AWP.reg' fun K hK => ?_
  try simp only [stepS, stepD, stepM, eq_self, implies_true, forall_eq_or_imp, forall_eq, Nat.reduceEqDiff, ↓reduceIte, Nat.reduceAdd, Nat.reduceLeDiff, Nat.reduceSub, Nat.reduceMul, Nat.reduceLT, Int.reduceBEq, Int.reduceBNe, Int.reduceToNat, Int.reduceLT, Int.reduceLE, Int.reduceAdd, Int.reduceSub, Int.reduceMul, reduceCtorEq]
  refine evT_pure (nothing_spec m s) nothing_fn rfl (by rfl) (by repeat' (first | exact trivial | assumption | refine And.intro ?_ ?_)) ?_
  try simp only [stepS, stepD, stepM, eq_self, implies_true, forall_eq_or_imp, forall_eq, Nat.reduceEqDiff, ↓reduceIte, Nat.reduceAdd, Nat.reduceLeDiff, Nat.reduceSub, Nat.reduceMul, Nat.reduceLT, Int.reduceBEq, Int.reduceBNe, Int.reduceToNat, Int.reduceLT, Int.reduceLE, Int.reduceAdd, Int.reduceSub, Int.reduceMul, reduceCtorEq]
  refine hK _ _ _ ?_
  clear hK K
  refine AWP.cond (b := decide (m = 1 ∧ s = [])) rfl (fun c => ?_) (fun c => ?_)
  · have c := of_decide_eq_true c
    have e : report now l h g m s life = ((now, l.filter (other h g)), 0) := by rw [e0, if_pos c]
    repeat (first
      | refine AWP.seq' ?_
      | refine AWP.skip ?_
      | (refine AWP.reg' fun K hK => ?_; simp only [stepS, stepD, stepM, eq_self, implies_true, forall_eq_or_imp, forall_eq, Nat.reduceEqDiff, ↓reduceIte, Nat.reduceAdd, Nat.reduceLeDiff, Nat.reduceSub, Nat.reduceMul, Nat.reduceLT, Int.reduceBEq, Int.reduceBNe, Int.reduceToNat, Int.reduceLT, Int.reduceLE, Int.reduceAdd, Int.reduceSub, Int.reduceMul, reduceCtorEq]; (repeat (refine And.intro (by omega) ?_)); refine hK _ _ _ ?_; clear hK K))
    refine AWP.weak (Weak.giveB 64 1 544 rfl rfl rfl hpl) ?_
    exact AWP.ret (finP_ret rfl (by rw [e]; rfl) (MR.v_pure _))
  have c := of_decide_eq_false c
  rw [if_neg c] at e0
  have hlf : (l.filter (other h g)).length ≤ 64 := Nat.le_trans (List.length_filter_le _ _) ok.len
  repeat (first
    | refine AWP.seq' ?_
    | refine AWP.skip ?_
    | (refine AWP.reg' fun K hK => ?_; simp only [stepS, stepD, stepM, eq_self, implies_true, forall_eq_or_imp, forall_eq, Nat.reduceEqDiff, ↓reduceIte, Nat.reduceAdd, Nat.reduceLeDiff, Nat.reduceSub, Nat.reduceMul, Nat.reduceLT, Int.reduceBEq, Int.reduceBNe, Int.reduceToNat, Int.reduceLT, Int.reduceLE, Int.reduceAdd, Int.reduceSub, Int.reduceMul, reduceCtorEq]; (repeat (refine And.intro (by omega) ?_)); refine hK _ _ _ ?_; clear hK K))
  refine AWP.cond (b := (((l.filter (other h g)).length : Int) == 64)) rfl (fun c => ?_) (fun c => ?_)
  · have c : (l.filter (other h g)).length = 64 := by have := eq_of_beq c; omega
    have e : report now l h g m s life = ((0, []), 3) := by rw [e0, if_pos c]
    repeat (first
      | refine AWP.seq' ?_
      | refine AWP.skip ?_
      | (refine AWP.reg' fun K hK => ?_; simp only [stepS, stepD, stepM, eq_self, implies_true, forall_eq_or_imp, forall_eq, Nat.reduceEqDiff, ↓reduceIte, Nat.reduceAdd, Nat.reduceLeDiff, Nat.reduceSub, Nat.reduceMul, Nat.reduceLT, Int.reduceBEq, Int.reduceBNe, Int.reduceToNat, Int.reduceLT, Int.reduceLE, Int.reduceAdd, Int.reduceSub, Int.reduceMul, reduceCtorEq]; (repeat (refine And.intro (by omega) ?_)); refine hK _ _ _ ?_; clear hK K))
    refine AWP.weak (Weak.subB 64 (x := .agg [.int 0, .sl 0 [] true]) (y := memsV 0 []) rfl (Sub.agg ⟨Sub.refl, Sub.nil, trivial⟩) rfl) ?_
    exact AWP.ret (finP_ret rfl (by rw [e]; rfl) (MR.v_pure _))
  have c : ¬ (l.filter (other h g)).length = 64 := fun e => by rw [e] at c; cases c
  rw [if_neg c] at e0
  refine AWP.skip ?_
  refine AWP.seq' ?_
  refine AWP.reg' fun K hK => ?_
  try simp only [stepS, stepD, stepM, eq_self, implies_true, forall_eq_or_imp, forall_eq, Nat.reduceEqDiff, ↓reduceIte, Nat.reduceAdd, Nat.reduceLeDiff, Nat.reduceSub, Nat.reduceMul, Nat.reduceLT, Int.reduceBEq, Int.reduceBNe, Int.reduceToNat, Int.reduceLT, Int.reduceLE, Int.reduceAdd, Int.reduceSub, Int.reduceMul, reduceCtorEq]
  have of := ord_filter (other h g) ok.ord
  refine evT_lend [544] (Search_spec (l.filter (other h g)) g h (posM (l.filter (other h g)) g h) (Nat.le_trans hlf (by omega)) (posM_le _ _ _) posM_lo (posM_hi of)) Search_fn rfl rfl
    ⟨View.vec (by simp) rfl hpl, View.pure (by exact ⟨trivial, trivial, trivial⟩), View.pure (by exact trivial), trivial⟩ ⟨trivial, trivial, trivial⟩ ?_
  try simp only [stepS, stepD, stepM, eq_self, implies_true, forall_eq_or_imp, forall_eq, Nat.reduceEqDiff, ↓reduceIte, Nat.reduceAdd, Nat.reduceLeDiff, Nat.reduceSub, Nat.reduceMul, Nat.reduceLT, Int.reduceBEq, Int.reduceBNe, Int.reduceToNat, Int.reduceLT, Int.reduceLE, Int.reduceAdd, Int.reduceSub, Int.reduceMul, reduceCtorEq]
  refine hK _ _ _ ?_
  clear hK K
  have hpi : pureL ((insM (l.filter (other h g)) ⟨h, g, m, s, now + life⟩).map Mem.v) := pureL_mems _
  have w : IntKind.i64.wrap (now + life) = now + life := wrap64 (by have := ok.rng; omega)
  have hins := Insert_spec ((l.filter (other h g)).map Mem.v) (Mem.v ⟨h, g, m, s, now + life⟩) (posM (l.filter (other h g)) g h) (by rw [List.length_map]; exact posM_le _ _ _) rfl (by rw [List.length_map]; exact Nat.le_trans hlf (by omega)) ⟨hpl, Mem.v_pure _⟩
  rw [show insAt ((l.filter (other h g)).map Mem.v) (posM (l.filter (other h g)) g h) (Mem.v ⟨h, g, m, s, now + life⟩) = (insM (l.filter (other h g)) ⟨h, g, m, s, now + life⟩).map Mem.v by
    simp [insM, insAt, List.map_take, List.map_drop]] at hins
  refine AWP.seq' ?_
  refine AWP.dreg' fun K hK => ?_
  try simp only [stepS, stepD, stepM, eq_self, implies_true, forall_eq_or_imp, forall_eq, Nat.reduceEqDiff, ↓reduceIte, Nat.reduceAdd, Nat.reduceLeDiff, Nat.reduceSub, Nat.reduceMul, Nat.reduceLT, Int.reduceBEq, Int.reduceBNe, Int.reduceToNat, Int.reduceLT, Int.reduceLE, Int.reduceAdd, Int.reduceSub, Int.reduceMul, reduceCtorEq, w]
  refine evD_pure (copied_spec ⟨h, g, m, s, now + life⟩ (Nat.le_trans (flt_len hf) (by omega))) copied_fn rfl (by rfl) (by repeat' (first | exact trivial | assumption | refine And.intro ?_ ?_)) ?_
  try simp only [stepS, stepD, stepM, eq_self, implies_true, forall_eq_or_imp, forall_eq, Nat.reduceEqDiff, ↓reduceIte, Nat.reduceAdd, Nat.reduceLeDiff, Nat.reduceSub, Nat.reduceMul, Nat.reduceLT, Int.reduceBEq, Int.reduceBNe, Int.reduceToNat, Int.reduceLT, Int.reduceLE, Int.reduceAdd, Int.reduceSub, Int.reduceMul, reduceCtorEq]
  refine evD_litv ?_
  try simp only [stepS, stepD, stepM, eq_self, implies_true, forall_eq_or_imp, forall_eq, Nat.reduceEqDiff, ↓reduceIte, Nat.reduceAdd, Nat.reduceLeDiff, Nat.reduceSub, Nat.reduceMul, Nat.reduceLT, Int.reduceBEq, Int.reduceBNe, Int.reduceToNat, Int.reduceLT, Int.reduceLE, Int.reduceAdd, Int.reduceSub, Int.reduceMul, reduceCtorEq, evL]
  refine ⟨⟨rfl, rfl⟩, ?_⟩
  refine evD_ins hins Insert_fn hpl (by exact ⟨Mem.v_pure _, trivial⟩) hpi rfl rfl (by rfl) (by rfl) (by decide) ?_
  try simp only [stepS, stepD, stepM, eq_self, implies_true, forall_eq_or_imp, forall_eq, Nat.reduceEqDiff, ↓reduceIte, Nat.reduceAdd, Nat.reduceLeDiff, Nat.reduceSub, Nat.reduceMul, Nat.reduceLT, Int.reduceBEq, Int.reduceBNe, Int.reduceToNat, Int.reduceLT, Int.reduceLE, Int.reduceAdd, Int.reduceSub, Int.reduceMul, reduceCtorEq]
  refine ⟨by rfl, hK _ _ _ ?_⟩
  clear hK K
  repeat (first
    | refine AWP.seq' ?_
    | refine AWP.skip ?_
    | (refine AWP.reg' fun K hK => ?_; simp only [stepS, stepD, stepM, eq_self, implies_true, forall_eq_or_imp, forall_eq, Nat.reduceEqDiff, ↓reduceIte, Nat.reduceAdd, Nat.reduceLeDiff, Nat.reduceSub, Nat.reduceMul, Nat.reduceLT, Int.reduceBEq, Int.reduceBNe, Int.reduceToNat, Int.reduceLT, Int.reduceLE, Int.reduceAdd, Int.reduceSub, Int.reduceMul, reduceCtorEq]; (repeat (refine And.intro (by omega) ?_)); refine hK _ _ _ ?_; clear hK K))
  refine AWP.weak (Weak.giveB 64 1 1088 rfl rfl rfl hpi) ?_
  exact AWP.ret (finP_ret rfl (by rw [e0]; rfl) (MR.v_pure _))
end Go.Proofs.Ytaboolnmkfenlaa
