/- Contracts of member.Tick, Find and Leave. -/
import Derived.Test.YtaboolnmkfenlaaS7
namespace Go.Proofs.Ytaboolnmkfenlaa
open Go Go.Am
set_option linter.unusedVariables false
set_option linter.unusedSimpArgs false
theorem Tick_fn : FnOk Try.prog 23 := fn_ok Try.func23 (by kernel_rfl)
theorem Find_fn : FnOk Try.prog 18 := fn_ok Try.func18 (by kernel_rfl)
theorem Leave_fn : FnOk Try.prog 26 := fn_ok Try.func26 (by kernel_rfl)
def tick (now : Int) (l : List Mem) (n : Int) : MR :=
  if memErr now l ≠ 0 then ((0, []), memErr now l) else if ¬ (now ≤ n ∧ n ≤ 1000000) then ((0, []), 2) else ((n, l.filter (living n)), 0)
theorem Tick_spec (now : Int) (l : List Mem) (n : Int) : PSpec Try.prog 23 [memsV now l, .int n] (tick now l n).v := by
  refine PSpec.walk Try.func23 cf23_ok (by simp [cf23]) (MR.v_pure _) ?_
  unfold cf23
  simp only [initT, memsV, mems]
  refine AWP.seq' ?_
  refine AWP.reg' fun K hK => ?_
  try simp only [stepS, stepD, stepM, eq_self, implies_true, forall_eq_or_imp, forall_eq, Nat.reduceEqDiff, ↓reduceIte, Nat.reduceAdd, Nat.reduceLeDiff, Nat.reduceSub, Nat.reduceMul, Nat.reduceLT, Int.reduceBEq, Int.reduceBNe, Int.reduceToNat, Int.reduceLT, Int.reduceLE, Int.reduceAdd, Int.reduceSub, Int.reduceMul, reduceCtorEq]
  refine hK _ _ _ ?_
  clear hK K
  refine AWP.seq' (AWP.seq' ?_)
  refine AWP.reg' fun K hK => ?_
  try simp only [stepS, stepD, stepM, eq_self, implies_true, forall_eq_or_imp, forall_eq, Nat.reduceEqDiff, ↓reduceIte, Nat.reduceAdd, Nat.reduceLeDiff, Nat.reduceSub, Nat.reduceMul, Nat.reduceLT, Int.reduceBEq, Int.reduceBNe, Int.reduceToNat, Int.reduceLT, Int.reduceLE, Int.reduceAdd, Int.reduceSub, Int.reduceMul, reduceCtorEq]
  refine evT_pure (MVal_spec now l) MVal_fn rfl (by rfl) (by repeat' (first | exact trivial | assumption | refine And.intro ?_ ?_)) ?_
  try simp only [stepS, stepD, stepM, eq_self, implies_true, forall_eq_or_imp, forall_eq, Nat.reduceEqDiff, ↓reduceIte, Nat.reduceAdd, Nat.reduceLeDiff, Nat.reduceSub, Nat.reduceMul, Nat.reduceLT, Int.reduceBEq, Int.reduceBNe, Int.reduceToNat, Int.reduceLT, Int.reduceLE, Int.reduceAdd, Int.reduceSub, Int.reduceMul, reduceCtorEq]
  refine hK _ _ _ ?_
  clear hK K
  repeat (first
    | refine AWP.seq' ?_
    | refine AWP.skip ?_
    | (refine AWP.reg' fun K hK => ?_; simp only [stepS, stepD, stepM, eq_self, implies_true, forall_eq_or_imp, forall_eq, Nat.reduceEqDiff, ↓reduceIte, Nat.reduceAdd, Nat.reduceLeDiff, Nat.reduceSub, Nat.reduceMul, Nat.reduceLT, Int.reduceBEq, Int.reduceBNe, Int.reduceToNat, Int.reduceLT, Int.reduceLE, Int.reduceAdd, Int.reduceSub, Int.reduceMul, reduceCtorEq]; (repeat (refine And.intro (by omega) ?_)); refine hK _ _ _ ?_; clear hK K))
  refine AWP.cond (b := (memErr now l != 0)) rfl (fun c => ?_) (fun c => ?_)
  · have c : memErr now l ≠ 0 := by simpa using c
    have e : tick now l n = ((0, []), memErr now l) := by rw [tick, if_pos c]
    repeat (first
      | refine AWP.seq' ?_
      | refine AWP.skip ?_
      | (refine AWP.reg' fun K hK => ?_; simp only [stepS, stepD, stepM, eq_self, implies_true, forall_eq_or_imp, forall_eq, Nat.reduceEqDiff, ↓reduceIte, Nat.reduceAdd, Nat.reduceLeDiff, Nat.reduceSub, Nat.reduceMul, Nat.reduceLT, Int.reduceBEq, Int.reduceBNe, Int.reduceToNat, Int.reduceLT, Int.reduceLE, Int.reduceAdd, Int.reduceSub, Int.reduceMul, reduceCtorEq]; (repeat (refine And.intro (by omega) ?_)); refine hK _ _ _ ?_; clear hK K))
    refine AWP.weak (Weak.subB 32 (x := .agg [.int 0, .sl 0 [] true]) (y := memsV 0 []) rfl (Sub.agg ⟨Sub.refl, Sub.nil, trivial⟩) rfl) ?_
    exact AWP.ret (finP_ret rfl (by rw [e]; rfl) (MR.v_pure _))
  have hm : memErr now l = 0 := by simpa using c
  have ok := memErr_ok hm
  refine AWP.skip ?_
  refine AWP.seq' (AWP.seq' ?_)
  by_cases g1 : now ≤ n ∧ n ≤ 1000000
  case neg =>
    have e : tick now l n = ((0, []), 2) := by rw [tick, if_neg (not_not_intro hm), if_pos g1]
    refine AWP.reg' fun K hK => ?_
    try simp only [stepS, stepD, stepM, eq_self, implies_true, forall_eq_or_imp, forall_eq, Nat.reduceEqDiff, ↓reduceIte, Nat.reduceAdd, Nat.reduceLeDiff, Nat.reduceSub, Nat.reduceMul, Nat.reduceLT, Int.reduceBEq, Int.reduceBNe, Int.reduceToNat, Int.reduceLT, Int.reduceLE, Int.reduceAdd, Int.reduceSub, Int.reduceMul, reduceCtorEq]
    refine evT_pure (within_spec n now 1000000) within_fn rfl (by rfl) (by repeat' (first | exact trivial | assumption | refine And.intro ?_ ?_)) ?_
    try simp only [stepS, stepD, stepM, eq_self, implies_true, forall_eq_or_imp, forall_eq, Nat.reduceEqDiff, ↓reduceIte, Nat.reduceAdd, Nat.reduceLeDiff, Nat.reduceSub, Nat.reduceMul, Nat.reduceLT, Int.reduceBEq, Int.reduceBNe, Int.reduceToNat, Int.reduceLT, Int.reduceLE, Int.reduceAdd, Int.reduceSub, Int.reduceMul, reduceCtorEq, g1]
    refine hK _ _ _ ?_
    clear hK K
    refine AWP.cond (b := true) rfl (fun c => ?_) (fun c => by cases c)
    repeat (first
      | refine AWP.seq' ?_
      | refine AWP.skip ?_
      | (refine AWP.reg' fun K hK => ?_; simp only [stepS, stepD, stepM, eq_self, implies_true, forall_eq_or_imp, forall_eq, Nat.reduceEqDiff, ↓reduceIte, Nat.reduceAdd, Nat.reduceLeDiff, Nat.reduceSub, Nat.reduceMul, Nat.reduceLT, Int.reduceBEq, Int.reduceBNe, Int.reduceToNat, Int.reduceLT, Int.reduceLE, Int.reduceAdd, Int.reduceSub, Int.reduceMul, reduceCtorEq]; (repeat (refine And.intro (by omega) ?_)); refine hK _ _ _ ?_; clear hK K))
    refine AWP.weak (Weak.subB 32 (x := .agg [.int 0, .sl 0 [] true]) (y := memsV 0 []) rfl (Sub.agg ⟨Sub.refl, Sub.nil, trivial⟩) rfl) ?_
    exact AWP.ret (finP_ret rfl (by rw [e]; rfl) (MR.v_pure _))
  have e : tick now l n = ((n, l.filter (living n)), 0) := by rw [tick, if_neg (not_not_intro hm), if_neg (not_not_intro g1)]
  refine AWP.reg' fun K hK => ?_
  try simp only [stepS, stepD, stepM, eq_self, implies_true, forall_eq_or_imp, forall_eq, Nat.reduceEqDiff, ↓reduceIte, Nat.reduceAdd, Nat.reduceLeDiff, Nat.reduceSub, Nat.reduceMul, Nat.reduceLT, Int.reduceBEq, Int.reduceBNe, Int.reduceToNat, Int.reduceLT, Int.reduceLE, Int.reduceAdd, Int.reduceSub, Int.reduceMul, reduceCtorEq]
  refine evT_pure (within_spec n now 1000000) within_fn rfl (by rfl) (by repeat' (first | exact trivial | assumption | refine And.intro ?_ ?_)) ?_
  try simp only [stepS, stepD, stepM, eq_self, implies_true, forall_eq_or_imp, forall_eq, Nat.reduceEqDiff, ↓reduceIte, Nat.reduceAdd, Nat.reduceLeDiff, Nat.reduceSub, Nat.reduceMul, Nat.reduceLT, Int.reduceBEq, Int.reduceBNe, Int.reduceToNat, Int.reduceLT, Int.reduceLE, Int.reduceAdd, Int.reduceSub, Int.reduceMul, reduceCtorEq, g1]
  refine hK _ _ _ ?_
  clear hK K
  refine AWP.cond (b := false) rfl (fun c => by cases c) (fun c => ?_)
  refine AWP.skip ?_
  refine AWP.weak (Weak.giveR 3 16 0 rfl rfl trivial) ?_
  have hpl := pureL_mems (l.filter (living n))
  refine AWP.seq' ?_
  refine AWP.dreg' fun K hK => ?_
  try simp only [stepS, stepD, stepM, eq_self, implies_true, forall_eq_or_imp, forall_eq, Nat.reduceEqDiff, ↓reduceIte, Nat.reduceAdd, Nat.reduceLeDiff, Nat.reduceSub, Nat.reduceMul, Nat.reduceLT, Int.reduceBEq, Int.reduceBNe, Int.reduceToNat, Int.reduceLT, Int.reduceLE, Int.reduceAdd, Int.reduceSub, Int.reduceMul, reduceCtorEq]
  refine evD_newV (selected_spec l (living n) 52 [.rptr (.int n) 0] (fun x => TickC_spec x n) TickC_fn ⟨trivial, trivial⟩ (Nat.le_trans ok.len (by omega)) ok.srcs) selected_fn ⟨trivial, ⟨trivial, trivial⟩, trivial⟩ hpl rfl rfl ?_
  try simp only [stepS, stepD, stepM, eq_self, implies_true, forall_eq_or_imp, forall_eq, Nat.reduceEqDiff, ↓reduceIte, Nat.reduceAdd, Nat.reduceLeDiff, Nat.reduceSub, Nat.reduceMul, Nat.reduceLT, Int.reduceBEq, Int.reduceBNe, Int.reduceToNat, Int.reduceLT, Int.reduceLE, Int.reduceAdd, Int.reduceSub, Int.reduceMul, reduceCtorEq]
  refine ⟨by rfl, hK _ _ _ ?_⟩
  clear hK K
  refine AWP.weak (Weak.giveB 32 1 288 rfl rfl rfl hpl) ?_
  exact AWP.ret (finP_ret rfl (by rw [e]; rfl) (MR.v_pure _))

/-! ### Find -/
def hit (l : List Mem) (h g : Int) : Prop := posM l g h < l.length ∧ (l.getD (posM l g h) mem0).group = g ∧ (l.getD (posM l g h) mem0).host = h
instance (l : List Mem) (h g : Int) : Decidable (hit l h g) := by unfold hit; infer_instance
def atM (l : List Mem) (h g : Int) : Mem := l.getD (posM l g h) mem0
abbrev FR := Mem × Bool
def FR.v (r : FR) : AV := .tup [r.1.v, .bool r.2]
theorem FR.v_pure (r : FR) : r.v.pure := ⟨Mem.v_pure _, trivial, trivial⟩
def find (now : Int) (l : List Mem) (h g : Int) : FR := if memErr now l ≠ 0 then (mem0, false) else if hit l h g then (atM l h g, true) else (mem0, false)
theorem mem0_sub : Sub (.agg [.int 0, .int 0, .int 0, .sl 0 [] true, .int 0]) mem0.v := Sub.agg ⟨Sub.refl, Sub.refl, Sub.refl, Sub.nil, Sub.refl, trivial⟩
theorem Find_spec (now : Int) (l : List Mem) (h g : Int) : PSpec Try.prog 18 [memsV now l, .int h, .int g] (find now l h g).v := by
  refine PSpec.walk Try.func18 cf18_ok (by simp [cf18]) (FR.v_pure _) ?_
  unfold cf18
  simp only [initT, memsV, mems]
  refine AWP.seq' ?_
  refine AWP.reg' fun K hK => ?_
  try simp only [stepS, stepD, stepM, eq_self, implies_true, forall_eq_or_imp, forall_eq, Nat.reduceEqDiff, ↓reduceIte, Nat.reduceAdd, Nat.reduceLeDiff, Nat.reduceSub, Nat.reduceMul, Nat.reduceLT, Int.reduceBEq, Int.reduceBNe, Int.reduceToNat, Int.reduceLT, Int.reduceLE, Int.reduceAdd, Int.reduceSub, Int.reduceMul, reduceCtorEq]
  refine hK _ _ _ ?_
  clear hK K
  refine AWP.seq' (AWP.seq' ?_)
  refine AWP.reg' fun K hK => ?_
  try simp only [stepS, stepD, stepM, eq_self, implies_true, forall_eq_or_imp, forall_eq, Nat.reduceEqDiff, ↓reduceIte, Nat.reduceAdd, Nat.reduceLeDiff, Nat.reduceSub, Nat.reduceMul, Nat.reduceLT, Int.reduceBEq, Int.reduceBNe, Int.reduceToNat, Int.reduceLT, Int.reduceLE, Int.reduceAdd, Int.reduceSub, Int.reduceMul, reduceCtorEq]
  refine evT_pure (MVal_spec now l) MVal_fn rfl (by rfl) (by repeat' (first | exact trivial | assumption | refine And.intro ?_ ?_)) ?_
  try simp only [stepS, stepD, stepM, eq_self, implies_true, forall_eq_or_imp, forall_eq, Nat.reduceEqDiff, ↓reduceIte, Nat.reduceAdd, Nat.reduceLeDiff, Nat.reduceSub, Nat.reduceMul, Nat.reduceLT, Int.reduceBEq, Int.reduceBNe, Int.reduceToNat, Int.reduceLT, Int.reduceLE, Int.reduceAdd, Int.reduceSub, Int.reduceMul, reduceCtorEq]
  refine hK _ _ _ ?_
  clear hK K
  refine AWP.cond (b := (memErr now l != 0)) rfl (fun c => ?_) (fun c => ?_)
  · have c : memErr now l ≠ 0 := by simpa using c
    have e : find now l h g = (mem0, false) := by rw [find, if_pos c]
    repeat (first
      | refine AWP.seq' ?_
      | refine AWP.skip ?_
      | (refine AWP.reg' fun K hK => ?_; simp only [stepS, stepD, stepM, eq_self, implies_true, forall_eq_or_imp, forall_eq, Nat.reduceEqDiff, ↓reduceIte, Nat.reduceAdd, Nat.reduceLeDiff, Nat.reduceSub, Nat.reduceMul, Nat.reduceLT, Int.reduceBEq, Int.reduceBNe, Int.reduceToNat, Int.reduceLT, Int.reduceLE, Int.reduceAdd, Int.reduceSub, Int.reduceMul, reduceCtorEq]; (repeat (refine And.intro (by omega) ?_)); refine hK _ _ _ ?_; clear hK K))
    refine AWP.weak (Weak.subB 16 rfl mem0_sub rfl) ?_
    exact AWP.ret (finP_ret rfl (by rw [e]; rfl) (FR.v_pure _))
  have hm : memErr now l = 0 := by simpa using c
  have ok := memErr_ok hm
  refine AWP.skip ?_
  refine AWP.seq' ?_
  refine AWP.reg' fun K hK => ?_
  try simp only [stepS, stepD, stepM, eq_self, implies_true, forall_eq_or_imp, forall_eq, Nat.reduceEqDiff, ↓reduceIte, Nat.reduceAdd, Nat.reduceLeDiff, Nat.reduceSub, Nat.reduceMul, Nat.reduceLT, Int.reduceBEq, Int.reduceBNe, Int.reduceToNat, Int.reduceLT, Int.reduceLE, Int.reduceAdd, Int.reduceSub, Int.reduceMul, reduceCtorEq]
  refine evT_pure (Search_spec l g h (posM l g h) (Nat.le_trans ok.len (by omega)) (posM_le _ _ _) posM_lo (posM_hi ok.ord)) Search_fn rfl (by rfl) (by repeat' (first | exact trivial | assumption | refine And.intro ?_ ?_)) ?_
  try simp only [stepS, stepD, stepM, eq_self, implies_true, forall_eq_or_imp, forall_eq, Nat.reduceEqDiff, ↓reduceIte, Nat.reduceAdd, Nat.reduceLeDiff, Nat.reduceSub, Nat.reduceMul, Nat.reduceLT, Int.reduceBEq, Int.reduceBNe, Int.reduceToNat, Int.reduceLT, Int.reduceLE, Int.reduceAdd, Int.reduceSub, Int.reduceMul, reduceCtorEq]
  refine hK _ _ _ ?_
  clear hK K
  repeat (first
    | refine AWP.seq' ?_
    | refine AWP.skip ?_
    | (refine AWP.reg' fun K hK => ?_; simp only [stepS, stepD, stepM, eq_self, implies_true, forall_eq_or_imp, forall_eq, Nat.reduceEqDiff, ↓reduceIte, Nat.reduceAdd, Nat.reduceLeDiff, Nat.reduceSub, Nat.reduceMul, Nat.reduceLT, Int.reduceBEq, Int.reduceBNe, Int.reduceToNat, Int.reduceLT, Int.reduceLE, Int.reduceAdd, Int.reduceSub, Int.reduceMul, reduceCtorEq]; (repeat (refine And.intro (by omega) ?_)); refine hK _ _ _ ?_; clear hK K))
  refine AWP.cond (b := !decide (hit l h g)) rfl (fun c => ?_) (fun c => ?_)
  · have c : ¬ hit l h g := by simpa using c
    have e : find now l h g = (mem0, false) := by rw [find, if_neg (not_not_intro hm), if_neg c]
    repeat (first
      | refine AWP.seq' ?_
      | refine AWP.skip ?_
      | (refine AWP.reg' fun K hK => ?_; simp only [stepS, stepD, stepM, eq_self, implies_true, forall_eq_or_imp, forall_eq, Nat.reduceEqDiff, ↓reduceIte, Nat.reduceAdd, Nat.reduceLeDiff, Nat.reduceSub, Nat.reduceMul, Nat.reduceLT, Int.reduceBEq, Int.reduceBNe, Int.reduceToNat, Int.reduceLT, Int.reduceLE, Int.reduceAdd, Int.reduceSub, Int.reduceMul, reduceCtorEq]; (repeat (refine And.intro (by omega) ?_)); refine hK _ _ _ ?_; clear hK K))
    refine AWP.weak (Weak.subB 16 rfl mem0_sub rfl) ?_
    exact AWP.ret (finP_ret rfl (by rw [e]; rfl) (FR.v_pure _))
  have c : hit l h g := by simpa using c
  have hq : posM l g h < l.length := c.1
  have e : find now l h g = (l[posM l g h], true) := by rw [find, if_neg (not_not_intro hm), if_pos c, atM, getD_mem hq]
  refine AWP.skip ?_
  refine AWP.seq' ?_
  refine AWP.reg' fun K hK => ?_
  try simp only [stepS, stepD, stepM, eq_self, implies_true, forall_eq_or_imp, forall_eq, Nat.reduceEqDiff, ↓reduceIte, Nat.reduceAdd, Nat.reduceLeDiff, Nat.reduceSub, Nat.reduceMul, Nat.reduceLT, Int.reduceBEq, Int.reduceBNe, Int.reduceToNat, Int.reduceLT, Int.reduceLE, Int.reduceAdd, Int.reduceSub, Int.reduceMul, reduceCtorEq, getD_mems hq]
  repeat (refine And.intro (by omega) ?_)
  refine evT_pure (copied_spec l[posM l g h] (ok.srcs _ (List.getElem_mem hq))) copied_fn rfl (by rfl) (by repeat' (first | exact trivial | assumption | refine And.intro ?_ ?_)) ?_
  try simp only [stepS, stepD, stepM, eq_self, implies_true, forall_eq_or_imp, forall_eq, Nat.reduceEqDiff, ↓reduceIte, Nat.reduceAdd, Nat.reduceLeDiff, Nat.reduceSub, Nat.reduceMul, Nat.reduceLT, Int.reduceBEq, Int.reduceBNe, Int.reduceToNat, Int.reduceLT, Int.reduceLE, Int.reduceAdd, Int.reduceSub, Int.reduceMul, reduceCtorEq, Mem.v, ints]
  refine hK _ _ _ ?_
  clear hK K
  exact AWP.ret (finP_ret rfl (by rw [e]; rfl) (FR.v_pure _))

/-! ### Leave -/
def shorten (x : Mem) (t : Int) : Mem := { x with till := minI x.till t }
def leave (now : Int) (l : List Mem) (h g last : Int) : MR :=
  if memErr now l ≠ 0 then ((0, []), memErr now l)
  else if ¬ (0 ≤ last ∧ last ≤ 1000) then ((0, []), 2)
  else if ¬ hit l h g then ((0, []), 4)
  else if last = 0 then ((now, delAt l (posM l g h)), 0)
  else ((now, l.set (posM l g h) (shorten (atM l h g) (now + last))), 0)
theorem Leave_spec (now : Int) (l : List Mem) (h g last : Int) : PSpec Try.prog 26 [memsV now l, .int h, .int g, .int last] (leave now l h g last).v := by
  refine PSpec.walk Try.func26 cf26_ok (by simp [cf26]) (MR.v_pure _) ?_
  unfold cf26
  simp only [initT, memsV, mems]
  refine AWP.seq' ?_
  refine AWP.reg' fun K hK => ?_
  try simp only [stepS, stepD, stepM, eq_self, implies_true, forall_eq_or_imp, forall_eq, Nat.reduceEqDiff, ↓reduceIte, Nat.reduceAdd, Nat.reduceLeDiff, Nat.reduceSub, Nat.reduceMul, Nat.reduceLT, Int.reduceBEq, Int.reduceBNe, Int.reduceToNat, Int.reduceLT, Int.reduceLE, Int.reduceAdd, Int.reduceSub, Int.reduceMul, reduceCtorEq]
  refine hK _ _ _ ?_
  clear hK K
  refine AWP.seq' (AWP.seq' ?_)
  refine AWP.reg' fun K hK => ?_
  try simp only [stepS, stepD, stepM, eq_self, implies_true, forall_eq_or_imp, forall_eq, Nat.reduceEqDiff, ↓reduceIte, Nat.reduceAdd, Nat.reduceLeDiff, Nat.reduceSub, Nat.reduceMul, Nat.reduceLT, Int.reduceBEq, Int.reduceBNe, Int.reduceToNat, Int.reduceLT, Int.reduceLE, Int.reduceAdd, Int.reduceSub, Int.reduceMul, reduceCtorEq]
  refine evT_pure (MVal_spec now l) MVal_fn rfl (by rfl) (by repeat' (first | exact trivial | assumption | refine And.intro ?_ ?_)) ?_
  try simp only [stepS, stepD, stepM, eq_self, implies_true, forall_eq_or_imp, forall_eq, Nat.reduceEqDiff, ↓reduceIte, Nat.reduceAdd, Nat.reduceLeDiff, Nat.reduceSub, Nat.reduceMul, Nat.reduceLT, Int.reduceBEq, Int.reduceBNe, Int.reduceToNat, Int.reduceLT, Int.reduceLE, Int.reduceAdd, Int.reduceSub, Int.reduceMul, reduceCtorEq]
  refine hK _ _ _ ?_
  clear hK K
  repeat (first
    | refine AWP.seq' ?_
    | refine AWP.skip ?_
    | (refine AWP.reg' fun K hK => ?_; simp only [stepS, stepD, stepM, eq_self, implies_true, forall_eq_or_imp, forall_eq, Nat.reduceEqDiff, ↓reduceIte, Nat.reduceAdd, Nat.reduceLeDiff, Nat.reduceSub, Nat.reduceMul, Nat.reduceLT, Int.reduceBEq, Int.reduceBNe, Int.reduceToNat, Int.reduceLT, Int.reduceLE, Int.reduceAdd, Int.reduceSub, Int.reduceMul, reduceCtorEq]; (repeat (refine And.intro (by omega) ?_)); refine hK _ _ _ ?_; clear hK K))
  refine AWP.cond (b := (memErr now l != 0)) rfl (fun c => ?_) (fun c => ?_)
  · have c : memErr now l ≠ 0 := by simpa using c
    have e : leave now l h g last = ((0, []), memErr now l) := by rw [leave, if_pos c]
    repeat (first
      | refine AWP.seq' ?_
      | refine AWP.skip ?_
      | (refine AWP.reg' fun K hK => ?_; simp only [stepS, stepD, stepM, eq_self, implies_true, forall_eq_or_imp, forall_eq, Nat.reduceEqDiff, ↓reduceIte, Nat.reduceAdd, Nat.reduceLeDiff, Nat.reduceSub, Nat.reduceMul, Nat.reduceLT, Int.reduceBEq, Int.reduceBNe, Int.reduceToNat, Int.reduceLT, Int.reduceLE, Int.reduceAdd, Int.reduceSub, Int.reduceMul, reduceCtorEq]; (repeat (refine And.intro (by omega) ?_)); refine hK _ _ _ ?_; clear hK K))
    refine AWP.weak (Weak.subB 16 (x := .agg [.int 0, .sl 0 [] true]) (y := memsV 0 []) rfl (Sub.agg ⟨Sub.refl, Sub.nil, trivial⟩) rfl) ?_
    exact AWP.ret (finP_ret rfl (by rw [e]; rfl) (MR.v_pure _))
  have hm : memErr now l = 0 := by simpa using c
  have ok := memErr_ok hm
  refine AWP.skip ?_
  refine AWP.seq' (AWP.seq' ?_)
  by_cases g1 : 0 ≤ last ∧ last ≤ 1000
  case neg =>
    have e : leave now l h g last = ((0, []), 2) := by rw [leave, if_neg (not_not_intro hm), if_pos g1]
    refine AWP.reg' fun K hK => ?_
    try simp only [stepS, stepD, stepM, eq_self, implies_true, forall_eq_or_imp, forall_eq, Nat.reduceEqDiff, ↓reduceIte, Nat.reduceAdd, Nat.reduceLeDiff, Nat.reduceSub, Nat.reduceMul, Nat.reduceLT, Int.reduceBEq, Int.reduceBNe, Int.reduceToNat, Int.reduceLT, Int.reduceLE, Int.reduceAdd, Int.reduceSub, Int.reduceMul, reduceCtorEq]
    refine evT_pure (within_spec last 0 1000) within_fn rfl (by rfl) (by repeat' (first | exact trivial | assumption | refine And.intro ?_ ?_)) ?_
    try simp only [stepS, stepD, stepM, eq_self, implies_true, forall_eq_or_imp, forall_eq, Nat.reduceEqDiff, ↓reduceIte, Nat.reduceAdd, Nat.reduceLeDiff, Nat.reduceSub, Nat.reduceMul, Nat.reduceLT, Int.reduceBEq, Int.reduceBNe, Int.reduceToNat, Int.reduceLT, Int.reduceLE, Int.reduceAdd, Int.reduceSub, Int.reduceMul, reduceCtorEq, g1]
    refine hK _ _ _ ?_
    clear hK K
    refine AWP.cond (b := true) rfl (fun c => ?_) (fun c => by cases c)
    repeat (first
      | refine AWP.seq' ?_
      | refine AWP.skip ?_
      | (refine AWP.reg' fun K hK => ?_; simp only [stepS, stepD, stepM, eq_self, implies_true, forall_eq_or_imp, forall_eq, Nat.reduceEqDiff, ↓reduceIte, Nat.reduceAdd, Nat.reduceLeDiff, Nat.reduceSub, Nat.reduceMul, Nat.reduceLT, Int.reduceBEq, Int.reduceBNe, Int.reduceToNat, Int.reduceLT, Int.reduceLE, Int.reduceAdd, Int.reduceSub, Int.reduceMul, reduceCtorEq]; (repeat (refine And.intro (by omega) ?_)); refine hK _ _ _ ?_; clear hK K))
    refine AWP.weak (Weak.subB 16 (x := .agg [.int 0, .sl 0 [] true]) (y := memsV 0 []) rfl (Sub.agg ⟨Sub.refl, Sub.nil, trivial⟩) rfl) ?_
    exact AWP.ret (finP_ret rfl (by rw [e]; rfl) (MR.v_pure _))
  refine AWP.reg' fun K hK => ?_
  try simp only [stepS, stepD, stepM, eq_self, implies_true, forall_eq_or_imp, forall_eq, Nat.reduceEqDiff, ↓reduceIte, Nat.reduceAdd, Nat.reduceLeDiff, Nat.reduceSub, Nat.reduceMul, Nat.reduceLT, Int.reduceBEq, Int.reduceBNe, Int.reduceToNat, Int.reduceLT, Int.reduceLE, Int.reduceAdd, Int.reduceSub, Int.reduceMul, reduceCtorEq]
  refine evT_pure (within_spec last 0 1000) within_fn rfl (by rfl) (by repeat' (first | exact trivial | assumption | refine And.intro ?_ ?_)) ?_
  try simp only [stepS, stepD, stepM, eq_self, implies_true, forall_eq_or_imp, forall_eq, Nat.reduceEqDiff, ↓reduceIte, Nat.reduceAdd, Nat.reduceLeDiff, Nat.reduceSub, Nat.reduceMul, Nat.reduceLT, Int.reduceBEq, Int.reduceBNe, Int.reduceToNat, Int.reduceLT, Int.reduceLE, Int.reduceAdd, Int.reduceSub, Int.reduceMul, reduceCtorEq, g1]
  refine hK _ _ _ ?_
  clear hK K
  refine AWP.cond (b := false) rfl (fun c => by cases c) (fun c => ?_)
  refine AWP.skip ?_
  refine AWP.seq' ?_
  refine AWP.reg' fun K hK => ?_
  try simp only [stepS, stepD, stepM, eq_self, implies_true, forall_eq_or_imp, forall_eq, Nat.reduceEqDiff, ↓reduceIte, Nat.reduceAdd, Nat.reduceLeDiff, Nat.reduceSub, Nat.reduceMul, Nat.reduceLT, Int.reduceBEq, Int.reduceBNe, Int.reduceToNat, Int.reduceLT, Int.reduceLE, Int.reduceAdd, Int.reduceSub, Int.reduceMul, reduceCtorEq]
  refine evT_pure (Search_spec l g h (posM l g h) (Nat.le_trans ok.len (by omega)) (posM_le _ _ _) posM_lo (posM_hi ok.ord)) Search_fn rfl (by rfl) (by repeat' (first | exact trivial | assumption | refine And.intro ?_ ?_)) ?_
  try simp only [stepS, stepD, stepM, eq_self, implies_true, forall_eq_or_imp, forall_eq, Nat.reduceEqDiff, ↓reduceIte, Nat.reduceAdd, Nat.reduceLeDiff, Nat.reduceSub, Nat.reduceMul, Nat.reduceLT, Int.reduceBEq, Int.reduceBNe, Int.reduceToNat, Int.reduceLT, Int.reduceLE, Int.reduceAdd, Int.reduceSub, Int.reduceMul, reduceCtorEq]
  refine hK _ _ _ ?_
  clear hK K
  repeat (first
    | refine AWP.seq' ?_
    | refine AWP.skip ?_
    | (refine AWP.reg' fun K hK => ?_; simp only [stepS, stepD, stepM, eq_self, implies_true, forall_eq_or_imp, forall_eq, Nat.reduceEqDiff, ↓reduceIte, Nat.reduceAdd, Nat.reduceLeDiff, Nat.reduceSub, Nat.reduceMul, Nat.reduceLT, Int.reduceBEq, Int.reduceBNe, Int.reduceToNat, Int.reduceLT, Int.reduceLE, Int.reduceAdd, Int.reduceSub, Int.reduceMul, reduceCtorEq]; (repeat (refine And.intro (by omega) ?_)); refine hK _ _ _ ?_; clear hK K))
  refine AWP.cond (b := !decide (hit l h g)) rfl (fun c => ?_) (fun c => ?_)
  · have c : ¬ hit l h g := by simpa using c
    have e : leave now l h g last = ((0, []), 4) := by rw [leave, if_neg (not_not_intro hm), if_neg (not_not_intro g1), if_pos c]
    repeat (first
      | refine AWP.seq' ?_
      | refine AWP.skip ?_
      | (refine AWP.reg' fun K hK => ?_; simp only [stepS, stepD, stepM, eq_self, implies_true, forall_eq_or_imp, forall_eq, Nat.reduceEqDiff, ↓reduceIte, Nat.reduceAdd, Nat.reduceLeDiff, Nat.reduceSub, Nat.reduceMul, Nat.reduceLT, Int.reduceBEq, Int.reduceBNe, Int.reduceToNat, Int.reduceLT, Int.reduceLE, Int.reduceAdd, Int.reduceSub, Int.reduceMul, reduceCtorEq]; (repeat (refine And.intro (by omega) ?_)); refine hK _ _ _ ?_; clear hK K))
    refine AWP.weak (Weak.subB 16 (x := .agg [.int 0, .sl 0 [] true]) (y := memsV 0 []) rfl (Sub.agg ⟨Sub.refl, Sub.nil, trivial⟩) rfl) ?_
    exact AWP.ret (finP_ret rfl (by rw [e]; rfl) (MR.v_pure _))
  have c : hit l h g := by simpa using c
  have hq : posM l g h < l.length := c.1
  have e0 : leave now l h g last = if last = 0 then ((now, delAt l (posM l g h)), 0) else ((now, l.set (posM l g h) (shorten (atM l h g) (now + last))), 0) := by
    rw [leave, if_neg (not_not_intro hm), if_neg (not_not_intro g1), if_neg (not_not_intro c)]
  have hat : atM l h g = l[posM l g h] := getD_mem hq
  refine AWP.skip ?_
  have hpl := pureL_mems l
  have hal : l.filter (fun _ => true) = l := by simp
  have hsel := selected_spec l (fun _ => true) 54 [] (fun x => all_spec x) all_fn trivial (Nat.le_trans ok.len (by omega)) ok.srcs
  rw [hal] at hsel
  refine AWP.seq' ?_
  refine AWP.dreg' fun K hK => ?_
  try simp only [stepS, stepD, stepM, eq_self, implies_true, forall_eq_or_imp, forall_eq, Nat.reduceEqDiff, ↓reduceIte, Nat.reduceAdd, Nat.reduceLeDiff, Nat.reduceSub, Nat.reduceMul, Nat.reduceLT, Int.reduceBEq, Int.reduceBNe, Int.reduceToNat, Int.reduceLT, Int.reduceLE, Int.reduceAdd, Int.reduceSub, Int.reduceMul, reduceCtorEq]
  refine evD_newV hsel selected_fn ⟨trivial, trivial, trivial⟩ hpl rfl rfl ?_
  try simp only [stepS, stepD, stepM, eq_self, implies_true, forall_eq_or_imp, forall_eq, Nat.reduceEqDiff, ↓reduceIte, Nat.reduceAdd, Nat.reduceLeDiff, Nat.reduceSub, Nat.reduceMul, Nat.reduceLT, Int.reduceBEq, Int.reduceBNe, Int.reduceToNat, Int.reduceLT, Int.reduceLE, Int.reduceAdd, Int.reduceSub, Int.reduceMul, reduceCtorEq]
  refine ⟨by rfl, hK _ _ _ ?_⟩
  clear hK K
  refine AWP.seq' (AWP.seq' ?_)
  refine AWP.reg' fun K hK => ?_
  try simp only [stepS, stepD, stepM, eq_self, implies_true, forall_eq_or_imp, forall_eq, Nat.reduceEqDiff, ↓reduceIte, Nat.reduceAdd, Nat.reduceLeDiff, Nat.reduceSub, Nat.reduceMul, Nat.reduceLT, Int.reduceBEq, Int.reduceBNe, Int.reduceToNat, Int.reduceLT, Int.reduceLE, Int.reduceAdd, Int.reduceSub, Int.reduceMul, reduceCtorEq]
  refine hK _ _ _ ?_
  clear hK K
  refine AWP.cond (b := (last == 0)) rfl (fun c => ?_) (fun c => ?_)
  · have c : last = 0 := eq_of_beq c
    rw [if_pos c] at e0
    refine AWP.seq' ?_
    have w : IntKind.i64.wrap (((posM l g h : Nat) : Int) + 1) = ((posM l g h + 1 : Nat) : Int) := wrapN (by omega) (by have := ok.len; omega)
    have hdel := Delete_spec (l.map Mem.v) (posM l g h) (by rw [List.length_map]; exact hq) (by rw [List.length_map]; exact Nat.le_trans ok.len (by omega)) hpl
    rw [show delAt (l.map Mem.v) (posM l g h) = (delAt l (posM l g h)).map Mem.v by simp [delAt, List.map_take, List.map_drop]] at hdel
    have hpd := pureL_mems (delAt l (posM l g h))
    refine AWP.reg' fun K hK => ?_
    try simp only [stepS, stepD, stepM, eq_self, implies_true, forall_eq_or_imp, forall_eq, Nat.reduceEqDiff, ↓reduceIte, Nat.reduceAdd, Nat.reduceLeDiff, Nat.reduceSub, Nat.reduceMul, Nat.reduceLT, Int.reduceBEq, Int.reduceBNe, Int.reduceToNat, Int.reduceLT, Int.reduceLE, Int.reduceAdd, Int.reduceSub, Int.reduceMul, reduceCtorEq, w]
    refine evT_del hdel Delete_fn ⟨trivial, trivial, trivial⟩ hpl hpd rfl (by rfl) (by rfl) ?_
    try simp only [stepS, stepD, stepM, eq_self, implies_true, forall_eq_or_imp, forall_eq, Nat.reduceEqDiff, ↓reduceIte, Nat.reduceAdd, Nat.reduceLeDiff, Nat.reduceSub, Nat.reduceMul, Nat.reduceLT, Int.reduceBEq, Int.reduceBNe, Int.reduceToNat, Int.reduceLT, Int.reduceLE, Int.reduceAdd, Int.reduceSub, Int.reduceMul, reduceCtorEq]
    refine hK _ _ _ ?_
    clear hK K
    repeat (first
      | refine AWP.seq' ?_
      | refine AWP.skip ?_
      | (refine AWP.reg' fun K hK => ?_; simp only [stepS, stepD, stepM, eq_self, implies_true, forall_eq_or_imp, forall_eq, Nat.reduceEqDiff, ↓reduceIte, Nat.reduceAdd, Nat.reduceLeDiff, Nat.reduceSub, Nat.reduceMul, Nat.reduceLT, Int.reduceBEq, Int.reduceBNe, Int.reduceToNat, Int.reduceLT, Int.reduceLE, Int.reduceAdd, Int.reduceSub, Int.reduceMul, reduceCtorEq]; (repeat (refine And.intro (by omega) ?_)); refine hK _ _ _ ?_; clear hK K))
    refine AWP.weak (Weak.giveB 16 1 _ rfl rfl rfl hpd) ?_
    exact AWP.ret (finP_ret rfl (by rw [e0]; rfl) (MR.v_pure _))
  have c : ¬ last = 0 := fun e => by rw [e] at c; cases c
  rw [if_neg c] at e0
  refine AWP.skip ?_
  refine AWP.seq' ?_
  have w : IntKind.i64.wrap (now + last) = now + last := wrap64 (by have := ok.rng; omega)
  refine AWP.dreg' fun K hK => ?_
  try simp only [stepS, stepD, stepM, eq_self, implies_true, forall_eq_or_imp, forall_eq, Nat.reduceEqDiff, ↓reduceIte, Nat.reduceAdd, Nat.reduceLeDiff, Nat.reduceSub, Nat.reduceMul, Nat.reduceLT, Int.reduceBEq, Int.reduceBNe, Int.reduceToNat, Int.reduceLT, Int.reduceLE, Int.reduceAdd, Int.reduceSub, Int.reduceMul, reduceCtorEq, getD_mems hq, foldA, foldI, w]
  repeat (refine And.intro (by omega) ?_)
  rw [show (l.map Mem.v).set (posM l g h) (AV.agg [.int l[posM l g h].host, .int l[posM l g h].group, .int l[posM l g h].mode, .sl 1 (l[posM l g h].srcs.map .int) false, .int (minI l[posM l g h].till (now + last))])
    = (l.set (posM l g h) (shorten (atM l h g) (now + last))).map Mem.v by rw [List.map_set, hat]; rfl]
  have hps := pureL_mems (l.set (posM l g h) (shorten (atM l h g) (now + last)))
  refine ⟨by rfl, hK _ _ _ ?_⟩
  clear hK K
  repeat (first
    | refine AWP.seq' ?_
    | refine AWP.skip ?_
    | (refine AWP.reg' fun K hK => ?_; simp only [stepS, stepD, stepM, eq_self, implies_true, forall_eq_or_imp, forall_eq, Nat.reduceEqDiff, ↓reduceIte, Nat.reduceAdd, Nat.reduceLeDiff, Nat.reduceSub, Nat.reduceMul, Nat.reduceLT, Int.reduceBEq, Int.reduceBNe, Int.reduceToNat, Int.reduceLT, Int.reduceLE, Int.reduceAdd, Int.reduceSub, Int.reduceMul, reduceCtorEq]; (repeat (refine And.intro (by omega) ?_)); refine hK _ _ _ ?_; clear hK K))
  refine AWP.weak (Weak.giveB 16 1 _ rfl rfl rfl hps) ?_
  exact AWP.ret (finP_ret rfl (by rw [e0]; rfl) (MR.v_pure _))
end Go.Proofs.Ytaboolnmkfenlaa
