/- Contracts of Groups and of its reference. -/
import Derived.Test.YtaboolnmkfenlaaG1
import Derived.Test.YtaboolnmkfenlaaS16
import Derived.Test.YtaboolnmkfenlaaT1
namespace Go.Proofs.Ytaboolnmkfenlaa
open Go Go.Am
set_option linter.unusedVariables false
set_option linter.unusedSimpArgs false
theorem Groups_fn : FnOk Try.prog 34 := fn_ok Try.func34 (by kernel_rfl)
theorem RGroups_fn : FnOk Try.prog 35 := fn_ok Try.func35 (by kernel_rfl)
def grps (l : List Mem) : List Int := l.map Mem.group
def groups (now : Int) (l : List Mem) : List Int := if memErr now l ≠ 0 then [] else compact (grps l)

theorem Groups_spec (now : Int) (l : List Mem) : PSpec Try.prog 34 [memsV now l] (ints (groups now l)) := by
  have hml := maxLen_eq
  refine PSpec.walk Try.func34 cf34_ok (by simp [cf34]) trivial ?_
  unfold cf34
  simp only [initT, memsV, mems]
  refine AWP.seq' ?_
  refine AWP.reg' fun K hK => ?_
  try simp only [stepS, stepD, stepM, eq_self, implies_true, forall_eq_or_imp, forall_eq, Nat.reduceEqDiff, ↓reduceIte, Nat.reduceAdd, Nat.reduceLeDiff, Nat.reduceSub, Nat.reduceMul, Nat.reduceLT, Int.reduceBEq, Int.reduceBNe, Int.reduceToNat, Int.reduceLT, Int.reduceLE, Int.reduceAdd, Int.reduceSub, Int.reduceMul, reduceCtorEq]
  refine hK _ _ _ ?_
  clear hK K
  refine AWP.seq' (AWP.seq' ?_)
  refine AWP.reg' fun K hK => ?_
  try simp only [stepS, stepD, stepM, eq_self, implies_true, forall_eq_or_imp, forall_eq, Nat.reduceEqDiff, ↓reduceIte, Nat.reduceAdd, Nat.reduceLeDiff, Nat.reduceSub, Nat.reduceMul, Nat.reduceLT, Int.reduceBEq, Int.reduceBNe, Int.reduceToNat, Int.reduceLT, Int.reduceLE, Int.reduceAdd, Int.reduceSub, Int.reduceMul, reduceCtorEq]
  refine evT_pure (MVal_spec now l) MVal_fn rfl (by rfl) (by repeat' (first | exact trivial | assumption | refine And.intro ?_ ?_)) ?_
  try simp only [stepS, stepD, stepM, eq_self, implies_true, forall_eq_or_imp, forall_eq, Nat.reduceEqDiff, ↓reduceIte, Nat.reduceAdd, Nat.reduceLeDiff, Nat.reduceSub, Nat.reduceMul, Nat.reduceLT, Int.reduceBEq, Int.reduceBNe, Int.reduceToNat, Int.reduceLT, Int.reduceLE, Int.reduceAdd, Int.reduceSub, Int.reduceMul, reduceCtorEq]
  refine hK _ _ _ ?_
  clear hK K
  refine AWP.cond (b := (memErr now l != 0)) rfl (fun c => ?_) (fun c => ?_)
  · have c : memErr now l ≠ 0 := by simpa using c
    have e : groups now l = [] := by rw [groups, if_pos c]
    repeat (first
      | refine AWP.seq' ?_
      | refine AWP.skip ?_
      | (refine AWP.reg' fun K hK => ?_; simp only [stepS, stepD, stepM, eq_self, implies_true, forall_eq_or_imp, forall_eq, Nat.reduceEqDiff, ↓reduceIte, Nat.reduceAdd, Nat.reduceLeDiff, Nat.reduceSub, Nat.reduceMul, Nat.reduceLT, Int.reduceBEq, Int.reduceBNe, Int.reduceToNat, Int.reduceLT, Int.reduceLE, Int.reduceAdd, Int.reduceSub, Int.reduceMul, reduceCtorEq]; (repeat (refine And.intro (by omega) ?_)); refine hK _ _ _ ?_; clear hK K))
    refine AWP.weak (Weak.subT 2 (Sub.nil (kk := 1))) ?_
    exact AWP.ret (finP_ret rfl (by rw [e]; rfl) trivial)
  have hm : memErr now l = 0 := by simpa using c
  have ok := memErr_ok hm
  have hl := ok.len
  have e : groups now l = compact (grps l) := by rw [groups, if_neg (not_not_intro hm)]
  repeat (first
    | refine AWP.seq' ?_
    | refine AWP.skip ?_
    | (refine AWP.reg' fun K hK => ?_; simp only [stepS, stepD, stepM, eq_self, implies_true, forall_eq_or_imp, forall_eq, Nat.reduceEqDiff, ↓reduceIte, Nat.reduceAdd, Nat.reduceLeDiff, Nat.reduceSub, Nat.reduceMul, Nat.reduceLT, Int.reduceBEq, Int.reduceBNe, Int.reduceToNat, Int.reduceLT, Int.reduceLE, Int.reduceAdd, Int.reduceSub, Int.reduceMul, reduceCtorEq]; (repeat (refine And.intro (by omega) ?_)); refine hK _ _ _ ?_; clear hK K))
  refine AWP.weak (Weak.nilvec 3 0 1 rfl (by omega)) ?_
  refine AWP.block ?_
  refine AWP.loopS (fun i => ⟨resT [(3, .vec 0), (10, .sl 5 (l.map Mem.v) false), (11, .int l.length), (12, .int (i : Nat))], hpL 0 [some (.vec 1 ((grps (l.take i)).map .int))], 1⟩)
    (fun i => i ≤ l.length) (fun i => l.length - i) (i0 := 0) (Nat.zero_le _) ?_ ?_
  · refine Weak.nf [160] _ _ ?_ ?_ ⟨rfl, rfl⟩ (by decide) (by decide) (by decide)
    · repeat' (first | exact trivial | exact And.intro rfl trivial | refine And.intro ?_ ?_ | rfl | exact Nat.le_of_ble_eq_true rfl)
    · repeat' (first | exact trivial | exact And.intro rfl trivial | refine And.intro ?_ ?_ | rfl | exact Nat.le_of_ble_eq_true rfl)
  intro i h1
  repeat (first
    | refine AWP.seq' ?_
    | refine AWP.skip ?_
    | (refine AWP.reg' fun K hK => ?_; simp only [stepS, stepD, stepM, eq_self, implies_true, forall_eq_or_imp, forall_eq, Nat.reduceEqDiff, ↓reduceIte, Nat.reduceAdd, Nat.reduceLeDiff, Nat.reduceSub, Nat.reduceMul, Nat.reduceLT, Int.reduceBEq, Int.reduceBNe, Int.reduceToNat, Int.reduceLT, Int.reduceLE, Int.reduceAdd, Int.reduceSub, Int.reduceMul, reduceCtorEq]; (repeat (refine And.intro (by omega) ?_)); refine hK _ _ _ ?_; clear hK K))
  refine AWP.cond (b := decide ((i : Int) < l.length)) rfl (fun hc => ?_) (fun hc => ?_)
  · have hi : i < l.length := by have := of_decide_eq_true hc; omega
    have w : IntKind.i64.wrap ((i : Int) + 1) = ((i + 1 : Nat) : Int) := wrapN (by omega) (by omega)
    have hpv := pureL_ints (grps (l.take (i + 1)))
    have hlen : (grps (l.take i)).length = i := by simp [grps]; omega
    have he : (grps (l.take i)).map AV.int ++ [.int l[i].group] = (grps (l.take (i + 1))).map AV.int := by
      have ht : grps (l.take (i + 1)) = grps (l.take i) ++ [l[i].group] := by
        unfold grps; rw [List.take_add_one, List.getElem?_eq_getElem hi, List.map_append]; rfl
      rw [ht, List.map_append]; rfl
    refine AWP.skip ?_
    refine AWP.seq' ?_
    refine AWP.block ?_
    refine AWP.seq' ?_
    refine AWP.reg' fun K hK => ?_
    try simp only [stepS, stepD, stepM, eq_self, implies_true, forall_eq_or_imp, forall_eq, Nat.reduceEqDiff, ↓reduceIte, Nat.reduceAdd, Nat.reduceLeDiff, Nat.reduceSub, Nat.reduceMul, Nat.reduceLT, Int.reduceBEq, Int.reduceBNe, Int.reduceToNat, Int.reduceLT, Int.reduceLE, Int.reduceAdd, Int.reduceSub, Int.reduceMul, reduceCtorEq, getD_mems hi]
    repeat (refine And.intro (by omega) ?_)
    refine hK _ _ _ ?_
    clear hK K
    refine AWP.reg' fun K hK => ?_
    try simp only [stepS, stepD, stepM, eq_self, implies_true, forall_eq_or_imp, forall_eq, Nat.reduceEqDiff, ↓reduceIte, Nat.reduceAdd, Nat.reduceLeDiff, Nat.reduceSub, Nat.reduceMul, Nat.reduceLT, Int.reduceBEq, Int.reduceBNe, Int.reduceToNat, Int.reduceLT, Int.reduceLE, Int.reduceAdd, Int.reduceSub, Int.reduceMul, reduceCtorEq]
    refine evT_lit ?_
    try simp only [stepS, stepD, stepM, eq_self, implies_true, forall_eq_or_imp, forall_eq, Nat.reduceEqDiff, ↓reduceIte, Nat.reduceAdd, Nat.reduceLeDiff, Nat.reduceSub, Nat.reduceMul, Nat.reduceLT, Int.reduceBEq, Int.reduceBNe, Int.reduceToNat, Int.reduceLT, Int.reduceLE, Int.reduceAdd, Int.reduceSub, Int.reduceMul, reduceCtorEq, appendA, srcA, he, hlen]
    repeat (refine And.intro (by omega) ?_)
    refine hK _ _ _ ?_
    clear hK K
    refine AWP.reg' fun K hK => ?_
    try simp only [stepS, stepD, stepM, eq_self, implies_true, forall_eq_or_imp, forall_eq, Nat.reduceEqDiff, ↓reduceIte, Nat.reduceAdd, Nat.reduceLeDiff, Nat.reduceSub, Nat.reduceMul, Nat.reduceLT, Int.reduceBEq, Int.reduceBNe, Int.reduceToNat, Int.reduceLT, Int.reduceLE, Int.reduceAdd, Int.reduceSub, Int.reduceMul, reduceCtorEq, w]
    refine hK _ _ _ ?_
    clear hK K
    refine ⟨i + 1, hi, by omega, ?_⟩
    refine Weak.nf [145] _ _ ?_ ?_ ⟨rfl, rfl⟩ (by decide) (by decide) (by decide)
    · repeat' (first | exact trivial | exact And.intro rfl trivial | refine And.intro ?_ ?_ | rfl | exact Nat.le_of_ble_eq_true rfl | exact congrArg some (vec_ren (m := 0) hpv).1.symm | exact (vec_ren (π := id) hpv).2)
    · repeat' (first | exact trivial | exact And.intro rfl trivial | refine And.intro ?_ ?_ | rfl | exact Nat.le_of_ble_eq_true rfl | exact congrArg some (vec_ren (m := 0) hpv).1.symm | exact (vec_ren (π := id) hpv).2)
  have hi : i = l.length := by have := of_decide_eq_false hc; omega
  subst hi
  rw [List.take_length]
  have hgl : (grps l).length ≤ 1000000 := by simp [grps]; omega
  refine AWP.exit ?_
  refine AWP.seq' ?_
  refine AWP.reg' fun K hK => ?_
  try simp only [stepS, stepD, stepM, eq_self, implies_true, forall_eq_or_imp, forall_eq, Nat.reduceEqDiff, ↓reduceIte, Nat.reduceAdd, Nat.reduceLeDiff, Nat.reduceSub, Nat.reduceMul, Nat.reduceLT, Int.reduceBEq, Int.reduceBNe, Int.reduceToNat, Int.reduceLT, Int.reduceLE, Int.reduceAdd, Int.reduceSub, Int.reduceMul, reduceCtorEq]
  refine evT_take (args := []) (Compact_spec (grps l) hgl) Compact_fn trivial (pureL_ints _) trivial rfl (by rfl) (by rfl) ?_
  try simp only [stepS, stepD, stepM, eq_self, implies_true, forall_eq_or_imp, forall_eq, Nat.reduceEqDiff, ↓reduceIte, Nat.reduceAdd, Nat.reduceLeDiff, Nat.reduceSub, Nat.reduceMul, Nat.reduceLT, Int.reduceBEq, Int.reduceBNe, Int.reduceToNat, Int.reduceLT, Int.reduceLE, Int.reduceAdd, Int.reduceSub, Int.reduceMul, reduceCtorEq]
  refine hK _ _ _ ?_
  clear hK K
  exact AWP.ret (finP_ret rfl (by rw [e]; rfl) trivial)

def rgroups (l : List Mem) : List Int := (grps l).foldl put []
theorem rgroups_succ {l : List Mem} {i : Nat} (h : i < l.length) : rgroups (l.take (i + 1)) = put (rgroups (l.take i)) l[i].group := by
  unfold rgroups grps
  rw [List.take_add_one, List.getElem?_eq_getElem h, List.map_append]
  show List.foldl put [] (List.map Mem.group (l.take i) ++ [l[i].group]) = _
  rw [List.foldl_append]
  rfl
theorem rgroups_len : ∀ {l : List Mem} {i : Nat}, i ≤ l.length → (rgroups (l.take i)).length ≤ i
  | l, 0, _ => by simp [rgroups, grps]
  | l, i + 1, h => by
    rw [rgroups_succ (by omega)]
    have := rgroups_len (l := l) (i := i) (by omega)
    have := put_length (rgroups (l.take i)) l[i].group
    omega
/-- In a valid list both ways give the same groups. -/
theorem groups_eq {l : List Mem} (ho : ordM l) : ∀ {i : Nat}, i ≤ l.length → compact (grps (l.take i)) = rgroups (l.take i) ∧ ascI (rgroups (l.take i)) ∧ (0 < i → (rgroups (l.take i)).getLast? = some (l.getD (i - 1) mem0).group)
  | 0, _ => ⟨by simp [compact, grps, rgroups], fun j hj => by simp [rgroups, grps] at hj, fun h => by omega⟩
  | i + 1, h => by
    obtain ⟨e1, e2, e3⟩ := groups_eq ho (i := i) (by omega)
    have hi : i < l.length := h
    have hgl : (grps l).length = l.length := by simp [grps]
    have hc : compact (grps (l.take (i + 1))) = comp1 (compact (grps (l.take i))) l[i].group := by
      have := compact_take (l := grps l) (i := i) (by omega)
      have hg : (grps l)[i]'(by omega) = l[i].group := by simp [grps]
      have ht : ∀ n, (grps l).take n = grps (l.take n) := fun n => by simp [grps, List.map_take]
      rw [ht, ht, hg] at this
      exact this
    have hp : put (rgroups (l.take i)) l[i].group = comp1 (rgroups (l.take i)) l[i].group := by
      have hle : ∀ y ∈ rgroups (l.take i), y ≤ l[i].group ∧ (y = l[i].group → (rgroups (l.take i)).getLast? = some y) := by
        intro y hy
        have hi0 : 0 < i := by
          refine Classical.byContradiction fun hn => ?_
          have : i = 0 := by omega
          subst this
          simp [rgroups, grps] at hy
        have hlast := e3 hi0
        have hord := ho (i - 1) (by omega)
        rw [show i - 1 + 1 = i by omega, getD_mem hi] at hord
        have hle2 : (l.getD (i - 1) mem0).group ≤ l[i].group := by unfold ltM at hord; omega
        -- y is at most the last
        have hyl : y ≤ (l.getD (i - 1) mem0).group ∧ (y = (l.getD (i - 1) mem0).group ∨ y < (l.getD (i - 1) mem0).group) := by
          obtain ⟨k, hk, rfl⟩ := List.getElem_of_mem hy
          have hpw := asc_pw.mp e2
          rw [List.getLast?_eq_getElem?] at hlast
          have hn : (rgroups (l.take i)).length - 1 < (rgroups (l.take i)).length := by omega
          rw [List.getElem?_eq_getElem hn] at hlast
          have hlast := Option.some.inj hlast
          rw [← hlast]
          by_cases hk2 : k = (rgroups (l.take i)).length - 1
          · subst hk2; exact ⟨Int.le_refl _, .inl rfl⟩
          · have := (List.pairwise_iff_getElem.mp hpw) k ((rgroups (l.take i)).length - 1) hk hn (by omega)
            exact ⟨by omega, .inr this⟩
        refine ⟨by omega, fun he => ?_⟩
        rw [hlast]
        congr 1; omega
      generalize rgroups (l.take i) = out at hle e2
      generalize l[i].group = x at hle
      unfold put comp1
      have hq : putP out x = if x ∈ out then out.length - 1 else out.length := by
        unfold putP
        split
        · rename_i hx
          have hl := (hle x hx).2 rfl
          have hne : out ≠ [] := fun e => by subst e; simp at hx
          have hpos := List.length_pos_iff.mpr hne
          rw [List.getLast?_eq_getElem?] at hl
          have hn : out.length - 1 < out.length := by omega
          rw [List.getElem?_eq_getElem hn] at hl
          have hl := Option.some.inj hl
          refine (List.findIdx_eq hn).mpr ⟨by simp [hl], fun j hj => ?_⟩
          have := (List.pairwise_iff_getElem.mp (asc_pw.mp e2)) j (out.length - 1) (by omega) hn hj
          simp; omega
        · rename_i hx
          refine List.findIdx_eq_length.mpr fun y hy => ?_
          have h1 := (hle y hy).1
          have h2 : y ≠ x := fun e => hx (e ▸ hy)
          simp; omega
      rw [hq]
      by_cases hx : x ∈ out
      · have hl := (hle x hx).2 rfl
        rw [if_pos hx, if_pos (by rw [← List.getLast?_eq_getElem?]; exact hl), if_pos hl]
      · have hl : ¬ out.getLast? = some x := fun e => hx (List.mem_of_getLast? e)
        rw [if_neg hx, if_neg (by simp), if_neg hl]
        unfold insAt
        simp
    refine ⟨?_, ?_, fun _ => ?_⟩
    · rw [hc, e1, ← hp, rgroups_succ hi]
    · rw [rgroups_succ hi]; exact put_asc e2
    · rw [rgroups_succ hi, hp, Nat.add_sub_cancel, getD_mem hi, comp1]
      split
      · assumption
      · simp

theorem RGroups_spec (now : Int) (l : List Mem) : PSpec Try.prog 35 [memsV now l] (ints (groups now l)) := by
  have hml := maxLen_eq
  refine PSpec.walk Try.func35 cf35_ok (by simp [cf35]) trivial ?_
  unfold cf35
  simp only [initT, memsV, mems]
  refine AWP.seq' ?_
  refine AWP.reg' fun K hK => ?_
  try simp only [stepS, stepD, stepM, eq_self, implies_true, forall_eq_or_imp, forall_eq, Nat.reduceEqDiff, ↓reduceIte, Nat.reduceAdd, Nat.reduceLeDiff, Nat.reduceSub, Nat.reduceMul, Nat.reduceLT, Int.reduceBEq, Int.reduceBNe, Int.reduceToNat, Int.reduceLT, Int.reduceLE, Int.reduceAdd, Int.reduceSub, Int.reduceMul, reduceCtorEq]
  refine hK _ _ _ ?_
  clear hK K
  refine AWP.seq' ?_
  refine AWP.reg' fun K hK => ?_
  try simp only [stepS, stepD, stepM, eq_self, implies_true, forall_eq_or_imp, forall_eq, Nat.reduceEqDiff, ↓reduceIte, Nat.reduceAdd, Nat.reduceLeDiff, Nat.reduceSub, Nat.reduceMul, Nat.reduceLT, Int.reduceBEq, Int.reduceBNe, Int.reduceToNat, Int.reduceLT, Int.reduceLE, Int.reduceAdd, Int.reduceSub, Int.reduceMul, reduceCtorEq]
  refine hK _ _ _ ?_
  clear hK K
  refine AWP.weak (Weak.subT 3 (Sub.nil (kk := 1))) ?_
  refine AWP.seqW ⟨resT [(3, ints (groups now l))], hpL 0 [], 0⟩ ?_ ?_
  · refine AWP.seq' ?_
    refine AWP.reg' fun K hK => ?_
    try simp only [stepS, stepD, stepM, eq_self, implies_true, forall_eq_or_imp, forall_eq, Nat.reduceEqDiff, ↓reduceIte, Nat.reduceAdd, Nat.reduceLeDiff, Nat.reduceSub, Nat.reduceMul, Nat.reduceLT, Int.reduceBEq, Int.reduceBNe, Int.reduceToNat, Int.reduceLT, Int.reduceLE, Int.reduceAdd, Int.reduceSub, Int.reduceMul, reduceCtorEq]
    refine evT_pure (VVal_spec now l) VVal_fn rfl (by rfl) (by repeat' (first | exact trivial | assumption | refine And.intro ?_ ?_)) ?_
    try simp only [stepS, stepD, stepM, eq_self, implies_true, forall_eq_or_imp, forall_eq, Nat.reduceEqDiff, ↓reduceIte, Nat.reduceAdd, Nat.reduceLeDiff, Nat.reduceSub, Nat.reduceMul, Nat.reduceLT, Int.reduceBEq, Int.reduceBNe, Int.reduceToNat, Int.reduceLT, Int.reduceLE, Int.reduceAdd, Int.reduceSub, Int.reduceMul, reduceCtorEq]
    refine hK _ _ _ ?_
    clear hK K
    refine AWP.cond (b := (memErr now l == 0)) rfl (fun c => ?_) (fun c => ?_)
    case refine_2 =>
      have c : memErr now l ≠ 0 := by simpa using c
      have e : groups now l = [] := by rw [groups, if_pos c]
      rw [e]
      refine AWP.skip ?_
      refine Weak.nf [] _ _ ?_ ?_ ⟨rfl, rfl⟩ (by decide) (by decide) (by decide)
      · repeat' (first | exact trivial | exact And.intro rfl trivial | refine And.intro ?_ ?_ | rfl | exact Nat.le_of_ble_eq_true rfl)
      · repeat' (first | exact trivial | exact And.intro rfl trivial | refine And.intro ?_ ?_ | rfl | exact Nat.le_of_ble_eq_true rfl)
    have hm : memErr now l = 0 := eq_of_beq c
    have ok := memErr_ok hm
    have hl := ok.len
    have e : groups now l = rgroups l := by
      rw [groups, if_neg (not_not_intro hm)]
      have := (groups_eq ok.ord (i := l.length) (Nat.le_refl _)).1
      rwa [List.take_length] at this
    rw [e]
    refine AWP.seq' ?_
    refine AWP.reg' fun K hK => ?_
    try simp only [stepS, stepD, stepM, eq_self, implies_true, forall_eq_or_imp, forall_eq, Nat.reduceEqDiff, ↓reduceIte, Nat.reduceAdd, Nat.reduceLeDiff, Nat.reduceSub, Nat.reduceMul, Nat.reduceLT, Int.reduceBEq, Int.reduceBNe, Int.reduceToNat, Int.reduceLT, Int.reduceLE, Int.reduceAdd, Int.reduceSub, Int.reduceMul, reduceCtorEq]
    refine hK _ _ _ ?_
    clear hK K
    refine AWP.block ?_
    refine AWP.loopS (fun i => ⟨resT [(3, ints (rgroups (l.take i))), (10, .sl 5 (l.map Mem.v) false), (11, .int l.length), (12, .int (i : Nat))], hpL 0 [], 0⟩)
      (fun i => i ≤ l.length) (fun i => l.length - i) (i0 := 0) (Nat.zero_le _) ?_ ?_
    · refine Weak.nf [] _ _ ?_ ?_ ⟨rfl, rfl⟩ (by decide) (by decide) (by decide)
      · repeat' (first | exact trivial | exact And.intro rfl trivial | refine And.intro ?_ ?_ | rfl | exact Nat.le_of_ble_eq_true rfl)
      · repeat' (first | exact trivial | exact And.intro rfl trivial | refine And.intro ?_ ?_ | rfl | exact Nat.le_of_ble_eq_true rfl)
    intro i h1
    repeat (first
      | refine AWP.seq' ?_
      | refine AWP.skip ?_
      | (refine AWP.reg' fun K hK => ?_; simp only [stepS, stepD, stepM, eq_self, implies_true, forall_eq_or_imp, forall_eq, Nat.reduceEqDiff, ↓reduceIte, Nat.reduceAdd, Nat.reduceLeDiff, Nat.reduceSub, Nat.reduceMul, Nat.reduceLT, Int.reduceBEq, Int.reduceBNe, Int.reduceToNat, Int.reduceLT, Int.reduceLE, Int.reduceAdd, Int.reduceSub, Int.reduceMul, reduceCtorEq]; (repeat (refine And.intro (by omega) ?_)); refine hK _ _ _ ?_; clear hK K))
    refine AWP.cond (b := decide ((i : Int) < l.length)) rfl (fun hc => ?_) (fun hc => ?_)
    · have hi : i < l.length := by have := of_decide_eq_true hc; omega
      have w : IntKind.i64.wrap ((i : Int) + 1) = ((i + 1 : Nat) : Int) := wrapN (by omega) (by omega)
      have hlen := rgroups_len (l := l) (i := i) h1
      refine AWP.skip ?_
      refine AWP.seq' ?_
      refine AWP.block ?_
      refine AWP.seq' ?_
      refine AWP.reg' fun K hK => ?_
      try simp only [stepS, stepD, stepM, eq_self, implies_true, forall_eq_or_imp, forall_eq, Nat.reduceEqDiff, ↓reduceIte, Nat.reduceAdd, Nat.reduceLeDiff, Nat.reduceSub, Nat.reduceMul, Nat.reduceLT, Int.reduceBEq, Int.reduceBNe, Int.reduceToNat, Int.reduceLT, Int.reduceLE, Int.reduceAdd, Int.reduceSub, Int.reduceMul, reduceCtorEq, getD_mems hi]
      repeat (refine And.intro (by omega) ?_)
      refine hK _ _ _ ?_
      clear hK K
      refine AWP.reg' fun K hK => ?_
      try simp only [stepS, stepD, stepM, eq_self, implies_true, forall_eq_or_imp, forall_eq, Nat.reduceEqDiff, ↓reduceIte, Nat.reduceAdd, Nat.reduceLeDiff, Nat.reduceSub, Nat.reduceMul, Nat.reduceLT, Int.reduceBEq, Int.reduceBNe, Int.reduceToNat, Int.reduceLT, Int.reduceLE, Int.reduceAdd, Int.reduceSub, Int.reduceMul, reduceCtorEq]
      refine evT_pure (Put_spec (rgroups (l.take i)) l[i].group (by omega)) Put_fn rfl (by rfl) (by repeat' (first | exact trivial | assumption | refine And.intro ?_ ?_)) ?_
      try simp only [stepS, stepD, stepM, eq_self, implies_true, forall_eq_or_imp, forall_eq, Nat.reduceEqDiff, ↓reduceIte, Nat.reduceAdd, Nat.reduceLeDiff, Nat.reduceSub, Nat.reduceMul, Nat.reduceLT, Int.reduceBEq, Int.reduceBNe, Int.reduceToNat, Int.reduceLT, Int.reduceLE, Int.reduceAdd, Int.reduceSub, Int.reduceMul, reduceCtorEq]
      refine hK _ _ _ ?_
      clear hK K
      refine AWP.reg' fun K hK => ?_
      try simp only [stepS, stepD, stepM, eq_self, implies_true, forall_eq_or_imp, forall_eq, Nat.reduceEqDiff, ↓reduceIte, Nat.reduceAdd, Nat.reduceLeDiff, Nat.reduceSub, Nat.reduceMul, Nat.reduceLT, Int.reduceBEq, Int.reduceBNe, Int.reduceToNat, Int.reduceLT, Int.reduceLE, Int.reduceAdd, Int.reduceSub, Int.reduceMul, reduceCtorEq, w]
      refine hK _ _ _ ?_
      clear hK K
      refine ⟨i + 1, hi, by omega, ?_⟩
      rw [rgroups_succ hi]
      refine Weak.nf [] _ _ ?_ ?_ ⟨rfl, rfl⟩ (by decide) (by decide) (by decide)
      · repeat' (first | exact trivial | exact And.intro rfl trivial | refine And.intro ?_ ?_ | rfl | exact Nat.le_of_ble_eq_true rfl)
      · repeat' (first | exact trivial | exact And.intro rfl trivial | refine And.intro ?_ ?_ | rfl | exact Nat.le_of_ble_eq_true rfl)
    have hi : i = l.length := by have := of_decide_eq_false hc; omega
    subst hi
    rw [List.take_length]
    refine AWP.exit ?_
    refine Weak.nf [] _ _ ?_ ?_ ⟨rfl, rfl⟩ (by decide) (by decide) (by decide)
    · repeat' (first | exact trivial | exact And.intro rfl trivial | refine And.intro ?_ ?_ | rfl | exact Nat.le_of_ble_eq_true rfl)
    · repeat' (first | exact trivial | exact And.intro rfl trivial | refine And.intro ?_ ?_ | rfl | exact Nat.le_of_ble_eq_true rfl)
  repeat (first
    | refine AWP.seq' ?_
    | refine AWP.skip ?_
    | (refine AWP.reg' fun K hK => ?_; simp only [stepS, stepD, stepM, eq_self, implies_true, forall_eq_or_imp, forall_eq, Nat.reduceEqDiff, ↓reduceIte, Nat.reduceAdd, Nat.reduceLeDiff, Nat.reduceSub, Nat.reduceMul, Nat.reduceLT, Int.reduceBEq, Int.reduceBNe, Int.reduceToNat, Int.reduceLT, Int.reduceLE, Int.reduceAdd, Int.reduceSub, Int.reduceMul, reduceCtorEq]; (repeat (refine And.intro (by omega) ?_)); refine hK _ _ _ ?_; clear hK K))
  exact AWP.ret (finP_ret rfl rfl trivial)
end Go.Proofs.Ytaboolnmkfenlaa
