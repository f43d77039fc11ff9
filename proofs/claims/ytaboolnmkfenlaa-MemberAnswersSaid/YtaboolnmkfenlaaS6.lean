/- Contracts of the closures, of selected and of the search. -/
import Derived.Test.YtaboolnmkfenlaaS5
namespace Go.Proofs.Ytaboolnmkfenlaa
open Go Go.Am
set_option linter.unusedVariables false
set_option linter.unusedSimpArgs false
theorem RepC_fn : FnOk Try.prog 45 := fn_ok Try.func45 (by kernel_rfl)
theorem TickC_fn : FnOk Try.prog 52 := fn_ok Try.func52 (by kernel_rfl)
theorem selected_fn : FnOk Try.prog 44 := fn_ok Try.func44 (by kernel_rfl)
theorem Search_fn : FnOk Try.prog 47 := fn_ok Try.func47 (by kernel_rfl)
def other (h g : Int) (x : Mem) : Bool := decide (x.host ≠ h ∨ x.group ≠ g)
theorem RepC_spec (x : Mem) (h g : Int) : PSpec Try.prog 45 [x.v, .rptr (.int h) 0, .rptr (.int g) 0] (.bool (other h g x)) := by
  refine PSpec.walk Try.func45 cf45_ok (by simp [cf45]) trivial ?_
  unfold cf45
  simp only [initT, Mem.v, ints]
  refine AWP.seq' ?_
  refine AWP.reg' fun K hK => ?_
  try simp only [stepS, stepD, stepM, eq_self, implies_true, forall_eq_or_imp, forall_eq, Nat.reduceEqDiff, ↓reduceIte, Nat.reduceAdd, Nat.reduceLeDiff, Nat.reduceSub, Nat.reduceMul, Nat.reduceLT, Int.reduceBEq, Int.reduceBNe, Int.reduceToNat, Int.reduceLT, Int.reduceLE, Int.reduceAdd, Int.reduceSub, Int.reduceMul, reduceCtorEq]
  refine hK _ _ _ ?_
  clear hK K
  refine AWP.seq' ?_
  by_cases h1 : x.host = h
  case neg =>
    have e : (x.host != h) = true := by simpa using h1
    refine AWP.reg' fun K hK => ?_
    try simp only [stepS, stepD, stepM, eq_self, implies_true, forall_eq_or_imp, forall_eq, Nat.reduceEqDiff, ↓reduceIte, Nat.reduceAdd, Nat.reduceLeDiff, Nat.reduceSub, Nat.reduceMul, Nat.reduceLT, Int.reduceBEq, Int.reduceBNe, Int.reduceToNat, Int.reduceLT, Int.reduceLE, Int.reduceAdd, Int.reduceSub, Int.reduceMul, reduceCtorEq, e]
    refine hK _ _ _ ?_
    clear hK K
    exact AWP.ret (finP_ret rfl (by simp only [other, ne_eq, h1, not_false_eq_true, true_or, decide_true]; rfl) trivial)
  have e : (x.host != h) = false := by simpa using h1
  refine AWP.reg' fun K hK => ?_
  try simp only [stepS, stepD, stepM, eq_self, implies_true, forall_eq_or_imp, forall_eq, Nat.reduceEqDiff, ↓reduceIte, Nat.reduceAdd, Nat.reduceLeDiff, Nat.reduceSub, Nat.reduceMul, Nat.reduceLT, Int.reduceBEq, Int.reduceBNe, Int.reduceToNat, Int.reduceLT, Int.reduceLE, Int.reduceAdd, Int.reduceSub, Int.reduceMul, reduceCtorEq, e]
  refine hK _ _ _ ?_
  clear hK K
  refine AWP.ret (finP_ret rfl ?_ trivial)
  show AV.bool (x.group != g) = _
  congr 2
  simp [other, h1]
  rfl
def living (now : Int) (x : Mem) : Bool := decide (now ≤ x.till)
theorem TickC_spec (x : Mem) (now : Int) : PSpec Try.prog 52 [x.v, .rptr (.int now) 0] (.bool (living now x)) := by
  refine PSpec.walk Try.func52 cf52_ok (by simp [cf52]) trivial ?_
  unfold cf52
  simp only [initT, Mem.v, ints]
  repeat (first
    | refine AWP.seq' ?_
    | refine AWP.skip ?_
    | (refine AWP.reg' fun K hK => ?_; simp only [stepS, stepD, stepM, eq_self, implies_true, forall_eq_or_imp, forall_eq, Nat.reduceEqDiff, ↓reduceIte, Nat.reduceAdd, Nat.reduceLeDiff, Nat.reduceSub, Nat.reduceMul, Nat.reduceLT, Int.reduceBEq, Int.reduceBNe, Int.reduceToNat, Int.reduceLT, Int.reduceLE, Int.reduceAdd, Int.reduceSub, Int.reduceMul, reduceCtorEq]; (repeat (refine And.intro (by omega) ?_)); refine hK _ _ _ ?_; clear hK K))
  exact AWP.ret (finP_ret rfl rfl trivial)

theorem pureL_mems (l : List Mem) : pureL (l.map Mem.v) := by
  rw [pureL_iff]; intro x hx; obtain ⟨i, _, rfl⟩ := List.mem_map.mp hx; exact Mem.v_pure i

theorem selected_spec (l : List Mem) (p : Mem → Bool) (fid : FuncId) (caps : List AV) (hk : ∀ x, PSpec Try.prog fid (x.v :: caps) (.bool (p x))) (hfn : FnOk Try.prog fid) (hcp : pureL caps) (hl : l.length ≤ 1000000)
    (hs : ∀ x ∈ l, x.srcs.length ≤ 1000000) :
    HSpec Try.prog 44 [mems l, .func fid caps] [] (.vec 0) [some (.vec 5 ((l.filter p).map Mem.v))] := by
  have hml := maxLen_eq
  have hfp : (AV.func fid caps).pure := hcp
  refine HSpec.walk Try.func44 cf44_ok (by simp [cf44]) ?_
  unfold cf44
  simp only [initT, initH, mems, List.length_nil]
  repeat (first
    | refine AWP.seq' ?_
    | refine AWP.skip ?_
    | (refine AWP.reg' fun K hK => ?_; simp only [stepS, stepD, stepM, eq_self, implies_true, forall_eq_or_imp, forall_eq, Nat.reduceEqDiff, ↓reduceIte, Nat.reduceAdd, Nat.reduceLeDiff, Nat.reduceSub, Nat.reduceMul, Nat.reduceLT, Int.reduceBEq, Int.reduceBNe, Int.reduceToNat, Int.reduceLT, Int.reduceLE, Int.reduceAdd, Int.reduceSub, Int.reduceMul, reduceCtorEq]; (repeat (refine And.intro (by omega) ?_)); refine hK _ _ _ ?_; clear hK K))
  refine AWP.weak (Weak.nilvec 5 0 5 rfl (by omega)) ?_
  refine AWP.block ?_
  refine AWP.loopS (fun i => ⟨resT [(1, .func fid caps), (5, .vec 0), (8, .sl 5 (l.map Mem.v) false), (9, .int l.length), (10, .int (i : Nat))], hpL 0 [some (.vec 5 (((l.take i).filter p).map Mem.v))], 1⟩)
    (fun i => i ≤ l.length) (fun i => l.length - i) (i0 := 0) (Nat.zero_le _) ?_ ?_
  · have hpv := pureL_mems ((l.take 0).filter p)
    refine Weak.nf [80] _ _ ?_ ?_ ⟨rfl, rfl⟩ (by decide) (by decide) (by decide)
    · repeat' (first | exact trivial | exact And.intro rfl trivial | refine And.intro ?_ ?_ | rfl | exact Nat.le_of_ble_eq_true rfl | exact (AV.ren_pure _ hfp).symm | exact AV.bel_pure hfp | exact congrArg some (vec_ren (m := 0) hpv).1.symm | exact (vec_ren (π := id) hpv).2)
    · repeat' (first | exact trivial | exact And.intro rfl trivial | refine And.intro ?_ ?_ | rfl | exact Nat.le_of_ble_eq_true rfl | exact (AV.ren_pure _ hfp).symm | exact AV.bel_pure hfp | exact congrArg some (vec_ren (m := 0) hpv).1.symm | exact (vec_ren (π := id) hpv).2)
  rintro i h1
  repeat (first
    | refine AWP.seq' ?_
    | refine AWP.skip ?_
    | (refine AWP.reg' fun K hK => ?_; simp only [stepS, stepD, stepM, eq_self, implies_true, forall_eq_or_imp, forall_eq, Nat.reduceEqDiff, ↓reduceIte, Nat.reduceAdd, Nat.reduceLeDiff, Nat.reduceSub, Nat.reduceMul, Nat.reduceLT, Int.reduceBEq, Int.reduceBNe, Int.reduceToNat, Int.reduceLT, Int.reduceLE, Int.reduceAdd, Int.reduceSub, Int.reduceMul, reduceCtorEq]; (repeat (refine And.intro (by omega) ?_)); refine hK _ _ _ ?_; clear hK K))
  refine AWP.cond (b := decide ((i : Int) < l.length)) rfl (fun h => ?_) (fun h => ?_)
  · have h : i < l.length := by have := of_decide_eq_true h; omega
    have w : IntKind.i64.wrap ((i : Int) + 1) = ((i + 1 : Nat) : Int) := wrapN (by omega) (by omega)
    have htk : l.take (i + 1) = l.take i ++ [l[i]] := by rw [List.take_add_one, List.getElem?_eq_getElem h]; rfl
    have hfl : ((l.take i).filter p).length ≤ 1000000 := Nat.le_trans (List.length_filter_le _ _) (by simp; omega)
    have hpv := pureL_mems ((l.take (i + 1)).filter p)
    refine AWP.skip ?_
    refine AWP.seq' ?_
    refine AWP.block ?_
    refine AWP.seq' ?_
    refine AWP.reg' fun K hK => ?_
    try simp only [stepS, stepD, stepM, eq_self, implies_true, forall_eq_or_imp, forall_eq, Nat.reduceEqDiff, ↓reduceIte, Nat.reduceAdd, Nat.reduceLeDiff, Nat.reduceSub, Nat.reduceMul, Nat.reduceLT, Int.reduceBEq, Int.reduceBNe, Int.reduceToNat, Int.reduceLT, Int.reduceLE, Int.reduceAdd, Int.reduceSub, Int.reduceMul, reduceCtorEq, getD_mems h]
    repeat (refine And.intro (by omega) ?_)
    refine hK _ _ _ ?_
    clear hK K
    refine AWP.seq' ?_
    refine AWP.reg' fun K hK => ?_
    try simp only [stepS, stepD, stepM, eq_self, implies_true, forall_eq_or_imp, forall_eq, Nat.reduceEqDiff, ↓reduceIte, Nat.reduceAdd, Nat.reduceLeDiff, Nat.reduceSub, Nat.reduceMul, Nat.reduceLT, Int.reduceBEq, Int.reduceBNe, Int.reduceToNat, Int.reduceLT, Int.reduceLE, Int.reduceAdd, Int.reduceSub, Int.reduceMul, reduceCtorEq]
    refine evT_pureC (hk l[i]) hfn rfl rfl ⟨Mem.v_pure _, hcp⟩ ?_
    try simp only [stepS, stepD, stepM, eq_self, implies_true, forall_eq_or_imp, forall_eq, Nat.reduceEqDiff, ↓reduceIte, Nat.reduceAdd, Nat.reduceLeDiff, Nat.reduceSub, Nat.reduceMul, Nat.reduceLT, Int.reduceBEq, Int.reduceBNe, Int.reduceToNat, Int.reduceLT, Int.reduceLE, Int.reduceAdd, Int.reduceSub, Int.reduceMul, reduceCtorEq]
    refine hK _ _ _ ?_
    clear hK K
    refine AWP.cond (b := p l[i]) rfl (fun g => ?_) (fun g => ?_)
    · have e : (l.take (i + 1)).filter p = (l.take i).filter p ++ [l[i]] := by rw [htk, List.filter_append]; simp [g]
      refine AWP.reg' fun K hK => ?_
      try simp only [stepS, stepD, stepM, eq_self, implies_true, forall_eq_or_imp, forall_eq, Nat.reduceEqDiff, ↓reduceIte, Nat.reduceAdd, Nat.reduceLeDiff, Nat.reduceSub, Nat.reduceMul, Nat.reduceLT, Int.reduceBEq, Int.reduceBNe, Int.reduceToNat, Int.reduceLT, Int.reduceLE, Int.reduceAdd, Int.reduceSub, Int.reduceMul, reduceCtorEq]
      refine evT_pure (copied_spec l[i] (hs _ (List.getElem_mem h))) copied_fn rfl (by rfl) (by repeat' (first | exact trivial | assumption | refine And.intro ?_ ?_)) ?_
      try simp only [stepS, stepD, stepM, eq_self, implies_true, forall_eq_or_imp, forall_eq, Nat.reduceEqDiff, ↓reduceIte, Nat.reduceAdd, Nat.reduceLeDiff, Nat.reduceSub, Nat.reduceMul, Nat.reduceLT, Int.reduceBEq, Int.reduceBNe, Int.reduceToNat, Int.reduceLT, Int.reduceLE, Int.reduceAdd, Int.reduceSub, Int.reduceMul, reduceCtorEq]
      refine evT_lit ?_
      try simp only [stepS, stepD, stepM, eq_self, implies_true, forall_eq_or_imp, forall_eq, Nat.reduceEqDiff, ↓reduceIte, Nat.reduceAdd, Nat.reduceLeDiff, Nat.reduceSub, Nat.reduceMul, Nat.reduceLT, Int.reduceBEq, Int.reduceBNe, Int.reduceToNat, Int.reduceLT, Int.reduceLE, Int.reduceAdd, Int.reduceSub, Int.reduceMul, reduceCtorEq, appendA, srcA, Mem.v, ints]
      repeat (refine And.intro (by omega) ?_)
      have he : ((l.take i).filter p).map Mem.v ++ [AV.agg [.int l[i].host, .int l[i].group, .int l[i].mode, .sl 1 (l[i].srcs.map .int) false, .int l[i].till]] = ((l.take (i + 1)).filter p).map Mem.v := by
        rw [e, List.map_append]; rfl
      rw [he]
      refine hK _ _ _ ?_
      clear hK K
      refine AWP.reg' fun K hK => ?_
      try simp only [stepS, stepD, stepM, eq_self, implies_true, forall_eq_or_imp, forall_eq, Nat.reduceEqDiff, ↓reduceIte, Nat.reduceAdd, Nat.reduceLeDiff, Nat.reduceSub, Nat.reduceMul, Nat.reduceLT, Int.reduceBEq, Int.reduceBNe, Int.reduceToNat, Int.reduceLT, Int.reduceLE, Int.reduceAdd, Int.reduceSub, Int.reduceMul, reduceCtorEq, w]
      refine hK _ _ _ ?_
      clear hK K
      refine ⟨i + 1, h, by omega, ?_⟩
      refine Weak.nf [193] _ _ ?_ ?_ ⟨rfl, rfl⟩ (by decide) (by decide) (by decide)
      · repeat' (first | exact trivial | exact And.intro rfl trivial | refine And.intro ?_ ?_ | rfl | exact Nat.le_of_ble_eq_true rfl | exact (AV.ren_pure _ hfp).symm | exact AV.bel_pure hfp | exact congrArg some (vec_ren (m := 0) hpv).1.symm | exact (vec_ren (π := id) hpv).2)
      · repeat' (first | exact trivial | exact And.intro rfl trivial | refine And.intro ?_ ?_ | rfl | exact Nat.le_of_ble_eq_true rfl | exact (AV.ren_pure _ hfp).symm | exact AV.bel_pure hfp | exact congrArg some (vec_ren (m := 0) hpv).1.symm | exact (vec_ren (π := id) hpv).2)
    have e : (l.take (i + 1)).filter p = (l.take i).filter p := by rw [htk, List.filter_append]; simp [g]
    rw [e] at hpv
    refine AWP.skip ?_
    refine AWP.reg' fun K hK => ?_
    try simp only [stepS, stepD, stepM, eq_self, implies_true, forall_eq_or_imp, forall_eq, Nat.reduceEqDiff, ↓reduceIte, Nat.reduceAdd, Nat.reduceLeDiff, Nat.reduceSub, Nat.reduceMul, Nat.reduceLT, Int.reduceBEq, Int.reduceBNe, Int.reduceToNat, Int.reduceLT, Int.reduceLE, Int.reduceAdd, Int.reduceSub, Int.reduceMul, reduceCtorEq, w]
    refine hK _ _ _ ?_
    clear hK K
    refine ⟨i + 1, h, by omega, ?_⟩
    rw [e]
    refine Weak.nf [0] _ _ ?_ ?_ ⟨rfl, rfl⟩ (by decide) (by decide) (by decide)
    · repeat' (first | exact trivial | exact And.intro rfl trivial | refine And.intro ?_ ?_ | rfl | exact Nat.le_of_ble_eq_true rfl | exact (AV.ren_pure _ hfp).symm | exact AV.bel_pure hfp | exact congrArg some (vec_ren (m := 0) hpv).1.symm | exact (vec_ren (π := id) hpv).2)
    · repeat' (first | exact trivial | exact And.intro rfl trivial | refine And.intro ?_ ?_ | rfl | exact Nat.le_of_ble_eq_true rfl | exact (AV.ren_pure _ hfp).symm | exact AV.bel_pure hfp | exact congrArg some (vec_ren (m := 0) hpv).1.symm | exact (vec_ren (π := id) hpv).2)
  have h : ¬ i < l.length := by have := of_decide_eq_false h; omega
  have hpv := pureL_mems (l.filter p)
  rw [List.take_of_length_le (by omega)]
  refine AWP.exit ?_
  repeat (first
    | refine AWP.seq' ?_
    | refine AWP.skip ?_
    | (refine AWP.reg' fun K hK => ?_; simp only [stepS, stepD, stepM, eq_self, implies_true, forall_eq_or_imp, forall_eq, Nat.reduceEqDiff, ↓reduceIte, Nat.reduceAdd, Nat.reduceLeDiff, Nat.reduceSub, Nat.reduceMul, Nat.reduceLT, Int.reduceBEq, Int.reduceBNe, Int.reduceToNat, Int.reduceLT, Int.reduceLE, Int.reduceAdd, Int.reduceSub, Int.reduceMul, reduceCtorEq]; (repeat (refine And.intro (by omega) ?_)); refine hK _ _ _ ?_; clear hK K))
  refine AWP.ret (fin_ren [0] [(4, .vec 0)] rfl rfl ?_ ?_ rfl (by simp) (by simp) (by simp))
  · simp only [List.mem_singleton, forall_eq]
    exact ⟨rfl, Nat.zero_lt_one⟩
  · exact ⟨⟨congrArg some (vec_ren (m := 0) hpv).1.symm, (vec_ren (π := id) hpv).2⟩, trivial⟩

theorem Search_spec (l : List Mem) (g h : Int) (q : Nat) (hl : l.length ≤ 1000000) (hq : q ≤ l.length) (hlo : ∀ j, (hj : j < l.length) → j < q → ltM l[j] g h) (hhi : ∀ j, (hj : j < l.length) → q ≤ j → ¬ ltM l[j] g h) :
    PSpec Try.prog 47 [mems l, .agg [.int g, .int h], .func 48 []] (.tup [.int q, .bool (decide (q < l.length ∧ (l.getD q mem0).group = g ∧ (l.getD q mem0).host = h))]) := by
  refine PSpec.walk Try.func47 cf47_ok (by simp [cf47]) ⟨trivial, trivial, trivial⟩ ?_
  unfold cf47
  simp only [initT, mems]
  repeat (first
    | refine AWP.seq' ?_
    | refine AWP.skip ?_
    | (refine AWP.reg' fun K hK => ?_; simp only [stepS, stepD, stepM, eq_self, implies_true, forall_eq_or_imp, forall_eq, Nat.reduceEqDiff, ↓reduceIte, Nat.reduceAdd, Nat.reduceLeDiff, Nat.reduceSub, Nat.reduceMul, Nat.reduceLT, Int.reduceBEq, Int.reduceBNe, Int.reduceToNat, Int.reduceLT, Int.reduceLE, Int.reduceAdd, Int.reduceSub, Int.reduceMul, reduceCtorEq]; (repeat (refine And.intro (by omega) ?_)); refine hK _ _ _ ?_; clear hK K))
  refine AWP.block ?_
  refine AWP.loopS (σ := Nat × Nat) (fun s => ⟨resT [(0, .sl 5 (l.map Mem.v) false), (2, .func 48 []), (4, .ref 0 0), (8, .int l.length), (9, .int (s.1 : Nat)), (10, .int (s.2 : Nat))], hpL 0 [some (.box (.agg [.int g, .int h]))], 1⟩)
    (fun s => s.1 ≤ q ∧ q ≤ s.2 ∧ s.2 ≤ l.length) (fun s => s.2 - s.1) (i0 := (0, l.length)) ⟨Nat.zero_le _, hq, Nat.le_refl _⟩ ?_ ?_
  · refine Weak.nf [0] _ _ ?_ ?_ ⟨rfl, rfl⟩ (by decide) (by decide) (by decide)
    · repeat' (first | exact trivial | exact And.intro rfl trivial | refine And.intro ?_ ?_ | rfl | exact Nat.le_of_ble_eq_true rfl)
    · repeat' (first | exact trivial | exact And.intro rfl trivial | refine And.intro ?_ ?_ | rfl | exact Nat.le_of_ble_eq_true rfl)
  rintro ⟨a, b⟩ ⟨h1, h2, h3⟩
  simp only at h1 h2 h3 ⊢
  repeat (first
    | refine AWP.seq' ?_
    | refine AWP.skip ?_
    | (refine AWP.reg' fun K hK => ?_; simp only [stepS, stepD, stepM, eq_self, implies_true, forall_eq_or_imp, forall_eq, Nat.reduceEqDiff, ↓reduceIte, Nat.reduceAdd, Nat.reduceLeDiff, Nat.reduceSub, Nat.reduceMul, Nat.reduceLT, Int.reduceBEq, Int.reduceBNe, Int.reduceToNat, Int.reduceLT, Int.reduceLE, Int.reduceAdd, Int.reduceSub, Int.reduceMul, reduceCtorEq]; (repeat (refine And.intro (by omega) ?_)); refine hK _ _ _ ?_; clear hK K))
  refine AWP.cond (b := decide ((a : Int) < b)) rfl (fun hc => ?_) (fun hc => ?_)
  · have hc : a < b := by have := of_decide_eq_true hc; omega
    refine AWP.skip ?_
    refine AWP.block ?_
    have w1 : IntKind.i64.wrap ((a : Int) + b) = ((a + b : Nat) : Int) := wrapN (by omega) (by omega)
    have w2 : IntKind.u64.wrap ((a + b : Nat) : Int) = ((a + b : Nat) : Int) := IntWalk.u64_in _ (by omega)
    have w3 : IntKind.i64.wrap (((a + b : Nat) : Int).fdiv (2 ^ Nat.min 1 IntKind.u64.bits)) = (((a + b) / 2 : Nat) : Int) := by
      rw [show (2 ^ Nat.min 1 IntKind.u64.bits : Int) = 2 from rfl, Int.fdiv_eq_ediv_of_nonneg _ (by omega), wrap64 (by omega)]
      omega
    generalize hm : (a + b) / 2 = m at w3
    have hmn : m < l.length := by omega
    have w4 : IntKind.i64.wrap ((m : Int) + 1) = ((m + 1 : Nat) : Int) := wrapN (by omega) (by omega)
    refine AWP.seq' ?_
    refine AWP.reg' fun K hK => ?_
    try simp only [stepS, stepD, stepM, eq_self, implies_true, forall_eq_or_imp, forall_eq, Nat.reduceEqDiff, ↓reduceIte, Nat.reduceAdd, Nat.reduceLeDiff, Nat.reduceSub, Nat.reduceMul, Nat.reduceLT, Int.reduceBEq, Int.reduceBNe, Int.reduceToNat, Int.reduceLT, Int.reduceLE, Int.reduceAdd, Int.reduceSub, Int.reduceMul, reduceCtorEq, w1, w2, w3]
    refine hK _ _ _ ?_
    clear hK K
    refine AWP.seq' ?_
    refine AWP.dreg' fun K hK => ?_
    try simp only [stepS, stepD, stepM, eq_self, implies_true, forall_eq_or_imp, forall_eq, Nat.reduceEqDiff, ↓reduceIte, Nat.reduceAdd, Nat.reduceLeDiff, Nat.reduceSub, Nat.reduceMul, Nat.reduceLT, Int.reduceBEq, Int.reduceBNe, Int.reduceToNat, Int.reduceLT, Int.reduceLE, Int.reduceAdd, Int.reduceSub, Int.reduceMul, reduceCtorEq, getD_mems hmn]
    repeat (refine And.intro (by omega) ?_)
    refine evD_pure (compare_spec l[m] g h) compare_fn rfl (by rfl) (by repeat' (first | exact trivial | assumption | refine And.intro ?_ ?_)) ?_
    try simp only [stepS, stepD, stepM, eq_self, implies_true, forall_eq_or_imp, forall_eq, Nat.reduceEqDiff, ↓reduceIte, Nat.reduceAdd, Nat.reduceLeDiff, Nat.reduceSub, Nat.reduceMul, Nat.reduceLT, Int.reduceBEq, Int.reduceBNe, Int.reduceToNat, Int.reduceLT, Int.reduceLE, Int.reduceAdd, Int.reduceSub, Int.reduceMul, reduceCtorEq]
    refine ⟨by rfl, hK _ _ _ ?_⟩
    clear hK K
    refine AWP.cond (b := decide (cmpM l[m] g h < 0)) rfl (fun k => ?_) (fun k => ?_)
    · have k := (cmpM_lt _ _ _).mp (of_decide_eq_true k)
      have hq2 : m < q := Classical.byContradiction fun e => hhi m hmn (by omega) k
      refine AWP.reg' fun K hK => ?_
      try simp only [stepS, stepD, stepM, eq_self, implies_true, forall_eq_or_imp, forall_eq, Nat.reduceEqDiff, ↓reduceIte, Nat.reduceAdd, Nat.reduceLeDiff, Nat.reduceSub, Nat.reduceMul, Nat.reduceLT, Int.reduceBEq, Int.reduceBNe, Int.reduceToNat, Int.reduceLT, Int.reduceLE, Int.reduceAdd, Int.reduceSub, Int.reduceMul, reduceCtorEq, w4]
      refine hK _ _ _ ?_
      clear hK K
      refine ⟨(m + 1, b), ⟨by show m + 1 ≤ q; omega, h2, h3⟩, by show b - (m + 1) < b - a; omega, ?_⟩
      refine Weak.nf [0] _ _ ?_ ?_ ⟨rfl, rfl⟩ (by decide) (by decide) (by decide)
      · repeat' (first | exact trivial | exact And.intro rfl trivial | refine And.intro ?_ ?_ | rfl | exact Nat.le_of_ble_eq_true rfl)
      · repeat' (first | exact trivial | exact And.intro rfl trivial | refine And.intro ?_ ?_ | rfl | exact Nat.le_of_ble_eq_true rfl)
    have k : ¬ ltM l[m] g h := fun e => (of_decide_eq_false k) ((cmpM_lt _ _ _).mpr e)
    have hq2 : q ≤ m := Classical.byContradiction fun e => k (hlo m hmn (by omega))
    refine AWP.reg' fun K hK => ?_
    try simp only [stepS, stepD, stepM, eq_self, implies_true, forall_eq_or_imp, forall_eq, Nat.reduceEqDiff, ↓reduceIte, Nat.reduceAdd, Nat.reduceLeDiff, Nat.reduceSub, Nat.reduceMul, Nat.reduceLT, Int.reduceBEq, Int.reduceBNe, Int.reduceToNat, Int.reduceLT, Int.reduceLE, Int.reduceAdd, Int.reduceSub, Int.reduceMul, reduceCtorEq]
    refine hK _ _ _ ?_
    clear hK K
    refine ⟨(a, m), ⟨h1, hq2, by show m ≤ l.length; omega⟩, by show m - a < b - a; omega, ?_⟩
    refine Weak.nf [0] _ _ ?_ ?_ ⟨rfl, rfl⟩ (by decide) (by decide) (by decide)
    · repeat' (first | exact trivial | exact And.intro rfl trivial | refine And.intro ?_ ?_ | rfl | exact Nat.le_of_ble_eq_true rfl)
    · repeat' (first | exact trivial | exact And.intro rfl trivial | refine And.intro ?_ ?_ | rfl | exact Nat.le_of_ble_eq_true rfl)
  have hc : ¬ a < b := by have := of_decide_eq_false hc; omega
  have hab : a = q := by omega
  subst hab
  refine AWP.exit ?_
  refine AWP.seq' ?_
  by_cases hn : a < l.length
  case neg =>
    have e : ¬ ((a : Int) < l.length) := by omega
    refine AWP.dreg' fun K hK => ?_
    try simp only [stepS, stepD, stepM, eq_self, implies_true, forall_eq_or_imp, forall_eq, Nat.reduceEqDiff, ↓reduceIte, Nat.reduceAdd, Nat.reduceLeDiff, Nat.reduceSub, Nat.reduceMul, Nat.reduceLT, Int.reduceBEq, Int.reduceBNe, Int.reduceToNat, Int.reduceLT, Int.reduceLE, Int.reduceAdd, Int.reduceSub, Int.reduceMul, reduceCtorEq, e]
    refine ⟨by rfl, hK _ _ _ ?_⟩
    clear hK K
    refine AWP.ret (finP_ret rfl ?_ ⟨trivial, trivial, trivial⟩)
    simp only [hn, false_and, decide_false]
    rfl
  have e : (a : Int) < l.length := by omega
  have ek : (cmpM l[a] g h == 0) = decide (a < l.length ∧ (l.getD a mem0).group = g ∧ (l.getD a mem0).host = h) := by
    rw [getD_mem hn]
    have := cmpM_eq l[a] g h
    by_cases k : cmpM l[a] g h = 0
    · rw [k]; simp [this.mp k, hn]
    · have k2 : ¬ (l[a].group = g ∧ l[a].host = h) := fun x => k (this.mpr x)
      simp only [hn, true_and, k2, decide_false]
      simpa using k
  refine AWP.dreg' fun K hK => ?_
  try simp only [stepS, stepD, stepM, eq_self, implies_true, forall_eq_or_imp, forall_eq, Nat.reduceEqDiff, ↓reduceIte, Nat.reduceAdd, Nat.reduceLeDiff, Nat.reduceSub, Nat.reduceMul, Nat.reduceLT, Int.reduceBEq, Int.reduceBNe, Int.reduceToNat, Int.reduceLT, Int.reduceLE, Int.reduceAdd, Int.reduceSub, Int.reduceMul, reduceCtorEq, e, getD_mems hn]
  repeat (refine And.intro (by omega) ?_)
  refine evD_pure (compare_spec l[a] g h) compare_fn rfl (by rfl) (by repeat' (first | exact trivial | assumption | refine And.intro ?_ ?_)) ?_
  try simp only [stepS, stepD, stepM, eq_self, implies_true, forall_eq_or_imp, forall_eq, Nat.reduceEqDiff, ↓reduceIte, Nat.reduceAdd, Nat.reduceLeDiff, Nat.reduceSub, Nat.reduceMul, Nat.reduceLT, Int.reduceBEq, Int.reduceBNe, Int.reduceToNat, Int.reduceLT, Int.reduceLE, Int.reduceAdd, Int.reduceSub, Int.reduceMul, reduceCtorEq, ek]
  refine ⟨by rfl, hK _ _ _ ?_⟩
  clear hK K
  refine AWP.ret (finP_ret rfl rfl ⟨trivial, trivial, trivial⟩)
end Go.Proofs.Ytaboolnmkfenlaa
