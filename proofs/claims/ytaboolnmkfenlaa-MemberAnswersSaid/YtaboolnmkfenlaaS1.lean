/- Contracts of package slices: Insert of one element. -/
import Derived.Test.YtaboolnmkfenlaaF2
import Derived.Test.YtaboolnmkfenlaaAmB
namespace Go.Proofs.Ytaboolnmkfenlaa
open Go Go.Am
set_option linter.unusedVariables false
set_option linter.unusedSimpArgs false
theorem fin_weak {k n : Nat} {res : List AR} {r : AV} {h' : List (Option Blk)} {s s1 : S3} (hw : Weak k n s s1) (h : fin k n res r h' .ret s1) : fin k n res r h' .ret s := by
  obtain ⟨s', g1, g2⟩ := h
  exact ⟨s', hw.trans g1, g2⟩
def insAt {α : Type} (es : List α) (i : Nat) (x : α) : List α := es.take i ++ [x] ++ es.drop i

theorem pureL_append {xs ys : List AV} (h : pureL xs) (h' : pureL ys) : pureL (xs ++ ys) := by
  rw [pureL_iff] at *
  intro x hx
  rcases List.mem_append.mp hx with hx | hx
  · exact h x hx
  · exact h' x hx
theorem pureL_take {xs : List AV} (h : pureL xs) (n : Nat) : pureL (xs.take n) := by
  rw [pureL_iff] at *; exact fun x hx => h x (List.mem_of_mem_take hx)
theorem pureL_drop {xs : List AV} (h : pureL xs) (n : Nat) : pureL (xs.drop n) := by
  rw [pureL_iff] at *; exact fun x hx => h x (List.mem_of_mem_drop hx)
theorem pureL_insAt {es : List AV} {x : AV} (h : pureL es) (hx : x.pure) (i : Nat) : pureL (insAt es i x) := pureL_append (pureL_append (pureL_take h i) ⟨hx, trivial⟩) (pureL_drop h i)
theorem vec_ren {k m : Nat} {es : List AV} {π : Nat → Nat} (h : pureL es) : (Blk.vec k es).ren π = .vec k es ∧ (Blk.vec k es).bel m := ⟨by rw [Blk.ren, renL_pure _ h], belL_pure h⟩

theorem overlaps_none : (Try.f68.name == "runtime.NumGoroutine") = false ∧ Try.f68.body.isNone = true := ⟨by kernel_rfl, by kernel_rfl⟩
theorem overlaps_next : Extern.findNext Try.f68 = none := by kernel_rfl
theorem overlaps_find : Extern.find Try.f68 = some (Extern.SlicesOverlaps.overlaps #[35, 35] #[4]) := by kernel_rfl
theorem overlaps_size : sizeOf? Try.prog 44 = some 5 := by kernel_rfl
theorem overlaps_ty : Program.underlying Try.prog 35 = some (.slice 44) := by kernel_rfl
theorem Insert_row (es : List AV) (x : AV) (i cap : Nat) (hi : i ≤ es.length) (hx : x.solid = true) (h1 : es.length ≤ cap) (h2 : cap ≤ maxLen) (hs : es.length ≤ 1000000) (hp : pureL es ∧ x.pure) :
    HSpec Try.prog 49 [.vec 0, .int i, .vec 1] [.row 5 es es.length cap, .vec 5 [x]] (.vec 2) [none, none, some (.vec 5 (insAt es i x))] := by
  have hml := maxLen_eq
  refine HSpec.walk Try.func49 cf49_ok (by simp [cf49]) ?_
  unfold cf49
  simp only [initT, initH, List.length_cons, List.length_nil]
  refine AWP.seq' ?_
  refine AWP.reg' fun K hK => ?_
  try simp only [stepS, stepD, stepM, eq_self, implies_true, forall_eq_or_imp, forall_eq, Nat.reduceEqDiff, ↓reduceIte, Nat.reduceAdd, Nat.reduceLeDiff, Nat.reduceSub, Nat.reduceMul, Nat.reduceLT, Int.reduceBEq, Int.reduceBNe, Int.reduceToNat, Int.reduceLT, Int.reduceLE, Int.reduceAdd, Int.reduceSub, Int.reduceMul, reduceCtorEq]
  refine hK _ _ _ ?_
  clear hK K
  refine AWP.seq' ?_
  refine AWP.reg' fun K hK => ?_
  try simp only [stepS, stepD, stepM, eq_self, implies_true, forall_eq_or_imp, forall_eq, Nat.reduceEqDiff, ↓reduceIte, Nat.reduceAdd, Nat.reduceLeDiff, Nat.reduceSub, Nat.reduceMul, Nat.reduceLT, Int.reduceBEq, Int.reduceBNe, Int.reduceToNat, Int.reduceLT, Int.reduceLE, Int.reduceAdd, Int.reduceSub, Int.reduceMul, reduceCtorEq]
  repeat (refine And.intro (by omega) ?_)
  refine hK _ _ _ ?_
  clear hK K
  refine AWP.seq' ?_
  refine AWP.reg' fun K hK => ?_
  try simp only [stepS, stepD, stepM, eq_self, implies_true, forall_eq_or_imp, forall_eq, Nat.reduceEqDiff, ↓reduceIte, Nat.reduceAdd, Nat.reduceLeDiff, Nat.reduceSub, Nat.reduceMul, Nat.reduceLT, Int.reduceBEq, Int.reduceBNe, Int.reduceToNat, Int.reduceLT, Int.reduceLE, Int.reduceAdd, Int.reduceSub, Int.reduceMul, reduceCtorEq]
  refine hK _ _ _ ?_
  clear hK K
  refine AWP.seq' (AWP.seq' ?_)
  refine AWP.reg' fun K hK => ?_
  try simp only [stepS, stepD, stepM, eq_self, implies_true, forall_eq_or_imp, forall_eq, Nat.reduceEqDiff, ↓reduceIte, Nat.reduceAdd, Nat.reduceLeDiff, Nat.reduceSub, Nat.reduceMul, Nat.reduceLT, Int.reduceBEq, Int.reduceBNe, Int.reduceToNat, Int.reduceLT, Int.reduceLE, Int.reduceAdd, Int.reduceSub, Int.reduceMul, reduceCtorEq]
  refine hK _ _ _ ?_
  clear hK K
  refine AWP.cond (b := false) rfl (fun h => by cases h) (fun _ => ?_)
  refine AWP.skip ?_
  refine AWP.seq' ?_
  refine AWP.reg' fun K hK => ?_
  try simp only [stepS, stepD, stepM, eq_self, implies_true, forall_eq_or_imp, forall_eq, Nat.reduceEqDiff, ↓reduceIte, Nat.reduceAdd, Nat.reduceLeDiff, Nat.reduceSub, Nat.reduceMul, Nat.reduceLT, Int.reduceBEq, Int.reduceBNe, Int.reduceToNat, Int.reduceLT, Int.reduceLE, Int.reduceAdd, Int.reduceSub, Int.reduceMul, reduceCtorEq]
  refine hK _ _ _ ?_
  clear hK K
  refine AWP.seq' (AWP.seq' ?_)
  refine AWP.reg' fun K hK => ?_
  try simp only [stepS, stepD, stepM, eq_self, implies_true, forall_eq_or_imp, forall_eq, Nat.reduceEqDiff, ↓reduceIte, Nat.reduceAdd, Nat.reduceLeDiff, Nat.reduceSub, Nat.reduceMul, Nat.reduceLT, Int.reduceBEq, Int.reduceBNe, Int.reduceToNat, Int.reduceLT, Int.reduceLE, Int.reduceAdd, Int.reduceSub, Int.reduceMul, reduceCtorEq]
  refine hK _ _ _ ?_
  clear hK K
  refine AWP.cond (b := ((i : Int) == (es.length : Int))) rfl (fun h => ?_) (fun h => ?_)
  · have h : i = es.length := by have := eq_of_beq h; omega
    refine AWP.seq' ?_
    refine AWP.reg' fun K hK => ?_
    try simp only [stepS, stepD, stepM, eq_self, implies_true, forall_eq_or_imp, forall_eq, Nat.reduceEqDiff, ↓reduceIte, Nat.reduceAdd, Nat.reduceLeDiff, Nat.reduceSub, Nat.reduceMul, Nat.reduceLT, Int.reduceBEq, Int.reduceBNe, Int.reduceToNat, Int.reduceLT, Int.reduceLE, Int.reduceAdd, Int.reduceSub, Int.reduceMul, reduceCtorEq, appendA, srcA]
    repeat (refine And.intro (by omega) ?_)
    refine hK _ _ _ ?_
    clear hK K
    refine AWP.ret (fin_ren [0, 1, 274] [(6, .vec 2)] rfl rfl ?_ ?_ rfl (by simp) ?_ (by simp))
    · simp only [List.mem_singleton, forall_eq]
      exact ⟨rfl, show (2 : Nat) < 3 by omega⟩
    · refine ⟨⟨?_, ?_⟩, trivial⟩
      · rw [(vec_ren (m := 0) (pureL_insAt hp.1 hp.2 i)).1]
        show some (Blk.vec 5 (es ++ [x])) = _
        rw [insAt, h, List.take_length, List.drop_length, List.append_nil]
      · exact (vec_ren (π := id) (pureL_insAt hp.1 hp.2 i)).2
    · intro b hb
      match b, hb with
      | 0, _ => rfl
      | 1, _ => rfl
  have h : ¬ i = es.length := by intro e; subst e; simp at h
  refine AWP.skip ?_
  refine AWP.seq' (AWP.seq' ?_)
  have w1 : IntKind.i64.wrap ((es.length : Int) + 1) = es.length + 1 := wrap64 (by omega)
  refine AWP.reg' fun K hK => ?_
  try simp only [stepS, stepD, stepM, eq_self, implies_true, forall_eq_or_imp, forall_eq, Nat.reduceEqDiff, ↓reduceIte, Nat.reduceAdd, Nat.reduceLeDiff, Nat.reduceSub, Nat.reduceMul, Nat.reduceLT, Int.reduceBEq, Int.reduceBNe, Int.reduceToNat, Int.reduceLT, Int.reduceLE, Int.reduceAdd, Int.reduceSub, Int.reduceMul, reduceCtorEq, w1]
  refine hK _ _ _ ?_
  clear hK K
  refine AWP.cond (b := decide ((cap : Int) < (es.length : Int) + 1)) rfl (fun h3 => ?_) (fun h3 => ?_)
  · have h3 : cap = es.length := by have := of_decide_eq_true h3; omega
    refine AWP.seq' ?_
    have w2 : IntKind.i64.wrap ((es.length : Int) + 1 - i) = es.length + 1 - i := wrap64 (by omega)
    have hlt : ¬ ((es.length : Int) < (i : Int)) := by omega
    refine AWP.reg' fun K hK => ?_
    try simp only [stepS, stepD, stepM, eq_self, implies_true, forall_eq_or_imp, forall_eq, Nat.reduceEqDiff, ↓reduceIte, Nat.reduceAdd, Nat.reduceLeDiff, Nat.reduceSub, Nat.reduceMul, Nat.reduceLT, Int.reduceBEq, Int.reduceBNe, Int.reduceToNat, Int.reduceLT, Int.reduceLE, Int.reduceAdd, Int.reduceSub, Int.reduceMul, reduceCtorEq, w1, w2, appendZA, Int.toNat_natCast, hlt]
    repeat (refine And.intro (by omega) ?_)
    refine hK _ _ _ ?_
    clear hK K
    have hn : ((es.length : Int) + 1 - i).toNat = es.length + 1 - i := by omega
    rw [hn]
    generalize hL : es.take i ++ List.replicate (es.length + 1 - i) (AV.agg [AV.val (Value.int IntKind.i64 0), AV.val (Value.int IntKind.i64 0), AV.val (Value.int IntKind.i64 0), AV.sl 0 [] true, AV.val (Value.int IntKind.i64 0)]) = L
    have hLl : L.length = es.length + 1 := by rw [← hL]; simp; omega
    refine AWP.seq' ?_
    have hpos : 0 < es.length + 1 := by omega
    have hsub : (((es.length + 1 : Nat) : Int) - (i : Int)).toNat = es.length + 1 - i := by omega
    have hmin : Nat.min 1 (es.length + 1 - i) = 1 := Nat.min_eq_left (by omega)
    refine AWP.reg' fun K hK => ?_
    try simp only [stepS, stepD, stepM, eq_self, implies_true, forall_eq_or_imp, forall_eq, Nat.reduceEqDiff, ↓reduceIte, Nat.reduceAdd, Nat.reduceLeDiff, Nat.reduceSub, Nat.reduceMul, Nat.reduceLT, Int.reduceBEq, Int.reduceBNe, Int.reduceToNat, Int.reduceLT, Int.reduceLE, Int.reduceAdd, Int.reduceSub, Int.reduceMul, reduceCtorEq, hLl, copyA, srcP, srcA, Int.toNat_natCast, hpos, hsub, hmin]
    repeat (refine And.intro (by omega) ?_)
    refine hK _ _ _ ?_
    clear hK K
    have ht1 : List.take 1 [x] = [x] := rfl
    have w3 : IntKind.i64.wrap ((i : Int) + 1) = i + 1 := wrap64 (by omega)
    generalize hM : over L i [x] = M
    have hMl : M.length = es.length + 1 := by rw [← hM, over_length (by omega), Nat.max_def]; split <;> simp at * <;> omega
    refine AWP.seq' ?_
    have ha : ((es.length : Int) - (i : Int)).toNat = es.length - i := by omega
    have hb : (((es.length + 1 : Nat) : Int) - ((i : Int) + 1)).toNat = es.length - i := by omega
    have hc : ((i : Int) + 1).toNat = i + 1 := by omega
    have hd : Nat.min (es.length - i) (es.length - i) = es.length - i := Nat.min_self _
    have he : (es.drop i).take (es.length - i) = es.drop i := List.take_of_length_le (by simp)
    have hf : (es.drop i).length = es.length - i := List.length_drop ..
    refine AWP.dreg' fun K hK => ?_
    try simp only [stepS, stepD, stepM, eq_self, implies_true, forall_eq_or_imp, forall_eq, Nat.reduceEqDiff, ↓reduceIte, Nat.reduceAdd, Nat.reduceLeDiff, Nat.reduceSub, Nat.reduceMul, Nat.reduceLT, Int.reduceBEq, Int.reduceBNe, Int.reduceToNat, Int.reduceLT, Int.reduceLE, Int.reduceAdd, Int.reduceSub, Int.reduceMul, reduceCtorEq, hMl, copyA, srcP, srcA, Int.toNat_natCast, hpos, w3, ha, hb, hc, hd, he, hf]
    repeat (refine And.intro (by omega) ?_)
    refine ⟨by rfl, hK _ _ _ ?_⟩
    clear hK K
    refine AWP.seq' ?_
    refine AWP.reg' fun K hK => ?_
    try simp only [stepS, stepD, stepM, eq_self, implies_true, forall_eq_or_imp, forall_eq, Nat.reduceEqDiff, ↓reduceIte, Nat.reduceAdd, Nat.reduceLeDiff, Nat.reduceSub, Nat.reduceMul, Nat.reduceLT, Int.reduceBEq, Int.reduceBNe, Int.reduceToNat, Int.reduceLT, Int.reduceLE, Int.reduceAdd, Int.reduceSub, Int.reduceMul, reduceCtorEq]
    refine hK _ _ _ ?_
    clear hK K
    have hfin : over M (i + 1) (es.drop i) = insAt es i x := by
      have hLi : L.take i = es.take i := by
        rw [← hL, List.take_append_of_le_length (by simp; omega), List.take_take, Nat.min_self]
      have hMi : M.take (i + 1) = es.take i ++ [x] := by
        have e1 : (es.take i ++ [x]).length = i + 1 := by simp; omega
        rw [← hM, over, hLi, ← e1]
        exact List.take_left
      have hMd : M.drop (i + 1 + (es.drop i).length) = [] := List.drop_of_length_le (by rw [hMl, hf]; omega)
      unfold over insAt
      rw [hMi, hMd, List.append_nil]
    refine AWP.ret (fin_ren [0, 1, 466] [(6, .vec 2)] rfl rfl ?_ ?_ rfl (by simp) ?_ (by simp))
    · simp only [List.mem_singleton, forall_eq]
      exact ⟨rfl, show (2 : Nat) < 3 by omega⟩
    · refine ⟨⟨?_, ?_⟩, trivial⟩
      · rw [(vec_ren (m := 0) (pureL_insAt hp.1 hp.2 i)).1, ← hfin]
        rfl
      · exact (vec_ren (π := id) (pureL_insAt hp.1 hp.2 i)).2
    · intro b hb
      match b, hb with
      | 0, _ => rfl
      | 1, _ => rfl
  have h3 : es.length + 1 ≤ cap := by have := of_decide_eq_false h3; omega
  refine AWP.skip ?_
  refine AWP.seq' ?_
  have hgt : ((es.length : Int) < (es.length : Int) + 1) := by omega
  refine AWP.reg' fun K hK => ?_
  try simp only [stepS, stepD, stepM, eq_self, implies_true, forall_eq_or_imp, forall_eq, Nat.reduceEqDiff, ↓reduceIte, Nat.reduceAdd, Nat.reduceLeDiff, Nat.reduceSub, Nat.reduceMul, Nat.reduceLT, Int.reduceBEq, Int.reduceBNe, Int.reduceToNat, Int.reduceLT, Int.reduceLE, Int.reduceAdd, Int.reduceSub, Int.reduceMul, reduceCtorEq, w1, hgt]
  repeat (refine And.intro (by omega) ?_)
  refine hK _ _ _ ?_
  clear hK K
  have w3 : IntKind.i64.wrap ((i : Int) + 1) = i + 1 := wrap64 (by omega)
  refine AWP.seq' (AWP.seq' ?_)
  have hn1 : ((es.length : Int) + 1).toNat = es.length + 1 := by omega
  refine AWP.reg' fun K hK => ?_
  try simp only [stepS, stepD, stepM, eq_self, implies_true, forall_eq_or_imp, forall_eq, Nat.reduceEqDiff, ↓reduceIte, Nat.reduceAdd, Nat.reduceLeDiff, Nat.reduceSub, Nat.reduceMul, Nat.reduceLT, Int.reduceBEq, Int.reduceBNe, Int.reduceToNat, Int.reduceLT, Int.reduceLE, Int.reduceAdd, Int.reduceSub, Int.reduceMul, reduceCtorEq, w3, Int.toNat_natCast, hn1]
  repeat (refine And.intro (by omega) ?_)
  refine evT_ext rfl rfl (ext_overlaps Try.func68 overlaps_none.1 overlaps_none.2 overlaps_next overlaps_find overlaps_ty overlaps_size (by omega) rfl rfl (by omega) (by simp) (by omega)) ?_
  try simp only [stepS, stepD, stepM, eq_self, implies_true, forall_eq_or_imp, forall_eq, Nat.reduceEqDiff, ↓reduceIte, Nat.reduceAdd, Nat.reduceLeDiff, Nat.reduceSub, Nat.reduceMul, Nat.reduceLT, Int.reduceBEq, Int.reduceBNe, Int.reduceToNat, Int.reduceLT, Int.reduceLE, Int.reduceAdd, Int.reduceSub, Int.reduceMul, reduceCtorEq, w3]
  refine hK _ _ _ ?_
  clear hK K
  refine AWP.cond (b := true) rfl (fun _ => ?_) (fun h => by cases h)
  refine AWP.seq' ?_
  have hb : (((es.length + 1 : Nat) : Int) - ((i : Int) + 1)).toNat = es.length - i := by omega
  have hc : ((i : Int) + 1).toNat = i + 1 := by omega
  have hsub : (((es.length + 1 : Nat) : Int) - (i : Int)).toNat = es.length + 1 - i := by omega
  have hd : Nat.min (es.length + 1 - i) (es.length - i) = es.length - i := Nat.min_eq_right (by omega)
  have he : (es.drop i).take (es.length + 1 - i) = es.drop i := List.take_of_length_le (by simp; omega)
  have he2 : (es.drop i).take (es.length - i) = es.drop i := List.take_of_length_le (by simp)
  have hf : (es.drop i).length = es.length - i := List.length_drop ..
  refine AWP.dreg' fun K hK => ?_
  try simp only [stepS, stepD, stepM, eq_self, implies_true, forall_eq_or_imp, forall_eq, Nat.reduceEqDiff, ↓reduceIte, Nat.reduceAdd, Nat.reduceLeDiff, Nat.reduceSub, Nat.reduceMul, Nat.reduceLT, Int.reduceBEq, Int.reduceBNe, Int.reduceToNat, Int.reduceLT, Int.reduceLE, Int.reduceAdd, Int.reduceSub, Int.reduceMul, reduceCtorEq, w3, copyA, srcP, srcA, Int.toNat_natCast, hb, hc, hsub, hd, he, he2, hf]
  repeat (refine And.intro (by omega) ?_)
  refine ⟨by rfl, hK _ _ _ ?_⟩
  clear hK K
  have hMl : (over es (i + 1) (es.drop i)).length = es.length + 1 := by simp [over]; omega
  have hMt : (over es (i + 1) (es.drop i)).take i = es.take i := by
    unfold over
    rw [List.append_assoc, List.take_append_of_le_length (by simp; omega), List.take_take, Nat.min_eq_left (by omega)]
  have hMd : (over es (i + 1) (es.drop i)).drop (i + 1) = es.drop i := by
    unfold over
    have e1 : (es.take (i + 1)).length = i + 1 := by simp; omega
    have e2 : es.drop (i + 1 + (es.drop i).length) = [] := List.drop_of_length_le (by simp; omega)
    rw [e2, List.append_nil]
    have e3 := List.drop_left (l₁ := es.take (i + 1)) (l₂ := es.drop i)
    rw [e1] at e3; exact e3
  generalize hM : over es (i + 1) (es.drop i) = M at *
  refine AWP.seq' ?_
  have hsub : (((es.length + 1 : Nat) : Int) - (i : Int)).toNat = es.length + 1 - i := by omega
  have hmin : Nat.min 1 (es.length + 1 - i) = 1 := Nat.min_eq_left (by omega)
  have ht1 : List.take 1 [x] = [x] := rfl
  refine AWP.reg' fun K hK => ?_
  try simp only [stepS, stepD, stepM, eq_self, implies_true, forall_eq_or_imp, forall_eq, Nat.reduceEqDiff, ↓reduceIte, Nat.reduceAdd, Nat.reduceLeDiff, Nat.reduceSub, Nat.reduceMul, Nat.reduceLT, Int.reduceBEq, Int.reduceBNe, Int.reduceToNat, Int.reduceLT, Int.reduceLE, Int.reduceAdd, Int.reduceSub, Int.reduceMul, reduceCtorEq, hMl, copyA, srcP, srcA, Int.toNat_natCast, hsub, hmin]
  repeat (refine And.intro (by omega) ?_)
  refine hK _ _ _ ?_
  clear hK K
  refine AWP.seq' ?_
  refine AWP.reg' fun K hK => ?_
  try simp only [stepS, stepD, stepM, eq_self, implies_true, forall_eq_or_imp, forall_eq, Nat.reduceEqDiff, ↓reduceIte, Nat.reduceAdd, Nat.reduceLeDiff, Nat.reduceSub, Nat.reduceMul, Nat.reduceLT, Int.reduceBEq, Int.reduceBNe, Int.reduceToNat, Int.reduceLT, Int.reduceLE, Int.reduceAdd, Int.reduceSub, Int.reduceMul, reduceCtorEq]
  refine hK _ _ _ ?_
  clear hK K
  have hfin : over M i [x] = insAt es i x := by
    unfold over insAt
    rw [hMt, show i + [x].length = i + 1 from rfl, hMd]
  have hfl : (insAt es i x).length = es.length + 1 := by unfold insAt; simp; omega
  rw [hfin]
  refine AWP.ret (fin_weak (Weak.row (b := 402) (cap := cap) (k := 5) (es := insAt es i x) (by rw [hfl]; rfl)) (fin_ren [0, 1, 402] [(6, .vec 2)] rfl rfl ?_ ?_ rfl (by simp) ?_ (by simp)))
  · simp only [List.mem_singleton, forall_eq]
    exact ⟨rfl, show (2 : Nat) < 3 by omega⟩
  · refine ⟨⟨?_, ?_⟩, trivial⟩
    · rw [(vec_ren (m := 0) (pureL_insAt hp.1 hp.2 i)).1]
      rfl
    · exact (vec_ren (π := id) (pureL_insAt hp.1 hp.2 i)).2
  · intro b hb
    match b, hb with
    | 0, _ => rfl
    | 1, _ => rfl
theorem Insert_nil (x : AV) (hx : x.solid = true) (hp : x.pure) :
    HSpec Try.prog 49 [.vec 0, .int 0, .vec 1] [.vec 5 [], .vec 5 [x]] (.vec 2) [none, none, some (.vec 5 [x])] := by
  have hml := maxLen_eq
  refine HSpec.walk Try.func49 cf49_ok (by simp [cf49]) ?_
  unfold cf49
  simp only [initT, initH, List.length_cons, List.length_nil]
  refine AWP.seq' ?_
  refine AWP.reg' fun K hK => ?_
  try simp only [stepS, stepD, stepM, eq_self, implies_true, forall_eq_or_imp, forall_eq, Nat.reduceEqDiff, ↓reduceIte, Nat.reduceAdd, Nat.reduceLeDiff, Nat.reduceSub, Nat.reduceMul, Nat.reduceLT, Int.reduceBEq, Int.reduceBNe, Int.reduceToNat, Int.reduceLT, Int.reduceLE, Int.reduceAdd, Int.reduceSub, Int.reduceMul, reduceCtorEq]
  refine hK _ _ _ ?_
  clear hK K
  refine AWP.seq' ?_
  refine AWP.reg' fun K hK => ?_
  try simp only [stepS, stepD, stepM, eq_self, implies_true, forall_eq_or_imp, forall_eq, Nat.reduceEqDiff, ↓reduceIte, Nat.reduceAdd, Nat.reduceLeDiff, Nat.reduceSub, Nat.reduceMul, Nat.reduceLT, Int.reduceBEq, Int.reduceBNe, Int.reduceToNat, Int.reduceLT, Int.reduceLE, Int.reduceAdd, Int.reduceSub, Int.reduceMul, reduceCtorEq]
  refine hK _ _ _ ?_
  clear hK K
  refine AWP.seq' ?_
  refine AWP.reg' fun K hK => ?_
  try simp only [stepS, stepD, stepM, eq_self, implies_true, forall_eq_or_imp, forall_eq, Nat.reduceEqDiff, ↓reduceIte, Nat.reduceAdd, Nat.reduceLeDiff, Nat.reduceSub, Nat.reduceMul, Nat.reduceLT, Int.reduceBEq, Int.reduceBNe, Int.reduceToNat, Int.reduceLT, Int.reduceLE, Int.reduceAdd, Int.reduceSub, Int.reduceMul, reduceCtorEq]
  refine hK _ _ _ ?_
  clear hK K
  refine AWP.seq' (AWP.seq' ?_)
  refine AWP.reg' fun K hK => ?_
  try simp only [stepS, stepD, stepM, eq_self, implies_true, forall_eq_or_imp, forall_eq, Nat.reduceEqDiff, ↓reduceIte, Nat.reduceAdd, Nat.reduceLeDiff, Nat.reduceSub, Nat.reduceMul, Nat.reduceLT, Int.reduceBEq, Int.reduceBNe, Int.reduceToNat, Int.reduceLT, Int.reduceLE, Int.reduceAdd, Int.reduceSub, Int.reduceMul, reduceCtorEq]
  refine hK _ _ _ ?_
  clear hK K
  refine AWP.cond (b := false) rfl (fun h => by cases h) (fun _ => ?_)
  refine AWP.skip ?_
  refine AWP.seq' ?_
  refine AWP.reg' fun K hK => ?_
  try simp only [stepS, stepD, stepM, eq_self, implies_true, forall_eq_or_imp, forall_eq, Nat.reduceEqDiff, ↓reduceIte, Nat.reduceAdd, Nat.reduceLeDiff, Nat.reduceSub, Nat.reduceMul, Nat.reduceLT, Int.reduceBEq, Int.reduceBNe, Int.reduceToNat, Int.reduceLT, Int.reduceLE, Int.reduceAdd, Int.reduceSub, Int.reduceMul, reduceCtorEq]
  refine hK _ _ _ ?_
  clear hK K
  refine AWP.seq' (AWP.seq' ?_)
  refine AWP.reg' fun K hK => ?_
  try simp only [stepS, stepD, stepM, eq_self, implies_true, forall_eq_or_imp, forall_eq, Nat.reduceEqDiff, ↓reduceIte, Nat.reduceAdd, Nat.reduceLeDiff, Nat.reduceSub, Nat.reduceMul, Nat.reduceLT, Int.reduceBEq, Int.reduceBNe, Int.reduceToNat, Int.reduceLT, Int.reduceLE, Int.reduceAdd, Int.reduceSub, Int.reduceMul, reduceCtorEq]
  refine hK _ _ _ ?_
  clear hK K
  refine AWP.cond (b := true) rfl (fun h => ?_) (fun h => by cases h)
  refine AWP.seq' ?_
  refine AWP.reg' fun K hK => ?_
  try simp only [stepS, stepD, stepM, eq_self, implies_true, forall_eq_or_imp, forall_eq, Nat.reduceEqDiff, ↓reduceIte, Nat.reduceAdd, Nat.reduceLeDiff, Nat.reduceSub, Nat.reduceMul, Nat.reduceLT, Int.reduceBEq, Int.reduceBNe, Int.reduceToNat, Int.reduceLT, Int.reduceLE, Int.reduceAdd, Int.reduceSub, Int.reduceMul, reduceCtorEq, appendA, srcA]
  repeat (refine And.intro (by omega) ?_)
  refine hK _ _ _ ?_
  clear hK K
  refine AWP.ret (fin_ren [0, 1, 274] [(6, .vec 2)] rfl rfl ?_ ?_ rfl (by simp) ?_ (by simp))
  · simp only [List.mem_singleton, forall_eq]
    exact ⟨rfl, show (2 : Nat) < 3 by omega⟩
  · have hp' : pureL [x] := ⟨hp, trivial⟩
    refine ⟨⟨?_, ?_⟩, trivial⟩
    · rw [(vec_ren (m := 0) hp').1]
      rfl
    · exact (vec_ren (π := id) hp').2
  · intro b hb
    match b, hb with
    | 0, _ => rfl
    | 1, _ => rfl

theorem Insert_spec (es : List AV) (x : AV) (i : Nat) (hi : i ≤ es.length) (hx : x.solid = true) (hs : es.length ≤ 1000000) (hp : pureL es ∧ x.pure) :
    HSpec Try.prog 49 [.vec 0, .int i, .vec 1] [.vec 5 es, .vec 5 [x]] (.vec 2) [none, none, some (.vec 5 (insAt es i x))] := by
  refine HSpec.of_row (fun cap h1 h2 => Insert_row es x i cap hi hx h1 h2 hs hp) (fun h => ?_)
  subst h
  have : i = 0 := by simpa using hi
  subst this
  exact Insert_nil x hx hp.2
theorem Insert_fn : FnOk Try.prog 49 := fn_ok Try.func49 (by kernel_rfl)
end Go.Proofs.Ytaboolnmkfenlaa
