/- Contract of slices.Insert of one element, at Heard. -/
import Derived.Test.YtglfecmdoekabaaGreatDoorG8
import Derived.KernelRfl
namespace Go.Proofs.YtglfecmdoekabaaGreatDoor
open Go Go.Am
set_option linter.unusedVariables false
set_option linter.unusedSimpArgs false
theorem fin_weak {k n : Nat} {res : List AR} {r : AV} {h' : List (Option Blk)} {s s1 : S3} (hw : Weak k n s s1) (h : fin k n res r h' .ret s1) : fin k n res r h' .ret s := by
  obtain ⟨s', g1, g2⟩ := h
  exact ⟨s', hw.trans g1, g2⟩
theorem pureL_append {xs ys : List AV} (h : pureL xs) (h' : pureL ys) : pureL (xs ++ ys) := by
  rw [pureL_iff] at *
  intro x hx
  rcases List.mem_append.mp hx with hx | hx
  · exact h x hx
  · exact h' x hx
theorem pureL_take {xs : List AV} (h : pureL xs) (n : Nat) : pureL (xs.take n) := by
  rw [pureL_iff] at *; exact fun x hx => h x (List.mem_of_mem_take hx)
theorem pureL_drop {xs : List AV} (h : pureL xs) (n : Nat) : pureL (xs.drop n) := by
  rw [pureL_iff] at *; exact fun x hx => h x (List.mem_of_mem_drop hx)
theorem pureL_insAt {es : List AV} {x : AV} (h : pureL es) (hx : x.pure) (i : Nat) : pureL (insAt es i x) := pureL_append (pureL_append (pureL_take h i) ⟨hx, trivial⟩) (pureL_drop h i)
theorem vec_ren {k m : Nat} {es : List AV} {π : Nat → Nat} (h : pureL es) : (Blk.vec k es).ren π = .vec k es ∧ (Blk.vec k es).bel m := ⟨by rw [Blk.ren, renL_pure _ h], belL_pure h⟩
/-- slices.Insert[[]bitcast/api.Heard,bitcast/api.Heard] -/
def cf92 : AF :=
  ⟨95, 3, [.tmp 6],
  .seq (.reg [⟨(some 6), .move (.c (.sl 0 [] true)), none⟩])
  (.seq (.reg [⟨(some 10), .move (.t 0), none⟩, ⟨(some 11), .move (.t 1), none⟩, ⟨(some 12), .slice 4 (.t 10) (some (.t 11)) none none, none⟩])
  (.seq (.reg [⟨(some 13), .move (.t 2), none⟩, ⟨(some 14), .len (.t 13), none⟩, ⟨(some 7), .move (.t 14), none⟩])
  (.seq (.seq (.reg [⟨(some 15), .move (.t 7), none⟩, ⟨(some 16), .bin .eql (.t 15) (.c (.val (.int .i64 0))), none⟩])
  (.cond (.t 16) (.seq (.reg [⟨(some 17), .move (.t 0), none⟩, ⟨(some 6), .move (.t 17), none⟩])
  (.ret)) (.skip)))
  (.seq (.reg [⟨(some 18), .move (.t 0), none⟩, ⟨(some 19), .len (.t 18), none⟩, ⟨(some 8), .move (.t 19), none⟩])
  (.seq (.seq (.reg [⟨(some 20), .move (.t 1), none⟩, ⟨(some 21), .move (.t 8), none⟩, ⟨(some 22), .bin .eql (.t 20) (.t 21), none⟩])
  (.cond (.t 22) (.seq (.reg [⟨(some 23), .move (.t 0), none⟩, ⟨(some 24), .move (.t 2), none⟩, ⟨(some 25), .append 4 48 (.t 23) (.t 24), none⟩, ⟨(some 6), .move (.t 25), none⟩])
  (.ret)) (.skip)))
  (.seq (.seq (.reg [⟨(some 26), .move (.t 8), none⟩, ⟨(some 27), .move (.t 7), none⟩, ⟨(some 28), .bin .add (.t 26) (.t 27), none⟩, ⟨(some 29), .move (.t 0), none⟩, ⟨(some 30), .cap (.t 29), none⟩, ⟨(some 31), .bin .gtr (.t 28) (.t 30), none⟩])
  (.cond (.t 31) (.seq (.reg [⟨(some 32), .move (.t 0), none⟩, ⟨(some 33), .move (.t 1), none⟩, ⟨(some 34), .slice 4 (.t 32) none (some (.t 33)) none, none⟩, ⟨(some 35), .move (.t 8), none⟩, ⟨(some 36), .move (.t 7), none⟩, ⟨(some 37), .bin .add (.t 35) (.t 36), none⟩, ⟨(some 38), .move (.t 1), none⟩, ⟨(some 39), .bin .sub (.t 37) (.t 38), none⟩, ⟨(some 40), .appendZ 4 48 ((.agg [(.val (.int .i64 0)), (.val (.int .i64 0)), (.val (.int .i64 0)), (.sl 0 [] true)])) (.t 34) (.t 39), none⟩, ⟨(some 9), .move (.t 40), none⟩])
  (.seq (.reg [⟨(some 41), .move (.t 9), none⟩, ⟨(some 42), .move (.t 1), none⟩, ⟨(some 43), .slice 4 (.t 41) (some (.t 42)) none none, none⟩, ⟨(some 44), .move (.t 2), none⟩, ⟨(some 45), .copy 4 (.t 43) (.t 44), none⟩])
  (.seq (.dreg [⟨(some 46), .move (.t 9), none⟩, ⟨(some 47), .move (.t 1), none⟩, ⟨(some 48), .move (.t 7), none⟩, ⟨(some 49), .bin .add (.t 47) (.t 48), none⟩, ⟨(some 50), .slice 4 (.t 46) (some (.t 49)) none none, none⟩, ⟨(some 51), .move (.t 0), none⟩, ⟨(some 52), .move (.t 1), none⟩, ⟨(some 53), .slice 4 (.t 51) (some (.t 52)) none none, none⟩, ⟨(some 54), .copy 4 (.t 50) (.t 53), none⟩] [(4, 7)])
  (.seq (.reg [⟨(some 55), .move (.t 9), none⟩, ⟨(some 6), .move (.t 55), none⟩])
  (.ret))))) (.skip)))
  (.seq (.reg [⟨(some 56), .move (.t 0), none⟩, ⟨(some 57), .move (.t 8), none⟩, ⟨(some 58), .move (.t 7), none⟩, ⟨(some 59), .bin .add (.t 57) (.t 58), none⟩, ⟨(some 60), .slice 4 (.t 56) none (some (.t 59)) none, none⟩, ⟨(some 0), .move (.t 60), none⟩])
  (.seq (.seq (.reg [⟨(some 61), .move (.t 2), none⟩, ⟨(some 62), .move (.t 0), none⟩, ⟨(some 63), .move (.t 1), none⟩, ⟨(some 64), .move (.t 7), none⟩, ⟨(some 65), .bin .add (.t 63) (.t 64), none⟩, ⟨(some 66), .slice 4 (.t 62) (some (.t 65)) none none, none⟩, ⟨(some 67), .call (.c (.func 143 [])) [(.t 61), (.t 66)], none⟩, ⟨(some 68), .un .not (.t 67), none⟩])
  (.cond (.t 68) (.seq (.dreg [⟨(some 69), .move (.t 0), none⟩, ⟨(some 70), .move (.t 1), none⟩, ⟨(some 71), .move (.t 7), none⟩, ⟨(some 72), .bin .add (.t 70) (.t 71), none⟩, ⟨(some 73), .slice 4 (.t 69) (some (.t 72)) none none, none⟩, ⟨(some 74), .move (.t 0), none⟩, ⟨(some 75), .move (.t 1), none⟩, ⟨(some 76), .slice 4 (.t 74) (some (.t 75)) none none, none⟩, ⟨(some 77), .copy 4 (.t 73) (.t 76), none⟩] [(4, 7)])
  (.seq (.reg [⟨(some 78), .move (.t 0), none⟩, ⟨(some 79), .move (.t 1), none⟩, ⟨(some 80), .slice 4 (.t 78) (some (.t 79)) none none, none⟩, ⟨(some 81), .move (.t 2), none⟩, ⟨(some 82), .copy 4 (.t 80) (.t 81), none⟩])
  (.seq (.reg [⟨(some 83), .move (.t 0), none⟩, ⟨(some 6), .move (.t 83), none⟩])
  (.ret)))) (.skip)))
  (.seq (.reg [⟨(some 84), .move (.t 0), none⟩, ⟨(some 85), .move (.t 8), none⟩, ⟨(some 86), .slice 4 (.t 84) (some (.t 85)) none none, none⟩, ⟨(some 87), .move (.t 2), none⟩, ⟨(some 88), .copy 4 (.t 86) (.t 87), none⟩])
  (.seq (.reg [⟨(some 89), .move (.t 0), none⟩, ⟨(some 90), .move (.t 1), none⟩, ⟨(some 91), .slice 4 (.t 89) (some (.t 90)) none none, none⟩, ⟨(some 92), .move (.t 7), none⟩, ⟨(some 93), .call (.c (.func 144 [])) [(.t 91), (.t 92)], none⟩])
  (.seq (.reg [⟨(some 94), .move (.t 0), none⟩, ⟨(some 6), .move (.t 94), none⟩])
  (.ret))))))))))))⟩
theorem cf92_ok : cFunc Tryz.prog Tryz.f92 = some cf92 := by kernel_rfl


theorem overlaps_noneH : (Tryz.f143.name == "runtime.NumGoroutine") = false ∧ Tryz.f143.body.isNone = true := ⟨by kernel_rfl, by kernel_rfl⟩
theorem overlaps_nextH : Extern.findNext Tryz.f143 = none := by kernel_rfl
theorem overlaps_findH : Extern.find Tryz.f143 = some (Extern.SlicesOverlaps.overlaps #[23, 23] #[4]) := by kernel_rfl
theorem overlaps_sizeH : sizeOf? Tryz.prog 51 = some 4 := by kernel_rfl
theorem overlaps_tyH : Program.underlying Tryz.prog 23 = some (.slice 51) := by kernel_rfl
theorem Insert_rowH (es : List AV) (x : AV) (i cap : Nat) (hi : i ≤ es.length) (hx : x.solid = true) (h1 : es.length ≤ cap) (h2 : cap ≤ maxLen) (hs : es.length ≤ 1000000) (hp : pureL es ∧ x.pure) :
    HSpec Tryz.prog 92 [.vec 0, .int i, .vec 1] [.row 4 es es.length cap, .vec 4 [x]] (.vec 2) [none, none, some (.vec 4 (insAt es i x))] := by
  have hml := maxLen_eq
  refine HSpec.walk Tryz.func92 cf92_ok (by simp [cf92]) ?_
  unfold cf92
  simp only [initT, initH, List.length_cons, List.length_nil]
  refine AWP.seq' ?_
  refine AWP.reg' fun K hK => ?_
  try simp only [stepS, stepD, stepM, eq_self, implies_true, forall_eq_or_imp, forall_eq, Nat.reduceEqDiff, ↓reduceIte, Nat.reduceAdd, Nat.reduceLeDiff, Nat.reduceSub, Nat.reduceMul, Nat.reduceLT, Int.reduceBEq, Int.reduceBNe, Int.reduceToNat, Int.reduceLT, Int.reduceLE, Int.reduceAdd, Int.reduceSub, Int.reduceMul, reduceCtorEq]
  refine hK _ _ _ ?_
  clear hK K
  refine AWP.seq' ?_
  refine AWP.reg' fun K hK => ?_
  try simp only [stepS, stepD, stepM, eq_self, implies_true, forall_eq_or_imp, forall_eq, Nat.reduceEqDiff, ↓reduceIte, Nat.reduceAdd, Nat.reduceLeDiff, Nat.reduceSub, Nat.reduceMul, Nat.reduceLT, Int.reduceBEq, Int.reduceBNe, Int.reduceToNat, Int.reduceLT, Int.reduceLE, Int.reduceAdd, Int.reduceSub, Int.reduceMul, reduceCtorEq]
  repeat (refine And.intro (by omega) ?_)
  refine hK _ _ _ ?_
  clear hK K
  refine AWP.seq' ?_
  refine AWP.reg' fun K hK => ?_
  try simp only [stepS, stepD, stepM, eq_self, implies_true, forall_eq_or_imp, forall_eq, Nat.reduceEqDiff, ↓reduceIte, Nat.reduceAdd, Nat.reduceLeDiff, Nat.reduceSub, Nat.reduceMul, Nat.reduceLT, Int.reduceBEq, Int.reduceBNe, Int.reduceToNat, Int.reduceLT, Int.reduceLE, Int.reduceAdd, Int.reduceSub, Int.reduceMul, reduceCtorEq]
  refine hK _ _ _ ?_
  clear hK K
  refine AWP.seq' (AWP.seq' ?_)
  refine AWP.reg' fun K hK => ?_
  try simp only [stepS, stepD, stepM, eq_self, implies_true, forall_eq_or_imp, forall_eq, Nat.reduceEqDiff, ↓reduceIte, Nat.reduceAdd, Nat.reduceLeDiff, Nat.reduceSub, Nat.reduceMul, Nat.reduceLT, Int.reduceBEq, Int.reduceBNe, Int.reduceToNat, Int.reduceLT, Int.reduceLE, Int.reduceAdd, Int.reduceSub, Int.reduceMul, reduceCtorEq]
  refine hK _ _ _ ?_
  clear hK K
  refine AWP.cond (b := false) rfl (fun h => by cases h) (fun _ => ?_)
  refine AWP.skip ?_
  refine AWP.seq' ?_
  refine AWP.reg' fun K hK => ?_
  try simp only [stepS, stepD, stepM, eq_self, implies_true, forall_eq_or_imp, forall_eq, Nat.reduceEqDiff, ↓reduceIte, Nat.reduceAdd, Nat.reduceLeDiff, Nat.reduceSub, Nat.reduceMul, Nat.reduceLT, Int.reduceBEq, Int.reduceBNe, Int.reduceToNat, Int.reduceLT, Int.reduceLE, Int.reduceAdd, Int.reduceSub, Int.reduceMul, reduceCtorEq]
  refine hK _ _ _ ?_
  clear hK K
  refine AWP.seq' (AWP.seq' ?_)
  refine AWP.reg' fun K hK => ?_
  try simp only [stepS, stepD, stepM, eq_self, implies_true, forall_eq_or_imp, forall_eq, Nat.reduceEqDiff, ↓reduceIte, Nat.reduceAdd, Nat.reduceLeDiff, Nat.reduceSub, Nat.reduceMul, Nat.reduceLT, Int.reduceBEq, Int.reduceBNe, Int.reduceToNat, Int.reduceLT, Int.reduceLE, Int.reduceAdd, Int.reduceSub, Int.reduceMul, reduceCtorEq]
  refine hK _ _ _ ?_
  clear hK K
  refine AWP.cond (b := ((i : Int) == (es.length : Int))) rfl (fun h => ?_) (fun h => ?_)
  · have h : i = es.length := by have := eq_of_beq h; omega
    refine AWP.seq' ?_
    refine AWP.reg' fun K hK => ?_
    try simp only [stepS, stepD, stepM, eq_self, implies_true, forall_eq_or_imp, forall_eq, Nat.reduceEqDiff, ↓reduceIte, Nat.reduceAdd, Nat.reduceLeDiff, Nat.reduceSub, Nat.reduceMul, Nat.reduceLT, Int.reduceBEq, Int.reduceBNe, Int.reduceToNat, Int.reduceLT, Int.reduceLE, Int.reduceAdd, Int.reduceSub, Int.reduceMul, reduceCtorEq, appendA, srcA]
    repeat (refine And.intro (by omega) ?_)
    refine hK _ _ _ ?_
    clear hK K
    refine AWP.ret (fin_ren [0, 1, 274] [(6, .vec 2)] rfl rfl ?_ ?_ rfl (by simp) ?_ (by simp))
    · simp only [List.mem_singleton, forall_eq]
      exact ⟨rfl, show (2 : Nat) < 3 by omega⟩
    · refine ⟨⟨?_, ?_⟩, trivial⟩
      · rw [(vec_ren (m := 0) (pureL_insAt hp.1 hp.2 i)).1]
        show some (Blk.vec 4 (es ++ [x])) = _
        rw [insAt, h, List.take_length, List.drop_length, List.append_nil]
      · exact (vec_ren (π := id) (pureL_insAt hp.1 hp.2 i)).2
    · intro b hb
      match b, hb with
      | 0, _ => rfl
      | 1, _ => rfl
  have h : ¬ i = es.length := by intro e; subst e; simp at h
  refine AWP.skip ?_
  refine AWP.seq' (AWP.seq' ?_)
  have w1 : IntKind.i64.wrap ((es.length : Int) + 1) = es.length + 1 := wrap64 (by omega)
  refine AWP.reg' fun K hK => ?_
  try simp only [stepS, stepD, stepM, eq_self, implies_true, forall_eq_or_imp, forall_eq, Nat.reduceEqDiff, ↓reduceIte, Nat.reduceAdd, Nat.reduceLeDiff, Nat.reduceSub, Nat.reduceMul, Nat.reduceLT, Int.reduceBEq, Int.reduceBNe, Int.reduceToNat, Int.reduceLT, Int.reduceLE, Int.reduceAdd, Int.reduceSub, Int.reduceMul, reduceCtorEq, w1]
  refine hK _ _ _ ?_
  clear hK K
  refine AWP.cond (b := decide ((cap : Int) < (es.length : Int) + 1)) rfl (fun h3 => ?_) (fun h3 => ?_)
  · have h3 : cap = es.length := by have := of_decide_eq_true h3; omega
    refine AWP.seq' ?_
    have w2 : IntKind.i64.wrap ((es.length : Int) + 1 - i) = es.length + 1 - i := wrap64 (by omega)
    have hlt : ¬ ((es.length : Int) < (i : Int)) := by omega
    refine AWP.reg' fun K hK => ?_
    try simp only [stepS, stepD, stepM, eq_self, implies_true, forall_eq_or_imp, forall_eq, Nat.reduceEqDiff, ↓reduceIte, Nat.reduceAdd, Nat.reduceLeDiff, Nat.reduceSub, Nat.reduceMul, Nat.reduceLT, Int.reduceBEq, Int.reduceBNe, Int.reduceToNat, Int.reduceLT, Int.reduceLE, Int.reduceAdd, Int.reduceSub, Int.reduceMul, reduceCtorEq, w1, w2, appendZA, Int.toNat_natCast, hlt]
    repeat (refine And.intro (by omega) ?_)
    refine hK _ _ _ ?_
    clear hK K
    have hn : ((es.length : Int) + 1 - i).toNat = es.length + 1 - i := by omega
    rw [hn]
    generalize hL : es.take i ++ List.replicate (es.length + 1 - i) (AV.agg [AV.val (Value.int IntKind.i64 0), AV.val (Value.int IntKind.i64 0), AV.val (Value.int IntKind.i64 0), AV.sl 0 [] true]) = L
    have hLl : L.length = es.length + 1 := by rw [← hL]; simp; omega
    refine AWP.seq' ?_
    have hpos : 0 < es.length + 1 := by omega
    have hsub : (((es.length + 1 : Nat) : Int) - (i : Int)).toNat = es.length + 1 - i := by omega
    have hmin : Nat.min 1 (es.length + 1 - i) = 1 := Nat.min_eq_left (by omega)
    refine AWP.reg' fun K hK => ?_
    try simp only [stepS, stepD, stepM, eq_self, implies_true, forall_eq_or_imp, forall_eq, Nat.reduceEqDiff, ↓reduceIte, Nat.reduceAdd, Nat.reduceLeDiff, Nat.reduceSub, Nat.reduceMul, Nat.reduceLT, Int.reduceBEq, Int.reduceBNe, Int.reduceToNat, Int.reduceLT, Int.reduceLE, Int.reduceAdd, Int.reduceSub, Int.reduceMul, reduceCtorEq, hLl, copyA, srcP, srcA, Int.toNat_natCast, hpos, hsub, hmin]
    repeat (refine And.intro (by omega) ?_)
    refine hK _ _ _ ?_
    clear hK K
    have ht1 : List.take 1 [x] = [x] := rfl
    have w3 : IntKind.i64.wrap ((i : Int) + 1) = i + 1 := wrap64 (by omega)
    generalize hM : over L i [x] = M
    have hMl : M.length = es.length + 1 := by rw [← hM, over_length (by omega), Nat.max_def]; split <;> simp at * <;> omega
    refine AWP.seq' ?_
    have ha : ((es.length : Int) - (i : Int)).toNat = es.length - i := by omega
    have hb : (((es.length + 1 : Nat) : Int) - ((i : Int) + 1)).toNat = es.length - i := by omega
    have hc : ((i : Int) + 1).toNat = i + 1 := by omega
    have hd : Nat.min (es.length - i) (es.length - i) = es.length - i := Nat.min_self _
    have he : (es.drop i).take (es.length - i) = es.drop i := List.take_of_length_le (by simp)
    have hf : (es.drop i).length = es.length - i := List.length_drop ..
    refine AWP.dreg' fun K hK => ?_
    try simp only [stepS, stepD, stepM, eq_self, implies_true, forall_eq_or_imp, forall_eq, Nat.reduceEqDiff, ↓reduceIte, Nat.reduceAdd, Nat.reduceLeDiff, Nat.reduceSub, Nat.reduceMul, Nat.reduceLT, Int.reduceBEq, Int.reduceBNe, Int.reduceToNat, Int.reduceLT, Int.reduceLE, Int.reduceAdd, Int.reduceSub, Int.reduceMul, reduceCtorEq, hMl, copyA, srcP, srcA, Int.toNat_natCast, hpos, w3, ha, hb, hc, hd, he, hf]
    repeat (refine And.intro (by omega) ?_)
    refine ⟨by rfl, hK _ _ _ ?_⟩
    clear hK K
    refine AWP.seq' ?_
    refine AWP.reg' fun K hK => ?_
    try simp only [stepS, stepD, stepM, eq_self, implies_true, forall_eq_or_imp, forall_eq, Nat.reduceEqDiff, ↓reduceIte, Nat.reduceAdd, Nat.reduceLeDiff, Nat.reduceSub, Nat.reduceMul, Nat.reduceLT, Int.reduceBEq, Int.reduceBNe, Int.reduceToNat, Int.reduceLT, Int.reduceLE, Int.reduceAdd, Int.reduceSub, Int.reduceMul, reduceCtorEq]
    refine hK _ _ _ ?_
    clear hK K
    have hfin : over M (i + 1) (es.drop i) = insAt es i x := by
      have hLi : L.take i = es.take i := by
        rw [← hL, List.take_append_of_le_length (by simp; omega), List.take_take, Nat.min_self]
      have hMi : M.take (i + 1) = es.take i ++ [x] := by
        have e1 : (es.take i ++ [x]).length = i + 1 := by simp; omega
        rw [← hM, over, hLi, ← e1]
        exact List.take_left
      have hMd : M.drop (i + 1 + (es.drop i).length) = [] := List.drop_of_length_le (by rw [hMl, hf]; omega)
      unfold over insAt
      rw [hMi, hMd, List.append_nil]
    refine AWP.ret (fin_ren [0, 1, 466] [(6, .vec 2)] rfl rfl ?_ ?_ rfl (by simp) ?_ (by simp))
    · simp only [List.mem_singleton, forall_eq]
      exact ⟨rfl, show (2 : Nat) < 3 by omega⟩
    · refine ⟨⟨?_, ?_⟩, trivial⟩
      · rw [(vec_ren (m := 0) (pureL_insAt hp.1 hp.2 i)).1, ← hfin]
        rfl
      · exact (vec_ren (π := id) (pureL_insAt hp.1 hp.2 i)).2
    · intro b hb
      match b, hb with
      | 0, _ => rfl
      | 1, _ => rfl
  have h3 : es.length + 1 ≤ cap := by have := of_decide_eq_false h3; omega
  refine AWP.skip ?_
  refine AWP.seq' ?_
  have hgt : ((es.length : Int) < (es.length : Int) + 1) := by omega
  refine AWP.reg' fun K hK => ?_
  try simp only [stepS, stepD, stepM, eq_self, implies_true, forall_eq_or_imp, forall_eq, Nat.reduceEqDiff, ↓reduceIte, Nat.reduceAdd, Nat.reduceLeDiff, Nat.reduceSub, Nat.reduceMul, Nat.reduceLT, Int.reduceBEq, Int.reduceBNe, Int.reduceToNat, Int.reduceLT, Int.reduceLE, Int.reduceAdd, Int.reduceSub, Int.reduceMul, reduceCtorEq, w1, hgt]
  repeat (refine And.intro (by omega) ?_)
  refine hK _ _ _ ?_
  clear hK K
  have w3 : IntKind.i64.wrap ((i : Int) + 1) = i + 1 := wrap64 (by omega)
  refine AWP.seq' (AWP.seq' ?_)
  have hn1 : ((es.length : Int) + 1).toNat = es.length + 1 := by omega
  refine AWP.reg' fun K hK => ?_
  try simp only [stepS, stepD, stepM, eq_self, implies_true, forall_eq_or_imp, forall_eq, Nat.reduceEqDiff, ↓reduceIte, Nat.reduceAdd, Nat.reduceLeDiff, Nat.reduceSub, Nat.reduceMul, Nat.reduceLT, Int.reduceBEq, Int.reduceBNe, Int.reduceToNat, Int.reduceLT, Int.reduceLE, Int.reduceAdd, Int.reduceSub, Int.reduceMul, reduceCtorEq, w3, Int.toNat_natCast, hn1]
  repeat (refine And.intro (by omega) ?_)
  refine evT_ext rfl rfl (ext_overlaps Tryz.func143 overlaps_noneH.1 overlaps_noneH.2 overlaps_nextH overlaps_findH overlaps_tyH overlaps_sizeH (by omega) rfl rfl (by omega) (by simp) (by omega)) ?_
  try simp only [stepS, stepD, stepM, eq_self, implies_true, forall_eq_or_imp, forall_eq, Nat.reduceEqDiff, ↓reduceIte, Nat.reduceAdd, Nat.reduceLeDiff, Nat.reduceSub, Nat.reduceMul, Nat.reduceLT, Int.reduceBEq, Int.reduceBNe, Int.reduceToNat, Int.reduceLT, Int.reduceLE, Int.reduceAdd, Int.reduceSub, Int.reduceMul, reduceCtorEq, w3]
  refine hK _ _ _ ?_
  clear hK K
  refine AWP.cond (b := true) rfl (fun _ => ?_) (fun h => by cases h)
  refine AWP.seq' ?_
  have hb : (((es.length + 1 : Nat) : Int) - ((i : Int) + 1)).toNat = es.length - i := by omega
  have hc : ((i : Int) + 1).toNat = i + 1 := by omega
  have hsub : (((es.length + 1 : Nat) : Int) - (i : Int)).toNat = es.length + 1 - i := by omega
  have hd : Nat.min (es.length + 1 - i) (es.length - i) = es.length - i := Nat.min_eq_right (by omega)
  have he : (es.drop i).take (es.length + 1 - i) = es.drop i := List.take_of_length_le (by simp; omega)
  have he2 : (es.drop i).take (es.length - i) = es.drop i := List.take_of_length_le (by simp)
  have hf : (es.drop i).length = es.length - i := List.length_drop ..
  refine AWP.dreg' fun K hK => ?_
  try simp only [stepS, stepD, stepM, eq_self, implies_true, forall_eq_or_imp, forall_eq, Nat.reduceEqDiff, ↓reduceIte, Nat.reduceAdd, Nat.reduceLeDiff, Nat.reduceSub, Nat.reduceMul, Nat.reduceLT, Int.reduceBEq, Int.reduceBNe, Int.reduceToNat, Int.reduceLT, Int.reduceLE, Int.reduceAdd, Int.reduceSub, Int.reduceMul, reduceCtorEq, w3, copyA, srcP, srcA, Int.toNat_natCast, hb, hc, hsub, hd, he, he2, hf]
  repeat (refine And.intro (by omega) ?_)
  refine ⟨by rfl, hK _ _ _ ?_⟩
  clear hK K
  have hMl : (over es (i + 1) (es.drop i)).length = es.length + 1 := by simp [over]; omega
  have hMt : (over es (i + 1) (es.drop i)).take i = es.take i := by
    unfold over
    rw [List.append_assoc, List.take_append_of_le_length (by simp; omega), List.take_take, Nat.min_eq_left (by omega)]
  have hMd : (over es (i + 1) (es.drop i)).drop (i + 1) = es.drop i := by
    unfold over
    have e1 : (es.take (i + 1)).length = i + 1 := by simp; omega
    have e2 : es.drop (i + 1 + (es.drop i).length) = [] := List.drop_of_length_le (by simp; omega)
    rw [e2, List.append_nil]
    have e3 := List.drop_left (l₁ := es.take (i + 1)) (l₂ := es.drop i)
    rw [e1] at e3; exact e3
  generalize hM : over es (i + 1) (es.drop i) = M at *
  refine AWP.seq' ?_
  have hsub : (((es.length + 1 : Nat) : Int) - (i : Int)).toNat = es.length + 1 - i := by omega
  have hmin : Nat.min 1 (es.length + 1 - i) = 1 := Nat.min_eq_left (by omega)
  have ht1 : List.take 1 [x] = [x] := rfl
  refine AWP.reg' fun K hK => ?_
  try simp only [stepS, stepD, stepM, eq_self, implies_true, forall_eq_or_imp, forall_eq, Nat.reduceEqDiff, ↓reduceIte, Nat.reduceAdd, Nat.reduceLeDiff, Nat.reduceSub, Nat.reduceMul, Nat.reduceLT, Int.reduceBEq, Int.reduceBNe, Int.reduceToNat, Int.reduceLT, Int.reduceLE, Int.reduceAdd, Int.reduceSub, Int.reduceMul, reduceCtorEq, hMl, copyA, srcP, srcA, Int.toNat_natCast, hsub, hmin]
  repeat (refine And.intro (by omega) ?_)
  refine hK _ _ _ ?_
  clear hK K
  refine AWP.seq' ?_
  refine AWP.reg' fun K hK => ?_
  try simp only [stepS, stepD, stepM, eq_self, implies_true, forall_eq_or_imp, forall_eq, Nat.reduceEqDiff, ↓reduceIte, Nat.reduceAdd, Nat.reduceLeDiff, Nat.reduceSub, Nat.reduceMul, Nat.reduceLT, Int.reduceBEq, Int.reduceBNe, Int.reduceToNat, Int.reduceLT, Int.reduceLE, Int.reduceAdd, Int.reduceSub, Int.reduceMul, reduceCtorEq]
  refine hK _ _ _ ?_
  clear hK K
  have hfin : over M i [x] = insAt es i x := by
    unfold over insAt
    rw [hMt, show i + [x].length = i + 1 from rfl, hMd]
  have hfl : (insAt es i x).length = es.length + 1 := by unfold insAt; simp; omega
  rw [hfin]
  refine AWP.ret (fin_weak (Weak.row (b := 402) (cap := cap) (k := 4) (es := insAt es i x) (by rw [hfl]; rfl)) (fin_ren [0, 1, 402] [(6, .vec 2)] rfl rfl ?_ ?_ rfl (by simp) ?_ (by simp)))
  · simp only [List.mem_singleton, forall_eq]
    exact ⟨rfl, show (2 : Nat) < 3 by omega⟩
  · refine ⟨⟨?_, ?_⟩, trivial⟩
    · rw [(vec_ren (m := 0) (pureL_insAt hp.1 hp.2 i)).1]
      rfl
    · exact (vec_ren (π := id) (pureL_insAt hp.1 hp.2 i)).2
  · intro b hb
    match b, hb with
    | 0, _ => rfl
    | 1, _ => rfl
theorem Insert_nilH (x : AV) (hx : x.solid = true) (hp : x.pure) :
    HSpec Tryz.prog 92 [.vec 0, .int 0, .vec 1] [.vec 4 [], .vec 4 [x]] (.vec 2) [none, none, some (.vec 4 [x])] := by
  have hml := maxLen_eq
  refine HSpec.walk Tryz.func92 cf92_ok (by simp [cf92]) ?_
  unfold cf92
  simp only [initT, initH, List.length_cons, List.length_nil]
  refine AWP.seq' ?_
  refine AWP.reg' fun K hK => ?_
  try simp only [stepS, stepD, stepM, eq_self, implies_true, forall_eq_or_imp, forall_eq, Nat.reduceEqDiff, ↓reduceIte, Nat.reduceAdd, Nat.reduceLeDiff, Nat.reduceSub, Nat.reduceMul, Nat.reduceLT, Int.reduceBEq, Int.reduceBNe, Int.reduceToNat, Int.reduceLT, Int.reduceLE, Int.reduceAdd, Int.reduceSub, Int.reduceMul, reduceCtorEq]
  refine hK _ _ _ ?_
  clear hK K
  refine AWP.seq' ?_
  refine AWP.reg' fun K hK => ?_
  try simp only [stepS, stepD, stepM, eq_self, implies_true, forall_eq_or_imp, forall_eq, Nat.reduceEqDiff, ↓reduceIte, Nat.reduceAdd, Nat.reduceLeDiff, Nat.reduceSub, Nat.reduceMul, Nat.reduceLT, Int.reduceBEq, Int.reduceBNe, Int.reduceToNat, Int.reduceLT, Int.reduceLE, Int.reduceAdd, Int.reduceSub, Int.reduceMul, reduceCtorEq]
  refine hK _ _ _ ?_
  clear hK K
  refine AWP.seq' ?_
  refine AWP.reg' fun K hK => ?_
  try simp only [stepS, stepD, stepM, eq_self, implies_true, forall_eq_or_imp, forall_eq, Nat.reduceEqDiff, ↓reduceIte, Nat.reduceAdd, Nat.reduceLeDiff, Nat.reduceSub, Nat.reduceMul, Nat.reduceLT, Int.reduceBEq, Int.reduceBNe, Int.reduceToNat, Int.reduceLT, Int.reduceLE, Int.reduceAdd, Int.reduceSub, Int.reduceMul, reduceCtorEq]
  refine hK _ _ _ ?_
  clear hK K
  refine AWP.seq' (AWP.seq' ?_)
  refine AWP.reg' fun K hK => ?_
  try simp only [stepS, stepD, stepM, eq_self, implies_true, forall_eq_or_imp, forall_eq, Nat.reduceEqDiff, ↓reduceIte, Nat.reduceAdd, Nat.reduceLeDiff, Nat.reduceSub, Nat.reduceMul, Nat.reduceLT, Int.reduceBEq, Int.reduceBNe, Int.reduceToNat, Int.reduceLT, Int.reduceLE, Int.reduceAdd, Int.reduceSub, Int.reduceMul, reduceCtorEq]
  refine hK _ _ _ ?_
  clear hK K
  refine AWP.cond (b := false) rfl (fun h => by cases h) (fun _ => ?_)
  refine AWP.skip ?_
  refine AWP.seq' ?_
  refine AWP.reg' fun K hK => ?_
  try simp only [stepS, stepD, stepM, eq_self, implies_true, forall_eq_or_imp, forall_eq, Nat.reduceEqDiff, ↓reduceIte, Nat.reduceAdd, Nat.reduceLeDiff, Nat.reduceSub, Nat.reduceMul, Nat.reduceLT, Int.reduceBEq, Int.reduceBNe, Int.reduceToNat, Int.reduceLT, Int.reduceLE, Int.reduceAdd, Int.reduceSub, Int.reduceMul, reduceCtorEq]
  refine hK _ _ _ ?_
  clear hK K
  refine AWP.seq' (AWP.seq' ?_)
  refine AWP.reg' fun K hK => ?_
  try simp only [stepS, stepD, stepM, eq_self, implies_true, forall_eq_or_imp, forall_eq, Nat.reduceEqDiff, ↓reduceIte, Nat.reduceAdd, Nat.reduceLeDiff, Nat.reduceSub, Nat.reduceMul, Nat.reduceLT, Int.reduceBEq, Int.reduceBNe, Int.reduceToNat, Int.reduceLT, Int.reduceLE, Int.reduceAdd, Int.reduceSub, Int.reduceMul, reduceCtorEq]
  refine hK _ _ _ ?_
  clear hK K
  refine AWP.cond (b := true) rfl (fun h => ?_) (fun h => by cases h)
  refine AWP.seq' ?_
  refine AWP.reg' fun K hK => ?_
  try simp only [stepS, stepD, stepM, eq_self, implies_true, forall_eq_or_imp, forall_eq, Nat.reduceEqDiff, ↓reduceIte, Nat.reduceAdd, Nat.reduceLeDiff, Nat.reduceSub, Nat.reduceMul, Nat.reduceLT, Int.reduceBEq, Int.reduceBNe, Int.reduceToNat, Int.reduceLT, Int.reduceLE, Int.reduceAdd, Int.reduceSub, Int.reduceMul, reduceCtorEq, appendA, srcA]
  repeat (refine And.intro (by omega) ?_)
  refine hK _ _ _ ?_
  clear hK K
  refine AWP.ret (fin_ren [0, 1, 274] [(6, .vec 2)] rfl rfl ?_ ?_ rfl (by simp) ?_ (by simp))
  · simp only [List.mem_singleton, forall_eq]
    exact ⟨rfl, show (2 : Nat) < 3 by omega⟩
  · have hp' : pureL [x] := ⟨hp, trivial⟩
    refine ⟨⟨?_, ?_⟩, trivial⟩
    · rw [(vec_ren (m := 0) hp').1]
      rfl
    · exact (vec_ren (π := id) hp').2
  · intro b hb
    match b, hb with
    | 0, _ => rfl
    | 1, _ => rfl

theorem Insert_specH (es : List AV) (x : AV) (i : Nat) (hi : i ≤ es.length) (hx : x.solid = true) (hs : es.length ≤ 1000000) (hp : pureL es ∧ x.pure) :
    HSpec Tryz.prog 92 [.vec 0, .int i, .vec 1] [.vec 4 es, .vec 4 [x]] (.vec 2) [none, none, some (.vec 4 (insAt es i x))] := by
  refine HSpec.of_row (fun cap h1 h2 => Insert_rowH es x i cap hi hx h1 h2 hs hp) (fun h => ?_)
  subst h
  have : i = 0 := by simpa using hi
  subst this
  exact Insert_nilH x hx hp.2
theorem Insert_fnH : FnOk Tryz.prog 92 := fnB_ok (by kernel_rfl)

theorem BlkOk.mapSub {w : World} {A : Nat → Prop} {μ : Mu} {hd : Hd} {k : Nat} {es : List AV} {f : AV → AV} (h : ∀ x, Sub x (f x)) (hy : ∀ x ∈ es.map f, x.solid = true) (q : BlkOk w A μ hd (.vec k es)) : BlkOk w A μ hd (.vec k (es.map f)) := by
  obtain ⟨q2, q3⟩ := q
  refine ⟨q2, ?_⟩
  rcases q3 with ⟨rfl, q⟩ | ⟨a1, a2, a3, a4, C, ty, vs, a5, a6, a7, a8⟩
  · exact .inl ⟨rfl, q⟩
  · exact .inr ⟨a1, by rw [List.length_map]; exact a2, a3, a4, C, ty, vs, a5, RVL.mapSub h a6, hy, a8⟩
theorem HSpec.subH {P : Program} {f : FuncId} {args : List AV} {hs1 hs2 : List Blk} {r : AV} {h' : List (Option Blk)} (hl : hs1.length = hs2.length)
    (hsub : ∀ (i : Nat) x y, hs1[i]? = some x → hs2[i]? = some y → ∀ w A μ hd, BlkOk w A μ hd x → BlkOk w A μ hd y) (h : HSpec P f args hs2 r h') : HSpec P f args hs1 r h' := by
  intro w A μ cargs g1 g2 g3
  have to : ∀ b x, hpOf (hs2.map some) b = some x → ∃ y, hpOf (hs1.map some) b = some y ∧ ∀ hd, BlkOk w A μ hd y → BlkOk w A μ hd x := by
    intro b x hx
    rw [hpOf_some] at hx
    have hb := lt_of_get hx
    exact ⟨hs1[b], hpOf_some.mpr (List.getElem?_eq_getElem (by omega)), fun hd q => hsub b _ x (List.getElem?_eq_getElem (by omega)) hx w A μ hd q⟩
  have own' : ownOf μ (hpOf (hs2.map some)) = ownOf μ (hpOf (hs1.map some)) := by
    funext b
    refine propext ⟨?_, ?_⟩
    · rintro ⟨i, x, hd', a1, a2, a3, a4⟩
      obtain ⟨y, b1, _⟩ := to i x a1
      exact ⟨i, y, hd', b1, a2, a3, a4⟩
    · rintro ⟨i, x, hd', a1, a2, a3, a4⟩
      rw [hpOf_some] at a1
      have hi := lt_of_get a1
      exact ⟨i, hs2[i], hd', hpOf_some.mpr (List.getElem?_eq_getElem (by omega)), a2, a3, a4⟩
  have := h w A μ cargs ⟨fun b x hx => ?_, fun b b' x x' hd1 hd2 hx hx' => ?_, g1.lt⟩ (by rw [← hl]; exact g2) g3
  · rw [own'] at this; exact this
  · obtain ⟨y, b1, b2⟩ := to b x hx
    obtain ⟨hd', c1, c2, c3⟩ := g1.blk b y b1
    exact ⟨hd', c1, b2 hd' c2, c3⟩
  · obtain ⟨y, b1, _⟩ := to b x hx
    obtain ⟨y', b1', _⟩ := to b' x' hx'
    exact g1.inj b b' y y' hd1 hd2 b1 b1'
theorem insAt_map {α β : Type} (f : α → β) (l : List α) (i : Nat) (x : α) : insAt (l.map f) i (f x) = (insAt l i x).map f := by
  simp [insAt]
def insH_h (l : List Hrd) (r : Int) (i : Nat) (hi : i ≤ l.length) (hl : l.length ≤ 1000000) : HC Tryz.prog :=
  ⟨92, [.k, .k, .k], [.vec 0, .int i, .vec 1], [.vec 4 (l.map Hrd.v), .vec 4 [.agg [.int r, .int 0, .int 0, .sl 0 [] true]]], .vec 2, [none, none, some (.vec 4 ((insAt l i ⟨r, 0, 0, []⟩).map Hrd.v))], by
    have h := Insert_specH (l.map Hrd.v) (Hrd.v ⟨r, 0, 0, []⟩) i (by simpa using hi) rfl (by simpa using hl) ⟨pureBL_ok (pureBL_map (fun _ => rfl) l), AV.pureB_ok rfl⟩
    rw [insAt_map] at h
    refine HSpec.subH (hs2 := [.vec 4 (l.map Hrd.v), .vec 4 [Hrd.v ⟨r, 0, 0, []⟩]]) rfl (fun j x y hx hy w A μ hd q => ?_) h
    rcases j with _ | _ | j
    · cases hx; cases hy; exact q
    · cases hx; cases hy; exact BlkOk.mapSub (f := fitA (.a [.k, .k, .k, .s 4])) (fitA_sub _) (by intro x hx; simp only [List.map_cons, List.map_nil, List.mem_singleton] at hx; subst hx; rfl) q
    · simp at hx, Insert_fnH, HcOk.of (by simp [hcB, belBL, AV.belB, allB, okBk, okBkO, pureBL_map (v := Hrd.v) (fun _ => rfl), pureBL, AV.pureB])⟩
end Go.Proofs.YtglfecmdoekabaaGreatDoor
