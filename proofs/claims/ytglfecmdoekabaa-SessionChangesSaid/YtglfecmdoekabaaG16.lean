/- slices.SortFunc at wants; session.Wants. -/
import Derived.Test.YtglfecmdoekabaaG14
import Derived.Test.YtglfecmdoekabaaV5
import Derived.Test.YtglfecmdoekabaaMx7
import Derived.Test.YtglfecmdoekabaaSh
import Derived.Test.YtglfecmdoekabaaChecked
namespace Go.Proofs.Ytglfecmdoekabaa
open Go Go.Am
set_option linter.unusedVariables false
set_option linter.unusedSimpArgs false
open Go.Shelf Go.RowKit Go.Lib Go.Sort in
/-- The comparison that Wants hands to SortFunc. -/
theorem cmpW_calls (a b : Int) (x1 x2 y1 y2 : Value) (w : World) (hx : x1.oneCell' = true ∧ x2.oneCell' = true) (hy : y1.oneCell' = true ∧ y2.oneCell' = true) :
    Calls Try.prog 39 #[.agg #[.int .i64 a, x1, x2], .agg #[.int .i64 b, y1, y2]] w fun e w' => e = .returned (.int .i64 (Lib.compareInt a b)) ∧ ∃ q os', w' = grow (w.drewN q) os' := by
  have hcon := fun W' => AnyG.cmp_Compare_int Try.cmpI a b W'
  change ∀ W', Calls Try.prog 40 _ _ _ at hcon
  generalize Lib.compareInt a b = r at hcon ⊢
  go_enter Try.func39, Try.ntmps39
  go_wp2_with (go_at_call 40; refine (hcon _).mono ?_; rintro e w' ⟨rfl, rfl⟩)
  go_ret
  exact ⟨rfl, 0, _, by rw [alloc_eq_grow, alloc_eq_grow, grow_grow]; rfl⟩
def okSrt (l : List Wnt) : Prop := l.length ≤ 1000000 ∧ l.Pairwise fun a b => a.grp ≠ b.grp
def srtW (l : List Wnt) : List Wnt := l.mergeSort fun a b => decide (a.grp ≤ b.grp)
theorem srtW_perm (l : List Wnt) : (srtW l).Perm l := List.mergeSort_perm _ _
theorem srtW_asc {l : List Wnt} (h : okSrt l) : (srtW l).Pairwise fun a b => a.grp < b.grp := by
  have h1 : (srtW l).Pairwise fun a b => decide (a.grp ≤ b.grp) = true := List.pairwise_mergeSort (fun a b c h1 h2 => by simp at *; omega) (fun a b => by simp; omega) l
  have h2 : (srtW l).Pairwise fun a b => a.grp ≠ b.grp := (List.Perm.pairwise_iff (fun h => Ne.symm h) (srtW_perm l)).mpr h.2
  exact (h1.and h2).imp fun ⟨h1, h2⟩ => by simp at h1; omega
open Go.Shelf Go.RowKit Go.Lib Go.Sort in
theorem sortW_spec (l : List Wnt) (h : okSrt l) : HSpec Try.prog 38 [.vec 0, .func 39 []] [.vec 3 (l.map Wnt.v)] (.tup []) [some (.vec 3 ((srtW l).map Wnt.v))] := by
  refine sort_hspec Try.sortW Wnt.v Wnt.grp 3 (by omega) (fun _ => by kernel_rfl) (fun _ => by kernel_rfl) (fun x => ⟨_, rfl⟩) 39 (enters_of Try.func39 (by kernel_rfl) rfl) ?_ l (srtW l) (srtW_perm l) (srtW_asc h) h.1
  intro a b xs ys w hx hy ox oy
  match xs, hx with
  | [x1, x2], _ =>
  match ys, hy with
  | [y1, y2], _ => exact cmpW_calls a b x1 x2 y1 y2 w ⟨ox x1 (by simp), ox x2 (by simp)⟩ ⟨oy y1 (by simp), oy y2 (by simp)⟩
def sortW_h (l : List Wnt) (h : okSrt l) : HC Try.prog := ⟨38, [.k, .k], [.vec 0, .func 39 []], [.vec 3 (l.map Wnt.v)], .tup [], [some (.vec 3 ((srtW l).map Wnt.v))], sortW_spec l h, fnB_ok (by kernel_rfl),
  HcOk.of (by simp [hcB, belBL, AV.belB, allB, okBk, okBkO, pureBL_map (v := Wnt.v) (fun _ => rfl)])⟩
def noF2 (f : Flt) : Bool := f.mode == 1 && (f.srcs.length : Int) == 0
theorem noF2_iff {f : Flt} : noF2 f = true ↔ f.mode = 1 ∧ f.srcs = [] := by
  simp [noF2]
def noF2_a (f : Flt) : Prop := okL [.agg [.int f.mode, .sl 1 (f.srcs.map AV.int) false]]
def noF2_s : Nat → Type
  | _ => Unit
def noF2_e (r : Bool) : AV := .bool r
def noF2_vc (f : Flt) (r0 : Bool) : Prop :=
 br (f.mode == 1)
 (Rf (noF2_e (((f.srcs.map AV.int).length : Int) == 0)) ((((f.srcs.map AV.int).length : Int) == 0) = r0))
 (Rf (noF2_e (false)) ((false) = r0))
theorem noF2_eq (f : Flt) (r0 : Bool) : mxP Try.prog 37 [.agg [.int f.mode, .sl 1 (f.srcs.map AV.int) false]] .k noF2_e ((.br 96 (.ret (((f.srcs.map AV.int).length : Int) == 0))
 (.ret (false))) : An Try.prog noF2_s (Bool)) r0 = noF2_vc f r0 := by kernel_rfl
theorem noF2_ok (f : Flt) (r0 : Bool) (h : noF2_vc f r0) : PSpec Try.prog 37 [.agg [.int f.mode, .sl 1 (f.srcs.map AV.int) false]] (noF2_e r0) := by
  have e := noF2_eq f r0
  rw [← e] at h
  exact mxP_ok (enc := noF2_e) h (AV.pureB_ok rfl)
theorem noF2_p (f : Flt) (ok : noF2_a f) : noF2_vc f (noF2 f) := by
  simp only [noF2_vc, vcU, rfU, List.length_map]
  by_cases h : f.mode = 1 <;> simp [noF2, h]
def noF2_c (f : Flt) : PC Try.prog := ⟨37, [(.a [.k, (.s 1)])], [.agg [.int f.mode, .sl 1 (f.srcs.map AV.int) false]], noF2_e (noF2 f), PSpec.of_ok fun ok => noF2_ok f _ (noF2_p f ok), fnB_ok (by kernel_rfl)⟩
def wOf (l : List Itm) : List Wnt := (l.filter fun x => !noF2 ⟨x.mode, x.srcs⟩).map fun x => ⟨x.grp, x.mode, x.srcs⟩
theorem wOf_snoc (l : List Itm) (x : Itm) : wOf (l ++ [x]) = if noF2 ⟨x.mode, x.srcs⟩ = true then wOf l else wOf l ++ [⟨x.grp, x.mode, x.srcs⟩] := by
  unfold wOf
  rw [List.filter_append, List.map_append]
  by_cases h : noF2 ⟨x.mode, x.srcs⟩ = true
  · rw [if_pos h]; simp [List.filter_cons, h]
  · rw [if_neg h]; simp [List.filter_cons, h]
theorem wOf_len (l : List Itm) : (wOf l).length ≤ l.length := by unfold wOf; rw [List.length_map]; exact List.length_filter_le _ _
theorem mem_wOf {l : List Itm} {w : Wnt} : w ∈ wOf l ↔ ∃ x ∈ l, ¬ (x.mode = 1 ∧ x.srcs = []) ∧ w = ⟨x.grp, x.mode, x.srcs⟩ := by
  unfold wOf
  rw [List.mem_map]
  constructor
  · rintro ⟨x, hx, rfl⟩
    obtain ⟨h1, h2⟩ := List.mem_filter.mp hx
    refine ⟨x, h1, fun e => ?_, rfl⟩
    rw [noF2_iff.mpr e] at h2; cases h2
  · rintro ⟨x, hx, h, rfl⟩
    refine ⟨x, List.mem_filter.mpr ⟨hx, ?_⟩, rfl⟩
    cases e : noF2 ⟨x.mode, x.srcs⟩ with
    | true => exact absurd (noF2_iff.mp e) h
    | false => rfl
theorem wOf_srt {l : List Itm} (h : itmsOk 1000000 l) : okSrt (wOf l) := by
  refine ⟨by have := wOf_len l; have := itms_len h; omega, ?_⟩
  unfold wOf
  rw [List.pairwise_map]
  refine List.Pairwise.filter _ ?_
  have := h.2.1
  rw [List.Nodup, List.pairwise_map] at this
  exact this
theorem wants_srt {l : List Itm} (h : itmsOk 1000000 l) : srtW (wOf l) = wantsOf l := by
  rw [wantsOf, if_pos h]
  refine ascW_ext (srtW_asc (wOf_srt h)) (fromF_asc 99) fun w => ?_
  rw [(srtW_perm _).mem_iff, mem_wOf, mem_fromF]
  constructor
  · rintro ⟨x, hx, h1, rfl⟩
    have := told_in h.2.1 hx
    refine ⟨by have := (h.1 x hx).2.1; simp only; omega, this, ?_⟩
    simp only
    rw [this]
    intro e
    simp only [Prod.mk.injEq] at e
    exact h1 e
  · rintro ⟨_, h1, h2⟩
    obtain ⟨x, hx, e1, e2⟩ := told_some h2
    rw [h1] at e2
    simp only [Prod.mk.injEq] at e2
    refine ⟨x, hx, fun e => h2 ?_, ?_⟩
    · rw [h1, e2.1, e2.2, e.1, e.2]
    · cases w; simp only at e1 e2; rw [e1, e2.1, e2.2]
def wantsF_a (l : (List Itm)) : Prop := okL [.sl 4 (l.map Itm.v) false]
def wantsF_n0 (l : (List Itm)) (t0 : Int × (List Wnt)) : NF := ⟨[(3, .k, .vec 0), (9, .k, .sl 4 (l.map Itm.v) false), (10, .k, .int ((l.map Itm.v).length : Int)), (11, .k, .int t0.1)], [.vec 3 (t0.2.map Wnt.v) (pureBL_map (fun _ => rfl) t0.2)]⟩
def wantsF_s : Nat → Type
  | 0 => Int × (List Wnt)
  | _ => Unit
def wantsF_e (r : (List Wnt)) : AV := .sl 3 (r.map Wnt.v) false
def wantsF_vc (l : (List Itm)) (I0 : (Int × (List Wnt)) → Prop) (m0 : (Int × (List Wnt)) → Nat) (r0 : (List Wnt)) : Prop :=
 Cl (itemsB_c l 1000000)
 (br (!(itemsB l 1000000))
 (Rf (wantsF_e ([])) (([]) = r0))
 (Nf (wantsF_n0 l (0, [])) [128] (I0 (0, [])) ∧ ∀ t0 : Int × (List Wnt), I0 t0 →
 br (decide (t0.1 < ((l.map Itm.v).length : Int)))
 (Rf (l.map Itm.v) (ck (decide (0 ≤ t0.1)) (ck (decide (t0.1 < (l.length : Int)))
 (∀ x1, l[t0.1.toNat]? = some x1 →
 Cl (noF2_c (⟨x1.mode, x1.srcs⟩ : Flt))
 (br (!(noF2 (⟨x1.mode, x1.srcs⟩ : Flt)))
 (∃ h2 : (⟨x1.mode, x1.srcs⟩ : Flt).srcs.length ≤ 1000000,
 Cl (filtered_c (⟨x1.mode, x1.srcs⟩ : Flt) h2)
 (Rf (α := List AV) (t0.2.map Wnt.v) (Rf (α := List AV) [.agg [.int x1.grp, .int x1.mode, .sl 1 (x1.srcs.map AV.int) false]]
 (ck (decide (t0.2.length + 1 ≤ 1000000))
 (Nf (wantsF_n0 l (W (t0.1 + 1), t0.2 ++ [(⟨x1.grp, x1.mode, x1.srcs⟩ : Wnt)])) [273] (I0 (W (t0.1 + 1), t0.2 ++ [(⟨x1.grp, x1.mode, x1.srcs⟩ : Wnt)]) ∧ m0 (W (t0.1 + 1), t0.2 ++ [(⟨x1.grp, x1.mode, x1.srcs⟩ : Wnt)]) < m0 t0))))))
 (Nf (wantsF_n0 l (W (t0.1 + 1), t0.2)) [0] (I0 (W (t0.1 + 1), t0.2) ∧ m0 (W (t0.1 + 1), t0.2) < m0 t0)))))))
 (∃ h3 : okSrt t0.2,
 Ch (sortW_h t0.2 h3) [0] 33
 (Rf ((srtW t0.2).map Wnt.v) (Rf (wantsF_e (srtW t0.2)) ((srtW t0.2) = r0))))))
theorem wantsF_eq (l : (List Itm)) (I0 : (Int × (List Wnt)) → Prop) (m0 : (Int × (List Wnt)) → Nat) (r0 : (List Wnt)) : mxP Try.prog 12 [.sl 4 (l.map Itm.v) false] (.s 3) wantsF_e ((.callP (itemsB_c l 1000000)
 (.br 64 (.ret ([]))
 (.cmdL (.nilT 3 3) (.loop 0 (wantsF_n0 l) (I0) (m0) ((0, []) : Int × (List Wnt)) [128] fun (t0 : Int × (List Wnt)) =>
 (.br 17 (.el 17 Itm.v l fun x1 =>
 (.callP (noF2_c (⟨x1.mode, x1.srcs⟩ : Flt))
 (.br 145 (.req 225 ((⟨x1.mode, x1.srcs⟩ : Flt).srcs.length ≤ 1000000) fun h2 =>
 (.callP (filtered_c (⟨x1.mode, x1.srcs⟩ : Flt) h2)
 (.app 273 Wnt.v t0.2 [(⟨x1.grp, x1.mode, x1.srcs⟩ : Wnt)]
 (.back 0 ((W (t0.1 + 1), t0.2 ++ [(⟨x1.grp, x1.mode, x1.srcs⟩ : Wnt)]) : Int × (List Wnt)) [273]))))
 (.back 0 ((W (t0.1 + 1), t0.2) : Int × (List Wnt)) [0]))))
 (.req 33 (okSrt t0.2) fun h3 =>
 (.callH [0] (sortW_h t0.2 h3)
 (.cmdL (.frzE 0 ((srtW t0.2).map Wnt.v) (pureBL_map (fun _ => rfl) (srtW t0.2))) (.ret (srtW t0.2)))))))))) : An Try.prog wantsF_s ((List Wnt))) r0 = wantsF_vc l I0 m0 r0 := by kernel_rfl
theorem wantsF_ok (l : (List Itm)) (I0 : (Int × (List Wnt)) → Prop) (m0 : (Int × (List Wnt)) → Nat) (r0 : (List Wnt)) (h : wantsF_vc l I0 m0 r0) : PSpec Try.prog 12 [.sl 4 (l.map Itm.v) false] (wantsF_e r0) := by
  have e := wantsF_eq l I0 m0 r0
  rw [← e] at h
  exact mxP_ok (enc := wantsF_e) h (AV.pureB_ok rfl)
theorem wantsF_p (l : List Itm) (ok : wantsF_a l) : ∃ I m, wantsF_vc l I m (wantsOf l) := by
  refine ⟨fun t => ∃ k : Nat, t.1 = k ∧ k ≤ l.length ∧ t.2 = wOf (l.take k), fun t => l.length - t.1.toNat, ?_⟩
  simp only [wantsF_vc, vcU, rfU, List.length_map]
  simp only [itemsB, Bool.not_eq_true', decide_eq_false_iff_not, Bool.not_eq_false', decide_eq_true_iff]
  refine ⟨fun h => by rw [wantsOf, if_neg h], fun h => ⟨⟨0, rfl, by omega, rfl⟩, ?_⟩⟩
  rintro ⟨_, ws⟩ ⟨k, rfl, hk, rfl⟩
  have hl := itms_len h
  simp only [Int.toNat_natCast]
  refine ⟨fun h1 => ⟨by omega, by omega, fun x hx => ?_⟩, fun h1 => ?_⟩
  · have hs := srcs_len (h.1 x (mem_of_get hx)).2.2
    have hw := wOf_len (l.take k)
    rw [List.length_take] at hw
    rw [W_succ (n := l.length) (by omega) (by omega)]
    refine ⟨fun e => ⟨by omega, by omega, ⟨k + 1, rfl, by omega, ?_⟩, by omega⟩, fun e => ⟨⟨k + 1, rfl, by omega, ?_⟩, by omega⟩⟩
    · rw [take_succ hx, wOf_snoc, if_neg (by simp [e])]
    · rw [take_succ hx, wOf_snoc, if_pos e]
  · have e : l.take k = l := List.take_of_length_le (by omega)
    rw [e]
    exact ⟨wOf_srt h, by rw [wants_srt h]⟩
def wantsF_c (l : (List Itm)) : PC Try.prog := ⟨12, [(.s 4)], [.sl 4 (l.map Itm.v) false], wantsF_e (wantsOf l), PSpec.of_ok fun ok => (wantsF_p l ok).elim fun I0 h => h.elim fun m0 h => wantsF_ok l I0 m0 _ h, fnB_ok (by kernel_rfl)⟩
def knownW (l : Lsn) (r : Int) : List Wnt := if lsnOk l ∧ hitH l.heard r then wantsOf (atH l.heard r).items else []
end Go.Proofs.Ytglfecmdoekabaa
