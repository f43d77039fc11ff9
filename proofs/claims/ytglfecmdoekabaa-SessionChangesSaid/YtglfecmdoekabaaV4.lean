/- The wants of items, and what changes do to them, in plain Lean. -/
import Derived.Test.YtglfecmdoekabaaU1
namespace Go.Proofs.Ytglfecmdoekabaa
open Go Go.Am
set_option linter.unusedVariables false
set_option linter.unusedSimpArgs false

def from1 (f : Int → Int × List Int) (g : Int) : List Wnt := if f g = (1, []) then [] else [⟨g, (f g).1, (f g).2⟩]
def fromF (f : Int → Int × List Int) : Nat → List Wnt
  | 0 => []
  | n + 1 => fromF f n ++ from1 f (n + 1)
def wantsOf (l : List Itm) : List Wnt := if itmsOk 1000000 l then fromF (told l) 99 else []
theorem mem_from1 {f : Int → Int × List Int} {g : Int} {w : Wnt} : w ∈ from1 f g ↔ w.grp = g ∧ f w.grp = (w.mode, w.srcs) ∧ f w.grp ≠ (1, []) := by
  unfold from1
  split
  · rename_i e
    simp only [List.not_mem_nil, false_iff]
    rintro ⟨rfl, _, h⟩; exact h e
  · rename_i e
    rw [List.mem_singleton]
    constructor
    · rintro rfl; exact ⟨rfl, rfl, e⟩
    · rintro ⟨rfl, h1, _⟩
      rw [h1]
theorem mem_fromF {f : Int → Int × List Int} {w : Wnt} : ∀ {n : Nat}, w ∈ fromF f n ↔ (1 ≤ w.grp ∧ w.grp ≤ n) ∧ f w.grp = (w.mode, w.srcs) ∧ f w.grp ≠ (1, [])
  | 0 => by simp only [fromF, List.not_mem_nil, false_iff]; rintro ⟨h, _⟩; omega
  | n + 1 => by
    rw [fromF, List.mem_append, mem_fromF (n := n), mem_from1]
    constructor
    · rintro (⟨h1, h2⟩ | ⟨h1, h2⟩)
      · exact ⟨by omega, h2⟩
      · exact ⟨by omega, h2⟩
    · rintro ⟨h1, h2⟩
      by_cases e : w.grp = ((n + 1 : Nat) : Int)
      · exact .inr ⟨by omega, h2⟩
      · exact .inl ⟨by omega, h2⟩
theorem fromF_asc {f : Int → Int × List Int} : ∀ n : Nat, (fromF f n).Pairwise fun x y => x.grp < y.grp
  | 0 => List.Pairwise.nil
  | n + 1 => by
    refine List.pairwise_append.mpr ⟨fromF_asc n, ?_, fun a ha b hb => ?_⟩
    · unfold from1; split
      · exact List.Pairwise.nil
      · exact List.pairwise_singleton _ _
    · have := (mem_fromF.mp ha).1
      have := (mem_from1.mp hb).1
      omega
/-- Lists with ascending groups and the same members are equal. -/
theorem ascW_ext : ∀ {a b : List Wnt}, a.Pairwise (fun x y => x.grp < y.grp) → b.Pairwise (fun x y => x.grp < y.grp) → (∀ x, x ∈ a ↔ x ∈ b) → a = b := by
  intro a
  induction a with
  | nil =>
    intro b _ _ h
    cases b with
    | nil => rfl
    | cons y b => exact absurd ((h y).mpr (by simp)) (by simp)
  | cons x a ih =>
    intro b ha hb h
    cases b with
    | nil => exact absurd ((h x).mp (by simp)) (by simp)
    | cons y b =>
      rw [List.pairwise_cons] at ha hb
      have hxy : x = y := by
        refine Classical.byContradiction fun hne => ?_
        have h1 : x ∈ b := (List.mem_cons.mp ((h x).mp (by simp))).resolve_left hne
        have h2 : y ∈ a := (List.mem_cons.mp ((h y).mpr (by simp))).resolve_left (Ne.symm hne)
        have := ha.1 y h2
        have := hb.1 x h1
        omega
      subst hxy
      rw [ih ha.2 hb.2 fun z => ?_]
      constructor
      · intro hz
        refine (List.mem_cons.mp ((h z).mp (by simp [hz]))).resolve_left fun e => ?_
        subst e
        have := ha.1 z hz
        omega
      · intro hz
        refine (List.mem_cons.mp ((h z).mpr (by simp [hz]))).resolve_left fun e => ?_
        subst e
        have := hb.1 z hz
        omega
theorem told_in {l : List Itm} (h : (l.map Itm.grp).Nodup) {x : Itm} (hx : x ∈ l) : told l x.grp = (x.mode, x.srcs) := by
  unfold told
  cases e : l.find? fun y => decide (y.grp = x.grp) with
  | none => rw [List.find?_eq_none] at e; exact absurd (e x hx) (by simp)
  | some y =>
    have h1 := List.mem_of_find?_eq_some e
    have h2 := List.find?_some e
    rw [Nodup.grp h h1 hx (by simpa using h2)]
theorem told_no {l : List Itm} {g : Int} (h : ∀ x ∈ l, x.grp ≠ g) : told l g = (1, []) := by
  unfold told
  rw [List.find?_eq_none.mpr (fun x hx => by simpa using h x hx)]
theorem told_some {l : List Itm} {g : Int} (h : told l g ≠ (1, [])) : ∃ x ∈ l, x.grp = g ∧ told l g = (x.mode, x.srcs) := by
  unfold told at h ⊢
  cases e : l.find? fun y => decide (y.grp = g) with
  | none => rw [e] at h; exact absurd rfl h
  | some y => exact ⟨y, List.mem_of_find?_eq_some e, by simpa using List.find?_some e, rfl⟩
def toW (x : Itm) : Wnt := ⟨x.grp, x.mode, x.srcs⟩
def keepW (x : Itm) : Bool := !(decide (x.mode = 1) && decide (x.srcs = []))
theorem keepW_iff {x : Itm} : keepW x = true ↔ (x.mode, x.srcs) ≠ (1, []) := by
  unfold keepW
  by_cases h1 : x.mode = 1 <;> by_cases h2 : x.srcs = [] <;> simp [h1, h2]
theorem mem_wantsOf {l : List Itm} (h : itmsOk 1000000 l) {w : Wnt} : w ∈ fromF (told l) 99 ↔ w ∈ (l.filter keepW).map toW := by
  rw [mem_fromF, List.mem_map]
  constructor
  · rintro ⟨h1, h2, h3⟩
    obtain ⟨x, hx, e1, e2⟩ := told_some h3
    refine ⟨x, List.mem_filter.mpr ⟨hx, keepW_iff.mpr (e2 ▸ h3)⟩, ?_⟩
    have e3 := e2.symm.trans h2
    rw [Prod.mk.injEq] at e3
    cases w; simp only [toW] at *; rw [e1, e3.1, e3.2]
  · rintro ⟨x, hx, rfl⟩
    obtain ⟨h1, h2⟩ := List.mem_filter.mp hx
    have e := told_in h.2.1 h1
    refine ⟨(h.1 x h1).2.1, e, ?_⟩
    show told l x.grp ≠ _
    rw [e]; exact keepW_iff.mp h2
theorem perm_nodup : ∀ {a b : List Wnt}, a.Nodup → b.Nodup → (∀ x, x ∈ a ↔ x ∈ b) → a.Perm b
  | [], b, _, _, h => by
    cases b with
    | nil => exact List.Perm.refl _
    | cons y b => exact absurd ((h y).mpr (by simp)) (by simp)
  | x :: a, b, ha, hb, h => by
    have hx : x ∈ b := (h x).mp (by simp)
    have ha' := List.nodup_cons.mp ha
    refine (List.Perm.cons x (perm_nodup ha'.2 (hb.erase x) fun y => ?_)).trans (List.perm_cons_erase hx).symm
    rw [hb.mem_erase_iff, ← h y, List.mem_cons]
    constructor
    · intro hy; exact ⟨fun e => ha'.1 (e ▸ hy), .inr hy⟩
    · rintro ⟨h1, h2⟩; exact h2.resolve_left h1
theorem wantsOf_perm {l : List Itm} (h : itmsOk 1000000 l) : (fromF (told l) 99).Perm ((l.filter keepW).map toW) := by
  refine perm_nodup ((fromF_asc 99).imp fun h e => by rw [e] at h; omega) ?_ fun x => mem_wantsOf h
  have : ((l.filter keepW).map Itm.grp).Nodup := h.2.1.sublist (List.Sublist.map _ List.filter_sublist)
  rw [List.Nodup, List.pairwise_map] at this ⊢
  exact this.imp fun h e => h (by simp only [toW, Wnt.mk.injEq] at e; exact e.1)

/-! ### Wants that are valid are those of what they say of each group -/
def find2 (l : List Wnt) (g : Int) : Int × List Int := ((findW l g).mode, (findW l g).srcs)
theorem findW_in {l : List Wnt} (h : l.Pairwise fun x y => x.grp < y.grp) {w : Wnt} (hw : w ∈ l) : findW l w.grp = ⟨w.mode, w.srcs⟩ := by
  unfold findW
  cases e : l.find? fun y => decide (y.grp = w.grp) with
  | none => rw [List.find?_eq_none] at e; exact absurd (e w hw) (by simp)
  | some y =>
    have h1 := List.mem_of_find?_eq_some e
    have h2 : y.grp = w.grp := by simpa using List.find?_some e
    have : y = w := by
      obtain ⟨i, hi, rfl⟩ := List.mem_iff_getElem.mp h1
      obtain ⟨j, hj, rfl⟩ := List.mem_iff_getElem.mp hw
      rw [List.pairwise_iff_getElem] at h
      rcases Nat.lt_trichotomy i j with g | g | g
      · have := h i j hi hj g; omega
      · subst g; rfl
      · have := h j i hj hi g; omega
    rw [this]
theorem findW_some {l : List Wnt} {g : Int} (h : findW l g ≠ ⟨1, []⟩) : ∃ w ∈ l, w.grp = g ∧ findW l g = ⟨w.mode, w.srcs⟩ := by
  unfold findW at h ⊢
  cases e : l.find? fun y => decide (y.grp = g) with
  | none => rw [e] at h; exact absurd rfl h
  | some y => exact ⟨y, List.mem_of_find?_eq_some e, by simpa using List.find?_some e, rfl⟩
theorem find2_ne {l : List Wnt} {g : Int} : find2 l g ≠ (1, []) ↔ findW l g ≠ ⟨1, []⟩ := by
  unfold find2
  cases findW l g
  simp
theorem wants_from {w : List Wnt} (h : wErr false w = 0) : w = fromF (find2 w) 99 := by
  obtain ⟨_, h1, h2, h3, h4⟩ := wErr_zero.mp h
  refine ascW_ext h4 (fromF_asc 99) fun x => ?_
  rw [mem_fromF]
  constructor
  · intro hx
    have e := findW_in h4 hx
    refine ⟨h1 x hx, by unfold find2; rw [e], ?_⟩
    rw [find2_ne, e]
    intro e'
    simp only [Flt.mk.injEq] at e'
    exact h3 rfl x hx e'
  · rintro ⟨g1, g2, g3⟩
    obtain ⟨y, hy, e1, e2⟩ := findW_some (find2_ne.mp g3)
    unfold find2 at g2
    rw [e2] at g2
    simp only [Prod.mk.injEq] at g2
    have : y = x := by cases x; cases y; simp_all
    rw [← this]; exact hy
theorem fromF_congr {f g : Int → Int × List Int} : ∀ {n : Nat}, (∀ i : Int, 1 ≤ i → i ≤ n → f i = g i) → fromF f n = fromF g n
  | 0, _ => rfl
  | n + 1, h => by
    rw [fromF, fromF, fromF_congr (n := n) fun i h1 h2 => h i h1 (by omega), from1, from1, h ((n : Int) + 1) (by omega) (by omega)]
theorem find_wantsOf {l : List Itm} (h : itmsOk 1000000 l) {g : Int} : find2 (wantsOf l) g = told l g := by
  have hw : wantsOf l = fromF (told l) 99 := if_pos h
  rw [hw]
  by_cases e : told l g = (1, [])
  · rw [e]
    unfold find2
    rw [findW_none fun w hw' e' => ?_]
    obtain ⟨_, g2, g3⟩ := mem_fromF.mp hw'
    rw [e'] at g3; exact g3 e
  · obtain ⟨x, hx, e1, e2⟩ := told_some e
    have hm : (⟨g, x.mode, x.srcs⟩ : Wnt) ∈ fromF (told l) 99 := mem_fromF.mpr ⟨by have := (h.1 x hx).2.1; simp only; omega, e2, e⟩
    have := findW_in (fromF_asc 99) hm
    unfold find2
    simp only at this
    rw [this, e2]

/-! ### Changes -/
theorem told_put1 {l : List Itm} {x : Itm} {g : Int} : told (put1 l x) g = if g = x.grp then (x.mode, x.srcs) else told l g := by
  unfold told put1
  rw [List.find?_append]
  by_cases e : g = x.grp
  · subst e
    rw [if_pos rfl, List.find?_eq_none.mpr fun y hy => by have := (mem_without.mp hy).2; simpa using this]
    simp
  · rw [if_neg e]
    have : (without x.grp l).find? (fun y => decide (y.grp = g)) = l.find? fun y => decide (y.grp = g) := by
      unfold without
      rw [List.find?_filter]
      congr 1
      funext y
      by_cases e2 : y.grp = g
      · simp [e2, e]
      · simp [e2]
    rw [this]
    cases l.find? fun y => decide (y.grp = g) with
    | some y => rfl
    | none => simp [Ne.symm e]
theorem told_chg1 {n : Int} {l : List Itm} {w : Wnt} {g : Int} : told (chg1 (n, l) w).2 g = if g = w.grp then (w.mode, w.srcs) else told l g := by
  unfold chg1
  split
  · rename_i e
    simp only at e
    by_cases h : g = w.grp
    · subst h; rw [if_pos rfl, e]
    · rw [if_neg h]
  · exact told_put1
theorem told_fold : ∀ {c : List Wnt} {n : Int} {l : List Itm} {g : Int}, c.Pairwise (fun x y => x.grp < y.grp) → told (c.foldl chg1 (n, l)).2 g = if (∃ w ∈ c, w.grp = g) then find2 c g else told l g
  | [], n, l, g, _ => by simp
  | w :: c, n, l, g, h => by
    have h' := List.pairwise_cons.mp h
    rw [List.foldl_cons]
    have ih := told_fold (c := c) (n := (chg1 (n, l) w).1) (l := (chg1 (n, l) w).2) (g := g) h'.2
    rw [show ((chg1 (n, l) w).1, (chg1 (n, l) w).2) = chg1 (n, l) w from rfl] at ih
    rw [ih]
    by_cases e : w.grp = g
    · have no : ¬ ∃ v ∈ c, v.grp = g := fun ⟨v, hv, e'⟩ => by have := h'.1 v hv; omega
      rw [if_neg no, told_chg1, if_pos e.symm, if_pos ⟨w, by simp, e⟩]
      have := findW_in h (w := w) (by simp)
      unfold find2
      rw [← e, this]
    · by_cases e2 : ∃ v ∈ c, v.grp = g
      · rw [if_pos e2, if_pos (by obtain ⟨v, hv, q⟩ := e2; exact ⟨v, by simp [hv], q⟩)]
        unfold find2 findW
        rw [List.find?_cons]
        simp [e]
      · rw [if_neg e2, told_chg1, if_neg (Ne.symm e), if_neg]
        rintro ⟨v, hv, q⟩
        rcases List.mem_cons.mp hv with rfl | hv
        · exact e q
        · exact e2 ⟨v, hv, q⟩
theorem fold_len : ∀ {c : List Wnt} {n : Int} {l : List Itm}, c.Pairwise (fun x y => x.grp < y.grp) → (∀ w ∈ c, told l w.grp ≠ (w.mode, w.srcs)) → (c.foldl chg1 (n, l)).1 = n + c.length
  | [], n, l, _, _ => by simp
  | w :: c, n, l, h, hn => by
    have h' := List.pairwise_cons.mp h
    have e : chg1 (n, l) w = (n + 1, put1 l ⟨n + 1, w.grp, w.mode, w.srcs⟩) := if_neg (hn w (by simp))
    rw [List.foldl_cons, e, fold_len h'.2 fun v hv => ?_]
    · simp; omega
    · rw [told_put1, if_neg (by have := h'.1 v hv; simp only; omega)]
      exact hn v (by simp [hv])
theorem fold_same : ∀ {c : List Wnt} {n : Int} {l : List Itm}, (∀ w ∈ c, told l w.grp = (w.mode, w.srcs)) → c.foldl chg1 (n, l) = (n, l)
  | [], n, l, _ => rfl
  | w :: c, n, l, h => by
    have e : chg1 (n, l) w = (n, l) := if_pos (h w (by simp))
    rw [List.foldl_cons, e]
    exact fold_same fun v hv => h v (by simp [hv])
/-- An item stays exactly if its group is not changed. -/
theorem fold_stay : ∀ {c : List Wnt} {n : Int} {l : List Itm} {x : Itm}, c.Pairwise (fun x y => x.grp < y.grp) → (∀ w ∈ c, told l w.grp ≠ (w.mode, w.srcs)) → x ∈ l → x.ver ≤ n →
    (x ∈ (c.foldl chg1 (n, l)).2 ↔ ¬ ∃ w ∈ c, w.grp = x.grp)
  | [], n, l, x, _, _, hx, _ => by simp [hx]
  | w :: c, n, l, x, h, hn, hx, hv => by
    have h' := List.pairwise_cons.mp h
    have e : chg1 (n, l) w = (n + 1, put1 l ⟨n + 1, w.grp, w.mode, w.srcs⟩) := if_neg (hn w (by simp))
    rw [List.foldl_cons, e]
    have hn' : ∀ v ∈ c, told (put1 l ⟨n + 1, w.grp, w.mode, w.srcs⟩) v.grp ≠ (v.mode, v.srcs) := fun v hv => by
      rw [told_put1, if_neg (by have := h'.1 v hv; simp only; omega)]
      exact hn v (by simp [hv])
    by_cases g : w.grp = x.grp
    · refine iff_of_false (fun hm => ?_) (fun q => q ⟨w, by simp, g⟩)
      have : ∀ {c : List Wnt} {n : Int} {l : List Itm}, (∀ y ∈ l, y.grp = x.grp → x.ver < y.ver) → x.ver ≤ n → x ∈ (c.foldl chg1 (n, l)).2 → False := by
        intro c
        induction c with
        | nil => intro n l q1 q2 q3; have := q1 x q3 rfl; omega
        | cons v c ih =>
          intro n l q1 q2 q3
          rw [List.foldl_cons] at q3
          by_cases e2 : told l v.grp = (v.mode, v.srcs)
          · rw [show chg1 (n, l) v = (n, l) from if_pos e2] at q3
            exact ih q1 q2 q3
          · rw [show chg1 (n, l) v = (n + 1, put1 l ⟨n + 1, v.grp, v.mode, v.srcs⟩) from if_neg e2] at q3
            refine ih (fun y hy e3 => ?_) (by omega) q3
            rcases mem_put1.mp hy with q | rfl
            · exact q1 y q.1 e3
            · simp only; omega
      refine this (fun y hy e2 => ?_) (by omega) hm
      rcases mem_put1.mp hy with q | rfl
      · exact absurd (e2.trans g.symm) q.2
      · simp only; omega
    · rw [fold_stay h'.2 hn' (mem_put1.mpr (.inl ⟨hx, Ne.symm g⟩)) (by omega)]
      constructor
      · rintro q ⟨v, hv, e2⟩
        rcases List.mem_cons.mp hv with rfl | hv
        · exact g e2
        · exact q ⟨v, hv, e2⟩
      · rintro q ⟨v, hv, e2⟩
        exact q ⟨v, by simp [hv], e2⟩
theorem mem_chgsTo {old new : List Wnt} {w : Wnt} : ∀ {n : Nat}, w ∈ chgsTo old new n ↔ (1 ≤ w.grp ∧ w.grp ≤ n) ∧ findW new w.grp = ⟨w.mode, w.srcs⟩ ∧ findW new w.grp ≠ findW old w.grp
  | 0 => by simp only [chgsTo, List.not_mem_nil, false_iff]; rintro ⟨h, _⟩; omega
  | n + 1 => by
    rw [chgsTo, List.mem_append, mem_chgsTo (n := n)]
    have : w ∈ chgs1 old new (n + 1) ↔ w.grp = n + 1 ∧ findW new w.grp = ⟨w.mode, w.srcs⟩ ∧ findW new w.grp ≠ findW old w.grp := by
      unfold chgs1
      split
      · rename_i e
        simp only [List.not_mem_nil, false_iff]
        rintro ⟨q, _, h⟩; rw [q] at h; exact h e
      · rename_i e
        rw [List.mem_singleton]
        constructor
        · rintro rfl; exact ⟨rfl, rfl, e⟩
        · rintro ⟨q, h1, _⟩
          rw [q] at h1
          cases w; simp only at q h1 ⊢; rw [h1, q]
    rw [this]
    constructor
    · rintro (⟨h1, h2⟩ | ⟨h1, h2⟩)
      · exact ⟨by omega, h2⟩
      · exact ⟨by omega, h2⟩
    · rintro ⟨h1, h2⟩
      by_cases e : w.grp = n + 1
      · exact .inr ⟨e, h2⟩
      · exact .inl ⟨by omega, h2⟩
end Go.Proofs.Ytglfecmdoekabaa
