/- Members in plain Lean: what Report, Find, Tick and Leave mean for the members in a list. -/
import Derived.Test.YtaboolnmkfenlaaS10
namespace Go.Proofs.Ytaboolnmkfenlaa
open Go Go.Am
set_option linter.unusedVariables false
set_option linter.unusedSimpArgs false

theorem flt_all : fltErr 2 [] = 0 := by decide
theorem flt_none : fltErr 1 [] = 0 := by decide
theorem all_no : ¬ ((2 : Int) = 1 ∧ ([] : List Int) = []) := by omega
theorem other_iff {h g : Int} {x : Mem} : other h g x = true ↔ (x.host ≠ h ∨ x.group ≠ g) := by simp [other]
theorem ltM_total {x y : Mem} (h1 : ¬ ltM y x.group x.host) (h2 : y.host ≠ x.host ∨ y.group ≠ x.group) : ltM x y.group y.host := by
  unfold ltM at *; omega
theorem ltM_irr {x : Mem} : ¬ ltM x x.group x.host := by unfold ltM; omega
theorem ltM_asym {x y : Mem} (h1 : ltM x y.group y.host) : ¬ ltM y x.group x.host := by unfold ltM at *; omega
theorem mem_take_pos {l : List Mem} {g h : Int} {a : Mem} (ha : a ∈ l.take (posM l g h)) : ltM a g h := by
  obtain ⟨i, hi, rfl⟩ := List.getElem_of_mem ha
  have h1 : i < posM l g h ∧ i < l.length := by simp at hi; omega
  rw [List.getElem_take]
  exact posM_lo i h1.2 h1.1
theorem mem_drop_pos {l : List Mem} (ho : ordM l) {g h : Int} {a : Mem} (ha : a ∈ l.drop (posM l g h)) : ¬ ltM a g h := by
  obtain ⟨i, hi, rfl⟩ := List.getElem_of_mem ha
  rw [List.getElem_drop]
  exact posM_hi ho _ _ (by omega)
theorem mem_insM {l : List Mem} {x y : Mem} : y ∈ insM l x ↔ y ∈ l ∨ y = x := by
  unfold insM insAt
  rw [List.mem_append, List.mem_append, List.mem_singleton]
  conv => rhs; rw [← List.take_append_drop (posM l x.group x.host) l, List.mem_append]
  constructor
  · rintro ((h | h) | h)
    · exact .inl (.inl h)
    · exact .inr h
    · exact .inl (.inr h)
  · rintro ((h | h) | h)
    · exact .inl (.inl h)
    · exact .inr h
    · exact .inl (.inr h)
theorem length_insM {l : List Mem} {x : Mem} : (insM l x).length = l.length + 1 := by
  unfold insM insAt
  have := posM_le l x.group x.host
  simp; omega
theorem ord_insM {l : List Mem} {x : Mem} (ho : ordM l) (hx : ∀ y ∈ l, other x.host x.group y = true) : ordM (insM l x) := by
  rw [ord_pw]
  have hp := ord_pw.mp ho
  unfold insM insAt
  rw [List.pairwise_append, List.pairwise_append]
  have hxd : ∀ b ∈ l.drop (posM l x.group x.host), ltM x b.group b.host := fun b hb =>
    ltM_total (mem_drop_pos ho hb) (other_iff.mp (hx b (List.mem_of_mem_drop hb)))
  refine ⟨⟨hp.sublist (List.take_sublist _ _), List.pairwise_singleton _ _, fun a ha b hb => ?_⟩, hp.sublist (List.drop_sublist _ _), fun a ha b hb => ?_⟩
  · rw [List.mem_singleton] at hb; subst hb; exact mem_take_pos ha
  · rcases List.mem_append.mp ha with ha | ha
    · exact ltM_trans (mem_take_pos ha) (hxd b hb)
    · rw [List.mem_singleton] at ha; subst ha; exact hxd b hb
/-- Ordered lists with the same members are equal. -/
theorem ord_ext : ∀ {a b : List Mem}, ordM a → ordM b → (∀ x, x ∈ a ↔ x ∈ b) → a = b := by
  suffices h : ∀ {a b : List Mem}, a.Pairwise (fun x y => ltM x y.group y.host) → b.Pairwise (fun x y => ltM x y.group y.host) → (∀ x, x ∈ a ↔ x ∈ b) → a = b from
    fun {_ _} ha hb => h (ord_pw.mp ha) (ord_pw.mp hb)
  intro a
  induction a with
  | nil =>
    intro b _ _ h
    cases b with
    | nil => rfl
    | cons y b => exact absurd ((h y).mpr (by simp)) (by simp)
  | cons x a ih =>
    intro b ha hb h
    cases b with
    | nil => exact absurd ((h x).mp (by simp)) (by simp)
    | cons y b =>
      rw [List.pairwise_cons] at ha hb
      have hxy : x = y := by
        refine Classical.byContradiction fun hne => ?_
        have h1 : x ∈ b := (List.mem_cons.mp ((h x).mp (by simp))).resolve_left hne
        have h2 : y ∈ a := (List.mem_cons.mp ((h y).mpr (by simp))).resolve_left (Ne.symm hne)
        exact ltM_asym (ha.1 y h2) (hb.1 x h1)
      subst hxy
      rw [ih ha.2 hb.2 fun z => ?_]
      constructor
      · intro hz
        refine (List.mem_cons.mp ((h z).mp (by simp [hz]))).resolve_left fun e => ?_
        subst e; exact ltM_irr (ha.1 z hz)
      · intro hz
        refine (List.mem_cons.mp ((h z).mpr (by simp [hz]))).resolve_left fun e => ?_
        subst e; exact ltM_irr (hb.1 z hz)

theorem MOk.sub {now now' : Int} {l l' : List Mem} (h : MOk now l) (hr : 0 ≤ now' ∧ now' ≤ 1000000) (hs : l'.Sublist l) (hm : ∀ x ∈ l', mOk now' x) : MOk now' l' :=
  ⟨hr, Nat.le_trans hs.length_le h.len, hm, fun x hx => h.flt x (hs.subset hx), fun x hx => h.no x (hs.subset hx), ord_pw.mpr ((ord_pw.mp h.ord).sublist hs)⟩
theorem MOk.filter {now : Int} {l : List Mem} (h : MOk now l) (p : Mem → Bool) : MOk now (l.filter p) :=
  h.sub h.rng List.filter_sublist fun x hx => h.ok x (List.mem_filter.mp hx).1
theorem MOk.ins {now : Int} {l : List Mem} (h : MOk now l) {x : Mem} (hx : ∀ y ∈ l, other x.host x.group y = true) (h1 : mOk now x) (h2 : fltErr x.mode x.srcs = 0) (h3 : ¬ isNo x) (h4 : l.length < 64) : MOk now (insM l x) := by
  refine ⟨h.rng, by rw [length_insM]; omega, fun y hy => ?_, fun y hy => ?_, fun y hy => ?_, ord_insM h.ord hx⟩
  · rcases mem_insM.mp hy with hy | rfl
    · exact h.ok y hy
    · exact h1
  · rcases mem_insM.mp hy with hy | rfl
    · exact h.flt y hy
    · exact h2
  · rcases mem_insM.mp hy with hy | rfl
    · exact h.no y hy
    · exact h3
theorem MOk.nil {now : Int} (h : 0 ≤ now ∧ now ≤ 1000000) : MOk now [] :=
  ⟨h, by simp, fun _ hx => by simp at hx, fun _ hx => by simp at hx, fun _ hx => by simp at hx, fun i hi => by simp at hi⟩
theorem MOk.uniq {now : Int} {l : List Mem} (h : MOk now l) {x y : Mem} (hx : x ∈ l) (hy : y ∈ l) (h1 : x.host = y.host) (h2 : x.group = y.group) : x = y := by
  have hp := ord_pw.mp h.ord
  obtain ⟨i, hi, rfl⟩ := List.getElem_of_mem hx
  obtain ⟨j, hj, rfl⟩ := List.getElem_of_mem hy
  rw [List.pairwise_iff_getElem] at hp
  rcases Nat.lt_trichotomy i j with e | e | e
  · have := hp i j hi hj e; unfold ltM at this; omega
  · subst e; rfl
  · have := hp j i hj hi e; unfold ltM at this; omega

def repIn (h g m : Int) (s : List Int) (life : Int) : Prop := ((1 ≤ h ∧ h ≤ 99) ∧ (1 ≤ g ∧ g ≤ 99) ∧ (1 ≤ life ∧ life ≤ 1000)) ∧ fltErr m s = 0
theorem other_filter {l : List Mem} {h g : Int} : ∀ y ∈ l.filter (other h g), other h g y = true := fun y hy => (List.mem_filter.mp hy).2
/-- A report that notes a member. -/
theorem report_ok {now : Int} {l : List Mem} (ok : MOk now l) {h g m : Int} {s : List Int} {life : Int} (hin : repIn h g m s life) (hno : ¬ (m = 1 ∧ s = [])) (hl : (l.filter (other h g)).length < 64) :
    report now l h g m s life = ((now, insM (l.filter (other h g)) ⟨h, g, m, s, now + life⟩), 0) ∧ MOk now (insM (l.filter (other h g)) ⟨h, g, m, s, now + life⟩) := by
  constructor
  · rw [report, if_neg (not_not_intro ok.err), if_neg (not_not_intro hin.1), if_neg (not_not_intro hin.2), if_neg hno, if_neg (by omega)]
  · exact (ok.filter _).ins other_filter ⟨hin.1.1, hin.1.2.1, by have := hin.1.2.2; show now ≤ now + life ∧ now + life ≤ now + 1000; omega⟩ hin.2 hno hl
theorem report_no {now : Int} {l : List Mem} (ok : MOk now l) {h g life : Int} (hin : repIn h g 1 [] life) : report now l h g 1 [] life = ((now, l.filter (other h g)), 0) := by
  rw [report, if_neg (not_not_intro ok.err), if_neg (not_not_intro hin.1), if_neg (not_not_intro hin.2), if_pos ⟨rfl, rfl⟩]
theorem report_full {now : Int} {l : List Mem} (ok : MOk now l) {h g m : Int} {s : List Int} {life : Int} (hin : repIn h g m s life) (hno : ¬ (m = 1 ∧ s = [])) (hl : (l.filter (other h g)).length = 64) :
    report now l h g m s life = ((0, []), 3) := by
  rw [report, if_neg (not_not_intro ok.err), if_neg (not_not_intro hin.1), if_neg (not_not_intro hin.2), if_neg hno, if_pos hl]

/-! ### Find -/
theorem hit_mem {now : Int} {l : List Mem} (ok : MOk now l) {x : Mem} (hx : x ∈ l) : hit l x.host x.group ∧ atM l x.host x.group = x := by
  have h1 : ¬ ltM x x.group x.host := ltM_irr
  have hp : posM l x.group x.host < l.length := by
    refine Classical.byContradiction fun e => h1 ?_
    obtain ⟨i, hi, rfl⟩ := List.getElem_of_mem hx
    exact posM_lo i hi (by omega)
  have hn : ¬ ltM l[posM l x.group x.host] x.group x.host := posM_hi ok.ord _ hp (Nat.le_refl _)
  have key : l[posM l x.group x.host].host = x.host ∧ l[posM l x.group x.host].group = x.group := by
    refine Classical.byContradiction fun e => ?_
    have h2 : ltM x l[posM l x.group x.host].group l[posM l x.group x.host].host := ltM_total hn (by omega)
    obtain ⟨i, hi, e2⟩ := List.getElem_of_mem hx
    have h3 : i < posM l x.group x.host := by
      refine Classical.byContradiction fun e3 => ?_
      rcases Nat.lt_or_ge (posM l x.group x.host) i with e4 | e4
      · have := (List.pairwise_iff_getElem.mp (ord_pw.mp ok.ord)) _ _ hp hi e4
        rw [e2] at this
        exact ltM_asym this h2
      · have : i = posM l x.group x.host := by omega
        subst this
        rw [e2] at h2
        exact ltM_irr h2
    have := posM_lo i hi h3
    rw [e2] at this
    exact h1 this
  refine ⟨⟨hp, ?_⟩, ?_⟩
  · rw [getD_mem hp]; exact ⟨key.2, key.1⟩
  · rw [atM, getD_mem hp]
    exact ok.uniq (List.getElem_mem hp) hx key.1 key.2
theorem find_mem {now : Int} {l : List Mem} (ok : MOk now l) {x : Mem} (hx : x ∈ l) : find now l x.host x.group = (x, true) := by
  obtain ⟨h1, h2⟩ := hit_mem ok hx
  rw [find, if_neg (not_not_intro ok.err), if_pos h1, h2]
theorem hit_none {l : List Mem} {h g : Int} (hx : ∀ y ∈ l, other h g y = true) : ¬ hit l h g := by
  rintro ⟨hp, h1, h2⟩
  rw [getD_mem hp] at h1 h2
  have := other_iff.mp (hx _ (List.getElem_mem hp))
  omega
theorem find_none {now : Int} {l : List Mem} (ok : MOk now l) {h g : Int} (hx : ∀ y ∈ l, other h g y = true) : find now l h g = (mem0, false) := by
  rw [find, if_neg (not_not_intro ok.err), if_neg (hit_none hx)]

/-! ### Tick -/
theorem tick_ok {now : Int} {l : List Mem} (ok : MOk now l) {n : Int} (h : now ≤ n ∧ n ≤ 1000000) : tick now l n = ((n, l.filter (living n)), 0) ∧ MOk n (l.filter (living n)) := by
  constructor
  · rw [tick, if_neg (not_not_intro ok.err), if_neg (not_not_intro h)]
  · refine ok.sub ⟨by have := ok.rng; omega, h.2⟩ List.filter_sublist fun x hx => ?_
    have h1 := ok.ok x (List.mem_filter.mp hx).1
    have h2 : n ≤ x.till := by have := (List.mem_filter.mp hx).2; simpa [living] using this
    exact ⟨h1.1, h1.2.1, h2, by have := h1.2.2; omega⟩
end Go.Proofs.Ytaboolnmkfenlaa
