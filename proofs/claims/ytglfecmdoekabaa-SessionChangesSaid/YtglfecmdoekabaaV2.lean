/- A listener that follows a speaker, in plain Lean. -/
import Derived.Test.YtglfecmdoekabaaV1
namespace Go.Proofs.Ytglfecmdoekabaa
open Go Go.Am
set_option linter.unusedVariables false
set_option linter.unusedSimpArgs false

theorem mem_without {g : Int} {l : List Itm} {x : Itm} : x ∈ without g l ↔ x ∈ l ∧ x.grp ≠ g := by simp [without]
theorem mem_put1 {l : List Itm} {x y : Itm} : y ∈ put1 l x ↔ (y ∈ l ∧ y.grp ≠ x.grp) ∨ y = x := by simp [put1, mem_without]
theorem itmsOk.mono {n m : Int} {l : List Itm} (h : itmsOk n l) (hm : n ≤ m) : itmsOk m l :=
  ⟨fun x hx => by obtain ⟨⟨a, b⟩, c⟩ := h.1 x hx; exact ⟨⟨a, by omega⟩, c⟩, h.2⟩
theorem itmsOk.without {n g : Int} {l : List Itm} (h : itmsOk n l) : itmsOk n (without g l) :=
  ⟨fun x hx => h.1 x (mem_without.mp hx).1, h.2.1.sublist (List.Sublist.map _ List.filter_sublist), h.2.2.sublist List.filter_sublist⟩
theorem itmsOk.put {n : Int} {l : List Itm} {x : Itm} (h : itmsOk n l) (h1 : n < x.ver) (h2 : 1 ≤ x.ver) (h3 : 1 ≤ x.grp ∧ x.grp ≤ 99) (h4 : fltErr x.mode x.srcs = 0) : itmsOk x.ver (put1 l x) := by
  have hw := h.without (g := x.grp)
  refine ⟨fun y hy => ?_, ?_, ?_⟩
  · rcases List.mem_append.mp hy with hy | hy
    · obtain ⟨⟨a, b⟩, c⟩ := hw.1 y hy
      exact ⟨⟨a, by omega⟩, c⟩
    · rw [List.mem_singleton] at hy; subst hy
      exact ⟨⟨h2, Int.le_refl _⟩, h3, h4⟩
  · rw [put1, List.map_append]
    refine List.nodup_append.mpr ⟨hw.2.1, by simp, ?_⟩
    intro a ha b hb e
    obtain ⟨y, hy, rfl⟩ := List.mem_map.mp ha
    simp at hb
    subst hb
    exact (mem_without.mp hy).2 e
  · refine List.pairwise_append.mpr ⟨hw.2.2, List.pairwise_singleton _ _, fun a ha b hb => ?_⟩
    rw [List.mem_singleton] at hb; subst hb
    have := (hw.1 a ha).1.2
    omega
theorem Nodup.grp {l : List Itm} (h : (l.map Itm.grp).Nodup) {x y : Itm} (hx : x ∈ l) (hy : y ∈ l) (e : x.grp = y.grp) : x = y := by
  induction l with
  | nil => simp at hx
  | cons z l ih =>
    simp only [List.map_cons, List.nodup_cons] at h
    rcases List.mem_cons.mp hx with h1 | h1
    · rcases List.mem_cons.mp hy with h2 | h2
      · rw [h1, h2]
      · exact absurd (List.mem_map.mpr ⟨y, h2, by rw [← e, h1]⟩) h.1
    · rcases List.mem_cons.mp hy with h2 | h2
      · exact absurd (List.mem_map.mpr ⟨x, h1, by rw [e, h2]⟩) h.1
      · exact ih h.2 h1 h2
/-- Lists with ascending versions and the same members are equal. -/
theorem asc_ext : ∀ {a b : List Itm}, a.Pairwise (fun x y => x.ver < y.ver) → b.Pairwise (fun x y => x.ver < y.ver) → (∀ x, x ∈ a ↔ x ∈ b) → a = b := by
  intro a
  induction a with
  | nil =>
    intro b _ _ h
    cases b with
    | nil => rfl
    | cons y b => exact absurd ((h y).mpr (by simp)) (by simp)
  | cons x a ih =>
    intro b ha hb h
    cases b with
    | nil => exact absurd ((h x).mp (by simp)) (by simp)
    | cons y b =>
      rw [List.pairwise_cons] at ha hb
      have hxy : x = y := by
        refine Classical.byContradiction fun hne => ?_
        have h1 : x ∈ b := (List.mem_cons.mp ((h x).mp (by simp))).resolve_left hne
        have h2 : y ∈ a := (List.mem_cons.mp ((h y).mpr (by simp))).resolve_left (Ne.symm hne)
        have := ha.1 y h2
        have := hb.1 x h1
        omega
      subst hxy
      rw [ih ha.2 hb.2 fun z => ?_]
      constructor
      · intro hz
        refine (List.mem_cons.mp ((h z).mp (by simp [hz]))).resolve_left fun e => ?_
        subst e
        have := ha.1 z hz
        omega
      · intro hz
        refine (List.mem_cons.mp ((h z).mpr (by simp [hz]))).resolve_left fun e => ?_
        subst e
        have := hb.1 z hz
        omega

/-- Items have moved on within an epoch. -/
structure Adv (n : Int) (l : List Itm) (m : Int) (k : List Itm) : Prop where
  le : n ≤ m
  old : ∀ z ∈ k, z ∈ l ∨ n < z.ver
  grp : ∀ z ∈ l, ∃ y ∈ k, y.grp = z.grp
theorem Adv.refl (n : Int) (l : List Itm) : Adv n l n l := ⟨Int.le_refl _, fun _ h => .inl h, fun z h => ⟨z, h, rfl⟩⟩
theorem Adv.trans {n m p : Int} {a b c : List Itm} (h : Adv n a m b) (k : Adv m b p c) : Adv n a p c := by
  refine ⟨Int.le_trans h.le k.le, fun z hz => ?_, fun z hz => ?_⟩
  · rcases k.old z hz with g | g
    · exact h.old z g
    · exact .inr (by have := h.le; omega)
  · obtain ⟨y, hy, e⟩ := h.grp z hz
    obtain ⟨x, hx, e'⟩ := k.grp y hy
    exact ⟨x, hx, e'.trans e⟩
theorem Adv.put {n : Int} {l : List Itm} {x : Itm} (h : n < x.ver) : Adv n l x.ver (put1 l x) := by
  refine ⟨by omega, fun z hz => ?_, fun z hz => ?_⟩
  · rcases mem_put1.mp hz with g | rfl
    · exact .inl g.1
    · exact .inr h
  · by_cases e : z.grp = x.grp
    · exact ⟨x, mem_put1.mpr (.inr rfl), e.symm⟩
    · exact ⟨z, mem_put1.mpr (.inl ⟨hz, e⟩), rfl⟩

/-- Changes of groups and filters that are valid. -/
def chgOk (c : List Wnt) : Prop := ∀ w ∈ c, (1 ≤ w.grp ∧ w.grp ≤ 99) ∧ fltErr w.mode w.srcs = 0
theorem chg1_ok {n : Int} {l : List Itm} {w : Wnt} (h : itmsOk n l) (h0 : 0 ≤ n) (hw : (1 ≤ w.grp ∧ w.grp ≤ 99) ∧ fltErr w.mode w.srcs = 0) :
    itmsOk (chg1 (n, l) w).1 (chg1 (n, l) w).2 ∧ Adv n l (chg1 (n, l) w).1 (chg1 (n, l) w).2 ∧ (chg1 (n, l) w).1 ≤ n + 1 ∧ 0 ≤ (chg1 (n, l) w).1 := by
  unfold chg1
  split
  · exact ⟨h, Adv.refl _ _, by simp only; omega, h0⟩
  · exact ⟨h.put (x := ⟨n + 1, w.grp, w.mode, w.srcs⟩) (by simp only; omega) (by simp only; omega) hw.1 hw.2, Adv.put (x := ⟨n + 1, w.grp, w.mode, w.srcs⟩) (by simp only; omega), Int.le_refl _, by simp only; omega⟩
theorem chg_ok : ∀ {c : List Wnt} {n : Int} {l : List Itm}, itmsOk n l → 0 ≤ n → chgOk c →
    itmsOk (c.foldl chg1 (n, l)).1 (c.foldl chg1 (n, l)).2 ∧ Adv n l (c.foldl chg1 (n, l)).1 (c.foldl chg1 (n, l)).2 ∧ (c.foldl chg1 (n, l)).1 ≤ n + c.length ∧ 0 ≤ (c.foldl chg1 (n, l)).1
  | [], n, l, h, h0, _ => ⟨h, Adv.refl _ _, by simp, h0⟩
  | w :: c, n, l, h, h0, hc => by
    obtain ⟨a1, a2, a3, a4⟩ := chg1_ok h h0 (hc w (by simp))
    obtain ⟨b1, b2, b3, b4⟩ := chg_ok (c := c) a1 a4 (fun v hv => hc v (by simp [hv]))
    refine ⟨b1, a2.trans b2, ?_, b4⟩
    simp only [List.foldl_cons, List.length_cons]
    have : (c.foldl chg1 (chg1 (n, l) w)).1 ≤ (chg1 (n, l) w).1 + c.length := b3
    omega

/-- An update that the speaker has sent in this epoch. -/
structure UpdOk (n : Int) (l : List Itm) (x : Sig) : Prop where
  le : x.ver ≤ n
  has : ∃ z ∈ l, z.grp = x.grp
  grp : ∀ z ∈ l, z.grp = x.grp → x.ver ≤ z.ver
  gap : ∀ z ∈ l, z.ver ≤ x.ver → z.ver ≤ x.prev ∨ z = sigItm x
theorem UpdOk.adv {n m : Int} {l k : List Itm} {x : Sig} (h : UpdOk n l x) (a : Adv n l m k) : UpdOk m k x := by
  refine ⟨Int.le_trans h.le a.le, ?_, fun z hz e => ?_, fun z hz e => ?_⟩
  · obtain ⟨z, hz, e⟩ := h.has
    obtain ⟨y, hy, e'⟩ := a.grp z hz
    exact ⟨y, hy, e'.trans e⟩
  · rcases a.old z hz with g | g
    · exact h.grp z g e
    · have := h.le; omega
  · rcases a.old z hz with g | g
    · exact h.gap z g e
    · have := h.le; omega

/-- What a listener knows of a speaker in its epoch. -/
structure HrdOk (n : Int) (l : List Itm) (h : Hrd) : Prop where
  le : h.ver ≤ n
  grp : ∀ y ∈ h.items, ∃ z ∈ l, z.grp = y.grp
  has : ∀ z ∈ l, z.ver ≤ h.ver → z ∈ h.items
theorem HrdOk.adv {n m : Int} {l k : List Itm} {h : Hrd} (o : HrdOk n l h) (a : Adv n l m k) : HrdOk m k h := by
  refine ⟨Int.le_trans o.le a.le, fun y hy => ?_, fun z hz e => ?_⟩
  · obtain ⟨z, hz, e⟩ := o.grp y hy
    obtain ⟨x, hx, e'⟩ := a.grp z hz
    exact ⟨x, hx, e'.trans e⟩
  · rcases a.old z hz with g | g
    · exact o.has z g e
    · have := o.le; omega
theorem HrdOk.nil {n : Int} {l : List Itm} (hl : itmsOk n l) (h0 : 0 ≤ n) (r e : Int) : HrdOk n l ⟨r, e, 0, []⟩ :=
  ⟨h0, fun y hy => by simp at hy, fun z hz e => by have := (hl.1 z hz).1.1; simp only at e; omega⟩
theorem HrdOk.hear {n : Int} {l : List Itm} {h : Hrd} {x : Sig} (o : HrdOk n l h) (u : UpdOk n l x) (h1 : x.prev ≤ h.ver) (h2 : h.ver < x.ver) :
    HrdOk n l ⟨h.router, h.epoch, x.ver, put1 h.items (sigItm x)⟩ := by
  refine ⟨u.le, fun y hy => ?_, fun z hz e => ?_⟩
  · rcases mem_put1.mp hy with g | rfl
    · exact o.grp y g.1
    · exact u.has
  · rcases u.gap z hz e with g | rfl
    · refine mem_put1.mpr (.inl ⟨o.has z hz (by omega), fun e' => ?_⟩)
      have := u.grp z hz e'
      omega
    · exact mem_put1.mpr (.inr rfl)
/-- A listener that has the last version has the items. -/
theorem HrdOk.eq {n : Int} {l : List Itm} {h : Hrd} (o : HrdOk n l h) (hl : itmsOk n l) (hh : itmsOk h.ver h.items) (e : h.ver = n) : h.items = l := by
  refine asc_ext hh.2.2 hl.2.2 fun y => ⟨fun hy => ?_, fun hy => o.has y hy ?_⟩
  · obtain ⟨z, hz, e'⟩ := o.grp y hy
    have := o.has z hz (by have := (hl.1 z hz).1.2; omega)
    rw [← Nodup.grp hh.2.1 this hy e']; exact hz
  · have := (hl.1 y hy).1.2; omega

theorem Pairwise.mid {l r : List Itm} {x : Itm} (h : (l ++ x :: r).Pairwise fun a b => a.ver < b.ver) : (∀ y ∈ l, y.ver < x.ver) ∧ ∀ y ∈ r, x.ver < y.ver := by
  rw [List.pairwise_append, List.pairwise_cons] at h
  exact ⟨fun y hy => h.2.2 y hy x (by simp), fun y hy => h.2.1.1 y hy⟩

/-- The signals that a speaker sends: each is one that it may have sent. -/
theorem send_ok {s : Spk} {to acked : Int} (hs : itmsOk s.last s.items) (h1 : s.last ≤ 1000000) : ∀ (r d : List Itm) (prev : Int), s.items = d ++ r → 0 ≤ prev → (∀ y ∈ d, y.ver ≤ prev) → (∀ y ∈ r, prev < y.ver) →
    ∀ x ∈ sendFrom s to acked prev r, x.kind = 2 ∧ x.src = s.router ∧ x.dst = to ∧ x.epoch = s.epoch ∧ x.pep = 0 ∧ (0 ≤ x.prev ∧ x.prev ≤ x.ver - 1) ∧ (sigItm x) ∈ s.items ∧ UpdOk s.last s.items x
  | [], d, prev, _, _, _, _, x, hx => by simp [sendFrom] at hx
  | y :: r, d, prev, e, h0, hd, hr, x, hx => by
    have hy : y ∈ s.items := by rw [e]; simp
    obtain ⟨m1, m2⟩ := Pairwise.mid (e ▸ hs.2.2)
    rcases List.mem_append.mp hx with hx | hx
    · split at hx
      · rw [List.mem_singleton] at hx; subst hx
        have hp := hr y (by simp)
        refine ⟨rfl, rfl, rfl, rfl, rfl, ⟨h0, by simp only [upd1]; omega⟩, hy, (hs.1 y hy).1.2, ⟨y, hy, rfl⟩, fun z hz e' => ?_, fun z hz hv => ?_⟩
        · rw [Nodup.grp hs.2.1 hz hy e']; exact Int.le_refl _
        · rw [e] at hz
          rcases List.mem_append.mp hz with hz | hz
          · exact .inl (hd z hz)
          · rcases List.mem_cons.mp hz with rfl | hz
            · exact .inr rfl
            · have := m2 z hz; simp only [upd1] at hv; omega
      · simp at hx
    · refine send_ok hs h1 r (d ++ [y]) y.ver (by rw [e]; simp) (by have := (hs.1 y hy).1.1; omega) (fun z hz => ?_) m2 x hx
      rcases List.mem_append.mp hz with hz | hz
      · have := m1 z hz; omega
      · rw [List.mem_singleton] at hz; subst hz; exact Int.le_refl _
end Go.Proofs.Ytglfecmdoekabaa
