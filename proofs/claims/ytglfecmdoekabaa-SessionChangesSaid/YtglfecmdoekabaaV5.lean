/- Speakers change and begin again, in plain Lean. -/
import Derived.Test.YtglfecmdoekabaaV4
namespace Go.Proofs.Ytglfecmdoekabaa
open Go Go.Am
set_option linter.unusedVariables false
set_option linter.unusedSimpArgs false

theorem change_val {s : Spk} {c : List Wnt} (h : (change s c).2 = 0) : spkOk s ∧ wErr true c = 0 ∧ ¬ 1000000 < (c.foldl chg1 (s.last, s.items)).1 ∧
    change s c = (⟨s.router, s.epoch, (c.foldl chg1 (s.last, s.items)).1, (c.foldl chg1 (s.last, s.items)).2, s.peers⟩, 0) := by
  unfold change at h ⊢
  by_cases h1 : spkOk s
  case neg => rw [if_pos h1] at h; simp at h
  by_cases h2 : wErr true c = 0
  case neg => rw [if_neg (not_not_intro h1), if_pos h2] at h; exact absurd h h2
  by_cases h3 : 1000000 < (c.foldl chg1 (s.last, s.items)).1
  case pos => rw [if_neg (not_not_intro h1), if_neg (not_not_intro h2), if_pos h3] at h; simp at h
  rw [if_neg (not_not_intro h1), if_neg (not_not_intro h2), if_neg h3]
  exact ⟨h1, h2, h3, rfl⟩
theorem change_err {s : Spk} {c : List Wnt} (h1 : spkOk s) (h2 : wErr true c = 0) : (change s c).2 = 0 ∨ (change s c).2 = 3 := by
  unfold change
  rw [if_neg (not_not_intro h1), if_neg (not_not_intro h2)]
  split
  · exact .inr rfl
  · exact .inl rfl
theorem change_spkOk {s : Spk} {c : List Wnt} (h : (change s c).2 = 0) : spkOk (change s c).1 := by
  obtain ⟨h1, h2, h3, e⟩ := change_val h
  rw [e]
  obtain ⟨p1, p2, p3, p4, p5, p6, p7⟩ := h1
  obtain ⟨q1, q2, q3, q4⟩ := chg_ok p4 p3.1 (chgOk_of h2)
  refine ⟨p1, p2, ⟨q4, by simp only; omega⟩, q1, p5, fun p hp => ?_, p7⟩
  obtain ⟨r1, r2, r3, r4⟩ := p6 p hp
  exact ⟨r1, r2, r3, r4.1, by have := q2.le; simp only; omega⟩
theorem restart_val {s : Spk} {w : List Wnt} (h : (restart s w).2 = 0) : spkOk s ∧ wErr false w = 0 ∧ s.epoch ≠ 1000000 ∧
    restart s w = (⟨s.router, s.epoch + 1, w.length, w.mapIdx wItm, s.peers.map fun p => ⟨p.router, 0, 0⟩⟩, 0) := by
  unfold restart at h ⊢
  by_cases h1 : spkOk s
  case neg => rw [if_pos h1] at h; simp at h
  by_cases h2 : wErr false w = 0
  case neg => rw [if_neg (not_not_intro h1), if_pos h2] at h; exact absurd h h2
  by_cases h3 : s.epoch = 1000000
  case pos => rw [if_neg (not_not_intro h1), if_neg (not_not_intro h2), if_pos h3] at h; simp at h
  rw [if_neg (not_not_intro h1), if_neg (not_not_intro h2), if_neg h3]
  exact ⟨h1, h2, h3, rfl⟩
theorem restart_spkOk {s : Spk} {w : List Wnt} (h : (restart s w).2 = 0) : spkOk (restart s w).1 := by
  obtain ⟨h1, h2, h3, e⟩ := restart_val h
  rw [e]
  obtain ⟨p1, p2, p3, p4, p5, p6, p7⟩ := h1
  obtain ⟨w1, _, _, _, w5⟩ := wErr_zero.mp h2
  refine ⟨p1, ⟨by simp only; omega, by simp only; omega⟩, ⟨by simp only; omega, by simp only; omega⟩, restart_items (chgOk_of h2) w5, by simpa using p5, fun q hq => ?_, ?_⟩
  · obtain ⟨q', hq', rfl⟩ := List.mem_map.mp hq
    obtain ⟨r1, r2, _, _⟩ := p6 q' hq'
    exact ⟨r1, r2, ⟨by simp, by simp⟩, by simp, by simp⟩
  · rw [List.pairwise_map]; exact p7
theorem new_val {r k : Int} {p : List Int} (h : (new r k p).2 = 0) : spkOk (new r k p).1 ∧ new r k p = (⟨r, k, 0, [], p.map fun x => ⟨x, 0, 0⟩⟩, 0) := by
  unfold new at h ⊢
  simp only at h ⊢
  split at h
  · rename_i h1; rw [if_pos h1]; exact ⟨h1, rfl⟩
  · simp at h
theorem changes_val {a b : List Wnt} (h : (changes a b).2 = 0) : wErr false a = 0 ∧ wErr false b = 0 ∧ wErr true (changes a b).1 = 0 ∧ (changes a b).1 = chgsTo a b 99 := by
  unfold changes at h ⊢
  by_cases h1 : wErr false a = 0
  case neg => rw [if_pos h1] at h; exact absurd h h1
  by_cases h2 : wErr false b = 0
  case neg => rw [if_neg (not_not_intro h1), if_pos h2] at h; exact absurd h h2
  by_cases h3 : 32 < (chgsTo a b 99).length
  case pos => rw [if_neg (not_not_intro h1), if_neg (not_not_intro h2), if_pos h3] at h; simp at h
  rw [if_neg (not_not_intro h1), if_neg (not_not_intro h2), if_neg h3]
  refine ⟨h1, h2, ?_, rfl⟩
  have o := chgsTo_ok (old := a) (wErr_zero.mp h2).2.2.1 99
  exact wErr_zero.mpr ⟨by simp only; omega, o.rng, o.flt, fun e => Bool.noConfusion e, o.asc⟩

/-- Changes to a list of wants give the items of these wants. -/
structure ChgTo (a b : Spk) (w c : List Wnt) : Prop where
  wants : wantsOf b.items = w
  last : b.last = a.last + c.length
  ok : spkOk b
  again : change b c = (b, 0)
  stay : ∀ x ∈ a.items, (x ∈ b.items ↔ ¬ ∃ y ∈ c, y.grp = x.grp)
theorem change_to {a : Spk} {w : List Wnt} (ha : spkOk a) (hc : (changes (wantsOf a.items) w).2 = 0) (hf : (change a (changes (wantsOf a.items) w).1).2 = 0) :
    ChgTo a (change a (changes (wantsOf a.items) w).1).1 w (changes (wantsOf a.items) w).1 := by
  obtain ⟨c1, c2, c3, c4⟩ := changes_val hc
  generalize hcc : (changes (wantsOf a.items) w).1 = c at *
  obtain ⟨_, f2, f3, f4⟩ := change_val hf
  have hok := change_spkOk hf
  have hai : itmsOk 1000000 a.items := ha.2.2.2.1.mono ha.2.2.1.2
  have asc : c.Pairwise fun x y => x.grp < y.grp := (wErr_zero.mp c3).2.2.2.2
  have mem : ∀ {x : Wnt}, x ∈ c ↔ (1 ≤ x.grp ∧ x.grp ≤ 99) ∧ findW w x.grp = ⟨x.mode, x.srcs⟩ ∧ findW w x.grp ≠ findW (wantsOf a.items) x.grp := fun {x} => by rw [c4]; exact mem_chgsTo
  have old : ∀ g, findW (wantsOf a.items) g = ⟨(told a.items g).1, (told a.items g).2⟩ := fun g => by
    have := find_wantsOf hai (g := g)
    unfold find2 at this
    rw [← this]
  have ne : ∀ x ∈ c, told a.items x.grp ≠ (x.mode, x.srcs) := fun x hx e => by
    obtain ⟨_, h2, h3⟩ := mem.mp hx
    rw [h2, old, e] at h3
    exact h3 rfl
  have hlen := fold_len (n := a.last) asc ne
  have told' : ∀ g : Int, 1 ≤ g → g ≤ 99 → told (change a c).1.items g = find2 w g := fun g h1 h2 => by
    rw [f4]
    simp only
    rw [told_fold asc]
    split
    · rename_i h
      obtain ⟨x, hx, rfl⟩ := h
      obtain ⟨_, q2, _⟩ := mem.mp hx
      unfold find2
      rw [findW_in asc hx, q2]
    · rename_i h
      have e : findW w g = findW (wantsOf a.items) g := Classical.byContradiction fun hn => h ⟨⟨g, (findW w g).mode, (findW w g).srcs⟩, mem.mpr ⟨⟨h1, h2⟩, rfl, hn⟩, rfl⟩
      unfold find2
      rw [e, old]
  refine ⟨?_, by rw [f4]; exact hlen, hok, ?_, fun x hx => ?_⟩
  · rw [wantsOf, if_pos (hok.2.2.2.1.mono hok.2.2.1.2)]
    have e := wants_from c2
    rw [fromF_congr fun i h1 h2 => told' i h1 (by omega)]
    exact e.symm
  · have same : c.foldl chg1 ((change a c).1.last, (change a c).1.items) = ((change a c).1.last, (change a c).1.items) := by
      refine fold_same fun x hx => ?_
      obtain ⟨q1, q2, _⟩ := mem.mp hx
      rw [told' _ q1.1 q1.2]
      unfold find2
      rw [q2]
    generalize (change a c).1 = b at *
    unfold change
    rw [if_neg (not_not_intro hok), if_neg (not_not_intro c3), same, if_neg (by have := hok.2.2.1.2; simp only; omega)]
  · rw [f4]
    exact fold_stay asc ne hx (ha.2.2.2.1.1 x hx).1.2
end Go.Proofs.Ytglfecmdoekabaa
