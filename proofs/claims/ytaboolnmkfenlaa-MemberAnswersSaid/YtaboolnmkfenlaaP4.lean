/- Members in plain Lean: leaves. -/
import Derived.Test.YtaboolnmkfenlaaP2
namespace Go.Proofs.Ytaboolnmkfenlaa
open Go Go.Am
set_option linter.unusedVariables false
set_option linter.unusedSimpArgs false

/-! ### Leave, for the members -/
theorem shorten_key {x : Mem} {t : Int} : (shorten x t).host = x.host ∧ (shorten x t).group = x.group ∧ (shorten x t).mode = x.mode ∧ (shorten x t).srcs = x.srcs := ⟨rfl, rfl, rfl, rfl⟩
theorem minI_le {a b : Int} : minI a b ≤ a ∧ minI a b ≤ b ∧ (minI a b = a ∨ minI a b = b) := by unfold minI; split <;> omega
theorem delAt_filter {now : Int} {l : List Mem} (ok : MOk now l) {h g : Int} (hh : hit l h g) : delAt l (posM l g h) = l.filter (other h g) := by
    obtain ⟨q1, q2, q3⟩ := hh
    rw [getD_mem q1] at q2 q3
    have hp := ord_pw.mp ok.ord
    refine ord_ext (ord_pw.mpr ?_) (ord_filter _ ok.ord) fun y => ?_
    · unfold delAt
      refine hp.sublist ?_
      conv => rhs; rw [← List.take_append_drop (posM l g h) l]
      rw [List.drop_eq_getElem_cons q1]
      exact List.Sublist.append (List.Sublist.refl _) (List.sublist_cons_self _ _)
    · rw [List.mem_filter, other_iff, delAt, List.mem_append]
      have hdec : y ∈ l ↔ y ∈ l.take (posM l g h) ∨ y = l[posM l g h] ∨ y ∈ l.drop (posM l g h + 1) := by
        conv => lhs; rw [← List.take_append_drop (posM l g h) l, List.drop_eq_getElem_cons q1, List.mem_append, List.mem_cons]
      have hne : ∀ z, z ∈ l.take (posM l g h) ∨ z ∈ l.drop (posM l g h + 1) → z.host ≠ h ∨ z.group ≠ g := by
        rintro z (hz | hz)
        · have := mem_take_pos hz; unfold ltM at this; omega
        · obtain ⟨j, hj, rfl⟩ := List.getElem_of_mem hz
          rw [List.getElem_drop]
          have hj' : posM l g h + 1 + j < l.length := by simp at hj; omega
          have := (List.pairwise_iff_getElem.mp hp) (posM l g h) (posM l g h + 1 + j) q1 hj' (by omega)
          unfold ltM at this; omega
      constructor
      · rintro (hy | hy)
        · exact ⟨hdec.mpr (.inl hy), hne y (.inl hy)⟩
        · exact ⟨hdec.mpr (.inr (.inr hy)), hne y (.inr hy)⟩
      · rintro ⟨hy, hyo⟩
        rcases hdec.mp hy with hy | rfl | hy
        · exact .inl hy
        · omega
        · exact .inr hy
theorem mem_delAt {now : Int} {l : List Mem} (ok : MOk now l) {h g : Int} (hh : hit l h g) {y : Mem} : y ∈ delAt l (posM l g h) ↔ y ∈ l ∧ other h g y = true := by
  rw [delAt_filter ok hh, List.mem_filter]
theorem others_length {now : Int} {l : List Mem} (ok : MOk now l) {x : Mem} (hx : x ∈ l) : (l.filter (other x.host x.group)).length = l.length - 1 := by
  have hh := (hit_mem ok hx).1
  have q1 := hh.1
  rw [← delAt_filter ok hh, delAt]
  simp; omega
theorem mem_setAt {now : Int} {l : List Mem} (ok : MOk now l) {h g : Int} (hh : hit l h g) {x y : Mem} (hx : x.host = h ∧ x.group = g) : y ∈ l.set (posM l g h) x ↔ (y ∈ l ∧ other h g y = true) ∨ y = x := by
  rw [← mem_delAt ok hh]
  obtain ⟨q1, q2, q3⟩ := hh
  rw [delAt, List.mem_append, List.set_eq_take_append_cons_drop, if_pos q1, List.mem_append, List.mem_cons]
  constructor
  · rintro (h | h | h)
    · exact .inl (.inl h)
    · exact .inr h
    · exact .inl (.inr h)
  · rintro ((h | h) | h)
    · exact .inl h
    · exact .inr (.inr h)
    · exact .inr (.inl h)
/-- What a leave makes of a member's list: in all cases the other members stay, and the member has a shorter life or is gone. -/
theorem leave_ok {now : Int} {l : List Mem} (ok : MOk now l) {x : Mem} (hx : x ∈ l) {last : Int} (hl : 0 ≤ last ∧ last ≤ 1000) :
    ∃ A, leave now l x.host x.group last = ((now, A), 0) ∧ MOk now A ∧ (∀ y, y ∈ A ↔ (y ∈ l ∧ other x.host x.group y = true) ∨ (last ≠ 0 ∧ y = shorten x (now + last))) := by
  obtain ⟨hh, hat⟩ := hit_mem ok hx
  have e0 : leave now l x.host x.group last = if last = 0 then ((now, delAt l (posM l x.group x.host)), 0) else ((now, l.set (posM l x.group x.host) (shorten (atM l x.host x.group) (now + last))), 0) := by
    rw [leave, if_neg (not_not_intro ok.err), if_neg (not_not_intro hl), if_neg (not_not_intro hh)]
  by_cases h0 : last = 0
  · rw [if_pos h0] at e0
    refine ⟨_, e0, ?_, fun y => ?_⟩
    · refine ok.sub ok.rng ?_ fun y hy => ok.ok y ((mem_delAt ok hh).mp hy).1
      unfold delAt
      conv => rhs; rw [← List.take_append_drop (posM l x.group x.host) l]
      rw [List.drop_eq_getElem_cons hh.1]
      exact List.Sublist.append (List.Sublist.refl _) (List.sublist_cons_self _ _)
    · rw [mem_delAt ok hh]
      constructor
      · exact .inl
      · rintro (h | ⟨h, _⟩)
        · exact h
        · exact absurd h0 h
  · rw [if_neg h0, hat] at e0
    have hm := @minI_le x.till (now + last)
    have hxo := ok.ok x hx
    refine ⟨_, e0, ?_, fun y => ?_⟩
    · refine ⟨ok.rng, by rw [List.length_set]; exact ok.len, fun y hy => ?_, fun y hy => ?_, fun y hy => ?_, ?_⟩
      · rcases List.mem_or_eq_of_mem_set hy with hy | rfl
        · exact ok.ok y hy
        · exact ⟨hxo.1, hxo.2.1, by have := hxo.2.2; show now ≤ minI x.till (now + last) ∧ minI x.till (now + last) ≤ now + 1000; omega⟩
      · rcases List.mem_or_eq_of_mem_set hy with hy | rfl
        · exact ok.flt y hy
        · exact ok.flt x hx
      · rcases List.mem_or_eq_of_mem_set hy with hy | rfl
        · exact ok.no y hy
        · exact ok.no x hx
      · refine ord_key ?_ ok.ord
        rw [List.map_set]
        have : keyM (shorten x (now + last)) = (l.map keyM)[posM l x.group x.host]'(by simpa using hh.1) := by
          have q := hh.2
          rw [getD_mem hh.1] at q
          rw [List.getElem_map, keyM, keyM, q.1, q.2]; rfl
        rw [this, List.set_getElem_self]
    · rw [mem_setAt ok hh (x := shorten x (now + last)) ⟨rfl, rfl⟩]
      constructor
      · rintro (h | h)
        · exact .inl h
        · exact .inr ⟨h0, h⟩
      · rintro (h | ⟨_, h⟩)
        · exact .inl h
        · exact .inr h
/-- A leave, as the reference has it. -/
theorem leave_ref {now : Int} {l : List Mem} (ok : MOk now l) {x : Mem} (hx : x ∈ l) {last : Int} (hl : 0 ≤ last ∧ last ≤ 1000) :
    leave now l x.host x.group last = ((now, if last = 0 then l.filter (other x.host x.group) else insM (l.filter (other x.host x.group)) (shorten x (now + last))), 0) := by
  obtain ⟨A, e, okA, mA⟩ := leave_ok ok hx hl
  rw [e]
  have hlen : (l.filter (other x.host x.group)).length < 64 := by
    rw [others_length ok hx]
    have := List.length_pos_of_mem hx
    have := ok.len
    omega
  have hm := @minI_le x.till (now + last)
  have hxo := ok.ok x hx
  by_cases h0 : last = 0
  · rw [if_pos h0]
    congr 2
    refine ord_ext okA.ord (ord_filter _ ok.ord) fun y => ?_
    rw [mA, List.mem_filter]
    constructor
    · rintro (h | ⟨h, _⟩)
      · exact h
      · exact absurd h0 h
    · exact .inl
  · rw [if_neg h0]
    congr 2
    have okI := (ok.filter (other x.host x.group)).ins (x := shorten x (now + last)) other_filter
      ⟨hxo.1, hxo.2.1, by have := hxo.2.2; show now ≤ minI x.till (now + last) ∧ minI x.till (now + last) ≤ now + 1000; omega⟩ (ok.flt x hx) (ok.no x hx) hlen
    refine ord_ext okA.ord okI.ord fun y => ?_
    rw [mA, mem_insM, List.mem_filter]
    constructor
    · rintro (h | ⟨_, h⟩)
      · exact .inl h
      · exact .inr h
    · rintro (h | h)
      · exact .inl h
      · exact .inr ⟨h0, h⟩
end Go.Proofs.Ytaboolnmkfenlaa
