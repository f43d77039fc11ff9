/- Members in plain Lean: what the draw gives, reports in general. -/
import Derived.Test.YtaboolnmkfenlaaT3
namespace Go.Proofs.Ytaboolnmkfenlaa
open Go Go.Am
set_option linter.unusedVariables false
set_option linter.unusedSimpArgs false

def keyM (x : Mem) : Int × Int := (x.group, x.host)
theorem ord_key {l l' : List Mem} (h : l.map keyM = l'.map keyM) (ho : ordM l) : ordM l' := by
  have hp := ord_pw.mp ho
  have h1 : (l.map keyM).Pairwise (fun a b => a.1 < b.1 ∨ (a.1 = b.1 ∧ a.2 < b.2)) := List.pairwise_map.mpr hp
  rw [h] at h1
  exact ord_pw.mpr (List.pairwise_map.mp h1)
theorem not_hit {now : Int} {l : List Mem} (ok : MOk now l) {h g : Int} (hh : ¬ hit l h g) : ∀ y ∈ l, other h g y = true := fun y hy => by
  rw [other_iff]
  refine Classical.byContradiction fun e => hh ?_
  have e1 : y.host = h := by omega
  have e2 : y.group = g := by omega
  have := (hit_mem ok hy).1
  rwa [e1, e2] at this
theorem memStep_ok {now : Int} {l : List Mem} (ok : MOk now l) {x : Mem} (h1 : mOk now x) (h2 : fltErr x.mode x.srcs = 0) (h3 : ¬ isNo x) (h4 : l.length < 64) : MOk now (memStep l x) ∧ (memStep l x).length ≤ l.length + 1 := by
  unfold memStep
  split
  · rename_i hh
    obtain ⟨q1, q2, q3⟩ := hh
    rw [getD_mem q1] at q2 q3
    refine ⟨⟨ok.rng, by rw [List.length_set]; exact ok.len, fun y hy => ?_, fun y hy => ?_, fun y hy => ?_, ?_⟩, by rw [List.length_set]; omega⟩
    · rcases List.mem_or_eq_of_mem_set hy with hy | rfl
      · exact ok.ok y hy
      · exact h1
    · rcases List.mem_or_eq_of_mem_set hy with hy | rfl
      · exact ok.flt y hy
      · exact h2
    · rcases List.mem_or_eq_of_mem_set hy with hy | rfl
      · exact ok.no y hy
      · exact h3
    · refine ord_key ?_ ok.ord
      rw [List.map_set]
      have : keyM x = (l.map keyM)[posM l x.group x.host]'(by simpa using q1) := by
        rw [List.getElem_map, keyM, keyM, q2, q3]
      rw [this, List.set_getElem_self]
  · rename_i hh
    exact ⟨ok.ins (not_hit ok hh) h1 h2 h3 h4, Nat.le_of_eq length_insM⟩
theorem memLoop_ok {L : List Int} {now : Int} : ∀ {i : Nat} {l : List Mem} {p : Nat}, MOk now l → i + l.length ≤ 64 → MOk now (memLoop L now i l p).1 ∧ (memLoop L now i l p).1.length ≤ i + l.length
  | 0, l, p, h, _ => ⟨h, by show l.length ≤ _; omega⟩
  | i + 1, l, p, ok, hl => by
    rw [memLoop]
    have mh := Mod_range (x := rawV L p) (show (1 : Int) ≤ 8 by omega)
    have mg := Mod_range (x := rawV L (rawP L p)) (show (1 : Int) ≤ 4 by omega)
    have mf := filterT_ok L (rawP L (rawP L p))
    have hu := pickI_mem (l := [0, 1, 30, 1000]) (by simp) (rawV L (filterT L (rawP L (rawP L p))).2)
    generalize pickI [0, 1, 30, 1000] (rawV L (filterT L (rawP L (rawP L p))).2) = u at hu
    simp only [List.mem_cons, List.not_mem_nil, or_false] at hu
    generalize (filterT L (rawP L (rawP L p))).1.1 = m at mf
    generalize (filterT L (rawP L (rawP L p))).1.2 = s at mf
    have st := memStep_ok ok (x := mkMem now (1 + Mod (rawV L p) 8) (1 + Mod (rawV L (rawP L p)) 4) m s u)
      (by show (1 ≤ 1 + Mod (rawV L p) 8 ∧ 1 + Mod (rawV L p) 8 ≤ 99) ∧ (1 ≤ 1 + Mod (rawV L (rawP L p)) 4 ∧ 1 + Mod (rawV L (rawP L p)) 4 ≤ 99) ∧ (now ≤ now + u ∧ now + u ≤ now + 1000); omega)
      (by
        show fltErr (if m = 1 ∧ s = [] then 2 else m) s = 0
        split
        · rename_i e; rw [e.2]; decide
        · exact mf)
      (by
        show ¬ ((if m = 1 ∧ s = [] then 2 else m) = 1 ∧ s = [])
        split
        · omega
        · rename_i e; exact e)
      (by omega)
    have ih := memLoop_ok (L := L) (i := i) (p := rawP L (filterT L (rawP L (rawP L p))).2) st.1 (by omega)
    exact ⟨ih.1, by omega⟩
theorem membersF_ok (L : List Int) (p : Nat) {n : Int} (hn : 0 ≤ n ∧ n ≤ 60) : MOk (membersF L p n).1.1 (membersF L p n).1.2 ∧ ((membersF L p n).1.2.length : Int) ≤ n ∧ (membersF L p n).1.1 ≤ 998000 := by
  have hm := Mod_range (x := rawV L (rawP L p)) (show 1 ≤ n + 1 by omega)
  have hnow : 0 ≤ pickI [0, 10, 500, 998000] (rawV L p) ∧ pickI [0, 10, 500, 998000] (rawV L p) ≤ 998000 := by
    have := pickI_mem (l := [0, 10, 500, 998000]) (by simp) (rawV L p)
    generalize pickI _ _ = v at this
    simp only [List.mem_cons, List.not_mem_nil, or_false] at this
    omega
  have key := memLoop_ok (L := L) (now := pickI [0, 10, 500, 998000] (rawV L p)) (i := (Mod (rawV L (rawP L p)) (n + 1)).toNat) (p := rawP L (rawP L p)) (MOk.nil (by omega)) (by simp; omega)
  refine ⟨key.1, ?_, hnow.2⟩
  have h2 : (membersF L p n).1.2.length ≤ (Mod (rawV L (rawP L p)) (n + 1)).toNat + 0 := key.2
  omega
theorem memLoop_pos {L : List Int} {now : Int} : ∀ {i : Nat} {l : List Mem} {p : Nat}, p ≤ L.length → (memLoop L now i l p).2 ≤ L.length
  | 0, _, _, h => h
  | i + 1, l, p, h => by rw [memLoop]; exact memLoop_pos (rawP_le (filterT_pos (rawP_le (rawP_le h))))
theorem membersF_pos {L : List Int} {p : Nat} (h : p ≤ L.length) (n : Int) : (membersF L p n).2 ≤ L.length := memLoop_pos (rawP_le (rawP_le h))

/-! ### Reports of any filter -/
def repL (now : Int) (l : List Mem) (h g m : Int) (s : List Int) (life : Int) : List Mem :=
  if m = 1 ∧ s = [] then l.filter (other h g) else insM (l.filter (other h g)) ⟨h, g, m, s, now + life⟩
theorem mem_repL {now : Int} {l : List Mem} {h g m : Int} {s : List Int} {life : Int} {y : Mem} :
    y ∈ repL now l h g m s life ↔ (y ∈ l ∧ other h g y = true) ∨ (¬ (m = 1 ∧ s = []) ∧ y = ⟨h, g, m, s, now + life⟩) := by
  unfold repL
  split
  · rename_i e
    rw [List.mem_filter]
    constructor
    · exact .inl
    · rintro (h | ⟨h, _⟩)
      · exact h
      · exact absurd e h
  · rename_i e
    rw [mem_insM, List.mem_filter]
    constructor
    · rintro (h | h)
      · exact .inl h
      · exact .inr ⟨e, h⟩
    · rintro (h | ⟨_, h⟩)
      · exact .inl h
      · exact .inr h
theorem report_any {now : Int} {l : List Mem} (ok : MOk now l) {h g m : Int} {s : List Int} {life : Int} (hin : repIn h g m s life) (hl : l.length < 64) :
    report now l h g m s life = ((now, repL now l h g m s life), 0) ∧ MOk now (repL now l h g m s life) ∧ (repL now l h g m s life).length ≤ l.length + 1 := by
  have hf : (l.filter (other h g)).length ≤ l.length := List.length_filter_le _ _
  unfold repL
  by_cases e : m = 1 ∧ s = []
  · rw [if_pos e]
    obtain ⟨rfl, rfl⟩ := e
    exact ⟨report_no ok hin, ok.filter _, by omega⟩
  · rw [if_neg e]
    have key := report_ok ok hin e (by omega)
    exact ⟨key.1, key.2, by rw [length_insM]; omega⟩
/-- Reports under different keys commute. -/
theorem rep_comm {now : Int} {l : List Mem} (ok : MOk now l) {h g m life i k m' life' : Int} {s s' : List Int} (h1 : repIn h g m s life) (h2 : repIn i k m' s' life') (hl : l.length ≤ 60) (hne : h ≠ i ∨ g ≠ k) :
    repL now (repL now l h g m s life) i k m' s' life' = repL now (repL now l i k m' s' life') h g m s life := by
  have a1 := report_any ok h1 (by omega)
  have a2 := report_any a1.2.1 h2 (by omega)
  have b1 := report_any ok h2 (by omega)
  have b2 := report_any b1.2.1 h1 (by omega)
  refine ord_ext a2.2.1.ord b2.2.1.ord fun y => ?_
  rw [mem_repL, mem_repL, mem_repL, mem_repL]
  have o1 : other i k (⟨h, g, m, s, now + life⟩ : Mem) = true := by rw [other_iff]; exact hne
  have o2 : other h g (⟨i, k, m', s', now + life'⟩ : Mem) = true := by rw [other_iff]; show i ≠ h ∨ k ≠ g; omega
  constructor
  · rintro (⟨(⟨q1, q2⟩ | ⟨q1, rfl⟩), q3⟩ | ⟨q1, rfl⟩)
    · exact .inl ⟨.inl ⟨q1, q3⟩, q2⟩
    · exact .inr ⟨q1, rfl⟩
    · exact .inl ⟨.inr ⟨q1, rfl⟩, o2⟩
  · rintro (⟨(⟨q1, q2⟩ | ⟨q1, rfl⟩), q3⟩ | ⟨q1, rfl⟩)
    · exact .inl ⟨.inl ⟨q1, q3⟩, q2⟩
    · exact .inr ⟨q1, rfl⟩
    · exact .inl ⟨.inr ⟨q1, rfl⟩, o1⟩
theorem living_twice {l : List Mem} {n n' : Int} (h : n ≤ n') : (l.filter (living n)).filter (living n') = l.filter (living n') := by
  rw [List.filter_filter]
  refine List.filter_congr fun x _ => ?_
  unfold living
  by_cases e : n' ≤ x.till
  · simp [e, show n ≤ x.till by omega]
  · simp [e]
end Go.Proofs.Ytaboolnmkfenlaa
