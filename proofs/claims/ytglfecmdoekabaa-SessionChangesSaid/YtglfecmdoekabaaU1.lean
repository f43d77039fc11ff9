/- Wants that are drawn, in plain Lean. -/
import Derived.Test.YtglfecmdoekabaaV3
namespace Go.Proofs.Ytglfecmdoekabaa
open Go Go.Am
set_option linter.unusedVariables false
set_option linter.unusedSimpArgs false

def wNew (L : List Int) (p : Nat) (g : Int) (out : List Wnt) : List Wnt :=
  if Mod (rawV L (filterT L p).2) 2 = 0 ∧ ((filterT L p).1.mode = 2 ∨ (filterT L p).1.srcs ≠ []) then out ++ [⟨g, (filterT L p).1.mode, (filterT L p).1.srcs⟩] else out
def wPos (L : List Int) (p : Nat) : Nat := rawP L (filterT L p).2
def wantsL (L : List Int) : Nat → Int → List Wnt → Nat → List Wnt × Nat
  | 0, _, out, p => (out, p)
  | n + 1, g, out, p => wantsL L n (g + 1) (wNew L p g out) (wPos L p)
def wantsT (L : List Int) (p : Nat) : List Wnt × Nat := wantsL L 6 1 [] p

structure WOk (g : Int) (out : List Wnt) : Prop where
  rng : ∀ w ∈ out, 1 ≤ w.grp ∧ w.grp < g
  flt : ∀ w ∈ out, fltErr w.mode w.srcs = 0
  no : ∀ w ∈ out, ¬ isNoW w
  asc : out.Pairwise fun x y => x.grp < y.grp
  len : out.length + 1 ≤ g
theorem WOk.new {L : List Int} {p : Nat} {g : Int} {out : List Wnt} (h : WOk g out) (hg : 1 ≤ g) : WOk (g + 1) (wNew L p g out) := by
  unfold wNew
  have hf := filterT_in L p
  split
  · rename_i c
    refine ⟨fun w hw => ?_, fun w hw => ?_, fun w hw => ?_, List.pairwise_append.mpr ⟨h.asc, List.pairwise_singleton _ _, fun a ha b hb => ?_⟩, ?_⟩
    · rcases List.mem_append.mp hw with hw | hw
      · have := h.rng w hw; omega
      · rw [List.mem_singleton] at hw; subst hw; exact ⟨hg, by simp only; omega⟩
    · rcases List.mem_append.mp hw with hw | hw
      · exact h.flt w hw
      · rw [List.mem_singleton] at hw; subst hw; exact hf
    · rcases List.mem_append.mp hw with hw | hw
      · exact h.no w hw
      · rw [List.mem_singleton] at hw; subst hw
        rintro ⟨e1, e2⟩
        simp only at e1 e2
        rcases c.2 with c | c
        · omega
        · exact c e2
    · rw [List.mem_singleton] at hb; subst hb
      exact (h.rng a ha).2
    · have := h.len; simp only [List.length_append, List.length_singleton]; omega
  · exact ⟨fun w hw => by have := h.rng w hw; omega, h.flt, h.no, h.asc, by have := h.len; omega⟩
theorem wantsL_ok {L : List Int} : ∀ (n : Nat) {g : Int} {out : List Wnt} {p : Nat}, WOk g out → 1 ≤ g → WOk (g + n) (wantsL L n g out p).1
  | 0, g, out, p, h, _ => by simpa [wantsL] using h
  | n + 1, g, out, p, h, hg => by
    have := wantsL_ok (L := L) n (p := wPos L p) (h.new (L := L) (p := p) hg) (by omega)
    rw [show g + ((n + 1 : Nat) : Int) = g + 1 + n by omega]
    exact this
theorem WOk.err {g : Int} {l : List Wnt} (h : WOk g l) (hg : g ≤ 33) : wErr false l = 0 :=
  wErr_zero.mpr ⟨by have := h.len; omega, fun w hw => by have := h.rng w hw; omega, h.flt, fun _ => h.no, h.asc⟩
theorem wantsT_ok (L : List Int) (p : Nat) : WOk 7 (wantsT L p).1 :=
  wantsL_ok (g := 1) 6 ⟨fun w hw => by simp at hw, fun w hw => by simp at hw, fun w hw => by simp at hw, List.Pairwise.nil, by simp⟩ (by omega)

/-! ### The changes between two lists of wants, as the reference finds them -/
def findW (l : List Wnt) (g : Int) : Flt := match l.find? fun w => decide (w.grp = g) with
  | some w => ⟨w.mode, w.srcs⟩
  | none => ⟨1, []⟩
def chgs1 (old new : List Wnt) (g : Int) : List Wnt := if findW new g = findW old g then [] else [⟨g, (findW new g).mode, (findW new g).srcs⟩]
def chgsTo (old new : List Wnt) : Nat → List Wnt
  | 0 => []
  | n + 1 => chgsTo old new n ++ chgs1 old new (n + 1)
def changes (old new : List Wnt) : List Wnt × Int :=
  if wErr false old ≠ 0 then ([], wErr false old) else if wErr false new ≠ 0 then ([], wErr false new)
  else if 32 < (chgsTo old new 99).length then ([], 3) else (chgsTo old new 99, 0)

theorem findW_ok {l : List Wnt} (h : ∀ w ∈ l, fltErr w.mode w.srcs = 0) (g : Int) : fltErr (findW l g).mode (findW l g).srcs = 0 := by
  unfold findW
  split
  · rename_i w e; exact h w (List.mem_of_find?_eq_some e)
  · decide
theorem findW_none {l : List Wnt} {g : Int} (h : ∀ w ∈ l, w.grp ≠ g) : findW l g = ⟨1, []⟩ := by
  unfold findW
  rw [List.find?_eq_none.mpr (fun w hw => by simpa using h w hw)]
structure COk (n : Int) (c : List Wnt) : Prop where
  rng : ∀ w ∈ c, 1 ≤ w.grp ∧ w.grp ≤ n
  flt : ∀ w ∈ c, fltErr w.mode w.srcs = 0
  asc : c.Pairwise fun x y => x.grp < y.grp
theorem chgsTo_ok {old new : List Wnt} (h2 : ∀ w ∈ new, fltErr w.mode w.srcs = 0) : ∀ n : Nat, COk n (chgsTo old new n)
  | 0 => ⟨fun w hw => by simp [chgsTo] at hw, fun w hw => by simp [chgsTo] at hw, List.Pairwise.nil⟩
  | n + 1 => by
    have h := chgsTo_ok (old := old) h2 n
    simp only [chgsTo, chgs1]
    split
    · rw [List.append_nil]
      exact ⟨fun w hw => by have := h.rng w hw; omega, h.flt, h.asc⟩
    · refine ⟨fun w hw => ?_, fun w hw => ?_, List.pairwise_append.mpr ⟨h.asc, List.pairwise_singleton _ _, fun a ha b hb => ?_⟩⟩
      · rcases List.mem_append.mp hw with hw | hw
        · have := h.rng w hw; omega
        · rw [List.mem_singleton] at hw; subst hw; exact ⟨by simp only; omega, by simp only; omega⟩
      · rcases List.mem_append.mp hw with hw | hw
        · exact h.flt w hw
        · rw [List.mem_singleton] at hw; subst hw; exact findW_ok h2 _
      · rw [List.mem_singleton] at hb; subst hb
        have := h.rng a ha; simp only; omega
theorem chgsTo_len (old new : List Wnt) : ∀ n : Nat, (chgsTo old new n).length ≤ n
  | 0 => Nat.le_refl _
  | n + 1 => by
    have := chgsTo_len old new n
    simp only [chgsTo, chgs1]
    split <;> simp <;> omega
/-- Behind the last group there are no changes. -/
theorem chgsTo_same {old new : List Wnt} {m : Nat} (h1 : ∀ w ∈ old, w.grp ≤ m) (h2 : ∀ w ∈ new, w.grp ≤ m) : ∀ k : Nat, chgsTo old new (m + k) = chgsTo old new m
  | 0 => rfl
  | k + 1 => by
    have h := chgsTo_same h1 h2 k
    rw [← Nat.add_assoc, chgsTo, h, chgs1, findW_none (fun w hw => by have := h2 w hw; omega), findW_none (fun w hw => by have := h1 w hw; omega), if_pos rfl, List.append_nil]
theorem changes_ok {old new : List Wnt} (h1 : WOk 7 old) (h2 : WOk 7 new) : (changes old new).2 = 0 ∧ wErr true (changes old new).1 = 0 ∧ (changes old new).1.length ≤ 6 := by
  have e : chgsTo old new 99 = chgsTo old new 6 := chgsTo_same (m := 6) (fun w hw => by have := h1.rng w hw; omega) (fun w hw => by have := h2.rng w hw; omega) 93
  have hl := chgsTo_len old new 6
  unfold changes
  rw [if_neg (not_not_intro (h1.err (by omega))), if_neg (not_not_intro (h2.err (by omega))), e, if_neg (by omega)]
  have h := chgsTo_ok (old := old) h2.flt 6
  exact ⟨rfl, wErr_zero.mpr ⟨by simp only; omega, fun w hw => by have := h.rng w hw; omega, h.flt, fun e => (Bool.noConfusion e), h.asc⟩, hl⟩
end Go.Proofs.Ytglfecmdoekabaa
