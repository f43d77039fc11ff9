/- The draws, by what is known of what they give. -/
import Derived.Test.YtaboolnmkfenlaaP2
namespace Go.Proofs.Ytaboolnmkfenlaa
open Go Go.Am
set_option linter.unusedVariables false
set_option linter.unusedSimpArgs false
theorem N_ex (L : List Int) {q : Nat} (hq : q ≤ L.length) {n : Int} (hn : 1 ≤ n) : ∃ (v : Int) (q' : Nat), (0 ≤ v ∧ v < n) ∧ q' ≤ L.length ∧
    HSpec Try.prog 24 [.ref 0 0, .int n] [.box (tp L q)] (.int v) [some (.box (tp L q'))] := ⟨_, _, Mod_range hn, rawP_le hq, N_spec L q n hq⟩
theorem Range_ex (L : List Int) {q : Nat} (hq : q ≤ L.length) (lo hi : Int) (h0 : 0 ≤ lo) (h1 : lo ≤ hi) (h2 : hi < 4611686018427387904) : ∃ (v : Int) (q' : Nat), (lo ≤ v ∧ v ≤ hi) ∧ q' ≤ L.length ∧
    HSpec Try.prog 10 [.ref 0 0, .int lo, .int hi] [.box (tp L q)] (.int v) [some (.box (tp L q'))] := by
  have := Mod_range (x := rawV L q) (show 1 ≤ hi - lo + 1 by omega)
  exact ⟨_, _, by omega, rawP_le hq, Range_spec L q lo hi hq h0 h1 h2⟩
theorem Pick_ex (L : List Int) {q : Nat} (hq : q ≤ L.length) (l : List Int) (full : Bool) (hl : l ≠ []) : ∃ (v : Int) (q' : Nat), v ∈ l ∧ q' ≤ L.length ∧
    HSpec Try.prog 36 [.ref 0 0, .sl 1 (l.map .int) full] [.box (tp L q)] (.int v) [some (.box (tp L q'))] := ⟨_, _, pickI_mem hl _, rawP_le hq, Pick_spec L q l full hq hl⟩
theorem Filter_ex (L : List Int) {q : Nat} (hq : q ≤ L.length) : ∃ (m : Int) (s : List Int) (q' : Nat), fltErr m s = 0 ∧ q' ≤ L.length ∧
    HSpec Try.prog 22 [.ref 0 0] [.box (tp L q)] (fltV m s) [some (.box (tp L q'))] := ⟨_, _, _, filterT_ok L q, filterT_pos hq, Filter_spec L q hq⟩
theorem Members_ex (L : List Int) {q : Nat} (hq : q ≤ L.length) {n : Int} (hn : 0 ≤ n ∧ n ≤ 60) : ∃ (now : Int) (l : List Mem) (q' : Nat), MOk now l ∧ (l.length : Int) ≤ n ∧ now ≤ 998000 ∧ q' ≤ L.length ∧
    HSpec Try.prog 21 [.ref 0 0, .int n] [.box (tp L q)] (memsV now l) [some (.box (tp L q'))] :=
  ⟨_, _, _, (membersF_ok L q hn).1, (membersF_ok L q hn).2.1, (membersF_ok L q hn).2.2, membersF_pos hq n, Members_spec L q n hq hn⟩
end Go.Proofs.Ytaboolnmkfenlaa
