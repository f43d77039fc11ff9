/- The exchange. -/
import Derived.Test.YtglfecmdoekabaaU2
namespace Go.Proofs.Ytglfecmdoekabaa
open Go Go.Am
set_option linter.unusedVariables false
set_option linter.unusedSimpArgs false
def ES.t0 (s : ES) (k : Nat) : Int × Int × Spk × Nat × Lsn × List Sig := (s.e, (k : Int), s.a, s.p, s.l, s.air)
def esOf (t : Int × Int × Spk × Nat × Lsn × List Sig) : ES := ⟨t.1, t.2.2.1, t.2.2.2.2.1, t.2.2.2.2.2, t.2.2.2.1⟩
def ES.res (L : List Int) (s : ES) : Tap × Spk × Lsn × Bool := (⟨L, s.p⟩, s.a, s.l, s.e == 0)
theorem cut_eq {L : List Int} {q : Nat} {air : List Sig} {M : Int} (h0 : 0 ≤ M) (h : M < air.length) (hl : air.length ≤ 1000000) :
    (bif decide (0 < Mod (rawV L q) 4) then air.take M.toNat ++ (air.drop (W (M + 1)).toNat).take ((air.length : Int) - W (M + 1)).toNat else air) = cutAir L q air M.toNat := by
  unfold cutAir
  rw [W_eq (by omega)]
  by_cases e : 0 < Mod (rawV L q) 4
  · rw [if_pos e, decide_eq_true e, cond_true, List.take_of_length_le (l := air.drop _) (by rw [List.length_drop]; omega), show (M + 1).toNat = M.toNat + 1 by omega]
  · rw [if_neg e, decide_eq_false e, cond_false]
end Go.Proofs.Ytglfecmdoekabaa
