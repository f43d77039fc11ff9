/- Signals are checked. -/
import Derived.Test.YtglfecmdoekabaaG5
namespace Go.Proofs.Ytglfecmdoekabaa
open Go Go.Am
set_option linter.unusedVariables false
set_option linter.unusedSimpArgs false
structure Bnd where
  lo : Int
  hi : Int
def Bnd.v (b : Bnd) : AV := .agg [.int b.lo, .int b.hi]
structure Frm where
  l0 : Int
  h0 : Int
  l1 : Int
  h1 : Int
  l2 : Int
  h2 : Int
  l3 : Int
  h3 : Int
  l4 : Int
  h4 : Int
def Frm.v (b : Frm) : AV := .agg [.int b.l0, .int b.h0, .int b.l1, .int b.h1, .int b.l2, .int b.h2, .int b.l3, .int b.h3, .int b.l4, .int b.h4]
def hasB (b : Bnd) (n : Int) : Bool := decide (b.lo ≤ n) && decide (n ≤ b.hi)
def formsF (s : Sig) : Frm × Bool :=
  if s.kind = 1 then (⟨1, 1000000, 0, 1000000, 0, 0, 0, 0, 0, 0⟩, true)
  else if s.kind = 2 then (⟨1, 1000000, 1, 1000000, 0, W (s.ver - 1), 0, 0, 1, 99⟩, true)
  else if s.kind = 3 then (⟨0, 1000000, 0, 1000000, 0, 0, 1, 1000000, 0, 0⟩, true)
  else (⟨0, 0, 0, 0, 0, 0, 0, 0, 0, 0⟩, false)
theorem hasB_iff {b : Bnd} {n : Int} : hasB b n = true ↔ b.lo ≤ n ∧ n ≤ b.hi := by simp [hasB]
def numL (s : Sig) : List Int := [s.epoch, s.ver, s.prev, s.pep, s.grp]
def bndL (f : Frm) : List Bnd := [⟨f.l0, f.h0⟩, ⟨f.l1, f.h1⟩, ⟨f.l2, f.h2⟩, ⟨f.l3, f.h3⟩, ⟨f.l4, f.h4⟩]
theorem five {p : Int → Bnd → Prop} {s : Sig} {f : Frm} : (∀ (j : Nat) x b, (numL s)[j]? = some x → (bndL f)[j]? = some b → p x b) ↔ p s.epoch ⟨f.l0, f.h0⟩ ∧ p s.ver ⟨f.l1, f.h1⟩ ∧ p s.prev ⟨f.l2, f.h2⟩ ∧ p s.pep ⟨f.l3, f.h3⟩ ∧ p s.grp ⟨f.l4, f.h4⟩ := by
  refine ⟨fun h => ⟨h 0 _ _ rfl rfl, h 1 _ _ rfl rfl, h 2 _ _ rfl rfl, h 3 _ _ rfl rfl, h 4 _ _ rfl rfl⟩, fun ⟨h0, h1, h2, h3, h4⟩ j x b hx hb => ?_⟩
  rcases j with _ | _ | _ | _ | _ | j <;> simp [numL, bndL] at hx hb <;> subst hx hb <;> assumption
theorem nums_iff {s : Sig} (hv : -9223372036854775808 ≤ s.ver ∧ s.ver ≤ 9223372036854775807) (hk : (formsF s).2 = true) :
    sigNums s ↔ ∀ (j : Nat) x b, (numL s)[j]? = some x → (bndL (formsF s).1)[j]? = some b → hasB b x = true := by
  rw [five (p := fun x b => hasB b x = true)]
  simp only [hasB_iff]
  by_cases e1 : s.kind = 1
  · simp [formsF, sigNums, e1]; omega
  · by_cases e2 : s.kind = 2
    · simp only [formsF, sigNums, if_neg e1, if_pos e2]
      constructor
      · rintro ⟨h0, h1, h2, h3, h4⟩
        rw [W_eq (by omega)]; omega
      · rintro ⟨h0, h1, h2, h3, h4⟩
        rw [W_eq (by omega)] at h2; omega
    · by_cases e3 : s.kind = 3
      · simp [formsF, sigNums, e3]; omega
      · simp [formsF, e1, e2, e3] at hk
theorem forms_iff {s : Sig} : (formsF s).2 = true ↔ s.kind = 1 ∨ s.kind = 2 ∨ s.kind = 3 := by
  by_cases e1 : s.kind = 1
  · simp [formsF, e1]
  · by_cases e2 : s.kind = 2
    · simp [formsF, e2]
    · by_cases e3 : s.kind = 3 <;> simp [formsF, e1, e2, e3]
end Go.Proofs.Ytglfecmdoekabaa
