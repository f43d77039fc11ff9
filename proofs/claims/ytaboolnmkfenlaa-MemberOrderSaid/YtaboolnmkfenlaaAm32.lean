/- What a law is called with: integers. -/
import Derived.Test.YtaboolnmkfenlaaAm31
import Derived.Test.YtaboolnmkfenlaaAm25
namespace Go.Am
theorem RV.int {w : World} {A : Nat → Prop} {k : IntKind} {n : Int} (h : (Lit.int k n).wf = true) : RV w A (.val (.int k n)) noMu (.int k n) := ⟨rfl, by simpa [Lit.wf, plainV, inK] using h⟩
end Go.Am
