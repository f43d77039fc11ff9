/- Agreement. -/
import Derived.Test.YtglfecmdoekabaaG7
namespace Go.Proofs.Ytglfecmdoekabaa
open Go Go.Am
set_option linter.unusedVariables false
set_option linter.unusedSimpArgs false
theorem Itm.eq_iff {x y : Itm} : x = y ↔ x.ver = y.ver ∧ x.grp = y.grp ∧ x.mode = y.mode ∧ x.srcs = y.srcs := by
  cases x; cases y; simp
end Go.Proofs.Ytglfecmdoekabaa
