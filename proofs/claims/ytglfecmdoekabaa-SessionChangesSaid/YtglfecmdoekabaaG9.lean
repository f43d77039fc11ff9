/- What a listener hears. -/
import Derived.Test.YtglfecmdoekabaaIH
namespace Go.Proofs.Ytglfecmdoekabaa
open Go Go.Am
set_option linter.unusedVariables false
set_option linter.unusedSimpArgs false
end Go.Proofs.Ytglfecmdoekabaa
