/- A listener that holds what it should. -/
import Derived.Test.YtglfecmdoekabaaG11
namespace Go.Proofs.Ytglfecmdoekabaa
open Go Go.Am
set_option linter.unusedVariables false
set_option linter.unusedSimpArgs false
theorem okL_mem' : ∀ {l : List AV}, okL l → ∀ {x}, x ∈ l → x.ok
  | y :: l, h, x, hx => by
    rcases List.mem_cons.mp hx with rfl | hx
    · exact h.1
    · exact okL_mem' h.2 hx
def hold1 (a : Spk) (l : Lsn) (h : Hrd) : Prop := h.router = a.router → h.epoch = a.epoch → (∀ x ∈ a.items, x.ver ≤ h.ver → x ∈ h.items) ∧ (agree a l ↔ h.ver = a.last)
instance (a : Spk) (l : Lsn) : Decidable (holdsP a l) := by unfold holdsP; infer_instance
end Go.Proofs.Ytglfecmdoekabaa
