/- What the abstract evaluator asks of this seat's program. -/
import Derived.Test.YtempfmkicpifkaaProg
import Derived.Test.YtempfmkicpifkaaAc20
import Derived.KernelRfl
namespace Go.Proofs.Ytempfmkicpifkaa
open Go.Ab

theorem fit : Fit Try.prog := ⟨by kernel_rfl, by kernel_rfl, by kernel_rfl⟩
end Go.Proofs.Ytempfmkicpifkaa
