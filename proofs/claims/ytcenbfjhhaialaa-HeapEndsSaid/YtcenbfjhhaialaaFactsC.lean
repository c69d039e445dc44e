/- What the abstract evaluator asks of this seat's program. -/
import Derived.Test.YtcenbfjhhaialaaProg
import Derived.Test.YtcenbfjhhaialaaAc20
import Derived.KernelRfl
namespace Go.Proofs.Ytcenbfjhhaialaa
open Go.Ab

theorem fit : Fit Try.prog := ⟨by kernel_rfl, by kernel_rfl, by kernel_rfl⟩
end Go.Proofs.Ytcenbfjhhaialaa
