/- What the abstract evaluator asks of this seat's program. -/
import Derived.Test.YtjincciacbfhiaaProg
import Derived.Test.YtjincciacbfhiaaAc20
import Derived.KernelRfl
namespace Go.Proofs.Ytjincciacbfhiaa
open Go.Ab

theorem fit : Fit Try.prog := ⟨by kernel_rfl, by kernel_rfl, by kernel_rfl⟩
end Go.Proofs.Ytjincciacbfhiaa
