/- What the abstract evaluator asks of this seat's program. -/
import Derived.Test.YtedojncbegcdnaaProg
import Derived.Test.YtedojncbegcdnaaAb20
import Derived.KernelRfl
namespace Go.Proofs.Ytedojncbegcdnaa
open Go.Ab

theorem fit : Fit Try.prog := ⟨by kernel_rfl, by kernel_rfl, by kernel_rfl⟩
end Go.Proofs.Ytedojncbegcdnaa
