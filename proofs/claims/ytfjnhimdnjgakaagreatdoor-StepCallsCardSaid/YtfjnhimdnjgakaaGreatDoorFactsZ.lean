/- What the abstract evaluator asks of this seat's program. -/
import Derived.Test.YtfjnhimdnjgakaaGreatDoorProg
import Derived.Test.YtfjnhimdnjgakaaGreatDoorAc20
import Derived.KernelRfl
namespace Go.Proofs.YtfjnhimdnjgakaaGreatDoor
open Go.Ab

theorem fit : Fit Tryz.prog := ⟨by kernel_rfl, by kernel_rfl, by kernel_rfl⟩
end Go.Proofs.YtfjnhimdnjgakaaGreatDoor
