/- What the abstract evaluator asks of this seat's program. -/
import Derived.Test.YtglnfbnciopmeaaGreatDoorProg
import Derived.Test.YtglnfbnciopmeaaGreatDoorAc20
import Derived.KernelRfl
namespace Go.Proofs.YtglnfbnciopmeaaGreatDoor
open Go.Ab

theorem fit : Fit Tryz.prog := ⟨by kernel_rfl, by kernel_rfl, by kernel_rfl⟩
end Go.Proofs.YtglnfbnciopmeaaGreatDoor
