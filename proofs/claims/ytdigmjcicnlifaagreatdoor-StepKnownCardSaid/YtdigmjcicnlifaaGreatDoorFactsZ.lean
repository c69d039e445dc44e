/- What the abstract evaluator asks of this seat's program. -/
import Derived.Test.YtdigmjcicnlifaaGreatDoorProg
import Derived.Test.YtdigmjcicnlifaaGreatDoorAc20
import Derived.KernelRfl
namespace Go.Proofs.YtdigmjcicnlifaaGreatDoor
open Go.Ab

theorem fit : Fit Tryz.prog := ⟨by kernel_rfl, by kernel_rfl, by kernel_rfl⟩
end Go.Proofs.YtdigmjcicnlifaaGreatDoor
