/- What the abstract evaluator asks of this seat's program. -/
import Derived.Test.YtedojncbegcdnaaGreatDoorProg
import Derived.Test.YtedojncbegcdnaaGreatDoorAc20
import Derived.KernelRfl
namespace Go.Proofs.YtedojncbegcdnaaGreatDoor
open Go.Ab

theorem fit : Fit Tryz.prog := ⟨by kernel_rfl, by kernel_rfl, by kernel_rfl⟩
end Go.Proofs.YtedojncbegcdnaaGreatDoor
