/- What the abstract evaluator asks of this seat's program. -/
import Derived.Test.YtabhnlpmfgpibaaGreatDoorProg
import Derived.Test.YtabhnlpmfgpibaaGreatDoorAc20
import Derived.KernelRfl
namespace Go.Proofs.YtabhnlpmfgpibaaGreatDoor
open Go.Ab

theorem fit : Fit Tryz.prog := ⟨by kernel_rfl, by kernel_rfl, by kernel_rfl⟩
end Go.Proofs.YtabhnlpmfgpibaaGreatDoor
