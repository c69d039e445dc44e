/- The law's run by the kernel: its first call stands as a 'prim'. -/
import Derived.Test.YtabhnlpmfgpibaaGreatDoorFactsZ
import Derived.Test.YtabhnlpmfgpibaaGreatDoorAdL0
import Derived.Test.YtabhnlpmfgpibaaGreatDoorAf3
import Derived.KernelRfl
namespace Go.Proofs.YtabhnlpmfgpibaaGreatDoor
set_option maxRecDepth 100000 in
theorem ran3Fast : Go.Ab.fastOk (Go.Ab.cxF Tryz.prog) (Go.Ab.shutPrims [4]) 100000 3 [] = true := by kernel_rfl
theorem ran3 : Go.Ab.isTrue (Go.Ab.evFn (H := Go.Ab.Tr Go.Ab.AObj) (Go.Ab.Tr Go.Ab.V) (Go.Ab.cxOf Tryz.prog) (Go.Ab.shutPrims [4]) 100000 (.fn 3) [] Go.Ab.MapI.emp 0) = true := Go.Ab.fast_true ran3Fast
theorem bodied3 : (match Tryz.f3.body with | some _ => true | none => false) = true := by kernel_rfl
end Go.Proofs.YtabhnlpmfgpibaaGreatDoor
