/- The closed function of this seat that the law calls first, run by the kernel. -/
import Derived.Test.YtfjnhimdnjgakaaGreatDoorFactsZ
import Derived.Test.YtfjnhimdnjgakaaGreatDoorAf3
import Derived.KernelRfl
namespace Go.Proofs.YtfjnhimdnjgakaaGreatDoor
set_option maxRecDepth 100000 in
theorem awake4Fast : Go.Ab.fastOk (Go.Ab.cxF Tryz.prog) (fun _ => none) 100000 4 [] = true := by kernel_rfl
theorem awake4 : Go.Ab.isTrue (Go.Ab.evFn (H := Go.Ab.Tr Go.Ab.AObj) (Go.Ab.Tr Go.Ab.V) (Go.Ab.cxOf Tryz.prog) (fun _ => none) 100000 (.fn 4) [] Go.Ab.MapI.emp 0) = true := Go.Ab.fast_true awake4Fast
theorem bodied4 : (match Tryz.f4.body with | some _ => true | none => false) = true := by kernel_rfl
end Go.Proofs.YtfjnhimdnjgakaaGreatDoor
