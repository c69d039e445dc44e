/- The law's runs at some of its arguments' remainders, by the kernel: its first call stands as a 'prim'. -/
import Derived.Test.YtfjnhimdnjgakaaGreatDoorFactsZ
import Derived.Test.YtfjnhimdnjgakaaGreatDoorAdL0
import Derived.Test.YtfjnhimdnjgakaaGreatDoorAf3
import Derived.KernelRfl
namespace Go.Proofs.YtfjnhimdnjgakaaGreatDoor
open Go.Ab
set_option maxRecDepth 100000 in
theorem calls0_0 : (List.all [(59, 0)] fun p : Nat × Nat => fastOk (cxF Tryz.prog) (shutPrims [4]) 100000 3 [.int .u8 (.ofNat p.1), .int .u8 (.ofNat p.2)]) = true := by kernel_rfl
set_option maxRecDepth 100000 in
theorem calls0_1 : (List.all [(42, 0)] fun p : Nat × Nat => fastOk (cxF Tryz.prog) (shutPrims [4]) 100000 3 [.int .u8 (.ofNat p.1), .int .u8 (.ofNat p.2)]) = true := by kernel_rfl
set_option maxRecDepth 100000 in
theorem calls0_2 : (List.all [(37, 0)] fun p : Nat × Nat => fastOk (cxF Tryz.prog) (shutPrims [4]) 100000 3 [.int .u8 (.ofNat p.1), .int .u8 (.ofNat p.2)]) = true := by kernel_rfl
set_option maxRecDepth 100000 in
theorem calls0_3 : (List.all [(34, 4), (29, 3), (15, 0)] fun p : Nat × Nat => fastOk (cxF Tryz.prog) (shutPrims [4]) 100000 3 [.int .u8 (.ofNat p.1), .int .u8 (.ofNat p.2)]) = true := by kernel_rfl
set_option maxRecDepth 100000 in
theorem calls0_4 : (List.all [(39, 1)] fun p : Nat × Nat => fastOk (cxF Tryz.prog) (shutPrims [4]) 100000 3 [.int .u8 (.ofNat p.1), .int .u8 (.ofNat p.2)]) = true := by kernel_rfl
set_option maxRecDepth 100000 in
theorem calls0_5 : (List.all [(49, 2)] fun p : Nat × Nat => fastOk (cxF Tryz.prog) (shutPrims [4]) 100000 3 [.int .u8 (.ofNat p.1), .int .u8 (.ofNat p.2)]) = true := by kernel_rfl
set_option maxRecDepth 100000 in
theorem calls0_6 : (List.all [(36, 1)] fun p : Nat × Nat => fastOk (cxF Tryz.prog) (shutPrims [4]) 100000 3 [.int .u8 (.ofNat p.1), .int .u8 (.ofNat p.2)]) = true := by kernel_rfl
set_option maxRecDepth 100000 in
theorem calls0_7 : (List.all [(30, 0)] fun p : Nat × Nat => fastOk (cxF Tryz.prog) (shutPrims [4]) 100000 3 [.int .u8 (.ofNat p.1), .int .u8 (.ofNat p.2)]) = true := by kernel_rfl
set_option maxRecDepth 100000 in
theorem calls0_8 : (List.all [(26, 2), (19, 1)] fun p : Nat × Nat => fastOk (cxF Tryz.prog) (shutPrims [4]) 100000 3 [.int .u8 (.ofNat p.1), .int .u8 (.ofNat p.2)]) = true := by kernel_rfl
set_option maxRecDepth 100000 in
theorem calls0_9 : (List.all [(42, 2)] fun p : Nat × Nat => fastOk (cxF Tryz.prog) (shutPrims [4]) 100000 3 [.int .u8 (.ofNat p.1), .int .u8 (.ofNat p.2)]) = true := by kernel_rfl
set_option maxRecDepth 100000 in
theorem calls0_10 : (List.all [(45, 3)] fun p : Nat × Nat => fastOk (cxF Tryz.prog) (shutPrims [4]) 100000 3 [.int .u8 (.ofNat p.1), .int .u8 (.ofNat p.2)]) = true := by kernel_rfl
set_option maxRecDepth 100000 in
theorem calls0_11 : (List.all [(24, 0)] fun p : Nat × Nat => fastOk (cxF Tryz.prog) (shutPrims [4]) 100000 3 [.int .u8 (.ofNat p.1), .int .u8 (.ofNat p.2)]) = true := by kernel_rfl
end Go.Proofs.YtfjnhimdnjgakaaGreatDoor
