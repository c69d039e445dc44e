/- The law's runs at some of its arguments' remainders, by the kernel: its first call stands as a 'prim'. -/
import Derived.Test.YtfjnhimdnjgakaaGreatDoorFactsZ
import Derived.Test.YtfjnhimdnjgakaaGreatDoorAdL0
import Derived.Test.YtfjnhimdnjgakaaGreatDoorAf3
import Derived.KernelRfl
namespace Go.Proofs.YtfjnhimdnjgakaaGreatDoor
open Go.Ab
set_option maxRecDepth 100000 in
theorem calls4_0 : (List.all [(55, 0)] fun p : Nat × Nat => fastOk (cxF Tryz.prog) (shutPrims [4]) 100000 3 [.int .u8 (.ofNat p.1), .int .u8 (.ofNat p.2)]) = true := by kernel_rfl
set_option maxRecDepth 100000 in
theorem calls4_1 : (List.all [(44, 0)] fun p : Nat × Nat => fastOk (cxF Tryz.prog) (shutPrims [4]) 100000 3 [.int .u8 (.ofNat p.1), .int .u8 (.ofNat p.2)]) = true := by kernel_rfl
set_option maxRecDepth 100000 in
theorem calls4_2 : (List.all [(58, 2)] fun p : Nat × Nat => fastOk (cxF Tryz.prog) (shutPrims [4]) 100000 3 [.int .u8 (.ofNat p.1), .int .u8 (.ofNat p.2)]) = true := by kernel_rfl
set_option maxRecDepth 100000 in
theorem calls4_3 : (List.all [(53, 2)] fun p : Nat × Nat => fastOk (cxF Tryz.prog) (shutPrims [4]) 100000 3 [.int .u8 (.ofNat p.1), .int .u8 (.ofNat p.2)]) = true := by kernel_rfl
set_option maxRecDepth 100000 in
theorem calls4_4 : (List.all [(33, 4), (17, 1), (23, 2)] fun p : Nat × Nat => fastOk (cxF Tryz.prog) (shutPrims [4]) 100000 3 [.int .u8 (.ofNat p.1), .int .u8 (.ofNat p.2)]) = true := by kernel_rfl
set_option maxRecDepth 100000 in
theorem calls4_5 : (List.all [(33, 0)] fun p : Nat × Nat => fastOk (cxF Tryz.prog) (shutPrims [4]) 100000 3 [.int .u8 (.ofNat p.1), .int .u8 (.ofNat p.2)]) = true := by kernel_rfl
set_option maxRecDepth 100000 in
theorem calls4_6 : (List.all [(57, 3)] fun p : Nat × Nat => fastOk (cxF Tryz.prog) (shutPrims [4]) 100000 3 [.int .u8 (.ofNat p.1), .int .u8 (.ofNat p.2)]) = true := by kernel_rfl
set_option maxRecDepth 100000 in
theorem calls4_7 : (List.all [(28, 2), (34, 3)] fun p : Nat × Nat => fastOk (cxF Tryz.prog) (shutPrims [4]) 100000 3 [.int .u8 (.ofNat p.1), .int .u8 (.ofNat p.2)]) = true := by kernel_rfl
set_option maxRecDepth 100000 in
theorem calls4_8 : (List.all [(43, 2)] fun p : Nat × Nat => fastOk (cxF Tryz.prog) (shutPrims [4]) 100000 3 [.int .u8 (.ofNat p.1), .int .u8 (.ofNat p.2)]) = true := by kernel_rfl
set_option maxRecDepth 100000 in
theorem calls4_9 : (List.all [(16, 0), (25, 2)] fun p : Nat × Nat => fastOk (cxF Tryz.prog) (shutPrims [4]) 100000 3 [.int .u8 (.ofNat p.1), .int .u8 (.ofNat p.2)]) = true := by kernel_rfl
set_option maxRecDepth 100000 in
theorem calls4_10 : (List.all [(46, 3)] fun p : Nat × Nat => fastOk (cxF Tryz.prog) (shutPrims [4]) 100000 3 [.int .u8 (.ofNat p.1), .int .u8 (.ofNat p.2)]) = true := by kernel_rfl
set_option maxRecDepth 100000 in
theorem calls4_11 : (List.all [(36, 2)] fun p : Nat × Nat => fastOk (cxF Tryz.prog) (shutPrims [4]) 100000 3 [.int .u8 (.ofNat p.1), .int .u8 (.ofNat p.2)]) = true := by kernel_rfl
set_option maxRecDepth 100000 in
theorem calls4_12 : (List.all [(1, 4), (1, 0), (0, 2), (0, 3), (0, 4), (0, 0)] fun p : Nat × Nat => fastOk (cxF Tryz.prog) (shutPrims [4]) 100000 3 [.int .u8 (.ofNat p.1), .int .u8 (.ofNat p.2)]) = true := by kernel_rfl
end Go.Proofs.YtfjnhimdnjgakaaGreatDoor
