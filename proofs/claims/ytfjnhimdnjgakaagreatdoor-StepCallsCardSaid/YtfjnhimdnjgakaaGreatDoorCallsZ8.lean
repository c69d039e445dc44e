/- The law's runs at some of its arguments' remainders, by the kernel: its first call stands as a 'prim'. -/
import Derived.Test.YtfjnhimdnjgakaaGreatDoorFactsZ
import Derived.Test.YtfjnhimdnjgakaaGreatDoorAdL0
import Derived.Test.YtfjnhimdnjgakaaGreatDoorAf3
import Derived.KernelRfl
namespace Go.Proofs.YtfjnhimdnjgakaaGreatDoor
open Go.Ab
set_option maxRecDepth 100000 in
theorem calls8_0 : (List.all [(51, 0)] fun p : Nat × Nat => fastOk (cxF Tryz.prog) (shutPrims [4]) 100000 3 [.int .u8 (.ofNat p.1), .int .u8 (.ofNat p.2)]) = true := by kernel_rfl
set_option maxRecDepth 100000 in
theorem calls8_1 : (List.all [(54, 1)] fun p : Nat × Nat => fastOk (cxF Tryz.prog) (shutPrims [4]) 100000 3 [.int .u8 (.ofNat p.1), .int .u8 (.ofNat p.2)]) = true := by kernel_rfl
set_option maxRecDepth 100000 in
theorem calls8_2 : (List.all [(46, 1)] fun p : Nat × Nat => fastOk (cxF Tryz.prog) (shutPrims [4]) 100000 3 [.int .u8 (.ofNat p.1), .int .u8 (.ofNat p.2)]) = true := by kernel_rfl
set_option maxRecDepth 100000 in
theorem calls8_3 : (List.all [(56, 2)] fun p : Nat × Nat => fastOk (cxF Tryz.prog) (shutPrims [4]) 100000 3 [.int .u8 (.ofNat p.1), .int .u8 (.ofNat p.2)]) = true := by kernel_rfl
set_option maxRecDepth 100000 in
theorem calls8_4 : (List.all [(16, 3), (9, 1), (8, 0), (18, 4), (12, 2), (15, 3)] fun p : Nat × Nat => fastOk (cxF Tryz.prog) (shutPrims [4]) 100000 3 [.int .u8 (.ofNat p.1), .int .u8 (.ofNat p.2)]) = true := by kernel_rfl
set_option maxRecDepth 100000 in
theorem calls8_5 : (List.all [(20, 0), (31, 2)] fun p : Nat × Nat => fastOk (cxF Tryz.prog) (shutPrims [4]) 100000 3 [.int .u8 (.ofNat p.1), .int .u8 (.ofNat p.2)]) = true := by kernel_rfl
set_option maxRecDepth 100000 in
theorem calls8_6 : (List.all [(41, 4), (29, 2)] fun p : Nat × Nat => fastOk (cxF Tryz.prog) (shutPrims [4]) 100000 3 [.int .u8 (.ofNat p.1), .int .u8 (.ofNat p.2)]) = true := by kernel_rfl
set_option maxRecDepth 100000 in
theorem calls8_7 : (List.all [(55, 3)] fun p : Nat × Nat => fastOk (cxF Tryz.prog) (shutPrims [4]) 100000 3 [.int .u8 (.ofNat p.1), .int .u8 (.ofNat p.2)]) = true := by kernel_rfl
set_option maxRecDepth 100000 in
theorem calls8_8 : (List.all [(52, 3)] fun p : Nat × Nat => fastOk (cxF Tryz.prog) (shutPrims [4]) 100000 3 [.int .u8 (.ofNat p.1), .int .u8 (.ofNat p.2)]) = true := by kernel_rfl
set_option maxRecDepth 100000 in
theorem calls8_9 : (List.all [(35, 4), (30, 3)] fun p : Nat × Nat => fastOk (cxF Tryz.prog) (shutPrims [4]) 100000 3 [.int .u8 (.ofNat p.1), .int .u8 (.ofNat p.2)]) = true := by kernel_rfl
set_option maxRecDepth 100000 in
theorem calls8_10 : (List.all [(39, 2)] fun p : Nat × Nat => fastOk (cxF Tryz.prog) (shutPrims [4]) 100000 3 [.int .u8 (.ofNat p.1), .int .u8 (.ofNat p.2)]) = true := by kernel_rfl
set_option maxRecDepth 100000 in
theorem calls8_11 : (List.all [(43, 3)] fun p : Nat × Nat => fastOk (cxF Tryz.prog) (shutPrims [4]) 100000 3 [.int .u8 (.ofNat p.1), .int .u8 (.ofNat p.2)]) = true := by kernel_rfl
set_option maxRecDepth 100000 in
theorem calls8_12 : (List.all [(40, 3)] fun p : Nat × Nat => fastOk (cxF Tryz.prog) (shutPrims [4]) 100000 3 [.int .u8 (.ofNat p.1), .int .u8 (.ofNat p.2)]) = true := by kernel_rfl
end Go.Proofs.YtfjnhimdnjgakaaGreatDoor
