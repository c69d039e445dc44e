/- The law's runs at some of its arguments' remainders, by the kernel: its first call stands as a 'prim'. -/
import Derived.Test.YtfjnhimdnjgakaaGreatDoorFactsZ
import Derived.Test.YtfjnhimdnjgakaaGreatDoorAdL0
import Derived.Test.YtfjnhimdnjgakaaGreatDoorAf3
import Derived.KernelRfl
namespace Go.Proofs.YtfjnhimdnjgakaaGreatDoor
open Go.Ab
set_option maxRecDepth 100000 in
theorem calls2_0 : (List.all [(57, 0)] fun p : Nat × Nat => fastOk (cxF Tryz.prog) (shutPrims [4]) 100000 3 [.int .u8 (.ofNat p.1), .int .u8 (.ofNat p.2)]) = true := by kernel_rfl
set_option maxRecDepth 100000 in
theorem calls2_1 : (List.all [(43, 0)] fun p : Nat × Nat => fastOk (cxF Tryz.prog) (shutPrims [4]) 100000 3 [.int .u8 (.ofNat p.1), .int .u8 (.ofNat p.2)]) = true := by kernel_rfl
set_option maxRecDepth 100000 in
theorem calls2_2 : (List.all [(57, 2)] fun p : Nat × Nat => fastOk (cxF Tryz.prog) (shutPrims [4]) 100000 3 [.int .u8 (.ofNat p.1), .int .u8 (.ofNat p.2)]) = true := by kernel_rfl
set_option maxRecDepth 100000 in
theorem calls2_3 : (List.all [(23, 4), (10, 0), (11, 1), (19, 3), (22, 4)] fun p : Nat × Nat => fastOk (cxF Tryz.prog) (shutPrims [4]) 100000 3 [.int .u8 (.ofNat p.1), .int .u8 (.ofNat p.2)]) = true := by kernel_rfl
set_option maxRecDepth 100000 in
theorem calls2_4 : (List.all [(18, 2), (26, 4), (13, 1), (22, 3)] fun p : Nat × Nat => fastOk (cxF Tryz.prog) (shutPrims [4]) 100000 3 [.int .u8 (.ofNat p.1), .int .u8 (.ofNat p.2)]) = true := by kernel_rfl
set_option maxRecDepth 100000 in
theorem calls2_5 : (List.all [(11, 0), (25, 4), (17, 2), (21, 3)] fun p : Nat × Nat => fastOk (cxF Tryz.prog) (shutPrims [4]) 100000 3 [.int .u8 (.ofNat p.1), .int .u8 (.ofNat p.2)]) = true := by kernel_rfl
set_option maxRecDepth 100000 in
theorem calls2_6 : (List.all [(31, 4), (26, 3), (21, 2)] fun p : Nat × Nat => fastOk (cxF Tryz.prog) (shutPrims [4]) 100000 3 [.int .u8 (.ofNat p.1), .int .u8 (.ofNat p.2)]) = true := by kernel_rfl
set_option maxRecDepth 100000 in
theorem calls2_7 : (List.all [(54, 3)] fun p : Nat × Nat => fastOk (cxF Tryz.prog) (shutPrims [4]) 100000 3 [.int .u8 (.ofNat p.1), .int .u8 (.ofNat p.2)]) = true := by kernel_rfl
set_option maxRecDepth 100000 in
theorem calls2_8 : (List.all [(20, 1), (17, 0)] fun p : Nat × Nat => fastOk (cxF Tryz.prog) (shutPrims [4]) 100000 3 [.int .u8 (.ofNat p.1), .int .u8 (.ofNat p.2)]) = true := by kernel_rfl
set_option maxRecDepth 100000 in
theorem calls2_9 : (List.all [(56, 4)] fun p : Nat × Nat => fastOk (cxF Tryz.prog) (shutPrims [4]) 100000 3 [.int .u8 (.ofNat p.1), .int .u8 (.ofNat p.2)]) = true := by kernel_rfl
set_option maxRecDepth 100000 in
theorem calls2_10 : (List.all [(48, 3)] fun p : Nat × Nat => fastOk (cxF Tryz.prog) (shutPrims [4]) 100000 3 [.int .u8 (.ofNat p.1), .int .u8 (.ofNat p.2)]) = true := by kernel_rfl
set_option maxRecDepth 100000 in
theorem calls2_11 : (List.all [(48, 4)] fun p : Nat × Nat => fastOk (cxF Tryz.prog) (shutPrims [4]) 100000 3 [.int .u8 (.ofNat p.1), .int .u8 (.ofNat p.2)]) = true := by kernel_rfl
set_option maxRecDepth 100000 in
theorem calls2_12 : (List.all [(26, 1)] fun p : Nat × Nat => fastOk (cxF Tryz.prog) (shutPrims [4]) 100000 3 [.int .u8 (.ofNat p.1), .int .u8 (.ofNat p.2)]) = true := by kernel_rfl
end Go.Proofs.YtfjnhimdnjgakaaGreatDoor
