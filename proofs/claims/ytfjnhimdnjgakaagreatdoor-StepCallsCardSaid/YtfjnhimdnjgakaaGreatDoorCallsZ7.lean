/- The law's runs at some of its arguments' remainders, by the kernel: its first call stands as a 'prim'. -/
import Derived.Test.YtfjnhimdnjgakaaGreatDoorFactsZ
import Derived.Test.YtfjnhimdnjgakaaGreatDoorAdL0
import Derived.Test.YtfjnhimdnjgakaaGreatDoorAf3
import Derived.KernelRfl
namespace Go.Proofs.YtfjnhimdnjgakaaGreatDoor
open Go.Ab
set_option maxRecDepth 100000 in
theorem calls7_0 : (List.all [(52, 0)] fun p : Nat × Nat => fastOk (cxF Tryz.prog) (shutPrims [4]) 100000 3 [.int .u8 (.ofNat p.1), .int .u8 (.ofNat p.2)]) = true := by kernel_rfl
set_option maxRecDepth 100000 in
theorem calls7_1 : (List.all [(53, 1)] fun p : Nat × Nat => fastOk (cxF Tryz.prog) (shutPrims [4]) 100000 3 [.int .u8 (.ofNat p.1), .int .u8 (.ofNat p.2)]) = true := by kernel_rfl
set_option maxRecDepth 100000 in
theorem calls7_2 : (List.all [(39, 0)] fun p : Nat × Nat => fastOk (cxF Tryz.prog) (shutPrims [4]) 100000 3 [.int .u8 (.ofNat p.1), .int .u8 (.ofNat p.2)]) = true := by kernel_rfl
set_option maxRecDepth 100000 in
theorem calls7_3 : (List.all [(43, 1)] fun p : Nat × Nat => fastOk (cxF Tryz.prog) (shutPrims [4]) 100000 3 [.int .u8 (.ofNat p.1), .int .u8 (.ofNat p.2)]) = true := by kernel_rfl
set_option maxRecDepth 100000 in
theorem calls7_4 : (List.all [(32, 2), (24, 1)] fun p : Nat × Nat => fastOk (cxF Tryz.prog) (shutPrims [4]) 100000 3 [.int .u8 (.ofNat p.1), .int .u8 (.ofNat p.2)]) = true := by kernel_rfl
set_option maxRecDepth 100000 in
theorem calls7_5 : (List.all [(22, 2), (14, 0), (16, 1)] fun p : Nat × Nat => fastOk (cxF Tryz.prog) (shutPrims [4]) 100000 3 [.int .u8 (.ofNat p.1), .int .u8 (.ofNat p.2)]) = true := by kernel_rfl
set_option maxRecDepth 100000 in
theorem calls7_6 : (List.all [(42, 4), (19, 0)] fun p : Nat × Nat => fastOk (cxF Tryz.prog) (shutPrims [4]) 100000 3 [.int .u8 (.ofNat p.1), .int .u8 (.ofNat p.2)]) = true := by kernel_rfl
set_option maxRecDepth 100000 in
theorem calls7_7 : (List.all [(24, 3), (28, 4), (14, 1)] fun p : Nat × Nat => fastOk (cxF Tryz.prog) (shutPrims [4]) 100000 3 [.int .u8 (.ofNat p.1), .int .u8 (.ofNat p.2)]) = true := by kernel_rfl
set_option maxRecDepth 100000 in
theorem calls7_8 : (List.all [(34, 1)] fun p : Nat × Nat => fastOk (cxF Tryz.prog) (shutPrims [4]) 100000 3 [.int .u8 (.ofNat p.1), .int .u8 (.ofNat p.2)]) = true := by kernel_rfl
set_option maxRecDepth 100000 in
theorem calls7_9 : (List.all [(26, 0)] fun p : Nat × Nat => fastOk (cxF Tryz.prog) (shutPrims [4]) 100000 3 [.int .u8 (.ofNat p.1), .int .u8 (.ofNat p.2)]) = true := by kernel_rfl
set_option maxRecDepth 100000 in
theorem calls7_10 : (List.all [(40, 2)] fun p : Nat × Nat => fastOk (cxF Tryz.prog) (shutPrims [4]) 100000 3 [.int .u8 (.ofNat p.1), .int .u8 (.ofNat p.2)]) = true := by kernel_rfl
set_option maxRecDepth 100000 in
theorem calls7_11 : (List.all [(35, 2)] fun p : Nat × Nat => fastOk (cxF Tryz.prog) (shutPrims [4]) 100000 3 [.int .u8 (.ofNat p.1), .int .u8 (.ofNat p.2)]) = true := by kernel_rfl
set_option maxRecDepth 100000 in
theorem calls7_12 : (List.all [(34, 2)] fun p : Nat × Nat => fastOk (cxF Tryz.prog) (shutPrims [4]) 100000 3 [.int .u8 (.ofNat p.1), .int .u8 (.ofNat p.2)]) = true := by kernel_rfl
end Go.Proofs.YtfjnhimdnjgakaaGreatDoor
