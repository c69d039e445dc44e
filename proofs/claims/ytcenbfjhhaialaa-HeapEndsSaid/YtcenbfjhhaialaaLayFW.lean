/- What the kit's contracts on slices.SortFunc and cmp.Compare ask of this program (written by the kit's lay-plain.mjs). -/
import Derived.Shelf.SlSortCmp.NoneTotal
import Derived.Shelf.SlicesG.Cmp
import Derived.Ground.SlsfProg
import Derived.Ground.SlgcProg
import Derived.Test.YtcenbfjhhaialaaProg
namespace Go.Proofs
open Go.Shelf
def Try.sortF_ren : Go.Shelf.Ren := ⟨fun | 6 => 46 | 15 => 59 | 14 => 58 | 28 => 77 | 29 => 78 | 20 => 69 | 21 => 70 | 22 => 71 | 23 => 72 | 24 => 73 | 25 => 74 | 26 => 75 | 27 => 76 | 46 => 80 | 47 => 81 | 48 => 82 | 49 => 83 | 50 => 84 | 57 => 85 | n => n, fun | 22 => 69 | 24 => 60 | 25 => 85 | 3 => 3 | 39 => 77 | 0 => 0 | 53 => 114 | 55 => 33 | 4 => 4 | 46 => 108 | 45 => 107 | 50 => 29 | 5 => 5 | 9 => 9 | 66 => 117 | 70 => 121 | 76 => 123 | 77 => 124 | n => n, fun | n => n⟩
theorem Try.sortF : Go.Proofs.SlLaysF.n6 Try.prog Try.sortF_ren := {
  mixed := by kernel_rfl
  f6 := ⟨Try.f46.name, by decide, Try.func46.trans (congrArg some (by kernel_rfl))⟩
  f14 := ⟨Try.f58.name, by decide, Try.func58.trans (congrArg some (by kernel_rfl))⟩
  f15 := Try.func59.trans (congrArg some (by kernel_rfl))
  f20 := ⟨Try.f69.name, by decide, Try.func69.trans (congrArg some (by kernel_rfl))⟩
  f21 := ⟨Try.f70.name, by decide, Try.func70.trans (congrArg some (by kernel_rfl))⟩
  f22 := ⟨Try.f71.name, by decide, Try.func71.trans (congrArg some (by kernel_rfl))⟩
  f23 := ⟨Try.f72.name, by decide, Try.func72.trans (congrArg some (by kernel_rfl))⟩
  f24 := ⟨Try.f73.name, by decide, Try.func73.trans (congrArg some (by kernel_rfl))⟩
  f25 := ⟨Try.f74.name, by decide, Try.func74.trans (congrArg some (by kernel_rfl))⟩
  f26 := ⟨Try.f75.name, by decide, Try.func75.trans (congrArg some (by kernel_rfl))⟩
  f27 := ⟨Try.f76.name, by decide, Try.func76.trans (congrArg some (by kernel_rfl))⟩
  f28 := Try.func77.trans (congrArg some (by kernel_rfl))
  f29 := Try.func78.trans (congrArg some (by kernel_rfl))
  f46 := ⟨Try.f80.name, by decide, Try.func80.trans (congrArg some (by kernel_rfl))⟩
  f47 := Try.func81.trans (congrArg some (by kernel_rfl))
  f48 := Try.func82.trans (congrArg some (by kernel_rfl))
  f49 := ⟨Try.f83.name, by decide, Try.func83.trans (congrArg some (by kernel_rfl))⟩
  f50 := ⟨Try.f84.name, by decide, Try.func84.trans (congrArg some (by kernel_rfl))⟩
  f57 := ⟨Try.f85.name, by decide, Try.func85.trans (congrArg some (by kernel_rfl))⟩
  t0 := Try.underlying0
  a0 := Try.isAgg0
  z0 := Try.sizeOf0
  v0 := Try.zeroValue0
  t3 := Try.underlying3
  a3 := Try.isAgg3
  z3 := Try.sizeOf3
  v3 := Try.zeroValue3
  t4 := Try.underlying4
  a4 := Try.isAgg4
  z4 := Try.sizeOf4
  v4 := Try.zeroValue4
  t5 := Try.underlying5
  a5 := Try.isAgg5
  z5 := Try.sizeOf5
  v5 := Try.zeroValue5
  t9 := Try.underlying9
  a9 := Try.isAgg9
  z9 := Try.sizeOf9
  v9 := Try.zeroValue9
  t22 := Try.underlying69
  a22 := Try.isAgg69
  z22 := Try.sizeOf69
  v22 := Try.zeroValue69
  a24 := Try.isAgg60
  z24 := Try.sizeOf60
  t25 := Try.underlying85
  a25 := Try.isAgg85
  z25 := Try.sizeOf85
  v25 := Try.zeroValue85
  t39 := Try.underlying77
  a39 := Try.isAgg77
  z39 := Try.sizeOf77
  v39 := Try.zeroValue77
  t45 := Try.underlying107
  a45 := Try.isAgg107
  z45 := Try.sizeOf107
  v45 := Try.zeroValue107
  t46 := Try.underlying108
  a46 := Try.isAgg108
  z46 := Try.sizeOf108
  v46 := Try.zeroValue108
  t50 := Try.underlying29
  a50 := Try.isAgg29
  z50 := Try.sizeOf29
  v50 := Try.zeroValue29
  t53 := Try.underlying114
  a53 := Try.isAgg114
  z53 := Try.sizeOf114
  v53 := Try.zeroValue114
  t55 := Try.underlying33
  a55 := Try.isAgg33
  z55 := Try.sizeOf33
  v55 := Try.zeroValue33
  t66 := Try.underlying117
  a66 := Try.isAgg117
  z66 := Try.sizeOf117
  v66 := Try.zeroValue117
  t70 := Try.underlying121
  a70 := Try.isAgg121
  z70 := Try.sizeOf121
  v70 := Try.zeroValue121
  t76 := Try.underlying123
  a76 := Try.isAgg123
  z76 := Try.sizeOf123
  v76 := Try.zeroValue123
  t77 := Try.underlying124
  a77 := Try.isAgg124
  z77 := Try.sizeOf124
  v77 := Try.zeroValue124 }
def Try.cmpL_ren : Go.Shelf.Ren := ⟨fun | 5 => 48 | 7 => 60 | n => n, fun | 22 => 3 | 3 => 3 | 4 => 4 | n => n, fun | n => n⟩
theorem Try.cmpL : Go.Proofs.SlLaysC2.n5 Try.prog Try.cmpL_ren := {
  mixed := by kernel_rfl
  f5 := ⟨Try.f48.name, by decide, Try.func48.trans (congrArg some (by kernel_rfl))⟩
  f7 := ⟨Try.f60.name, by decide, Try.func60.trans (congrArg some (by kernel_rfl))⟩
  t3 := Try.underlying3
  a3 := Try.isAgg3
  z3 := Try.sizeOf3
  v3 := Try.zeroValue3
  t4 := Try.underlying4
  a4 := Try.isAgg4
  z4 := Try.sizeOf4
  v4 := Try.zeroValue4
  t22 := Try.underlying3
  a22 := Try.isAgg3
  z22 := Try.sizeOf3
  v22 := Try.zeroValue3 }
end Go.Proofs
