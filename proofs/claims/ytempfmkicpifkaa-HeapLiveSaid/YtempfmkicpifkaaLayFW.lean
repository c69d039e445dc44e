/- What the kit's contracts on slices.SortFunc and cmp.Compare ask of this program (written by the kit's lay-plain.mjs). -/
import Derived.Shelf.SlSortCmp.NoneTotal
import Derived.Shelf.SlicesG.Cmp
import Derived.Ground.SlsfProg
import Derived.Ground.SlgcProg
import Derived.Test.YtempfmkicpifkaaProg
namespace Go.Proofs
open Go.Shelf
def Try.sortF_ren : Go.Shelf.Ren := ⟨fun | 6 => 138 | 15 => 159 | 14 => 160 | 28 => 179 | 29 => 180 | 20 => 181 | 21 => 182 | 22 => 183 | 23 => 184 | 24 => 185 | 25 => 186 | 26 => 187 | 27 => 188 | 46 => 195 | 47 => 191 | 48 => 192 | 49 => 196 | 50 => 197 | 57 => 199 | n => n, fun | 22 => 161 | 24 => 159 | 25 => 184 | 3 => 3 | 39 => 33 | 0 => 0 | 53 => 226 | 55 => 36 | 4 => 4 | 46 => 220 | 45 => 219 | 50 => 42 | 5 => 5 | 9 => 9 | 66 => 234 | 70 => 238 | 76 => 242 | 77 => 243 | n => n, fun | n => n⟩
theorem Try.sortF : Go.Proofs.SlLaysF.n6 Try.prog Try.sortF_ren := {
  mixed := by kernel_rfl
  f6 := ⟨Try.f138.name, by decide, Try.func138.trans (congrArg some (by kernel_rfl))⟩
  f14 := ⟨Try.f160.name, by decide, Try.func160.trans (congrArg some (by kernel_rfl))⟩
  f15 := Try.func159.trans (congrArg some (by kernel_rfl))
  f20 := ⟨Try.f181.name, by decide, Try.func181.trans (congrArg some (by kernel_rfl))⟩
  f21 := ⟨Try.f182.name, by decide, Try.func182.trans (congrArg some (by kernel_rfl))⟩
  f22 := ⟨Try.f183.name, by decide, Try.func183.trans (congrArg some (by kernel_rfl))⟩
  f23 := ⟨Try.f184.name, by decide, Try.func184.trans (congrArg some (by kernel_rfl))⟩
  f24 := ⟨Try.f185.name, by decide, Try.func185.trans (congrArg some (by kernel_rfl))⟩
  f25 := ⟨Try.f186.name, by decide, Try.func186.trans (congrArg some (by kernel_rfl))⟩
  f26 := ⟨Try.f187.name, by decide, Try.func187.trans (congrArg some (by kernel_rfl))⟩
  f27 := ⟨Try.f188.name, by decide, Try.func188.trans (congrArg some (by kernel_rfl))⟩
  f28 := Try.func179.trans (congrArg some (by kernel_rfl))
  f29 := Try.func180.trans (congrArg some (by kernel_rfl))
  f46 := ⟨Try.f195.name, by decide, Try.func195.trans (congrArg some (by kernel_rfl))⟩
  f47 := Try.func191.trans (congrArg some (by kernel_rfl))
  f48 := Try.func192.trans (congrArg some (by kernel_rfl))
  f49 := ⟨Try.f196.name, by decide, Try.func196.trans (congrArg some (by kernel_rfl))⟩
  f50 := ⟨Try.f197.name, by decide, Try.func197.trans (congrArg some (by kernel_rfl))⟩
  f57 := ⟨Try.f199.name, by decide, Try.func199.trans (congrArg some (by kernel_rfl))⟩
  t0 := Try.underlying0
  a0 := Try.isAgg0
  z0 := Try.sizeOf0
  v0 := Try.zeroValue0
  t3 := Try.underlying3
  a3 := Try.isAgg3
  z3 := Try.sizeOf3
  v3 := Try.zeroValue3
  t4 := Try.underlying4
  a4 := Try.isAgg4
  z4 := Try.sizeOf4
  v4 := Try.zeroValue4
  t5 := Try.underlying5
  a5 := Try.isAgg5
  z5 := Try.sizeOf5
  v5 := Try.zeroValue5
  t9 := Try.underlying9
  a9 := Try.isAgg9
  z9 := Try.sizeOf9
  v9 := Try.zeroValue9
  t22 := Try.underlying161
  a22 := Try.isAgg161
  z22 := Try.sizeOf161
  v22 := Try.zeroValue161
  a24 := Try.isAgg159
  z24 := Try.sizeOf159
  t25 := Try.underlying184
  a25 := Try.isAgg184
  z25 := Try.sizeOf184
  v25 := Try.zeroValue184
  t39 := Try.underlying33
  a39 := Try.isAgg33
  z39 := Try.sizeOf33
  v39 := Try.zeroValue33
  t45 := Try.underlying219
  a45 := Try.isAgg219
  z45 := Try.sizeOf219
  v45 := Try.zeroValue219
  t46 := Try.underlying220
  a46 := Try.isAgg220
  z46 := Try.sizeOf220
  v46 := Try.zeroValue220
  t50 := Try.underlying42
  a50 := Try.isAgg42
  z50 := Try.sizeOf42
  v50 := Try.zeroValue42
  t53 := Try.underlying226
  a53 := Try.isAgg226
  z53 := Try.sizeOf226
  v53 := Try.zeroValue226
  t55 := Try.underlying36
  a55 := Try.isAgg36
  z55 := Try.sizeOf36
  v55 := Try.zeroValue36
  t66 := Try.underlying234
  a66 := Try.isAgg234
  z66 := Try.sizeOf234
  v66 := Try.zeroValue234
  t70 := Try.underlying238
  a70 := Try.isAgg238
  z70 := Try.sizeOf238
  v70 := Try.zeroValue238
  t76 := Try.underlying242
  a76 := Try.isAgg242
  z76 := Try.sizeOf242
  v76 := Try.zeroValue242
  t77 := Try.underlying243
  a77 := Try.isAgg243
  z77 := Try.sizeOf243
  v77 := Try.zeroValue243 }
def Try.cmpL_ren : Go.Shelf.Ren := ⟨fun | 5 => 140 | 7 => 161 | n => n, fun | 22 => 3 | 3 => 3 | 4 => 4 | n => n, fun | n => n⟩
theorem Try.cmpL : Go.Proofs.SlLaysC2.n5 Try.prog Try.cmpL_ren := {
  mixed := by kernel_rfl
  f5 := ⟨Try.f140.name, by decide, Try.func140.trans (congrArg some (by kernel_rfl))⟩
  f7 := ⟨Try.f161.name, by decide, Try.func161.trans (congrArg some (by kernel_rfl))⟩
  t3 := Try.underlying3
  a3 := Try.isAgg3
  z3 := Try.sizeOf3
  v3 := Try.zeroValue3
  t4 := Try.underlying4
  a4 := Try.isAgg4
  z4 := Try.sizeOf4
  v4 := Try.zeroValue4
  t22 := Try.underlying3
  a22 := Try.isAgg3
  z22 := Try.sizeOf3
  v22 := Try.zeroValue3 }
end Go.Proofs
