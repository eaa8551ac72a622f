/-
  DERIVED: THE SHELF's CONTRACTS AT THIS DUMP, IN PLAIN WORDS (tools/lay-plain.mjs out of 'TryzSort2S.lean', which tools/lay-shelf.mjs wrote): THE SAME DECLARATIONS UNDER THE SAME NAMES: 'import', 'namespace', 'open', 'def', 'theorem' AND NOTHING ELSE: no command of the shelf's: FOR A HAND-IN. Each laying: the table of numbers ('.._ren') and one theorem, a field a fact of the dump's own or the kernel's comparison; each contract: ONE APPLICATION.
-/
import Derived.Shelf.SlSortCmp.WholeK
import Derived.Ground.SlsfProg
import Derived.Test.YtalkdddeiebfmaaGreatDoorProg
namespace Go.Proofs
open Go.Shelf
def Tryz.sortU_ren : Go.Shelf.Ren := ⟨fun | 6 => 31 | 15 => 70 | 14 => 69 | 28 => 106 | 29 => 107 | 20 => 98 | 21 => 99 | 22 => 100 | 23 => 101 | 24 => 102 | 25 => 103 | 26 => 104 | 27 => 105 | 46 => 133 | 47 => 134 | 48 => 135 | 49 => 136 | 50 => 137 | 57 => 148 | n => n, fun | 22 => 36 | 24 => 49 | 25 => 87 | 3 => 3 | 39 => 130 | 0 => 0 | 53 => 154 | 55 => 156 | 4 => 4 | 46 => 147 | 45 => 146 | 50 => 151 | 5 => 5 | 9 => 9 | 66 => 175 | 70 => 179 | 76 => 189 | 77 => 190 | n => n, fun | n => n⟩
theorem Tryz.sortU : Go.Proofs.SlLaysF0.n6 Tryz.prog Tryz.sortU_ren := {
  mixed := by kernel_rfl
  f6 := ⟨Tryz.f31.name, by decide, Tryz.func31.trans (congrArg some (by kernel_rfl))⟩
  f14 := ⟨Tryz.f69.name, by decide, Tryz.func69.trans (congrArg some (by kernel_rfl))⟩
  f15 := Tryz.func70.trans (congrArg some (by kernel_rfl))
  f20 := ⟨Tryz.f98.name, by decide, Tryz.func98.trans (congrArg some (by kernel_rfl))⟩
  f21 := ⟨Tryz.f99.name, by decide, Tryz.func99.trans (congrArg some (by kernel_rfl))⟩
  f22 := ⟨Tryz.f100.name, by decide, Tryz.func100.trans (congrArg some (by kernel_rfl))⟩
  f23 := ⟨Tryz.f101.name, by decide, Tryz.func101.trans (congrArg some (by kernel_rfl))⟩
  f24 := ⟨Tryz.f102.name, by decide, Tryz.func102.trans (congrArg some (by kernel_rfl))⟩
  f25 := ⟨Tryz.f103.name, by decide, Tryz.func103.trans (congrArg some (by kernel_rfl))⟩
  f26 := ⟨Tryz.f104.name, by decide, Tryz.func104.trans (congrArg some (by kernel_rfl))⟩
  f27 := ⟨Tryz.f105.name, by decide, Tryz.func105.trans (congrArg some (by kernel_rfl))⟩
  f28 := Tryz.func106.trans (congrArg some (by kernel_rfl))
  f29 := Tryz.func107.trans (congrArg some (by kernel_rfl))
  f46 := ⟨Tryz.f133.name, by decide, Tryz.func133.trans (congrArg some (by kernel_rfl))⟩
  f47 := Tryz.func134.trans (congrArg some (by kernel_rfl))
  f48 := Tryz.func135.trans (congrArg some (by kernel_rfl))
  f49 := ⟨Tryz.f136.name, by decide, Tryz.func136.trans (congrArg some (by kernel_rfl))⟩
  f50 := ⟨Tryz.f137.name, by decide, Tryz.func137.trans (congrArg some (by kernel_rfl))⟩
  f57 := ⟨Tryz.f148.name, by decide, Tryz.func148.trans (congrArg some (by kernel_rfl))⟩
  t0 := Tryz.underlying0
  a0 := Tryz.isAgg0
  z0 := Tryz.sizeOf0
  v0 := Tryz.zeroValue0
  t3 := Tryz.underlying3
  a3 := Tryz.isAgg3
  z3 := Tryz.sizeOf3
  v3 := Tryz.zeroValue3
  t4 := Tryz.underlying4
  a4 := Tryz.isAgg4
  z4 := Tryz.sizeOf4
  v4 := Tryz.zeroValue4
  t5 := Tryz.underlying5
  a5 := Tryz.isAgg5
  z5 := Tryz.sizeOf5
  v5 := Tryz.zeroValue5
  t9 := Tryz.underlying9
  a9 := Tryz.isAgg9
  z9 := Tryz.sizeOf9
  v9 := Tryz.zeroValue9
  t22 := Tryz.underlying36
  a22 := Tryz.isAgg36
  z22 := Tryz.sizeOf36
  v22 := Tryz.zeroValue36
  t25 := Tryz.underlying87
  a25 := Tryz.isAgg87
  z25 := Tryz.sizeOf87
  v25 := Tryz.zeroValue87
  t39 := Tryz.underlying130
  a39 := Tryz.isAgg130
  z39 := Tryz.sizeOf130
  v39 := Tryz.zeroValue130
  t45 := Tryz.underlying146
  a45 := Tryz.isAgg146
  z45 := Tryz.sizeOf146
  v45 := Tryz.zeroValue146
  t46 := Tryz.underlying147
  a46 := Tryz.isAgg147
  z46 := Tryz.sizeOf147
  v46 := Tryz.zeroValue147
  t50 := Tryz.underlying151
  a50 := Tryz.isAgg151
  z50 := Tryz.sizeOf151
  v50 := Tryz.zeroValue151
  t53 := Tryz.underlying154
  a53 := Tryz.isAgg154
  z53 := Tryz.sizeOf154
  v53 := Tryz.zeroValue154
  t55 := Tryz.underlying156
  a55 := Tryz.isAgg156
  z55 := Tryz.sizeOf156
  v55 := Tryz.zeroValue156
  t66 := Tryz.underlying175
  a66 := Tryz.isAgg175
  z66 := Tryz.sizeOf175
  v66 := Tryz.zeroValue175
  t70 := Tryz.underlying179
  a70 := Tryz.isAgg179
  z70 := Tryz.sizeOf179
  v70 := Tryz.zeroValue179
  t76 := Tryz.underlying189
  a76 := Tryz.isAgg189
  z76 := Tryz.sizeOf189
  v76 := Tryz.zeroValue189
  t77 := Tryz.underlying190
  a77 := Tryz.isAgg190
  z77 := Tryz.sizeOf190
  v77 := Tryz.zeroValue190 }
end Go.Proofs
