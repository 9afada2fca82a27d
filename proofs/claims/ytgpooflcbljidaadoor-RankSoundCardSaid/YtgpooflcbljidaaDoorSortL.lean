/-
  DERIVED: THE SHELF's CONTRACTS AT THIS DUMP, IN PLAIN WORDS (tools/lay-plain.mjs out of 'TrydSortL.lean', which tools/lay-shelf.mjs wrote): THE SAME DECLARATIONS UNDER THE SAME NAMES: 'import', 'namespace', 'open', 'def', 'theorem' AND NOTHING ELSE: no command of the shelf's: FOR A HAND-IN. Each laying: the table of numbers ('.._ren') and one theorem, a field a fact of the dump's own or the kernel's comparison; each contract: ONE APPLICATION.
-/
import Derived.Shelf.SlSortCmp.WholeK
import Derived.Shelf.SlSortCmp.NoneTotal
import Derived.Test.YtgpooflcbljidaaDoorProg
namespace Go.Proofs
open Go.Shelf
def Tryd.sortSet_ren : Go.Shelf.Ren := ⟨fun | 6 => 66 | 15 => 103 | 14 => 102 | 28 => 121 | 29 => 122 | 20 => 113 | 21 => 114 | 22 => 115 | 23 => 116 | 24 => 117 | 25 => 118 | 26 => 119 | 27 => 120 | 46 => 125 | 47 => 126 | 48 => 127 | 49 => 128 | 50 => 129 | 57 => 130 | n => n, fun | 22 => 61 | 24 => 66 | 25 => 118 | 3 => 3 | 39 => 141 | 0 => 0 | 53 => 166 | 55 => 72 | 4 => 4 | 46 => 160 | 45 => 159 | 50 => 150 | 5 => 5 | 9 => 9 | 66 => 168 | 70 => 172 | 76 => 174 | 77 => 46 | n => n, fun | n => n⟩
theorem Tryd.sortSet : Go.Proofs.SlLaysF0.n6 Tryd.prog Tryd.sortSet_ren := {
  mixed := by kernel_rfl
  f6 := ⟨Tryd.f66.name, by decide, Tryd.func66.trans (congrArg some (by kernel_rfl))⟩
  f14 := ⟨Tryd.f102.name, by decide, Tryd.func102.trans (congrArg some (by kernel_rfl))⟩
  f15 := Tryd.func103.trans (congrArg some (by kernel_rfl))
  f20 := ⟨Tryd.f113.name, by decide, Tryd.func113.trans (congrArg some (by kernel_rfl))⟩
  f21 := ⟨Tryd.f114.name, by decide, Tryd.func114.trans (congrArg some (by kernel_rfl))⟩
  f22 := ⟨Tryd.f115.name, by decide, Tryd.func115.trans (congrArg some (by kernel_rfl))⟩
  f23 := ⟨Tryd.f116.name, by decide, Tryd.func116.trans (congrArg some (by kernel_rfl))⟩
  f24 := ⟨Tryd.f117.name, by decide, Tryd.func117.trans (congrArg some (by kernel_rfl))⟩
  f25 := ⟨Tryd.f118.name, by decide, Tryd.func118.trans (congrArg some (by kernel_rfl))⟩
  f26 := ⟨Tryd.f119.name, by decide, Tryd.func119.trans (congrArg some (by kernel_rfl))⟩
  f27 := ⟨Tryd.f120.name, by decide, Tryd.func120.trans (congrArg some (by kernel_rfl))⟩
  f28 := Tryd.func121.trans (congrArg some (by kernel_rfl))
  f29 := Tryd.func122.trans (congrArg some (by kernel_rfl))
  f46 := ⟨Tryd.f125.name, by decide, Tryd.func125.trans (congrArg some (by kernel_rfl))⟩
  f47 := Tryd.func126.trans (congrArg some (by kernel_rfl))
  f48 := Tryd.func127.trans (congrArg some (by kernel_rfl))
  f49 := ⟨Tryd.f128.name, by decide, Tryd.func128.trans (congrArg some (by kernel_rfl))⟩
  f50 := ⟨Tryd.f129.name, by decide, Tryd.func129.trans (congrArg some (by kernel_rfl))⟩
  f57 := ⟨Tryd.f130.name, by decide, Tryd.func130.trans (congrArg some (by kernel_rfl))⟩
  t0 := Tryd.underlying0
  a0 := Tryd.isAgg0
  z0 := Tryd.sizeOf0
  v0 := Tryd.zeroValue0
  t3 := Tryd.underlying3
  a3 := Tryd.isAgg3
  z3 := Tryd.sizeOf3
  v3 := Tryd.zeroValue3
  t4 := Tryd.underlying4
  a4 := Tryd.isAgg4
  z4 := Tryd.sizeOf4
  v4 := Tryd.zeroValue4
  t5 := Tryd.underlying5
  a5 := Tryd.isAgg5
  z5 := Tryd.sizeOf5
  v5 := Tryd.zeroValue5
  t9 := Tryd.underlying9
  a9 := Tryd.isAgg9
  z9 := Tryd.sizeOf9
  v9 := Tryd.zeroValue9
  t22 := Tryd.underlying61
  a22 := Tryd.isAgg61
  z22 := Tryd.sizeOf61
  v22 := Tryd.zeroValue61
  t25 := Tryd.underlying118
  a25 := Tryd.isAgg118
  z25 := Tryd.sizeOf118
  v25 := Tryd.zeroValue118
  t39 := Tryd.underlying141
  a39 := Tryd.isAgg141
  z39 := Tryd.sizeOf141
  v39 := Tryd.zeroValue141
  t45 := Tryd.underlying159
  a45 := Tryd.isAgg159
  z45 := Tryd.sizeOf159
  v45 := Tryd.zeroValue159
  t46 := Tryd.underlying160
  a46 := Tryd.isAgg160
  z46 := Tryd.sizeOf160
  v46 := Tryd.zeroValue160
  t50 := Tryd.underlying150
  a50 := Tryd.isAgg150
  z50 := Tryd.sizeOf150
  v50 := Tryd.zeroValue150
  t53 := Tryd.underlying166
  a53 := Tryd.isAgg166
  z53 := Tryd.sizeOf166
  v53 := Tryd.zeroValue166
  t55 := Tryd.underlying72
  a55 := Tryd.isAgg72
  z55 := Tryd.sizeOf72
  v55 := Tryd.zeroValue72
  t66 := Tryd.underlying168
  a66 := Tryd.isAgg168
  z66 := Tryd.sizeOf168
  v66 := Tryd.zeroValue168
  t70 := Tryd.underlying172
  a70 := Tryd.isAgg172
  z70 := Tryd.sizeOf172
  v70 := Tryd.zeroValue172
  t76 := Tryd.underlying174
  a76 := Tryd.isAgg174
  z76 := Tryd.sizeOf174
  v76 := Tryd.zeroValue174
  t77 := Tryd.underlying46
  a77 := Tryd.isAgg46
  z77 := Tryd.sizeOf46
  v77 := Tryd.zeroValue46 }
end Go.Proofs
