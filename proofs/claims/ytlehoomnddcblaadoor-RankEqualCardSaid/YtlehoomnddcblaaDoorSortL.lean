/-
  DERIVED: THE SHELF's CONTRACTS AT THIS DUMP, IN PLAIN WORDS (tools/lay-plain.mjs out of 'TrydSortL.lean', which tools/lay-shelf.mjs wrote): THE SAME DECLARATIONS UNDER THE SAME NAMES: 'import', 'namespace', 'open', 'def', 'theorem' AND NOTHING ELSE: no command of the shelf's: FOR A HAND-IN. Each laying: the table of numbers ('.._ren') and one theorem, a field a fact of the dump's own or the kernel's comparison; each contract: ONE APPLICATION.
-/
import Derived.Shelf.SlSortCmp.WholeK
import Derived.Shelf.SlSortCmp.NoneTotal
import Derived.Test.YtlehoomnddcblaaDoorProg
namespace Go.Proofs
open Go.Shelf
def Tryd.sortSet_ren : Go.Shelf.Ren := ⟨fun | 6 => 60 | 15 => 104 | 14 => 103 | 28 => 141 | 29 => 142 | 20 => 133 | 21 => 134 | 22 => 135 | 23 => 136 | 24 => 137 | 25 => 138 | 26 => 139 | 27 => 140 | 46 => 154 | 47 => 155 | 48 => 156 | 49 => 157 | 50 => 158 | 57 => 164 | n => n, fun | 22 => 70 | 24 => 68 | 25 => 114 | 3 => 3 | 39 => 141 | 0 => 0 | 53 => 200 | 55 => 109 | 4 => 4 | 46 => 194 | 45 => 193 | 50 => 163 | 5 => 5 | 9 => 9 | 66 => 211 | 70 => 215 | 76 => 221 | 77 => 50 | n => n, fun | n => n⟩
theorem Tryd.sortSet : Go.Proofs.SlLaysF0.n6 Tryd.prog Tryd.sortSet_ren := {
  mixed := by kernel_rfl
  f6 := ⟨Tryd.f60.name, by decide, Tryd.func60.trans (congrArg some (by kernel_rfl))⟩
  f14 := ⟨Tryd.f103.name, by decide, Tryd.func103.trans (congrArg some (by kernel_rfl))⟩
  f15 := Tryd.func104.trans (congrArg some (by kernel_rfl))
  f20 := ⟨Tryd.f133.name, by decide, Tryd.func133.trans (congrArg some (by kernel_rfl))⟩
  f21 := ⟨Tryd.f134.name, by decide, Tryd.func134.trans (congrArg some (by kernel_rfl))⟩
  f22 := ⟨Tryd.f135.name, by decide, Tryd.func135.trans (congrArg some (by kernel_rfl))⟩
  f23 := ⟨Tryd.f136.name, by decide, Tryd.func136.trans (congrArg some (by kernel_rfl))⟩
  f24 := ⟨Tryd.f137.name, by decide, Tryd.func137.trans (congrArg some (by kernel_rfl))⟩
  f25 := ⟨Tryd.f138.name, by decide, Tryd.func138.trans (congrArg some (by kernel_rfl))⟩
  f26 := ⟨Tryd.f139.name, by decide, Tryd.func139.trans (congrArg some (by kernel_rfl))⟩
  f27 := ⟨Tryd.f140.name, by decide, Tryd.func140.trans (congrArg some (by kernel_rfl))⟩
  f28 := Tryd.func141.trans (congrArg some (by kernel_rfl))
  f29 := Tryd.func142.trans (congrArg some (by kernel_rfl))
  f46 := ⟨Tryd.f154.name, by decide, Tryd.func154.trans (congrArg some (by kernel_rfl))⟩
  f47 := Tryd.func155.trans (congrArg some (by kernel_rfl))
  f48 := Tryd.func156.trans (congrArg some (by kernel_rfl))
  f49 := ⟨Tryd.f157.name, by decide, Tryd.func157.trans (congrArg some (by kernel_rfl))⟩
  f50 := ⟨Tryd.f158.name, by decide, Tryd.func158.trans (congrArg some (by kernel_rfl))⟩
  f57 := ⟨Tryd.f164.name, by decide, Tryd.func164.trans (congrArg some (by kernel_rfl))⟩
  t0 := Tryd.underlying0
  a0 := Tryd.isAgg0
  z0 := Tryd.sizeOf0
  v0 := Tryd.zeroValue0
  t3 := Tryd.underlying3
  a3 := Tryd.isAgg3
  z3 := Tryd.sizeOf3
  v3 := Tryd.zeroValue3
  t4 := Tryd.underlying4
  a4 := Tryd.isAgg4
  z4 := Tryd.sizeOf4
  v4 := Tryd.zeroValue4
  t5 := Tryd.underlying5
  a5 := Tryd.isAgg5
  z5 := Tryd.sizeOf5
  v5 := Tryd.zeroValue5
  t9 := Tryd.underlying9
  a9 := Tryd.isAgg9
  z9 := Tryd.sizeOf9
  v9 := Tryd.zeroValue9
  t22 := Tryd.underlying70
  a22 := Tryd.isAgg70
  z22 := Tryd.sizeOf70
  v22 := Tryd.zeroValue70
  t25 := Tryd.underlying114
  a25 := Tryd.isAgg114
  z25 := Tryd.sizeOf114
  v25 := Tryd.zeroValue114
  t39 := Tryd.underlying141
  a39 := Tryd.isAgg141
  z39 := Tryd.sizeOf141
  v39 := Tryd.zeroValue141
  t45 := Tryd.underlying193
  a45 := Tryd.isAgg193
  z45 := Tryd.sizeOf193
  v45 := Tryd.zeroValue193
  t46 := Tryd.underlying194
  a46 := Tryd.isAgg194
  z46 := Tryd.sizeOf194
  v46 := Tryd.zeroValue194
  t50 := Tryd.underlying163
  a50 := Tryd.isAgg163
  z50 := Tryd.sizeOf163
  v50 := Tryd.zeroValue163
  t53 := Tryd.underlying200
  a53 := Tryd.isAgg200
  z53 := Tryd.sizeOf200
  v53 := Tryd.zeroValue200
  t55 := Tryd.underlying109
  a55 := Tryd.isAgg109
  z55 := Tryd.sizeOf109
  v55 := Tryd.zeroValue109
  t66 := Tryd.underlying211
  a66 := Tryd.isAgg211
  z66 := Tryd.sizeOf211
  v66 := Tryd.zeroValue211
  t70 := Tryd.underlying215
  a70 := Tryd.isAgg215
  z70 := Tryd.sizeOf215
  v70 := Tryd.zeroValue215
  t76 := Tryd.underlying221
  a76 := Tryd.isAgg221
  z76 := Tryd.sizeOf221
  v76 := Tryd.zeroValue221
  t77 := Tryd.underlying50
  a77 := Tryd.isAgg50
  z77 := Tryd.sizeOf50
  v77 := Tryd.zeroValue50 }
end Go.Proofs
