/-
  DERIVED: THE SHELF's CONTRACTS AT THIS DUMP, IN PLAIN WORDS (tools/lay-plain.mjs out of 'YtdajglfbbcbgpaaDoorGr0.lean', which tools/lay-shelf.mjs wrote): THE SAME DECLARATIONS UNDER THE SAME NAMES: 'import', 'namespace', 'open', 'def', 'theorem' AND NOTHING ELSE: no command of the shelf's: FOR A HAND-IN. Each laying: the table of numbers ('.._ren') and one theorem, a field a fact of the dump's own or the kernel's comparison; each contract: ONE APPLICATION.
-/
import Derived.Shelf.SlGeneric
import Derived.Shelf.SlSortCmp.WholeK
import Derived.Ground.SlsfProg
import Derived.Test.YtdajglfbbcbgpaaDoorProg
namespace Go.Proofs
open Go.Shelf
def Tryd.pdqRec_ren : Go.Shelf.Ren := ⟨fun | 14 => 65 | 20 => 79 | 21 => 80 | 22 => 81 | 23 => 82 | 24 => 83 | 25 => 84 | 26 => 85 | 27 => 86 | 46 => 94 | 47 => 95 | 48 => 96 | 49 => 97 | 50 => 98 | 15 => 66 | 57 => 102 | 28 => 87 | 29 => 88 | n => n, fun | 24 => 36 | 22 => 28 | 3 => 3 | 25 => 59 | 4 => 4 | 0 => 0 | 46 => 150 | 45 => 149 | 50 => 73 | 66 => 163 | 39 => 96 | 55 => 157 | 70 => 167 | 76 => 172 | 77 => 173 | 53 => 24 | 5 => 5 | 9 => 9 | n => n, fun | n => n⟩
theorem Tryd.pdqRec : Go.Proofs.SlLaysF0.n14 Tryd.prog Tryd.pdqRec_ren := {
  mixed := by kernel_rfl
  f14 := ⟨Tryd.f65.name, by decide, Tryd.func65.trans (congrArg some (by kernel_rfl))⟩
  f15 := Tryd.func66.trans (congrArg some (by kernel_rfl))
  f20 := ⟨Tryd.f79.name, by decide, Tryd.func79.trans (congrArg some (by kernel_rfl))⟩
  f21 := ⟨Tryd.f80.name, by decide, Tryd.func80.trans (congrArg some (by kernel_rfl))⟩
  f22 := ⟨Tryd.f81.name, by decide, Tryd.func81.trans (congrArg some (by kernel_rfl))⟩
  f23 := ⟨Tryd.f82.name, by decide, Tryd.func82.trans (congrArg some (by kernel_rfl))⟩
  f24 := ⟨Tryd.f83.name, by decide, Tryd.func83.trans (congrArg some (by kernel_rfl))⟩
  f25 := ⟨Tryd.f84.name, by decide, Tryd.func84.trans (congrArg some (by kernel_rfl))⟩
  f26 := ⟨Tryd.f85.name, by decide, Tryd.func85.trans (congrArg some (by kernel_rfl))⟩
  f27 := ⟨Tryd.f86.name, by decide, Tryd.func86.trans (congrArg some (by kernel_rfl))⟩
  f28 := Tryd.func87.trans (congrArg some (by kernel_rfl))
  f29 := Tryd.func88.trans (congrArg some (by kernel_rfl))
  f46 := ⟨Tryd.f94.name, by decide, Tryd.func94.trans (congrArg some (by kernel_rfl))⟩
  f47 := Tryd.func95.trans (congrArg some (by kernel_rfl))
  f48 := Tryd.func96.trans (congrArg some (by kernel_rfl))
  f49 := ⟨Tryd.f97.name, by decide, Tryd.func97.trans (congrArg some (by kernel_rfl))⟩
  f50 := ⟨Tryd.f98.name, by decide, Tryd.func98.trans (congrArg some (by kernel_rfl))⟩
  f57 := ⟨Tryd.f102.name, by decide, Tryd.func102.trans (congrArg some (by kernel_rfl))⟩
  t0 := Tryd.underlying0
  a0 := Tryd.isAgg0
  z0 := Tryd.sizeOf0
  v0 := Tryd.zeroValue0
  t3 := Tryd.underlying3
  a3 := Tryd.isAgg3
  z3 := Tryd.sizeOf3
  v3 := Tryd.zeroValue3
  t4 := Tryd.underlying4
  a4 := Tryd.isAgg4
  z4 := Tryd.sizeOf4
  v4 := Tryd.zeroValue4
  t5 := Tryd.underlying5
  a5 := Tryd.isAgg5
  z5 := Tryd.sizeOf5
  v5 := Tryd.zeroValue5
  t9 := Tryd.underlying9
  a9 := Tryd.isAgg9
  z9 := Tryd.sizeOf9
  v9 := Tryd.zeroValue9
  t22 := Tryd.underlying28
  a22 := Tryd.isAgg28
  z22 := Tryd.sizeOf28
  v22 := Tryd.zeroValue28
  t25 := Tryd.underlying59
  a25 := Tryd.isAgg59
  z25 := Tryd.sizeOf59
  v25 := Tryd.zeroValue59
  t39 := Tryd.underlying96
  a39 := Tryd.isAgg96
  z39 := Tryd.sizeOf96
  v39 := Tryd.zeroValue96
  t45 := Tryd.underlying149
  a45 := Tryd.isAgg149
  z45 := Tryd.sizeOf149
  v45 := Tryd.zeroValue149
  t46 := Tryd.underlying150
  a46 := Tryd.isAgg150
  z46 := Tryd.sizeOf150
  v46 := Tryd.zeroValue150
  t50 := Tryd.underlying73
  a50 := Tryd.isAgg73
  z50 := Tryd.sizeOf73
  v50 := Tryd.zeroValue73
  t53 := Tryd.underlying24
  a53 := Tryd.isAgg24
  z53 := Tryd.sizeOf24
  v53 := Tryd.zeroValue24
  t55 := Tryd.underlying157
  a55 := Tryd.isAgg157
  z55 := Tryd.sizeOf157
  v55 := Tryd.zeroValue157
  t66 := Tryd.underlying163
  a66 := Tryd.isAgg163
  z66 := Tryd.sizeOf163
  v66 := Tryd.zeroValue163
  t70 := Tryd.underlying167
  a70 := Tryd.isAgg167
  z70 := Tryd.sizeOf167
  v70 := Tryd.zeroValue167
  t76 := Tryd.underlying172
  a76 := Tryd.isAgg172
  z76 := Tryd.sizeOf172
  v76 := Tryd.zeroValue172
  t77 := Tryd.underlying173
  a77 := Tryd.isAgg173
  z77 := Tryd.sizeOf173
  v77 := Tryd.zeroValue173 }
end Go.Proofs
