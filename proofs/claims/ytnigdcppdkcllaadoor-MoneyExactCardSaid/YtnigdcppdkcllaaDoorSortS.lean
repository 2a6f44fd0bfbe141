/-
  DERIVED: THE SHELF's CONTRACTS AT THIS DUMP, IN PLAIN WORDS (tools/lay-plain.mjs out of 'TrydShelf.lean', which tools/lay-shelf.mjs wrote): THE SAME DECLARATIONS UNDER THE SAME NAMES: 'import', 'namespace', 'open', 'def', 'theorem' AND NOTHING ELSE: no command of the shelf's: FOR A HAND-IN. Each laying: the table of numbers ('.._ren') and one theorem, a field a fact of the dump's own or the kernel's comparison; each contract: ONE APPLICATION.
-/
import Derived.Ground.SlsfProg
import Derived.Shelf.SlSortCmp.WholeK
import Derived.Test.YtnigdcppdkcllaaDoorProg
namespace Go.Proofs
open Go.Shelf
def Tryd.laysSort_ren : Go.Shelf.Ren := ⟨fun | 6 => 25 | 15 => 35 | 14 => 34 | 28 => 59 | 29 => 60 | 20 => 51 | 21 => 52 | 22 => 53 | 23 => 54 | 24 => 55 | 25 => 56 | 26 => 57 | 27 => 58 | 46 => 77 | 47 => 78 | 48 => 79 | 49 => 80 | 50 => 81 | 57 => 95 | n => n, fun | 22 => 40 | 24 => 45 | 25 => 47 | 3 => 3 | 39 => 60 | 0 => 0 | 53 => 88 | 55 => 74 | 4 => 4 | 46 => 81 | 45 => 80 | 50 => 85 | 5 => 5 | 9 => 9 | 66 => 105 | 70 => 109 | 76 => 129 | 77 => 130 | n => n, fun | n => n⟩
theorem Tryd.laysSort : Go.Proofs.SlLaysF0.n6 Tryd.prog Tryd.laysSort_ren := {
  mixed := by kernel_rfl
  f6 := ⟨Tryd.f25.name, by decide, Tryd.func25.trans (congrArg some (by kernel_rfl))⟩
  f14 := ⟨Tryd.f34.name, by decide, Tryd.func34.trans (congrArg some (by kernel_rfl))⟩
  f15 := Tryd.func35.trans (congrArg some (by kernel_rfl))
  f20 := ⟨Tryd.f51.name, by decide, Tryd.func51.trans (congrArg some (by kernel_rfl))⟩
  f21 := ⟨Tryd.f52.name, by decide, Tryd.func52.trans (congrArg some (by kernel_rfl))⟩
  f22 := ⟨Tryd.f53.name, by decide, Tryd.func53.trans (congrArg some (by kernel_rfl))⟩
  f23 := ⟨Tryd.f54.name, by decide, Tryd.func54.trans (congrArg some (by kernel_rfl))⟩
  f24 := ⟨Tryd.f55.name, by decide, Tryd.func55.trans (congrArg some (by kernel_rfl))⟩
  f25 := ⟨Tryd.f56.name, by decide, Tryd.func56.trans (congrArg some (by kernel_rfl))⟩
  f26 := ⟨Tryd.f57.name, by decide, Tryd.func57.trans (congrArg some (by kernel_rfl))⟩
  f27 := ⟨Tryd.f58.name, by decide, Tryd.func58.trans (congrArg some (by kernel_rfl))⟩
  f28 := Tryd.func59.trans (congrArg some (by kernel_rfl))
  f29 := Tryd.func60.trans (congrArg some (by kernel_rfl))
  f46 := ⟨Tryd.f77.name, by decide, Tryd.func77.trans (congrArg some (by kernel_rfl))⟩
  f47 := Tryd.func78.trans (congrArg some (by kernel_rfl))
  f48 := Tryd.func79.trans (congrArg some (by kernel_rfl))
  f49 := ⟨Tryd.f80.name, by decide, Tryd.func80.trans (congrArg some (by kernel_rfl))⟩
  f50 := ⟨Tryd.f81.name, by decide, Tryd.func81.trans (congrArg some (by kernel_rfl))⟩
  f57 := ⟨Tryd.f95.name, by decide, Tryd.func95.trans (congrArg some (by kernel_rfl))⟩
  t0 := Tryd.underlying0
  a0 := Tryd.isAgg0
  z0 := Tryd.sizeOf0
  v0 := Tryd.zeroValue0
  t3 := Tryd.underlying3
  a3 := Tryd.isAgg3
  z3 := Tryd.sizeOf3
  v3 := Tryd.zeroValue3
  t4 := Tryd.underlying4
  a4 := Tryd.isAgg4
  z4 := Tryd.sizeOf4
  v4 := Tryd.zeroValue4
  t5 := Tryd.underlying5
  a5 := Tryd.isAgg5
  z5 := Tryd.sizeOf5
  v5 := Tryd.zeroValue5
  t9 := Tryd.underlying9
  a9 := Tryd.isAgg9
  z9 := Tryd.sizeOf9
  v9 := Tryd.zeroValue9
  t22 := Tryd.underlying40
  a22 := Tryd.isAgg40
  z22 := Tryd.sizeOf40
  v22 := Tryd.zeroValue40
  t25 := Tryd.underlying47
  a25 := Tryd.isAgg47
  z25 := Tryd.sizeOf47
  v25 := Tryd.zeroValue47
  t39 := Tryd.underlying60
  a39 := Tryd.isAgg60
  z39 := Tryd.sizeOf60
  v39 := Tryd.zeroValue60
  t45 := Tryd.underlying80
  a45 := Tryd.isAgg80
  z45 := Tryd.sizeOf80
  v45 := Tryd.zeroValue80
  t46 := Tryd.underlying81
  a46 := Tryd.isAgg81
  z46 := Tryd.sizeOf81
  v46 := Tryd.zeroValue81
  t50 := Tryd.underlying85
  a50 := Tryd.isAgg85
  z50 := Tryd.sizeOf85
  v50 := Tryd.zeroValue85
  t53 := Tryd.underlying88
  a53 := Tryd.isAgg88
  z53 := Tryd.sizeOf88
  v53 := Tryd.zeroValue88
  t55 := Tryd.underlying74
  a55 := Tryd.isAgg74
  z55 := Tryd.sizeOf74
  v55 := Tryd.zeroValue74
  t66 := Tryd.underlying105
  a66 := Tryd.isAgg105
  z66 := Tryd.sizeOf105
  v66 := Tryd.zeroValue105
  t70 := Tryd.underlying109
  a70 := Tryd.isAgg109
  z70 := Tryd.sizeOf109
  v70 := Tryd.zeroValue109
  t76 := Tryd.underlying129
  a76 := Tryd.isAgg129
  z76 := Tryd.sizeOf129
  v76 := Tryd.zeroValue129
  t77 := Tryd.underlying130
  a77 := Tryd.isAgg130
  z77 := Tryd.sizeOf130
  v77 := Tryd.zeroValue130 }
end Go.Proofs
