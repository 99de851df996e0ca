/-
  DERIVED: THE SHELF's CONTRACTS AT THIS DUMP, IN PLAIN WORDS (tools/lay-plain.mjs out of 'YtelcielfhgijpaaDoorStShelfA.lean', which tools/lay-shelf.mjs wrote): THE SAME DECLARATIONS UNDER THE SAME NAMES: 'import', 'namespace', 'open', 'def', 'theorem' AND NOTHING ELSE: no command of the shelf's: FOR A HAND-IN. Each laying: the table of numbers ('.._ren') and one theorem, a field a fact of the dump's own or the kernel's comparison; each contract: ONE APPLICATION.
-/
import Derived.Shelf.SlGeneric
import Derived.Shelf.SlIterI.Stops
import Derived.Shelf.SlSortCmp.NoneTotal
import Derived.Ground.GgzProg
import Derived.Ground.SlsfProg
import Derived.Test.YtelcielfhgijpaaDoorProg
namespace Go.Proofs
open Go.Shelf
def Tryd.sortF_ren : Go.Shelf.Ren := ⟨fun | 6 => 22 | 15 => 32 | 14 => 31 | 28 => 43 | 29 => 44 | 20 => 35 | 21 => 36 | 22 => 37 | 23 => 38 | 24 => 39 | 25 => 40 | 26 => 41 | 27 => 42 | 46 => 45 | 47 => 46 | 48 => 47 | 49 => 48 | 50 => 49 | 57 => 50 | n => n, fun | 22 => 31 | 24 => 3 | 25 => 74 | 3 => 3 | 39 => 82 | 0 => 0 | 53 => 95 | 55 => 23 | 4 => 4 | 46 => 88 | 45 => 87 | 50 => 92 | 5 => 5 | 9 => 9 | 66 => 96 | 70 => 100 | 76 => 102 | 77 => 103 | n => n, fun | n => n⟩
theorem Tryd.sortF : Go.Proofs.SlLaysF.n6 Tryd.prog Tryd.sortF_ren := {
  mixed := by kernel_rfl
  f6 := ⟨Tryd.f22.name, by decide, Tryd.func22.trans (congrArg some (by kernel_rfl))⟩
  f14 := ⟨Tryd.f31.name, by decide, Tryd.func31.trans (congrArg some (by kernel_rfl))⟩
  f15 := Tryd.func32.trans (congrArg some (by kernel_rfl))
  f20 := ⟨Tryd.f35.name, by decide, Tryd.func35.trans (congrArg some (by kernel_rfl))⟩
  f21 := ⟨Tryd.f36.name, by decide, Tryd.func36.trans (congrArg some (by kernel_rfl))⟩
  f22 := ⟨Tryd.f37.name, by decide, Tryd.func37.trans (congrArg some (by kernel_rfl))⟩
  f23 := ⟨Tryd.f38.name, by decide, Tryd.func38.trans (congrArg some (by kernel_rfl))⟩
  f24 := ⟨Tryd.f39.name, by decide, Tryd.func39.trans (congrArg some (by kernel_rfl))⟩
  f25 := ⟨Tryd.f40.name, by decide, Tryd.func40.trans (congrArg some (by kernel_rfl))⟩
  f26 := ⟨Tryd.f41.name, by decide, Tryd.func41.trans (congrArg some (by kernel_rfl))⟩
  f27 := ⟨Tryd.f42.name, by decide, Tryd.func42.trans (congrArg some (by kernel_rfl))⟩
  f28 := Tryd.func43.trans (congrArg some (by kernel_rfl))
  f29 := Tryd.func44.trans (congrArg some (by kernel_rfl))
  f46 := ⟨Tryd.f45.name, by decide, Tryd.func45.trans (congrArg some (by kernel_rfl))⟩
  f47 := Tryd.func46.trans (congrArg some (by kernel_rfl))
  f48 := Tryd.func47.trans (congrArg some (by kernel_rfl))
  f49 := ⟨Tryd.f48.name, by decide, Tryd.func48.trans (congrArg some (by kernel_rfl))⟩
  f50 := ⟨Tryd.f49.name, by decide, Tryd.func49.trans (congrArg some (by kernel_rfl))⟩
  f57 := ⟨Tryd.f50.name, by decide, Tryd.func50.trans (congrArg some (by kernel_rfl))⟩
  t0 := Tryd.underlying0
  a0 := Tryd.isAgg0
  z0 := Tryd.sizeOf0
  v0 := Tryd.zeroValue0
  t3 := Tryd.underlying3
  a3 := Tryd.isAgg3
  z3 := Tryd.sizeOf3
  v3 := Tryd.zeroValue3
  t4 := Tryd.underlying4
  a4 := Tryd.isAgg4
  z4 := Tryd.sizeOf4
  v4 := Tryd.zeroValue4
  t5 := Tryd.underlying5
  a5 := Tryd.isAgg5
  z5 := Tryd.sizeOf5
  v5 := Tryd.zeroValue5
  t9 := Tryd.underlying9
  a9 := Tryd.isAgg9
  z9 := Tryd.sizeOf9
  v9 := Tryd.zeroValue9
  t22 := Tryd.underlying31
  a22 := Tryd.isAgg31
  z22 := Tryd.sizeOf31
  v22 := Tryd.zeroValue31
  a24 := Tryd.isAgg3
  z24 := Tryd.sizeOf3
  t25 := Tryd.underlying74
  a25 := Tryd.isAgg74
  z25 := Tryd.sizeOf74
  v25 := Tryd.zeroValue74
  t39 := Tryd.underlying82
  a39 := Tryd.isAgg82
  z39 := Tryd.sizeOf82
  v39 := Tryd.zeroValue82
  t45 := Tryd.underlying87
  a45 := Tryd.isAgg87
  z45 := Tryd.sizeOf87
  v45 := Tryd.zeroValue87
  t46 := Tryd.underlying88
  a46 := Tryd.isAgg88
  z46 := Tryd.sizeOf88
  v46 := Tryd.zeroValue88
  t50 := Tryd.underlying92
  a50 := Tryd.isAgg92
  z50 := Tryd.sizeOf92
  v50 := Tryd.zeroValue92
  t53 := Tryd.underlying95
  a53 := Tryd.isAgg95
  z53 := Tryd.sizeOf95
  v53 := Tryd.zeroValue95
  t55 := Tryd.underlying23
  a55 := Tryd.isAgg23
  z55 := Tryd.sizeOf23
  v55 := Tryd.zeroValue23
  t66 := Tryd.underlying96
  a66 := Tryd.isAgg96
  z66 := Tryd.sizeOf96
  v66 := Tryd.zeroValue96
  t70 := Tryd.underlying100
  a70 := Tryd.isAgg100
  z70 := Tryd.sizeOf100
  v70 := Tryd.zeroValue100
  t76 := Tryd.underlying102
  a76 := Tryd.isAgg102
  z76 := Tryd.sizeOf102
  v76 := Tryd.zeroValue102
  t77 := Tryd.underlying103
  a77 := Tryd.isAgg103
  z77 := Tryd.sizeOf103
  v77 := Tryd.zeroValue103 }
def Tryd.keysU_ren : Go.Shelf.Ren := ⟨fun | 7 => 21 | 10 => 30 | n => n, fun | 23 => 62 | 26 => 3 | 3 => 23 | 28 => 69 | 0 => 0 | 27 => 68 | 33 => 59 | 4 => 4 | n => n, fun | n => n⟩
theorem Tryd.keysU : Go.Proofs.SlLaysZI.n7 Tryd.prog Tryd.keysU_ren := {
  mixed := by kernel_rfl
  f7 := ⟨Tryd.f21.name, by decide, Tryd.func21.trans (congrArg some (by kernel_rfl))⟩
  f10 := ⟨Tryd.f30.name, by decide, Tryd.func30.trans (congrArg some (by kernel_rfl))⟩
  t0 := Tryd.underlying0
  a0 := Tryd.isAgg0
  z0 := Tryd.sizeOf0
  v0 := Tryd.zeroValue0
  t4 := Tryd.underlying4
  a4 := Tryd.isAgg4
  z4 := Tryd.sizeOf4
  v4 := Tryd.zeroValue4
  t23 := Tryd.underlying62
  a23 := Tryd.isAgg62
  z23 := Tryd.sizeOf62
  v23 := Tryd.zeroValue62
  t26 := Tryd.underlying3
  a26 := Tryd.isAgg3
  z26 := Tryd.sizeOf3
  v26 := Tryd.zeroValue3
  t27 := Tryd.underlying68
  a27 := Tryd.isAgg68
  z27 := Tryd.sizeOf68
  v27 := Tryd.zeroValue68
  t28 := Tryd.underlying69
  a28 := Tryd.isAgg69
  z28 := Tryd.sizeOf69
  v28 := Tryd.zeroValue69
  t33 := Tryd.underlying59
  a33 := Tryd.isAgg59
  z33 := Tryd.sizeOf59
  v33 := Tryd.zeroValue59 }
end Go.Proofs
