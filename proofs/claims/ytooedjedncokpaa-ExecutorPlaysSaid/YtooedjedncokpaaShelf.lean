/-
  DERIVED: THE SHELF's CONTRACTS AT THIS DUMP, IN PLAIN WORDS (tools/lay-plain.mjs out of 'YtooedjedncokpaaShelfA.lean', which tools/lay-shelf.mjs wrote): THE SAME DECLARATIONS UNDER THE SAME NAMES: 'import', 'namespace', 'open', 'def', 'theorem' AND NOTHING ELSE: no command of the shelf's: FOR A HAND-IN. Each laying: the table of numbers ('.._ren') and one theorem, a field a fact of the dump's own or the kernel's comparison; each contract: ONE APPLICATION.
-/
import Derived.Shelf.SlGeneric
import Derived.Shelf.SlIterI.Nil
import Derived.Shelf.SortM.Plain
import Derived.Shelf.SortM.SortNone
import Derived.Ground.GgzProg
import Derived.Ground.SlgmProg
import Derived.Test.YtooedjedncokpaaProg
namespace Go.Proofs
open Go.Shelf
def Try.keysA_ren : Go.Shelf.Ren := ⟨fun | 7 => 31 | 10 => 46 | n => n, fun | 23 => 71 | 26 => 3 | 3 => 9 | 28 => 81 | 0 => 0 | 27 => 80 | 33 => 98 | 4 => 4 | n => n, fun | n => n⟩
theorem Try.keysA : Go.Proofs.SlLaysZI.n7 Try.prog Try.keysA_ren := {
  mixed := by kernel_rfl
  f7 := ⟨Try.f31.name, by decide, Try.func31.trans (congrArg some (by kernel_rfl))⟩
  f10 := ⟨Try.f46.name, by decide, Try.func46.trans (congrArg some (by kernel_rfl))⟩
  t0 := Try.underlying0
  a0 := Try.isAgg0
  z0 := Try.sizeOf0
  v0 := Try.zeroValue0
  t4 := Try.underlying4
  a4 := Try.isAgg4
  z4 := Try.sizeOf4
  v4 := Try.zeroValue4
  t23 := Try.underlying71
  a23 := Try.isAgg71
  z23 := Try.sizeOf71
  v23 := Try.zeroValue71
  t26 := Try.underlying3
  a26 := Try.isAgg3
  z26 := Try.sizeOf3
  v26 := Try.zeroValue3
  t27 := Try.underlying80
  a27 := Try.isAgg80
  z27 := Try.sizeOf80
  v27 := Try.zeroValue80
  t28 := Try.underlying81
  a28 := Try.isAgg81
  z28 := Try.sizeOf81
  v28 := Try.zeroValue81
  t33 := Try.underlying98
  a33 := Try.isAgg98
  z33 := Try.sizeOf98
  v33 := Try.zeroValue98 }
def Try.sortedA_ren : Go.Shelf.Ren := ⟨fun | 6 => 30 | 8 => 44 | 9 => 45 | 11 => 56 | 13 => 58 | 12 => 57 | 23 => 68 | 24 => 69 | 14 => 59 | 15 => 60 | 16 => 61 | 17 => 62 | 18 => 63 | 19 => 64 | 20 => 65 | 21 => 66 | 22 => 67 | 25 => 70 | 26 => 71 | 27 => 72 | 28 => 73 | 29 => 74 | 30 => 75 | 31 => 76 | n => n, fun | 26 => 3 | 28 => 81 | 24 => 46 | 0 => 0 | 3 => 3 | 37 => 104 | 48 => 39 | 50 => 22 | 4 => 4 | 40 => 110 | 39 => 109 | 45 => 115 | 5 => 5 | 9 => 9 | 51 => 119 | 55 => 123 | 57 => 125 | 58 => 126 | 33 => 98 | n => n, fun | n => n⟩
theorem Try.sortedA : Go.Proofs.SlLaysZI.n6 Try.prog Try.sortedA_ren := {
  mixed := by kernel_rfl
  f6 := ⟨Try.f30.name, by decide, Try.func30.trans (congrArg some (by kernel_rfl))⟩
  f8 := ⟨Try.f44.name, by decide, Try.func44.trans (congrArg some (by kernel_rfl))⟩
  f11 := ⟨Try.f56.name, by decide, Try.func56.trans (congrArg some (by kernel_rfl))⟩
  t0 := Try.underlying0
  a0 := Try.isAgg0
  z0 := Try.sizeOf0
  v0 := Try.zeroValue0
  t24 := Try.underlying46
  a24 := Try.isAgg46
  z24 := Try.sizeOf46
  v24 := Try.zeroValue46
  t26 := Try.underlying3
  a26 := Try.isAgg3
  z26 := Try.sizeOf3
  v26 := Try.zeroValue3
  t28 := Try.underlying81
  a28 := Try.isAgg81
  z28 := Try.sizeOf81
  v28 := Try.zeroValue81
  i26 := by kernel_rfl }
def Try.sortA_ren : Go.Shelf.Ren := ⟨fun | 5 => 45 | 8 => 58 | 7 => 57 | 19 => 68 | 20 => 69 | 10 => 59 | 11 => 60 | 12 => 61 | 13 => 62 | 14 => 63 | 15 => 64 | 16 => 65 | 17 => 66 | 18 => 67 | 30 => 70 | 31 => 71 | 32 => 72 | 33 => 73 | 34 => 74 | 35 => 75 | 40 => 76 | n => n, fun | 23 => 46 | 25 => 3 | 3 => 3 | 32 => 104 | 22 => 46 | 0 => 0 | 44 => 39 | 46 => 22 | 4 => 4 | 36 => 110 | 35 => 109 | 41 => 115 | 5 => 5 | 9 => 9 | 53 => 119 | 57 => 123 | 63 => 125 | 64 => 126 | n => n, fun | n => n⟩
theorem Try.sortA : Go.Proofs.SlLaysM.n5 Try.prog Try.sortA_ren := {
  mixed := by kernel_rfl
  f5 := ⟨Try.f45.name, by decide, Try.func45.trans (congrArg some (by kernel_rfl))⟩
  f7 := ⟨Try.f57.name, by decide, Try.func57.trans (congrArg some (by kernel_rfl))⟩
  f8 := Try.func58.trans (congrArg some (by kernel_rfl))
  f10 := ⟨Try.f59.name, by decide, Try.func59.trans (congrArg some (by kernel_rfl))⟩
  f11 := ⟨Try.f60.name, by decide, Try.func60.trans (congrArg some (by kernel_rfl))⟩
  f12 := ⟨Try.f61.name, by decide, Try.func61.trans (congrArg some (by kernel_rfl))⟩
  f13 := ⟨Try.f62.name, by decide, Try.func62.trans (congrArg some (by kernel_rfl))⟩
  f14 := ⟨Try.f63.name, by decide, Try.func63.trans (congrArg some (by kernel_rfl))⟩
  f15 := ⟨Try.f64.name, by decide, Try.func64.trans (congrArg some (by kernel_rfl))⟩
  f16 := ⟨Try.f65.name, by decide, Try.func65.trans (congrArg some (by kernel_rfl))⟩
  f17 := ⟨Try.f66.name, by decide, Try.func66.trans (congrArg some (by kernel_rfl))⟩
  f18 := ⟨Try.f67.name, by decide, Try.func67.trans (congrArg some (by kernel_rfl))⟩
  f19 := Try.func68.trans (congrArg some (by kernel_rfl))
  f20 := Try.func69.trans (congrArg some (by kernel_rfl))
  f30 := ⟨Try.f70.name, by decide, Try.func70.trans (congrArg some (by kernel_rfl))⟩
  f31 := Try.func71.trans (congrArg some (by kernel_rfl))
  f32 := Try.func72.trans (congrArg some (by kernel_rfl))
  f33 := ⟨Try.f73.name, by decide, Try.func73.trans (congrArg some (by kernel_rfl))⟩
  f34 := ⟨Try.f74.name, by decide, Try.func74.trans (congrArg some (by kernel_rfl))⟩
  f35 := ⟨Try.f75.name, by decide, Try.func75.trans (congrArg some (by kernel_rfl))⟩
  f40 := ⟨Try.f76.name, by decide, Try.func76.trans (congrArg some (by kernel_rfl))⟩
  t0 := Try.underlying0
  a0 := Try.isAgg0
  z0 := Try.sizeOf0
  v0 := Try.zeroValue0
  t3 := Try.underlying3
  a3 := Try.isAgg3
  z3 := Try.sizeOf3
  v3 := Try.zeroValue3
  t4 := Try.underlying4
  a4 := Try.isAgg4
  z4 := Try.sizeOf4
  v4 := Try.zeroValue4
  t5 := Try.underlying5
  a5 := Try.isAgg5
  z5 := Try.sizeOf5
  v5 := Try.zeroValue5
  t9 := Try.underlying9
  a9 := Try.isAgg9
  z9 := Try.sizeOf9
  v9 := Try.zeroValue9
  t22 := Try.underlying46
  a22 := Try.isAgg46
  z22 := Try.sizeOf46
  v22 := Try.zeroValue46
  t23 := Try.underlying46
  a23 := Try.isAgg46
  z23 := Try.sizeOf46
  v23 := Try.zeroValue46
  t25 := Try.underlying3
  a25 := Try.isAgg3
  z25 := Try.sizeOf3
  v25 := Try.zeroValue3
  t32 := Try.underlying104
  a32 := Try.isAgg104
  z32 := Try.sizeOf104
  v32 := Try.zeroValue104
  t35 := Try.underlying109
  a35 := Try.isAgg109
  z35 := Try.sizeOf109
  v35 := Try.zeroValue109
  t36 := Try.underlying110
  a36 := Try.isAgg110
  z36 := Try.sizeOf110
  v36 := Try.zeroValue110
  t41 := Try.underlying115
  a41 := Try.isAgg115
  z41 := Try.sizeOf115
  v41 := Try.zeroValue115
  t44 := Try.underlying39
  a44 := Try.isAgg39
  z44 := Try.sizeOf39
  v44 := Try.zeroValue39
  t46 := Try.underlying22
  a46 := Try.isAgg22
  z46 := Try.sizeOf22
  v46 := Try.zeroValue22
  t53 := Try.underlying119
  a53 := Try.isAgg119
  z53 := Try.sizeOf119
  v53 := Try.zeroValue119
  t57 := Try.underlying123
  a57 := Try.isAgg123
  z57 := Try.sizeOf123
  v57 := Try.zeroValue123
  t63 := Try.underlying125
  a63 := Try.isAgg125
  z63 := Try.sizeOf125
  v63 := Try.zeroValue125
  t64 := Try.underlying126
  a64 := Try.isAgg126
  z64 := Try.sizeOf126
  v64 := Try.zeroValue126 }
end Go.Proofs
