/-
  DERIVED: THE SHELF's CONTRACTS AT THIS DUMP, IN PLAIN WORDS (tools/lay-plain.mjs out of 'TryzShelfI.lean', which tools/lay-shelf.mjs wrote): THE SAME DECLARATIONS UNDER THE SAME NAMES: 'import', 'namespace', 'open', 'def', 'theorem' AND NOTHING ELSE: no command of the shelf's: FOR A HAND-IN. Each laying: the table of numbers ('.._ren') and one theorem, a field a fact of the dump's own or the kernel's comparison; each contract: ONE APPLICATION.
-/
import Derived.Shelf.SlGeneric
import Derived.Shelf.SlIter.Nil
import Derived.Shelf.SlIter.Sorted
import Derived.Shelf.SortM.Plain
import Derived.Shelf.SortM.SortNone
import Derived.Ground.GgzProg
import Derived.Ground.SlgmProg
import Derived.Test.YtoofcnehoffllaaGreatProg
namespace Go.Proofs
open Go.Shelf
def Tryz.keysA_ren : Go.Shelf.Ren := ⟨fun | 7 => 40 | 10 => 66 | n => n, fun | 23 => 69 | 26 => 9 | 3 => 68 | 28 => 92 | 0 => 0 | 27 => 91 | 33 => 125 | 4 => 4 | n => n, fun | n => n⟩
theorem Tryz.keysA : Go.Proofs.SlLaysZ.n7 Tryz.prog Tryz.keysA_ren := {
  mixed := by kernel_rfl
  f7 := ⟨Tryz.f40.name, by decide, Tryz.func40.trans (congrArg some (by kernel_rfl))⟩
  f10 := ⟨Tryz.f66.name, by decide, Tryz.func66.trans (congrArg some (by kernel_rfl))⟩
  t0 := Tryz.underlying0
  a0 := Tryz.isAgg0
  z0 := Tryz.sizeOf0
  v0 := Tryz.zeroValue0
  t4 := Tryz.underlying4
  a4 := Tryz.isAgg4
  z4 := Tryz.sizeOf4
  v4 := Tryz.zeroValue4
  t23 := Tryz.underlying69
  a23 := Tryz.isAgg69
  z23 := Tryz.sizeOf69
  v23 := Tryz.zeroValue69
  t26 := Tryz.underlying9
  a26 := Tryz.isAgg9
  z26 := Tryz.sizeOf9
  v26 := Tryz.zeroValue9
  t27 := Tryz.underlying91
  a27 := Tryz.isAgg91
  z27 := Tryz.sizeOf91
  v27 := Tryz.zeroValue91
  t28 := Tryz.underlying92
  a28 := Tryz.isAgg92
  z28 := Tryz.sizeOf92
  v28 := Tryz.zeroValue92
  t33 := Tryz.underlying125
  a33 := Tryz.isAgg125
  z33 := Tryz.sizeOf125
  v33 := Tryz.zeroValue125 }
def Tryz.sortedA_ren : Go.Shelf.Ren := ⟨fun | 6 => 39 | 8 => 65 | 9 => 49 | 11 => 80 | 13 => 78 | 12 => 77 | 23 => 95 | 24 => 96 | 14 => 86 | 15 => 87 | 16 => 88 | 17 => 89 | 18 => 90 | 19 => 91 | 20 => 92 | 21 => 93 | 22 => 94 | 25 => 98 | 26 => 99 | 27 => 100 | 28 => 101 | 29 => 102 | 30 => 103 | 31 => 105 | n => n, fun | 26 => 9 | 28 => 92 | 24 => 54 | 0 => 0 | 3 => 3 | 37 => 136 | 48 => 151 | 50 => 153 | 4 => 4 | 40 => 144 | 39 => 143 | 45 => 148 | 5 => 5 | 9 => 9 | 51 => 155 | 55 => 159 | 57 => 162 | 58 => 87 | 33 => 125 | n => n, fun | n => n⟩
theorem Tryz.sortedA : Go.Proofs.SlLaysZ.n6 Tryz.prog Tryz.sortedA_ren := {
  mixed := by kernel_rfl
  f6 := ⟨Tryz.f39.name, by decide, Tryz.func39.trans (congrArg some (by kernel_rfl))⟩
  f8 := ⟨Tryz.f65.name, by decide, Tryz.func65.trans (congrArg some (by kernel_rfl))⟩
  f11 := ⟨Tryz.f80.name, by decide, Tryz.func80.trans (congrArg some (by kernel_rfl))⟩
  t0 := Tryz.underlying0
  a0 := Tryz.isAgg0
  z0 := Tryz.sizeOf0
  v0 := Tryz.zeroValue0
  t24 := Tryz.underlying54
  a24 := Tryz.isAgg54
  z24 := Tryz.sizeOf54
  v24 := Tryz.zeroValue54
  t26 := Tryz.underlying9
  a26 := Tryz.isAgg9
  z26 := Tryz.sizeOf9
  v26 := Tryz.zeroValue9
  t28 := Tryz.underlying92
  a28 := Tryz.isAgg92
  z28 := Tryz.sizeOf92
  v28 := Tryz.zeroValue92
  i26 := by kernel_rfl }
def Tryz.sortS_ren : Go.Shelf.Ren := ⟨fun | 6 => 49 | 8 => 78 | 9 => 77 | 19 => 95 | 20 => 96 | 21 => 86 | 22 => 87 | 23 => 88 | 24 => 89 | 25 => 90 | 26 => 91 | 27 => 92 | 28 => 93 | 29 => 94 | 36 => 98 | 31 => 99 | 32 => 100 | 37 => 101 | 38 => 102 | 39 => 103 | 41 => 105 | n => n, fun | 27 => 54 | 29 => 9 | 3 => 3 | 32 => 136 | 26 => 54 | 0 => 0 | 44 => 151 | 46 => 153 | 4 => 4 | 36 => 144 | 35 => 143 | 41 => 148 | 5 => 5 | 9 => 9 | 53 => 155 | 57 => 159 | 63 => 162 | 64 => 87 | n => n, fun | n => n⟩
theorem Tryz.sortS : Go.Proofs.SlLaysM.n6 Tryz.prog Tryz.sortS_ren := {
  mixed := by kernel_rfl
  f6 := ⟨Tryz.f49.name, by decide, Tryz.func49.trans (congrArg some (by kernel_rfl))⟩
  f8 := Tryz.func78.trans (congrArg some (by kernel_rfl))
  f9 := ⟨Tryz.f77.name, by decide, Tryz.func77.trans (congrArg some (by kernel_rfl))⟩
  f19 := Tryz.func95.trans (congrArg some (by kernel_rfl))
  f20 := Tryz.func96.trans (congrArg some (by kernel_rfl))
  f21 := ⟨Tryz.f86.name, by decide, Tryz.func86.trans (congrArg some (by kernel_rfl))⟩
  f22 := ⟨Tryz.f87.name, by decide, Tryz.func87.trans (congrArg some (by kernel_rfl))⟩
  f23 := ⟨Tryz.f88.name, by decide, Tryz.func88.trans (congrArg some (by kernel_rfl))⟩
  f24 := ⟨Tryz.f89.name, by decide, Tryz.func89.trans (congrArg some (by kernel_rfl))⟩
  f25 := ⟨Tryz.f90.name, by decide, Tryz.func90.trans (congrArg some (by kernel_rfl))⟩
  f26 := ⟨Tryz.f91.name, by decide, Tryz.func91.trans (congrArg some (by kernel_rfl))⟩
  f27 := ⟨Tryz.f92.name, by decide, Tryz.func92.trans (congrArg some (by kernel_rfl))⟩
  f28 := ⟨Tryz.f93.name, by decide, Tryz.func93.trans (congrArg some (by kernel_rfl))⟩
  f29 := ⟨Tryz.f94.name, by decide, Tryz.func94.trans (congrArg some (by kernel_rfl))⟩
  f31 := Tryz.func99.trans (congrArg some (by kernel_rfl))
  f32 := Tryz.func100.trans (congrArg some (by kernel_rfl))
  f36 := ⟨Tryz.f98.name, by decide, Tryz.func98.trans (congrArg some (by kernel_rfl))⟩
  f37 := ⟨Tryz.f101.name, by decide, Tryz.func101.trans (congrArg some (by kernel_rfl))⟩
  f38 := ⟨Tryz.f102.name, by decide, Tryz.func102.trans (congrArg some (by kernel_rfl))⟩
  f39 := ⟨Tryz.f103.name, by decide, Tryz.func103.trans (congrArg some (by kernel_rfl))⟩
  f41 := ⟨Tryz.f105.name, by decide, Tryz.func105.trans (congrArg some (by kernel_rfl))⟩
  t0 := Tryz.underlying0
  a0 := Tryz.isAgg0
  z0 := Tryz.sizeOf0
  v0 := Tryz.zeroValue0
  t3 := Tryz.underlying3
  a3 := Tryz.isAgg3
  z3 := Tryz.sizeOf3
  v3 := Tryz.zeroValue3
  t4 := Tryz.underlying4
  a4 := Tryz.isAgg4
  z4 := Tryz.sizeOf4
  v4 := Tryz.zeroValue4
  t5 := Tryz.underlying5
  a5 := Tryz.isAgg5
  z5 := Tryz.sizeOf5
  v5 := Tryz.zeroValue5
  t9 := Tryz.underlying9
  a9 := Tryz.isAgg9
  z9 := Tryz.sizeOf9
  v9 := Tryz.zeroValue9
  t26 := Tryz.underlying54
  a26 := Tryz.isAgg54
  z26 := Tryz.sizeOf54
  v26 := Tryz.zeroValue54
  t27 := Tryz.underlying54
  a27 := Tryz.isAgg54
  z27 := Tryz.sizeOf54
  v27 := Tryz.zeroValue54
  t29 := Tryz.underlying9
  a29 := Tryz.isAgg9
  z29 := Tryz.sizeOf9
  v29 := Tryz.zeroValue9
  t32 := Tryz.underlying136
  a32 := Tryz.isAgg136
  z32 := Tryz.sizeOf136
  v32 := Tryz.zeroValue136
  t35 := Tryz.underlying143
  a35 := Tryz.isAgg143
  z35 := Tryz.sizeOf143
  v35 := Tryz.zeroValue143
  t36 := Tryz.underlying144
  a36 := Tryz.isAgg144
  z36 := Tryz.sizeOf144
  v36 := Tryz.zeroValue144
  t41 := Tryz.underlying148
  a41 := Tryz.isAgg148
  z41 := Tryz.sizeOf148
  v41 := Tryz.zeroValue148
  t44 := Tryz.underlying151
  a44 := Tryz.isAgg151
  z44 := Tryz.sizeOf151
  v44 := Tryz.zeroValue151
  t46 := Tryz.underlying153
  a46 := Tryz.isAgg153
  z46 := Tryz.sizeOf153
  v46 := Tryz.zeroValue153
  t53 := Tryz.underlying155
  a53 := Tryz.isAgg155
  z53 := Tryz.sizeOf155
  v53 := Tryz.zeroValue155
  t57 := Tryz.underlying159
  a57 := Tryz.isAgg159
  z57 := Tryz.sizeOf159
  v57 := Tryz.zeroValue159
  t63 := Tryz.underlying162
  a63 := Tryz.isAgg162
  z63 := Tryz.sizeOf162
  v63 := Tryz.zeroValue162
  t64 := Tryz.underlying87
  a64 := Tryz.isAgg87
  z64 := Tryz.sizeOf87
  v64 := Tryz.zeroValue87 }
end Go.Proofs
