/-
  DERIVED: THE SHELF's CONTRACTS AT THIS DUMP, IN PLAIN WORDS (tools/lay-plain.mjs out of 'YtpahhcmiimllaaaGreatDoorLayT.lean', which tools/lay-shelf.mjs wrote): THE SAME DECLARATIONS UNDER THE SAME NAMES: 'import', 'namespace', 'open', 'def', 'theorem' AND NOTHING ELSE: no command of the shelf's: FOR A HAND-IN. Each laying: the table of numbers ('.._ren') and one theorem, a field a fact of the dump's own or the kernel's comparison; each contract: ONE APPLICATION.
-/
import Derived.Shelf.SlicesE.DeleteFunc
import Derived.Shelf.SlSortCmp.NoneTotal
import Derived.Shelf.Spec.SlicesInsertGrow
import Derived.Ground.SlgfProg
import Derived.Ground.SlsfProg
import Derived.Ground.Names2Prog
import Derived.Test.YtpahhcmiimllaaaGreatDoorProg
namespace Go.Proofs
open Go.Shelf
def Tryz.l10d_ren : Go.Shelf.Ren := ⟨fun | 10 => 54 | 6 => 61 | n => n, fun | 22 => 27 | 23 => 3 | 25 => 62 | 3 => 3 | 4 => 4 | 0 => 0 | n => n, fun | n => n⟩
theorem Tryz.l10d : Go.Proofs.SlLaysH.n10 Tryz.prog Tryz.l10d_ren := {
  mixed := by kernel_rfl
  f6 := ⟨Tryz.f61.name, by decide, Tryz.func61.trans (congrArg some (by kernel_rfl))⟩
  f10 := ⟨Tryz.f54.name, by decide, Tryz.func54.trans (congrArg some (by kernel_rfl))⟩
  t0 := Tryz.underlying0
  a0 := Tryz.isAgg0
  z0 := Tryz.sizeOf0
  v0 := Tryz.zeroValue0
  t3 := Tryz.underlying3
  a3 := Tryz.isAgg3
  z3 := Tryz.sizeOf3
  v3 := Tryz.zeroValue3
  t4 := Tryz.underlying4
  a4 := Tryz.isAgg4
  z4 := Tryz.sizeOf4
  v4 := Tryz.zeroValue4
  t22 := Tryz.underlying27
  a22 := Tryz.isAgg27
  z22 := Tryz.sizeOf27
  v22 := Tryz.zeroValue27
  a23 := Tryz.isAgg3
  z23 := Tryz.sizeOf3
  t25 := Tryz.underlying62
  a25 := Tryz.isAgg62
  z25 := Tryz.sizeOf62
  v25 := Tryz.zeroValue62 }
def Tryz.l6s_ren : Go.Shelf.Ren := ⟨fun | 6 => 83 | 15 => 106 | 14 => 105 | 28 => 128 | 29 => 129 | 20 => 120 | 21 => 121 | 22 => 122 | 23 => 123 | 24 => 124 | 25 => 125 | 26 => 126 | 27 => 127 | 46 => 140 | 47 => 141 | 48 => 142 | 49 => 143 | 50 => 144 | 57 => 153 | n => n, fun | 22 => 40 | 24 => 44 | 25 => 146 | 3 => 3 | 39 => 159 | 0 => 0 | 53 => 182 | 55 => 128 | 4 => 4 | 46 => 176 | 45 => 175 | 50 => 117 | 5 => 5 | 9 => 9 | 66 => 190 | 70 => 194 | 76 => 206 | 77 => 172 | n => n, fun | n => n⟩
theorem Tryz.l6s : Go.Proofs.SlLaysF0.n6 Tryz.prog Tryz.l6s_ren := {
  mixed := by kernel_rfl
  f6 := ⟨Tryz.f83.name, by decide, Tryz.func83.trans (congrArg some (by kernel_rfl))⟩
  f14 := ⟨Tryz.f105.name, by decide, Tryz.func105.trans (congrArg some (by kernel_rfl))⟩
  f15 := Tryz.func106.trans (congrArg some (by kernel_rfl))
  f20 := ⟨Tryz.f120.name, by decide, Tryz.func120.trans (congrArg some (by kernel_rfl))⟩
  f21 := ⟨Tryz.f121.name, by decide, Tryz.func121.trans (congrArg some (by kernel_rfl))⟩
  f22 := ⟨Tryz.f122.name, by decide, Tryz.func122.trans (congrArg some (by kernel_rfl))⟩
  f23 := ⟨Tryz.f123.name, by decide, Tryz.func123.trans (congrArg some (by kernel_rfl))⟩
  f24 := ⟨Tryz.f124.name, by decide, Tryz.func124.trans (congrArg some (by kernel_rfl))⟩
  f25 := ⟨Tryz.f125.name, by decide, Tryz.func125.trans (congrArg some (by kernel_rfl))⟩
  f26 := ⟨Tryz.f126.name, by decide, Tryz.func126.trans (congrArg some (by kernel_rfl))⟩
  f27 := ⟨Tryz.f127.name, by decide, Tryz.func127.trans (congrArg some (by kernel_rfl))⟩
  f28 := Tryz.func128.trans (congrArg some (by kernel_rfl))
  f29 := Tryz.func129.trans (congrArg some (by kernel_rfl))
  f46 := ⟨Tryz.f140.name, by decide, Tryz.func140.trans (congrArg some (by kernel_rfl))⟩
  f47 := Tryz.func141.trans (congrArg some (by kernel_rfl))
  f48 := Tryz.func142.trans (congrArg some (by kernel_rfl))
  f49 := ⟨Tryz.f143.name, by decide, Tryz.func143.trans (congrArg some (by kernel_rfl))⟩
  f50 := ⟨Tryz.f144.name, by decide, Tryz.func144.trans (congrArg some (by kernel_rfl))⟩
  f57 := ⟨Tryz.f153.name, by decide, Tryz.func153.trans (congrArg some (by kernel_rfl))⟩
  t0 := Tryz.underlying0
  a0 := Tryz.isAgg0
  z0 := Tryz.sizeOf0
  v0 := Tryz.zeroValue0
  t3 := Tryz.underlying3
  a3 := Tryz.isAgg3
  z3 := Tryz.sizeOf3
  v3 := Tryz.zeroValue3
  t4 := Tryz.underlying4
  a4 := Tryz.isAgg4
  z4 := Tryz.sizeOf4
  v4 := Tryz.zeroValue4
  t5 := Tryz.underlying5
  a5 := Tryz.isAgg5
  z5 := Tryz.sizeOf5
  v5 := Tryz.zeroValue5
  t9 := Tryz.underlying9
  a9 := Tryz.isAgg9
  z9 := Tryz.sizeOf9
  v9 := Tryz.zeroValue9
  t22 := Tryz.underlying40
  a22 := Tryz.isAgg40
  z22 := Tryz.sizeOf40
  v22 := Tryz.zeroValue40
  t25 := Tryz.underlying146
  a25 := Tryz.isAgg146
  z25 := Tryz.sizeOf146
  v25 := Tryz.zeroValue146
  t39 := Tryz.underlying159
  a39 := Tryz.isAgg159
  z39 := Tryz.sizeOf159
  v39 := Tryz.zeroValue159
  t45 := Tryz.underlying175
  a45 := Tryz.isAgg175
  z45 := Tryz.sizeOf175
  v45 := Tryz.zeroValue175
  t46 := Tryz.underlying176
  a46 := Tryz.isAgg176
  z46 := Tryz.sizeOf176
  v46 := Tryz.zeroValue176
  t50 := Tryz.underlying117
  a50 := Tryz.isAgg117
  z50 := Tryz.sizeOf117
  v50 := Tryz.zeroValue117
  t53 := Tryz.underlying182
  a53 := Tryz.isAgg182
  z53 := Tryz.sizeOf182
  v53 := Tryz.zeroValue182
  t55 := Tryz.underlying128
  a55 := Tryz.isAgg128
  z55 := Tryz.sizeOf128
  v55 := Tryz.zeroValue128
  t66 := Tryz.underlying190
  a66 := Tryz.isAgg190
  z66 := Tryz.sizeOf190
  v66 := Tryz.zeroValue190
  t70 := Tryz.underlying194
  a70 := Tryz.isAgg194
  z70 := Tryz.sizeOf194
  v70 := Tryz.zeroValue194
  t76 := Tryz.underlying206
  a76 := Tryz.isAgg206
  z76 := Tryz.sizeOf206
  v76 := Tryz.zeroValue206
  t77 := Tryz.underlying172
  a77 := Tryz.isAgg172
  z77 := Tryz.sizeOf172
  v77 := Tryz.zeroValue172 }
def Tryz.l21i_ren : Go.Shelf.Ren := ⟨fun | 21 => 86 | 27 => 109 | 28 => 110 | 35 => 130 | 39 => 145 | n => n, fun | 22 => 27 | 3 => 3 | 4 => 4 | 0 => 0 | n => n, fun | n => n⟩
theorem Tryz.l21i : Go.Proofs.Lays2.n21 Tryz.prog Tryz.l21i_ren := {
  mixed := by kernel_rfl
  f21 := Tryz.func86.trans (congrArg some (by kernel_rfl))
  f27 := Tryz.func109.trans (congrArg some (by kernel_rfl))
  f28 := Tryz.func110.trans (congrArg some (by kernel_rfl))
  f35 := Tryz.func130.trans (congrArg some (by kernel_rfl))
  f39 := Tryz.func145.trans (congrArg some (by kernel_rfl))
  t0 := Tryz.underlying0
  a0 := Tryz.isAgg0
  z0 := Tryz.sizeOf0
  v0 := Tryz.zeroValue0
  t3 := Tryz.underlying3
  a3 := Tryz.isAgg3
  z3 := Tryz.sizeOf3
  v3 := Tryz.zeroValue3
  t4 := Tryz.underlying4
  a4 := Tryz.isAgg4
  z4 := Tryz.sizeOf4
  v4 := Tryz.zeroValue4
  t22 := Tryz.underlying27
  a22 := Tryz.isAgg27
  z22 := Tryz.sizeOf27
  v22 := Tryz.zeroValue27
  i3 := by kernel_rfl }
end Go.Proofs
