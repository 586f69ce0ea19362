/-
  DERIVED: THE SHELF's CONTRACTS AT THIS DUMP, IN PLAIN WORDS (tools/lay-plain.mjs out of 'YtjacnfjlocajoaaDoorLay0.lean', which tools/lay-shelf.mjs wrote): THE SAME DECLARATIONS UNDER THE SAME NAMES: 'import', 'namespace', 'open', 'def', 'theorem' AND NOTHING ELSE: no command of the shelf's: FOR A HAND-IN. Each laying: the table of numbers ('.._ren') and one theorem, a field a fact of the dump's own or the kernel's comparison; each contract: ONE APPLICATION.
-/
import Derived.Ground.NamesProg
import Derived.Shelf.Strings.SlTrimAscii
import Derived.Shelf.Small.Strs
import Derived.Test.YtjacnfjlocajoaaDoorRows
namespace Go.Proofs
open Go.Shelf
def Tryd.lays160_ren : Go.Shelf.Ren := ⟨fun | 160 => 54 | 232 => 70 | 231 => 69 | 227 => 71 | 234 => 73 | 233 => 72 | 236 => 75 | 235 => 74 | 228 => 84 | 271 => 87 | 151 => 86 | 197 => 85 | 120 => 95 | 152 => 94 | 260 => 93 | 137 => 98 | 119 => 99 | 224 => 100 | 225 => 101 | 217 => 103 | 266 => 104 | n => n,fun | 9 => 9 | 4 => 4 | 3 => 3 | 5 => 5 | 117 => 108 | 116 => 107 | 0 => 0 | 124 => 111 | 21 => 21 | 105 => 121 | 46 => 112 | 119 => 130 | 139 => 133 | 138 => 132 | n => n,fun | 3 => 1 | 4 => 2 | n => n⟩
theorem Tryd.lays160 : Go.Proofs.Lays.n160 Tryd.prog Tryd.lays160_ren := {
 mixed := by kernel_rfl
 f119 := Tryd.func99.trans (congrArg some (by kernel_rfl))
 f120 := Tryd.func95.trans (congrArg some (by kernel_rfl))
 f137 := Tryd.func98.trans (congrArg some (by kernel_rfl))
 f151 := Tryd.func86.trans (congrArg some (by kernel_rfl))
 f152 := Tryd.func94.trans (congrArg some (by kernel_rfl))
 f160 := Tryd.func54.trans (congrArg some (by kernel_rfl))
 f197 := Tryd.func85.trans (congrArg some (by kernel_rfl))
 f217 := Tryd.func103.trans (congrArg some (by kernel_rfl))
 f224 := Tryd.func100.trans (congrArg some (by kernel_rfl))
 f225 := Tryd.func101.trans (congrArg some (by kernel_rfl))
 f227 := Tryd.func71.trans (congrArg some (by kernel_rfl))
 f228 := Tryd.func84.trans (congrArg some (by kernel_rfl))
 f231 := Tryd.func69.trans (congrArg some (by kernel_rfl))
 f232 := Tryd.func70.trans (congrArg some (by kernel_rfl))
 f233 := Tryd.func72.trans (congrArg some (by kernel_rfl))
 f234 := Tryd.func73.trans (congrArg some (by kernel_rfl))
 f235 := Tryd.func74.trans (congrArg some (by kernel_rfl))
 f236 := Tryd.func75.trans (congrArg some (by kernel_rfl))
 f260 := Tryd.func93.trans (congrArg some (by kernel_rfl))
 f266 := Tryd.func104.trans (congrArg some (by kernel_rfl))
 f271 := Tryd.func87.trans (congrArg some (by kernel_rfl))
 t0 := Tryd.underlying0
 a0 := Tryd.isAgg0
 z0 := Tryd.sizeOf0
 v0 := Tryd.zeroValue0
 t3 := Tryd.underlying3
 a3 := Tryd.isAgg3
 z3 := Tryd.sizeOf3
 v3 := Tryd.zeroValue3
 t4 := Tryd.underlying4
 a4 := Tryd.isAgg4
 z4 := Tryd.sizeOf4
 v4 := Tryd.zeroValue4
 t5 := Tryd.underlying5
 a5 := Tryd.isAgg5
 z5 := Tryd.sizeOf5
 v5 := Tryd.zeroValue5
 t9 := Tryd.underlying9
 a9 := Tryd.isAgg9
 z9 := Tryd.sizeOf9
 v9 := Tryd.zeroValue9
 t21 := Tryd.underlying21
 a21 := Tryd.isAgg21
 z21 := Tryd.sizeOf21
 v21 := Tryd.zeroValue21
 t46 := Tryd.underlying112
 a46 := Tryd.isAgg112
 z46 := Tryd.sizeOf112
 v46 := Tryd.zeroValue112
 t105 := Tryd.underlying121
 a105 := Tryd.isAgg121
 z105 := Tryd.sizeOf121
 v105 := Tryd.zeroValue121
 t116 := Tryd.underlying107
 a116 := Tryd.isAgg107
 z116 := Tryd.sizeOf107
 t117 := Tryd.underlying108
 a117 := Tryd.isAgg108
 z117 := Tryd.sizeOf108
 v117 := Tryd.zeroValue108
 t119 := Tryd.underlying130
 a119 := Tryd.isAgg130
 z119 := Tryd.sizeOf130
 t124 := Tryd.underlying111
 a124 := Tryd.isAgg111
 z124 := Tryd.sizeOf111
 v124 := Tryd.zeroValue111
 t138 := Tryd.underlying132
 a138 := Tryd.isAgg132
 z138 := Tryd.sizeOf132
 v138 := Tryd.zeroValue132
 t139 := Tryd.underlying133
 a139 := Tryd.isAgg133
 z139 := Tryd.sizeOf133
 v139 := Tryd.zeroValue133
 g3 := by kernel_rfl
 g4 := by kernel_rfl }
def Tryd.lays106_ren : Go.Shelf.Ren := ⟨fun | 106 => 57 | 213 => 76 | 265 => 88 | n => n,fun | 9 => 9 | 3 => 3 | n => n,fun | n => n⟩
theorem Tryd.lays106 : Go.Proofs.Lays.n106 Tryd.prog Tryd.lays106_ren := {
 mixed := by kernel_rfl
 f106 := Tryd.func57.trans (congrArg some (by kernel_rfl))
 f213 := Tryd.func76.trans (congrArg some (by kernel_rfl))
 f265 := Tryd.func88.trans (congrArg some (by kernel_rfl))
 t3 := Tryd.underlying3
 a3 := Tryd.isAgg3
 z3 := Tryd.sizeOf3
 v3 := Tryd.zeroValue3
 t9 := Tryd.underlying9
 a9 := Tryd.isAgg9
 z9 := Tryd.sizeOf9
 v9 := Tryd.zeroValue9 }
end Go.Proofs
