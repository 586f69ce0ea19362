/-
  DERIVED: THE SHELF's CONTRACTS AT THIS DUMP, IN PLAIN WORDS (tools/lay-plain.mjs out of 'YtchiicfnejmmbaaDoorLay0.lean', which tools/lay-shelf.mjs wrote): THE SAME DECLARATIONS UNDER THE SAME NAMES: 'import', 'namespace', 'open', 'def', 'theorem' AND NOTHING ELSE: no command of the shelf's: FOR A HAND-IN. Each laying: the table of numbers ('.._ren') and one theorem, a field a fact of the dump's own or the kernel's comparison; each contract: ONE APPLICATION.
-/
import Derived.Ground.NamesProg
import Derived.Shelf.Strings.SlTrimAscii
import Derived.Shelf.Small.Strs
import Derived.Test.YtchiicfnejmmbaaDoorRows
namespace Go.Proofs
open Go.Shelf
def Tryd.lays160_ren : Go.Shelf.Ren := ⟨fun | 160 => 47 | 232 => 65 | 231 => 64 | 227 => 66 | 234 => 68 | 233 => 67 | 236 => 70 | 235 => 69 | 228 => 79 | 271 => 82 | 151 => 81 | 197 => 80 | 120 => 90 | 152 => 89 | 260 => 88 | 137 => 94 | 119 => 95 | 224 => 96 | 225 => 97 | 217 => 99 | 266 => 100 | n => n,fun | 9 => 9 | 4 => 4 | 3 => 3 | 5 => 5 | 117 => 103 | 116 => 102 | 0 => 0 | 124 => 106 | 21 => 21 | 105 => 115 | 46 => 107 | 119 => 123 | 139 => 126 | 138 => 125 | n => n,fun | 3 => 1 | 4 => 2 | n => n⟩
theorem Tryd.lays160 : Go.Proofs.Lays.n160 Tryd.prog Tryd.lays160_ren := {
 mixed := by kernel_rfl
 f119 := Tryd.func95.trans (congrArg some (by kernel_rfl))
 f120 := Tryd.func90.trans (congrArg some (by kernel_rfl))
 f137 := Tryd.func94.trans (congrArg some (by kernel_rfl))
 f151 := Tryd.func81.trans (congrArg some (by kernel_rfl))
 f152 := Tryd.func89.trans (congrArg some (by kernel_rfl))
 f160 := Tryd.func47.trans (congrArg some (by kernel_rfl))
 f197 := Tryd.func80.trans (congrArg some (by kernel_rfl))
 f217 := Tryd.func99.trans (congrArg some (by kernel_rfl))
 f224 := Tryd.func96.trans (congrArg some (by kernel_rfl))
 f225 := Tryd.func97.trans (congrArg some (by kernel_rfl))
 f227 := Tryd.func66.trans (congrArg some (by kernel_rfl))
 f228 := Tryd.func79.trans (congrArg some (by kernel_rfl))
 f231 := Tryd.func64.trans (congrArg some (by kernel_rfl))
 f232 := Tryd.func65.trans (congrArg some (by kernel_rfl))
 f233 := Tryd.func67.trans (congrArg some (by kernel_rfl))
 f234 := Tryd.func68.trans (congrArg some (by kernel_rfl))
 f235 := Tryd.func69.trans (congrArg some (by kernel_rfl))
 f236 := Tryd.func70.trans (congrArg some (by kernel_rfl))
 f260 := Tryd.func88.trans (congrArg some (by kernel_rfl))
 f266 := Tryd.func100.trans (congrArg some (by kernel_rfl))
 f271 := Tryd.func82.trans (congrArg some (by kernel_rfl))
 t0 := Tryd.underlying0
 a0 := Tryd.isAgg0
 z0 := Tryd.sizeOf0
 v0 := Tryd.zeroValue0
 t3 := Tryd.underlying3
 a3 := Tryd.isAgg3
 z3 := Tryd.sizeOf3
 v3 := Tryd.zeroValue3
 t4 := Tryd.underlying4
 a4 := Tryd.isAgg4
 z4 := Tryd.sizeOf4
 v4 := Tryd.zeroValue4
 t5 := Tryd.underlying5
 a5 := Tryd.isAgg5
 z5 := Tryd.sizeOf5
 v5 := Tryd.zeroValue5
 t9 := Tryd.underlying9
 a9 := Tryd.isAgg9
 z9 := Tryd.sizeOf9
 v9 := Tryd.zeroValue9
 t21 := Tryd.underlying21
 a21 := Tryd.isAgg21
 z21 := Tryd.sizeOf21
 v21 := Tryd.zeroValue21
 t46 := Tryd.underlying107
 a46 := Tryd.isAgg107
 z46 := Tryd.sizeOf107
 v46 := Tryd.zeroValue107
 t105 := Tryd.underlying115
 a105 := Tryd.isAgg115
 z105 := Tryd.sizeOf115
 v105 := Tryd.zeroValue115
 t116 := Tryd.underlying102
 a116 := Tryd.isAgg102
 z116 := Tryd.sizeOf102
 t117 := Tryd.underlying103
 a117 := Tryd.isAgg103
 z117 := Tryd.sizeOf103
 v117 := Tryd.zeroValue103
 t119 := Tryd.underlying123
 a119 := Tryd.isAgg123
 z119 := Tryd.sizeOf123
 t124 := Tryd.underlying106
 a124 := Tryd.isAgg106
 z124 := Tryd.sizeOf106
 v124 := Tryd.zeroValue106
 t138 := Tryd.underlying125
 a138 := Tryd.isAgg125
 z138 := Tryd.sizeOf125
 v138 := Tryd.zeroValue125
 t139 := Tryd.underlying126
 a139 := Tryd.isAgg126
 z139 := Tryd.sizeOf126
 v139 := Tryd.zeroValue126
 g3 := by kernel_rfl
 g4 := by kernel_rfl }
def Tryd.lays106_ren : Go.Shelf.Ren := ⟨fun | 106 => 50 | 213 => 71 | 265 => 83 | n => n,fun | 9 => 9 | 3 => 3 | n => n,fun | n => n⟩
theorem Tryd.lays106 : Go.Proofs.Lays.n106 Tryd.prog Tryd.lays106_ren := {
 mixed := by kernel_rfl
 f106 := Tryd.func50.trans (congrArg some (by kernel_rfl))
 f213 := Tryd.func71.trans (congrArg some (by kernel_rfl))
 f265 := Tryd.func83.trans (congrArg some (by kernel_rfl))
 t3 := Tryd.underlying3
 a3 := Tryd.isAgg3
 z3 := Tryd.sizeOf3
 v3 := Tryd.zeroValue3
 t9 := Tryd.underlying9
 a9 := Tryd.isAgg9
 z9 := Tryd.sizeOf9
 v9 := Tryd.zeroValue9 }
end Go.Proofs
