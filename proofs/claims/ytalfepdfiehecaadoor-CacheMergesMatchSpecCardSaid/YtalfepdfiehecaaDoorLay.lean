/-
  DERIVED: THE SHELF's CONTRACTS AT THIS DUMP, IN PLAIN WORDS (tools/lay-plain.mjs out of 'YtalfepdfiehecaaDoorLay0.lean', which tools/lay-shelf.mjs wrote): THE SAME DECLARATIONS UNDER THE SAME NAMES: 'import', 'namespace', 'open', 'def', 'theorem' AND NOTHING ELSE: no command of the shelf's: FOR A HAND-IN. Each laying: the table of numbers ('.._ren') and one theorem, a field a fact of the dump's own or the kernel's comparison; each contract: ONE APPLICATION.
-/
import Derived.Ground.NamesProg
import Derived.Shelf.Strings.SlTrimAscii
import Derived.Shelf.Small.Strs
import Derived.Test.YtalfepdfiehecaaDoorRows
namespace Go.Proofs
open Go.Shelf
def Tryd.lays160_ren : Go.Shelf.Ren := ⟨fun | 160 => 62 | 232 => 76 | 231 => 75 | 227 => 77 | 234 => 79 | 233 => 78 | 236 => 81 | 235 => 80 | 228 => 90 | 271 => 93 | 151 => 92 | 197 => 91 | 120 => 99 | 152 => 98 | 260 => 97 | 137 => 104 | 119 => 105 | 224 => 106 | 225 => 107 | 217 => 110 | 266 => 113 | n => n,fun | 9 => 9 | 4 => 4 | 3 => 3 | 5 => 5 | 117 => 112 | 116 => 111 | 0 => 0 | 124 => 115 | 21 => 21 | 105 => 127 | 46 => 108 | 119 => 136 | 139 => 139 | 138 => 138 | n => n,fun | 3 => 1 | 4 => 2 | n => n⟩
theorem Tryd.lays160 : Go.Proofs.Lays.n160 Tryd.prog Tryd.lays160_ren := {
 mixed := by kernel_rfl
 f119 := Tryd.func105.trans (congrArg some (by kernel_rfl))
 f120 := Tryd.func99.trans (congrArg some (by kernel_rfl))
 f137 := Tryd.func104.trans (congrArg some (by kernel_rfl))
 f151 := Tryd.func92.trans (congrArg some (by kernel_rfl))
 f152 := Tryd.func98.trans (congrArg some (by kernel_rfl))
 f160 := Tryd.func62.trans (congrArg some (by kernel_rfl))
 f197 := Tryd.func91.trans (congrArg some (by kernel_rfl))
 f217 := Tryd.func110.trans (congrArg some (by kernel_rfl))
 f224 := Tryd.func106.trans (congrArg some (by kernel_rfl))
 f225 := Tryd.func107.trans (congrArg some (by kernel_rfl))
 f227 := Tryd.func77.trans (congrArg some (by kernel_rfl))
 f228 := Tryd.func90.trans (congrArg some (by kernel_rfl))
 f231 := Tryd.func75.trans (congrArg some (by kernel_rfl))
 f232 := Tryd.func76.trans (congrArg some (by kernel_rfl))
 f233 := Tryd.func78.trans (congrArg some (by kernel_rfl))
 f234 := Tryd.func79.trans (congrArg some (by kernel_rfl))
 f235 := Tryd.func80.trans (congrArg some (by kernel_rfl))
 f236 := Tryd.func81.trans (congrArg some (by kernel_rfl))
 f260 := Tryd.func97.trans (congrArg some (by kernel_rfl))
 f266 := Tryd.func113.trans (congrArg some (by kernel_rfl))
 f271 := Tryd.func93.trans (congrArg some (by kernel_rfl))
 t0 := Tryd.underlying0
 a0 := Tryd.isAgg0
 z0 := Tryd.sizeOf0
 v0 := Tryd.zeroValue0
 t3 := Tryd.underlying3
 a3 := Tryd.isAgg3
 z3 := Tryd.sizeOf3
 v3 := Tryd.zeroValue3
 t4 := Tryd.underlying4
 a4 := Tryd.isAgg4
 z4 := Tryd.sizeOf4
 v4 := Tryd.zeroValue4
 t5 := Tryd.underlying5
 a5 := Tryd.isAgg5
 z5 := Tryd.sizeOf5
 v5 := Tryd.zeroValue5
 t9 := Tryd.underlying9
 a9 := Tryd.isAgg9
 z9 := Tryd.sizeOf9
 v9 := Tryd.zeroValue9
 t21 := Tryd.underlying21
 a21 := Tryd.isAgg21
 z21 := Tryd.sizeOf21
 v21 := Tryd.zeroValue21
 t46 := Tryd.underlying108
 a46 := Tryd.isAgg108
 z46 := Tryd.sizeOf108
 v46 := Tryd.zeroValue108
 t105 := Tryd.underlying127
 a105 := Tryd.isAgg127
 z105 := Tryd.sizeOf127
 v105 := Tryd.zeroValue127
 t116 := Tryd.underlying111
 a116 := Tryd.isAgg111
 z116 := Tryd.sizeOf111
 t117 := Tryd.underlying112
 a117 := Tryd.isAgg112
 z117 := Tryd.sizeOf112
 v117 := Tryd.zeroValue112
 t119 := Tryd.underlying136
 a119 := Tryd.isAgg136
 z119 := Tryd.sizeOf136
 t124 := Tryd.underlying115
 a124 := Tryd.isAgg115
 z124 := Tryd.sizeOf115
 v124 := Tryd.zeroValue115
 t138 := Tryd.underlying138
 a138 := Tryd.isAgg138
 z138 := Tryd.sizeOf138
 v138 := Tryd.zeroValue138
 t139 := Tryd.underlying139
 a139 := Tryd.isAgg139
 z139 := Tryd.sizeOf139
 v139 := Tryd.zeroValue139
 g3 := by kernel_rfl
 g4 := by kernel_rfl }
def Tryd.lays106_ren : Go.Shelf.Ren := ⟨fun | 106 => 51 | 213 => 72 | 265 => 87 | n => n,fun | 9 => 9 | 3 => 3 | n => n,fun | n => n⟩
theorem Tryd.lays106 : Go.Proofs.Lays.n106 Tryd.prog Tryd.lays106_ren := {
 mixed := by kernel_rfl
 f106 := Tryd.func51.trans (congrArg some (by kernel_rfl))
 f213 := Tryd.func72.trans (congrArg some (by kernel_rfl))
 f265 := Tryd.func87.trans (congrArg some (by kernel_rfl))
 t3 := Tryd.underlying3
 a3 := Tryd.isAgg3
 z3 := Tryd.sizeOf3
 v3 := Tryd.zeroValue3
 t9 := Tryd.underlying9
 a9 := Tryd.isAgg9
 z9 := Tryd.sizeOf9
 v9 := Tryd.zeroValue9 }
end Go.Proofs
