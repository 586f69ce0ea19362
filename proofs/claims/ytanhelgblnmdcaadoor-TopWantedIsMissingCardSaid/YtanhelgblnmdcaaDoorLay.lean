/-
  DERIVED: THE SHELF's CONTRACTS AT THIS DUMP, IN PLAIN WORDS (tools/lay-plain.mjs out of 'YtanhelgblnmdcaaDoorLay0.lean', which tools/lay-shelf.mjs wrote): THE SAME DECLARATIONS UNDER THE SAME NAMES: 'import', 'namespace', 'open', 'def', 'theorem' AND NOTHING ELSE: no command of the shelf's: FOR A HAND-IN. Each laying: the table of numbers ('.._ren') and one theorem, a field a fact of the dump's own or the kernel's comparison; each contract: ONE APPLICATION.
-/
import Derived.Ground.NamesProg
import Derived.Shelf.Strings.SlTrimAscii
import Derived.Shelf.Small.Strs
import Derived.Test.YtanhelgblnmdcaaDoorRows
namespace Go.Proofs
open Go.Shelf
def Tryd.lays160_ren : Go.Shelf.Ren := ⟨fun | 160 => 14 | 232 => 34 | 231 => 33 | 227 => 35 | 234 => 37 | 233 => 36 | 236 => 39 | 235 => 38 | 228 => 51 | 271 => 54 | 151 => 53 | 197 => 52 | 120 => 68 | 152 => 67 | 260 => 66 | 137 => 76 | 119 => 77 | 224 => 78 | 225 => 79 | 217 => 84 | 266 => 87 | n => n,fun | 9 => 9 | 4 => 4 | 3 => 3 | 5 => 5 | 117 => 77 | 116 => 76 | 0 => 0 | 124 => 80 | 21 => 21 | 105 => 94 | 46 => 73 | 119 => 110 | 139 => 113 | 138 => 112 | n => n,fun | 3 => 1 | 4 => 2 | n => n⟩
theorem Tryd.lays160 : Go.Proofs.Lays.n160 Tryd.prog Tryd.lays160_ren := {
 mixed := by kernel_rfl
 f119 := Tryd.func77.trans (congrArg some (by kernel_rfl))
 f120 := Tryd.func68.trans (congrArg some (by kernel_rfl))
 f137 := Tryd.func76.trans (congrArg some (by kernel_rfl))
 f151 := Tryd.func53.trans (congrArg some (by kernel_rfl))
 f152 := Tryd.func67.trans (congrArg some (by kernel_rfl))
 f160 := Tryd.func14.trans (congrArg some (by kernel_rfl))
 f197 := Tryd.func52.trans (congrArg some (by kernel_rfl))
 f217 := Tryd.func84.trans (congrArg some (by kernel_rfl))
 f224 := Tryd.func78.trans (congrArg some (by kernel_rfl))
 f225 := Tryd.func79.trans (congrArg some (by kernel_rfl))
 f227 := Tryd.func35.trans (congrArg some (by kernel_rfl))
 f228 := Tryd.func51.trans (congrArg some (by kernel_rfl))
 f231 := Tryd.func33.trans (congrArg some (by kernel_rfl))
 f232 := Tryd.func34.trans (congrArg some (by kernel_rfl))
 f233 := Tryd.func36.trans (congrArg some (by kernel_rfl))
 f234 := Tryd.func37.trans (congrArg some (by kernel_rfl))
 f235 := Tryd.func38.trans (congrArg some (by kernel_rfl))
 f236 := Tryd.func39.trans (congrArg some (by kernel_rfl))
 f260 := Tryd.func66.trans (congrArg some (by kernel_rfl))
 f266 := Tryd.func87.trans (congrArg some (by kernel_rfl))
 f271 := Tryd.func54.trans (congrArg some (by kernel_rfl))
 t0 := Tryd.underlying0
 a0 := Tryd.isAgg0
 z0 := Tryd.sizeOf0
 v0 := Tryd.zeroValue0
 t3 := Tryd.underlying3
 a3 := Tryd.isAgg3
 z3 := Tryd.sizeOf3
 v3 := Tryd.zeroValue3
 t4 := Tryd.underlying4
 a4 := Tryd.isAgg4
 z4 := Tryd.sizeOf4
 v4 := Tryd.zeroValue4
 t5 := Tryd.underlying5
 a5 := Tryd.isAgg5
 z5 := Tryd.sizeOf5
 v5 := Tryd.zeroValue5
 t9 := Tryd.underlying9
 a9 := Tryd.isAgg9
 z9 := Tryd.sizeOf9
 v9 := Tryd.zeroValue9
 t21 := Tryd.underlying21
 a21 := Tryd.isAgg21
 z21 := Tryd.sizeOf21
 v21 := Tryd.zeroValue21
 t46 := Tryd.underlying73
 a46 := Tryd.isAgg73
 z46 := Tryd.sizeOf73
 v46 := Tryd.zeroValue73
 t105 := Tryd.underlying94
 a105 := Tryd.isAgg94
 z105 := Tryd.sizeOf94
 v105 := Tryd.zeroValue94
 t116 := Tryd.underlying76
 a116 := Tryd.isAgg76
 z116 := Tryd.sizeOf76
 t117 := Tryd.underlying77
 a117 := Tryd.isAgg77
 z117 := Tryd.sizeOf77
 v117 := Tryd.zeroValue77
 t119 := Tryd.underlying110
 a119 := Tryd.isAgg110
 z119 := Tryd.sizeOf110
 t124 := Tryd.underlying80
 a124 := Tryd.isAgg80
 z124 := Tryd.sizeOf80
 v124 := Tryd.zeroValue80
 t138 := Tryd.underlying112
 a138 := Tryd.isAgg112
 z138 := Tryd.sizeOf112
 v138 := Tryd.zeroValue112
 t139 := Tryd.underlying113
 a139 := Tryd.isAgg113
 z139 := Tryd.sizeOf113
 v139 := Tryd.zeroValue113
 g3 := by kernel_rfl
 g4 := by kernel_rfl }
def Tryd.lays106_ren : Go.Shelf.Ren := ⟨fun | 106 => 43 | 213 => 55 | 265 => 69 | n => n,fun | 9 => 9 | 3 => 3 | n => n,fun | n => n⟩
theorem Tryd.lays106 : Go.Proofs.Lays.n106 Tryd.prog Tryd.lays106_ren := {
 mixed := by kernel_rfl
 f106 := Tryd.func43.trans (congrArg some (by kernel_rfl))
 f213 := Tryd.func55.trans (congrArg some (by kernel_rfl))
 f265 := Tryd.func69.trans (congrArg some (by kernel_rfl))
 t3 := Tryd.underlying3
 a3 := Tryd.isAgg3
 z3 := Tryd.sizeOf3
 v3 := Tryd.zeroValue3
 t9 := Tryd.underlying9
 a9 := Tryd.isAgg9
 z9 := Tryd.sizeOf9
 v9 := Tryd.zeroValue9 }
end Go.Proofs
