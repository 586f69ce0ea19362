/-
  DERIVED: THE SHELF's CONTRACTS AT THIS DUMP, IN PLAIN WORDS (tools/lay-plain.mjs out of 'YtfajjcmagngfiaaDoorLay0.lean', which tools/lay-shelf.mjs wrote): THE SAME DECLARATIONS UNDER THE SAME NAMES: 'import', 'namespace', 'open', 'def', 'theorem' AND NOTHING ELSE: no command of the shelf's: FOR A HAND-IN. Each laying: the table of numbers ('.._ren') and one theorem, a field a fact of the dump's own or the kernel's comparison; each contract: ONE APPLICATION.
-/
import Derived.Ground.NamesProg
import Derived.Shelf.Strings.SlTrimAscii
import Derived.Shelf.Small.Strs
import Derived.Test.YtfajjcmagngfiaaDoorRows
namespace Go.Proofs
open Go.Shelf
def Tryd.lays160_ren : Go.Shelf.Ren := ⟨fun | 160 => 38 | 232 => 51 | 231 => 50 | 227 => 52 | 234 => 54 | 233 => 53 | 236 => 56 | 235 => 55 | 228 => 68 | 271 => 71 | 151 => 70 | 197 => 69 | 120 => 81 | 152 => 80 | 260 => 79 | 137 => 86 | 119 => 87 | 224 => 88 | 225 => 89 | 217 => 92 | 266 => 94 | n => n,fun | 9 => 9 | 4 => 4 | 3 => 3 | 5 => 5 | 117 => 94 | 116 => 93 | 0 => 0 | 124 => 97 | 21 => 21 | 105 => 109 | 46 => 98 | 119 => 119 | 139 => 122 | 138 => 121 | n => n,fun | 3 => 1 | 4 => 2 | n => n⟩
theorem Tryd.lays160 : Go.Proofs.Lays.n160 Tryd.prog Tryd.lays160_ren := {
 mixed := by kernel_rfl
 f119 := Tryd.func87.trans (congrArg some (by kernel_rfl))
 f120 := Tryd.func81.trans (congrArg some (by kernel_rfl))
 f137 := Tryd.func86.trans (congrArg some (by kernel_rfl))
 f151 := Tryd.func70.trans (congrArg some (by kernel_rfl))
 f152 := Tryd.func80.trans (congrArg some (by kernel_rfl))
 f160 := Tryd.func38.trans (congrArg some (by kernel_rfl))
 f197 := Tryd.func69.trans (congrArg some (by kernel_rfl))
 f217 := Tryd.func92.trans (congrArg some (by kernel_rfl))
 f224 := Tryd.func88.trans (congrArg some (by kernel_rfl))
 f225 := Tryd.func89.trans (congrArg some (by kernel_rfl))
 f227 := Tryd.func52.trans (congrArg some (by kernel_rfl))
 f228 := Tryd.func68.trans (congrArg some (by kernel_rfl))
 f231 := Tryd.func50.trans (congrArg some (by kernel_rfl))
 f232 := Tryd.func51.trans (congrArg some (by kernel_rfl))
 f233 := Tryd.func53.trans (congrArg some (by kernel_rfl))
 f234 := Tryd.func54.trans (congrArg some (by kernel_rfl))
 f235 := Tryd.func55.trans (congrArg some (by kernel_rfl))
 f236 := Tryd.func56.trans (congrArg some (by kernel_rfl))
 f260 := Tryd.func79.trans (congrArg some (by kernel_rfl))
 f266 := Tryd.func94.trans (congrArg some (by kernel_rfl))
 f271 := Tryd.func71.trans (congrArg some (by kernel_rfl))
 t0 := Tryd.underlying0
 a0 := Tryd.isAgg0
 z0 := Tryd.sizeOf0
 v0 := Tryd.zeroValue0
 t3 := Tryd.underlying3
 a3 := Tryd.isAgg3
 z3 := Tryd.sizeOf3
 v3 := Tryd.zeroValue3
 t4 := Tryd.underlying4
 a4 := Tryd.isAgg4
 z4 := Tryd.sizeOf4
 v4 := Tryd.zeroValue4
 t5 := Tryd.underlying5
 a5 := Tryd.isAgg5
 z5 := Tryd.sizeOf5
 v5 := Tryd.zeroValue5
 t9 := Tryd.underlying9
 a9 := Tryd.isAgg9
 z9 := Tryd.sizeOf9
 v9 := Tryd.zeroValue9
 t21 := Tryd.underlying21
 a21 := Tryd.isAgg21
 z21 := Tryd.sizeOf21
 v21 := Tryd.zeroValue21
 t46 := Tryd.underlying98
 a46 := Tryd.isAgg98
 z46 := Tryd.sizeOf98
 v46 := Tryd.zeroValue98
 t105 := Tryd.underlying109
 a105 := Tryd.isAgg109
 z105 := Tryd.sizeOf109
 v105 := Tryd.zeroValue109
 t116 := Tryd.underlying93
 a116 := Tryd.isAgg93
 z116 := Tryd.sizeOf93
 t117 := Tryd.underlying94
 a117 := Tryd.isAgg94
 z117 := Tryd.sizeOf94
 v117 := Tryd.zeroValue94
 t119 := Tryd.underlying119
 a119 := Tryd.isAgg119
 z119 := Tryd.sizeOf119
 t124 := Tryd.underlying97
 a124 := Tryd.isAgg97
 z124 := Tryd.sizeOf97
 v124 := Tryd.zeroValue97
 t138 := Tryd.underlying121
 a138 := Tryd.isAgg121
 z138 := Tryd.sizeOf121
 v138 := Tryd.zeroValue121
 t139 := Tryd.underlying122
 a139 := Tryd.isAgg122
 z139 := Tryd.sizeOf122
 v139 := Tryd.zeroValue122
 g3 := by kernel_rfl
 g4 := by kernel_rfl }
def Tryd.lays106_ren : Go.Shelf.Ren := ⟨fun | 106 => 42 | 213 => 57 | 265 => 72 | n => n,fun | 9 => 9 | 3 => 3 | n => n,fun | n => n⟩
theorem Tryd.lays106 : Go.Proofs.Lays.n106 Tryd.prog Tryd.lays106_ren := {
 mixed := by kernel_rfl
 f106 := Tryd.func42.trans (congrArg some (by kernel_rfl))
 f213 := Tryd.func57.trans (congrArg some (by kernel_rfl))
 f265 := Tryd.func72.trans (congrArg some (by kernel_rfl))
 t3 := Tryd.underlying3
 a3 := Tryd.isAgg3
 z3 := Tryd.sizeOf3
 v3 := Tryd.zeroValue3
 t9 := Tryd.underlying9
 a9 := Tryd.isAgg9
 z9 := Tryd.sizeOf9
 v9 := Tryd.zeroValue9 }
end Go.Proofs
