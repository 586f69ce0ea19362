/-
  DERIVED: THE SHELF's CONTRACTS AT THIS DUMP, IN PLAIN WORDS (tools/lay-plain.mjs out of 'YtfajjcmagngfiaaGreatDoorLay0.lean', which tools/lay-shelf.mjs wrote): THE SAME DECLARATIONS UNDER THE SAME NAMES: 'import', 'namespace', 'open', 'def', 'theorem' AND NOTHING ELSE: no command of the shelf's: FOR A HAND-IN. Each laying: the table of numbers ('.._ren') and one theorem, a field a fact of the dump's own or the kernel's comparison; each contract: ONE APPLICATION.
-/
import Derived.Ground.NamesProg
import Derived.Shelf.Strings.SlTrimAscii
import Derived.Shelf.Small.Strs
import Derived.Test.YtfajjcmagngfiaaGreatDoorRows
namespace Go.Proofs
open Go.Shelf
def Tryz.lays160_ren:Go.Shelf.Ren:=⟨fun|160=>59|232=>81|231=>80|227=>82|234=>84|233=>83|236=>86|235=>85|228=>98|271=>101|151=>100|197=>99|120=>111|152=>110|260=>109|137=>116|119=>117|224=>118|225=>119|217=>122|266=>124|n=>n,fun|9=>9|4=>4|3=>3|5=>5|117=>108|116=>107|0=>0|124=>111|21=>21|105=>123|46=>112|119=>133|139=>136|138=>135|n=>n,fun|3=>1|4=>2|n=>n⟩
theorem Tryz.lays160:Go.Proofs.Lays.n160 Tryz.prog Tryz.lays160_ren:={
 mixed:=by kernel_rfl
 f119:=Tryz.func117.trans (congrArg some (by kernel_rfl))
 f120:=Tryz.func111.trans (congrArg some (by kernel_rfl))
 f137:=Tryz.func116.trans (congrArg some (by kernel_rfl))
 f151:=Tryz.func100.trans (congrArg some (by kernel_rfl))
 f152:=Tryz.func110.trans (congrArg some (by kernel_rfl))
 f160:=Tryz.func59.trans (congrArg some (by kernel_rfl))
 f197:=Tryz.func99.trans (congrArg some (by kernel_rfl))
 f217:=Tryz.func122.trans (congrArg some (by kernel_rfl))
 f224:=Tryz.func118.trans (congrArg some (by kernel_rfl))
 f225:=Tryz.func119.trans (congrArg some (by kernel_rfl))
 f227:=Tryz.func82.trans (congrArg some (by kernel_rfl))
 f228:=Tryz.func98.trans (congrArg some (by kernel_rfl))
 f231:=Tryz.func80.trans (congrArg some (by kernel_rfl))
 f232:=Tryz.func81.trans (congrArg some (by kernel_rfl))
 f233:=Tryz.func83.trans (congrArg some (by kernel_rfl))
 f234:=Tryz.func84.trans (congrArg some (by kernel_rfl))
 f235:=Tryz.func85.trans (congrArg some (by kernel_rfl))
 f236:=Tryz.func86.trans (congrArg some (by kernel_rfl))
 f260:=Tryz.func109.trans (congrArg some (by kernel_rfl))
 f266:=Tryz.func124.trans (congrArg some (by kernel_rfl))
 f271:=Tryz.func101.trans (congrArg some (by kernel_rfl))
 t0:=Tryz.underlying0
 a0:=Tryz.isAgg0
 z0:=Tryz.sizeOf0
 v0:=Tryz.zeroValue0
 t3:=Tryz.underlying3
 a3:=Tryz.isAgg3
 z3:=Tryz.sizeOf3
 v3:=Tryz.zeroValue3
 t4:=Tryz.underlying4
 a4:=Tryz.isAgg4
 z4:=Tryz.sizeOf4
 v4:=Tryz.zeroValue4
 t5:=Tryz.underlying5
 a5:=Tryz.isAgg5
 z5:=Tryz.sizeOf5
 v5:=Tryz.zeroValue5
 t9:=Tryz.underlying9
 a9:=Tryz.isAgg9
 z9:=Tryz.sizeOf9
 v9:=Tryz.zeroValue9
 t21:=Tryz.underlying21
 a21:=Tryz.isAgg21
 z21:=Tryz.sizeOf21
 v21:=Tryz.zeroValue21
 t46:=Tryz.underlying112
 a46:=Tryz.isAgg112
 z46:=Tryz.sizeOf112
 v46:=Tryz.zeroValue112
 t105:=Tryz.underlying123
 a105:=Tryz.isAgg123
 z105:=Tryz.sizeOf123
 v105:=Tryz.zeroValue123
 t116:=Tryz.underlying107
 a116:=Tryz.isAgg107
 z116:=Tryz.sizeOf107
 t117:=Tryz.underlying108
 a117:=Tryz.isAgg108
 z117:=Tryz.sizeOf108
 v117:=Tryz.zeroValue108
 t119:=Tryz.underlying133
 a119:=Tryz.isAgg133
 z119:=Tryz.sizeOf133
 t124:=Tryz.underlying111
 a124:=Tryz.isAgg111
 z124:=Tryz.sizeOf111
 v124:=Tryz.zeroValue111
 t138:=Tryz.underlying135
 a138:=Tryz.isAgg135
 z138:=Tryz.sizeOf135
 v138:=Tryz.zeroValue135
 t139:=Tryz.underlying136
 a139:=Tryz.isAgg136
 z139:=Tryz.sizeOf136
 v139:=Tryz.zeroValue136
 g3:=by kernel_rfl
 g4:=by kernel_rfl }
def Tryz.lays106_ren:Go.Shelf.Ren:=⟨fun|106=>63|213=>87|265=>102|n=>n,fun|9=>9|3=>3|n=>n,fun|n=>n⟩
theorem Tryz.lays106:Go.Proofs.Lays.n106 Tryz.prog Tryz.lays106_ren:={
 mixed:=by kernel_rfl
 f106:=Tryz.func63.trans (congrArg some (by kernel_rfl))
 f213:=Tryz.func87.trans (congrArg some (by kernel_rfl))
 f265:=Tryz.func102.trans (congrArg some (by kernel_rfl))
 t3:=Tryz.underlying3
 a3:=Tryz.isAgg3
 z3:=Tryz.sizeOf3
 v3:=Tryz.zeroValue3
 t9:=Tryz.underlying9
 a9:=Tryz.isAgg9
 z9:=Tryz.sizeOf9
 v9:=Tryz.zeroValue9 }
end Go.Proofs
