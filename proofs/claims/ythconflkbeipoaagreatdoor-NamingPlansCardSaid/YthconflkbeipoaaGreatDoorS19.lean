/- What the program computes, and the plain laws of it, part 19. -/
import Derived.Shelf.Strings.Builder1
import Derived.Shelf.Strings.Builder2
import Derived.Shelf.Strings.OnBuilder
import Derived.Shelf.Small.Utf8
import Derived.Shelf.Small.Strs
import Derived.Shelf.Small.Wraps
import Derived.Shelf.Strconv.Itoa1
import Derived.Shelf.Strconv.Itoa2
import Derived.Shelf.Strconv.Itoa3
import Derived.Shelf.Strings.Search1
import Derived.Shelf.Strings.Search2
import Derived.Shelf.Strings.Search3
import Derived.Shelf.Strings.Count
import Derived.Shelf.Strings.Shaped
import Derived.Shelf.Strings.Prefix
import Derived.Shelf.Strings.Split
import Derived.Shelf.Strings.Replace
import Derived.Shelf.Unicode.Latin
import Derived.Shelf.Strings.Runes
import Derived.Shelf.Strings.IndexAny
import Derived.Shelf.Strings.AsciiSet
import Derived.Shelf.Strings.IndexAnyAll
import Derived.Shelf.Unicode.DecodeSlow
import Derived.Shelf.Unicode.CaseLookup
import Derived.Shelf.Unicode.CaseConvert
import Derived.Shelf.Unicode.CaseTo
import Derived.Shelf.Unicode.CaseLaid
import Derived.Shelf.Slices.Turned
import Derived.Test.YthconflkbeipoaaGreatDoorProg
import Derived.Lib.IndexAny
import Derived.Test.YthconflkbeipoaaGreatDoorS18
namespace Go.Proofs.YthconflkbeipoaaGreatDoor
open Go.Shelf
set_option maxHeartbeats 1000000
def lays159_ren:Go.Shelf.Ren:=⟨fun|159=>172|165=>162|166=>163|167=>191|169=>164|230=>192|204=>193|240=>186|241=>187|197=>188|118=>200|168=>201|270=>202|262=>203|276=>197|277=>198|260=>199|242=>204|313=>205|278=>206|274=>207|275=>208|n=>n,fun|9=>9|4=>4|3=>3|5=>5|72=>180|0=>0|76=>184|75=>183|107=>205|70=>178|20=>20|37=>175|127=>200|21=>21|105=>201|164=>209|162=>225|203=>223|119=>218|46=>126|139=>221|138=>220|51=>155|160=>226|208=>232|206=>230|80=>131|n=>n,fun|13=>6|3=>4|4=>5|n=>n⟩
theorem lays159:Go.Proofs.Lays.n159 Tryz.prog lays159_ren:={
 mixed:=by kernel_rfl
 f118:=Tryz.func200.trans (congrArg some (by kernel_rfl))
 f159:=Tryz.func172.trans (congrArg some (by kernel_rfl))
 f165:=Tryz.func162.trans (congrArg some (by kernel_rfl))
 f166:=Tryz.func163.trans (congrArg some (by kernel_rfl))
 f167:=Tryz.func191.trans (congrArg some (by kernel_rfl))
 f168:=Tryz.func201.trans (congrArg some (by kernel_rfl))
 f169:=Tryz.func164.trans (congrArg some (by kernel_rfl))
 f197:=Tryz.func188.trans (congrArg some (by kernel_rfl))
 f204:=Tryz.func193.trans (congrArg some (by kernel_rfl))
 f230:=Tryz.func192.trans (congrArg some (by kernel_rfl))
 f240:=Tryz.func186.trans (congrArg some (by kernel_rfl))
 f241:=Tryz.func187.trans (congrArg some (by kernel_rfl))
 f242:=Tryz.func204.trans (congrArg some (by kernel_rfl))
 f260:=Tryz.func199.trans (congrArg some (by kernel_rfl))
 f262:=Tryz.func203.trans (congrArg some (by kernel_rfl))
 f270:=Tryz.func202.trans (congrArg some (by kernel_rfl))
 f274:=Tryz.func207.trans (congrArg some (by kernel_rfl))
 f275:=Tryz.func208.trans (congrArg some (by kernel_rfl))
 f276:=Tryz.func197.trans (congrArg some (by kernel_rfl))
 f277:=Tryz.func198.trans (congrArg some (by kernel_rfl))
 f278:=Tryz.func206.trans (congrArg some (by kernel_rfl))
 f313:=Tryz.func205.trans (congrArg some (by kernel_rfl))
 t0:=Tryz.underlying0
 a0:=Tryz.isAgg0
 z0:=Tryz.sizeOf0
 v0:=Tryz.zeroValue0
 t3:=Tryz.underlying3
 a3:=Tryz.isAgg3
 z3:=Tryz.sizeOf3
 v3:=Tryz.zeroValue3
 t4:=Tryz.underlying4
 a4:=Tryz.isAgg4
 z4:=Tryz.sizeOf4
 v4:=Tryz.zeroValue4
 t5:=Tryz.underlying5
 a5:=Tryz.isAgg5
 z5:=Tryz.sizeOf5
 v5:=Tryz.zeroValue5
 t9:=Tryz.underlying9
 a9:=Tryz.isAgg9
 z9:=Tryz.sizeOf9
 v9:=Tryz.zeroValue9
 t20:=Tryz.underlying20
 a20:=Tryz.isAgg20
 z20:=Tryz.sizeOf20
 v20:=Tryz.zeroValue20
 t21:=Tryz.underlying21
 a21:=Tryz.isAgg21
 z21:=Tryz.sizeOf21
 v21:=Tryz.zeroValue21
 t37:=Tryz.underlying175
 a37:=Tryz.isAgg175
 z37:=Tryz.sizeOf175
 v37:=Tryz.zeroValue175
 t46:=Tryz.underlying126
 a46:=Tryz.isAgg126
 z46:=Tryz.sizeOf126
 v46:=Tryz.zeroValue126
 t51:=Tryz.underlying155
 a51:=Tryz.isAgg155
 z51:=Tryz.sizeOf155
 v51:=Tryz.zeroValue155
 t70:=Tryz.underlying178
 a70:=Tryz.isAgg178
 z70:=Tryz.sizeOf178
 v70:=Tryz.zeroValue178
 t72:=Tryz.underlying180
 a72:=Tryz.isAgg180
 z72:=Tryz.sizeOf180
 v72:=Tryz.zeroValue180
 t75:=Tryz.underlying183
 a75:=Tryz.isAgg183
 z75:=Tryz.sizeOf183
 v75:=Tryz.zeroValue183
 t76:=Tryz.underlying184
 a76:=Tryz.isAgg184
 z76:=Tryz.sizeOf184
 v76:=Tryz.zeroValue184
 t105:=Tryz.underlying201
 a105:=Tryz.isAgg201
 z105:=Tryz.sizeOf201
 v105:=Tryz.zeroValue201
 t107:=Tryz.underlying205
 a107:=Tryz.isAgg205
 z107:=Tryz.sizeOf205
 v107:=Tryz.zeroValue205
 t119:=Tryz.underlying218
 a119:=Tryz.isAgg218
 z119:=Tryz.sizeOf218
 t127:=Tryz.underlying200
 a127:=Tryz.isAgg200
 z127:=Tryz.sizeOf200
 v127:=Tryz.zeroValue200
 t138:=Tryz.underlying220
 a138:=Tryz.isAgg220
 z138:=Tryz.sizeOf220
 v138:=Tryz.zeroValue220
 t139:=Tryz.underlying221
 a139:=Tryz.isAgg221
 z139:=Tryz.sizeOf221
 v139:=Tryz.zeroValue221
 t160:=Tryz.underlying226
 a160:=Tryz.isAgg226
 z160:=Tryz.sizeOf226
 v160:=Tryz.zeroValue226
 t162:=Tryz.underlying225
 a162:=Tryz.isAgg225
 z162:=Tryz.sizeOf225
 v162:=Tryz.zeroValue225
 t164:=Tryz.underlying209
 a164:=Tryz.isAgg209
 z164:=Tryz.sizeOf209
 v164:=Tryz.zeroValue209
 t203:=Tryz.underlying223
 a203:=Tryz.isAgg223
 z203:=Tryz.sizeOf223
 v203:=Tryz.zeroValue223
 t206:=Tryz.underlying230
 a206:=Tryz.isAgg230
 z206:=Tryz.sizeOf230
 v206:=Tryz.zeroValue230
 t208:=Tryz.underlying232
 a208:=Tryz.isAgg232
 z208:=Tryz.sizeOf232
 v208:=Tryz.zeroValue232
 g3:=by kernel_rfl
 g4:=by kernel_rfl
 g13:=by kernel_rfl }
theorem Builder_Extra_159:Builder.Extra Tryz.prog lays159_ren:={
 sizeBuilder:=by kernel_rfl
 liesBuilder:=by kernel_rfl
 t5:=Tryz.underlying5
 a5:=Tryz.isAgg5
 z5:=Tryz.sizeOf5
 v5:=Tryz.zeroValue5
 infoByte:=by kernel_rfl
 cellsByte:=by kernel_rfl
 sizeByte:=by kernel_rfl
 neB5:=by decide }
open Go.RowKit in
theorem strings_ToLower_ascii (s:ByteArray) (w:World) (hs:s.size≤140737488355328) (hascii:∀ (j:Nat) (b:UInt8),s.data.toList[j]? = some b → b.toNat < 128) :
  Calls Tryz.prog 172 #[.string s] w fun e w'=>e = .returned (.string ⟨(Lib.toLowerA s.data.toList).toArray⟩)∧Below w.heap.size w w':=Any.strings_ToLower_ascii lays159 Builder_Extra_159 s w hs hascii
def lays156_ren:Go.Shelf.Ren:=⟨fun|156=>131|165=>162|166=>163|169=>164|240=>186|241=>187|276=>197|277=>198|n=>n,fun|31=>34|9=>9|3=>3|4=>4|0=>0|20=>20|72=>180|76=>184|70=>178|37=>175|75=>183|127=>200|164=>209|5=>5|80=>131|n=>n,fun|n=>n⟩
theorem lays156:Go.Proofs.Lays.n156 Tryz.prog lays156_ren:={
 mixed:=by kernel_rfl
 f156:=Tryz.func131.trans (congrArg some (by kernel_rfl))
 f165:=Tryz.func162.trans (congrArg some (by kernel_rfl))
 f166:=Tryz.func163.trans (congrArg some (by kernel_rfl))
 f169:=Tryz.func164.trans (congrArg some (by kernel_rfl))
 f240:=Tryz.func186.trans (congrArg some (by kernel_rfl))
 f241:=Tryz.func187.trans (congrArg some (by kernel_rfl))
 f276:=Tryz.func197.trans (congrArg some (by kernel_rfl))
 f277:=Tryz.func198.trans (congrArg some (by kernel_rfl))
 t0:=Tryz.underlying0
 a0:=Tryz.isAgg0
 z0:=Tryz.sizeOf0
 v0:=Tryz.zeroValue0
 t3:=Tryz.underlying3
 a3:=Tryz.isAgg3
 z3:=Tryz.sizeOf3
 v3:=Tryz.zeroValue3
 t4:=Tryz.underlying4
 a4:=Tryz.isAgg4
 z4:=Tryz.sizeOf4
 v4:=Tryz.zeroValue4
 t9:=Tryz.underlying9
 a9:=Tryz.isAgg9
 z9:=Tryz.sizeOf9
 v9:=Tryz.zeroValue9
 t20:=Tryz.underlying20
 a20:=Tryz.isAgg20
 z20:=Tryz.sizeOf20
 v20:=Tryz.zeroValue20
 t31:=Tryz.underlying34
 a31:=Tryz.isAgg34
 z31:=Tryz.sizeOf34
 v31:=Tryz.zeroValue34
 t37:=Tryz.underlying175
 a37:=Tryz.isAgg175
 z37:=Tryz.sizeOf175
 v37:=Tryz.zeroValue175
 t70:=Tryz.underlying178
 a70:=Tryz.isAgg178
 z70:=Tryz.sizeOf178
 v70:=Tryz.zeroValue178
 t72:=Tryz.underlying180
 a72:=Tryz.isAgg180
 z72:=Tryz.sizeOf180
 v72:=Tryz.zeroValue180
 t75:=Tryz.underlying183
 a75:=Tryz.isAgg183
 z75:=Tryz.sizeOf183
 v75:=Tryz.zeroValue183
 t76:=Tryz.underlying184
 a76:=Tryz.isAgg184
 z76:=Tryz.sizeOf184
 v76:=Tryz.zeroValue184
 t127:=Tryz.underlying200
 a127:=Tryz.isAgg200
 z127:=Tryz.sizeOf200
 v127:=Tryz.zeroValue200
 t164:=Tryz.underlying209
 a164:=Tryz.isAgg209
 z164:=Tryz.sizeOf209
 v164:=Tryz.zeroValue209 }
theorem Builder_Extra_156:Builder.Extra Tryz.prog lays156_ren:={
 sizeBuilder:=by kernel_rfl
 liesBuilder:=by kernel_rfl
 t5:=Tryz.underlying5
 a5:=Tryz.isAgg5
 z5:=Tryz.sizeOf5
 v5:=Tryz.zeroValue5
 infoByte:=by kernel_rfl
 cellsByte:=by kernel_rfl
 sizeByte:=by kernel_rfl
 neB5:=by decide }
open Go.RowKit in
theorem strings_Join (bk o c:Nat) (xs:List ByteArray) (sep:ByteArray) (w:World) (hcells:∀ (j:Nat) x,xs[j]? = some x → w.cell? ⟨bk,o+j,none⟩=some (.string x)) (hbk:bk < w.heap.size) (hN:xs.length≤140737488355328) (hcap:xs.length≤c) (hlen:(Lib.join (xs.map (·.data.toList)) sep.data.toList).length≤140737488355328) :
  Calls Tryz.prog 131 #[.slice (some ⟨bk,o,none⟩) xs.length c,.string sep] w fun e w'=>e = .returned (.string ⟨(Lib.join (xs.map (·.data.toList)) sep.data.toList).toArray⟩)∧Below w.heap.size w w':=Any.strings_Join lays156 Builder_Extra_156 bk o c xs sep w hcells hbk hN hcap hlen
def lays106_ren:Go.Shelf.Ren:=⟨fun|106=>122|213=>156|265=>183|n=>n,fun|9=>9|3=>3|n=>n,fun|n=>n⟩
theorem lays106:Go.Proofs.Lays.n106 Tryz.prog lays106_ren:={
 mixed:=by kernel_rfl
 f106:=Tryz.func122.trans (congrArg some (by kernel_rfl))
 f213:=Tryz.func156.trans (congrArg some (by kernel_rfl))
 f265:=Tryz.func183.trans (congrArg some (by kernel_rfl))
 t3:=Tryz.underlying3
 a3:=Tryz.isAgg3
 z3:=Tryz.sizeOf3
 v3:=Tryz.zeroValue3
 t9:=Tryz.underlying9
 a9:=Tryz.isAgg9
 z9:=Tryz.sizeOf9
 v9:=Tryz.zeroValue9 }
open Go.RowKit in
theorem strings_Compare (a b:ByteArray) (w:World) :
  Calls Tryz.prog 122 #[.string a,.string b] w fun e w'=>e = .returned (.int .i64 (Lib.compareBytes a.data.toList b.data.toList))∧w'=w:=Any.strings_Compare lays106 a b w
def lays137_ren:Go.Shelf.Ren:=⟨fun|137=>165|217=>73|266=>123|n=>n,fun|9=>9|5=>5|3=>3|n=>n,fun|n=>n⟩
theorem lays137:Go.Proofs.Lays.n137 Tryz.prog lays137_ren:={
 mixed:=by kernel_rfl
 f137:=Tryz.func165.trans (congrArg some (by kernel_rfl))
 f217:=Tryz.func73.trans (congrArg some (by kernel_rfl))
 f266:=Tryz.func123.trans (congrArg some (by kernel_rfl))
 t3:=Tryz.underlying3
 a3:=Tryz.isAgg3
 z3:=Tryz.sizeOf3
 v3:=Tryz.zeroValue3
 t5:=Tryz.underlying5
 a5:=Tryz.isAgg5
 z5:=Tryz.sizeOf5
 v5:=Tryz.zeroValue5
 t9:=Tryz.underlying9
 a9:=Tryz.isAgg9
 z9:=Tryz.sizeOf9
 v9:=Tryz.zeroValue9 }
open Go.RowKit in
theorem strings_IndexByte (s:ByteArray) (c:Int) (w:World) :
  Calls Tryz.prog 165 #[.string s,.int .u8 c] w fun e w'=>e = .returned (.int .i64 (Lib.indexByte s.data.toList c.toNat.toUInt8))∧w'=w:=Any.strings_IndexByte lays137 s c w
def lays103_ren:Go.Shelf.Ren:=⟨fun|103=>114|210=>144|206=>168|n=>n,fun|9=>9|4=>4|24=>95|3=>3|n=>n,fun|n=>n⟩
theorem lays103:Go.Proofs.Lays.n103 Tryz.prog lays103_ren:={
 mixed:=by kernel_rfl
 f103:=Tryz.func114.trans (congrArg some (by kernel_rfl))
 f206:=Tryz.func168.trans (congrArg some (by kernel_rfl))
 f210:=Tryz.func144.trans (congrArg some (by kernel_rfl))
 t3:=Tryz.underlying3
 a3:=Tryz.isAgg3
 z3:=Tryz.sizeOf3
 v3:=Tryz.zeroValue3
 t4:=Tryz.underlying4
 a4:=Tryz.isAgg4
 z4:=Tryz.sizeOf4
 v4:=Tryz.zeroValue4
 t9:=Tryz.underlying9
 a9:=Tryz.isAgg9
 z9:=Tryz.sizeOf9
 v9:=Tryz.zeroValue9
 t24:=Tryz.underlying95
 a24:=Tryz.isAgg95
 z24:=Tryz.sizeOf95
 v24:=Tryz.zeroValue95 }
open Go.RowKit in
theorem strings_CutPrefix (s p:ByteArray) (w:World) :
  Calls Tryz.prog 114 #[.string s,.string p] w fun e w'=>e = .returned (.tuple #[.string ⟨(Lib.trimPrefix s.data.toList p.data.toList).toArray⟩,.bool (Lib.hasPrefix s.data.toList p.data.toList)])∧w'=w:=Any.strings_CutPrefix lays103 s p w
def lays171_ren:Go.Shelf.Ren:=⟨fun|171=>35|243=>70|246=>121|283=>152|284=>153|285=>154|286=>155|129=>179|317=>178|318=>180|319=>181|320=>182|337=>195|338=>196|n=>n,fun|3=>3|9=>9|2=>2|4=>4|171=>171|0=>0|53=>172|37=>175|5=>5|173=>176|212=>196|51=>155|20=>20|213=>197|46=>126|232=>216|233=>217|n=>n,fun|17=>1|18=>2|19=>3|n=>n⟩
theorem lays171:Go.Proofs.Lays.n171 Tryz.prog lays171_ren:={
 mixed:=by kernel_rfl
 f129:=Tryz.func179.trans (congrArg some (by kernel_rfl))
 f171:=Tryz.func35.trans (congrArg some (by kernel_rfl))
 f243:=Tryz.func70.trans (congrArg some (by kernel_rfl))
 f246:=Tryz.func121.trans (congrArg some (by kernel_rfl))
 f283:=Tryz.func152.trans (congrArg some (by kernel_rfl))
 f284:=Tryz.func153.trans (congrArg some (by kernel_rfl))
 f285:=Tryz.func154.trans (congrArg some (by kernel_rfl))
 f286:=Tryz.func155.trans (congrArg some (by kernel_rfl))
 f317:=Tryz.func178.trans (congrArg some (by kernel_rfl))
 f318:=Tryz.func180.trans (congrArg some (by kernel_rfl))
 f319:=Tryz.func181.trans (congrArg some (by kernel_rfl))
 f320:=Tryz.func182.trans (congrArg some (by kernel_rfl))
 f337:=Tryz.func195.trans (congrArg some (by kernel_rfl))
 f338:=Tryz.func196.trans (congrArg some (by kernel_rfl))
 t0:=Tryz.underlying0
 a0:=Tryz.isAgg0
 z0:=Tryz.sizeOf0
 v0:=Tryz.zeroValue0
 t2:=Tryz.underlying2
 a2:=Tryz.isAgg2
 z2:=Tryz.sizeOf2
 v2:=Tryz.zeroValue2
 t3:=Tryz.underlying3
 a3:=Tryz.isAgg3
 z3:=Tryz.sizeOf3
 v3:=Tryz.zeroValue3
 t4:=Tryz.underlying4
 a4:=Tryz.isAgg4
 z4:=Tryz.sizeOf4
 v4:=Tryz.zeroValue4
 t5:=Tryz.underlying5
 a5:=Tryz.isAgg5
 z5:=Tryz.sizeOf5
 v5:=Tryz.zeroValue5
 t9:=Tryz.underlying9
 a9:=Tryz.isAgg9
 z9:=Tryz.sizeOf9
 v9:=Tryz.zeroValue9
 t20:=Tryz.underlying20
 a20:=Tryz.isAgg20
 z20:=Tryz.sizeOf20
 v20:=Tryz.zeroValue20
 t37:=Tryz.underlying175
 a37:=Tryz.isAgg175
 z37:=Tryz.sizeOf175
 v37:=Tryz.zeroValue175
 t46:=Tryz.underlying126
 a46:=Tryz.isAgg126
 z46:=Tryz.sizeOf126
 v46:=Tryz.zeroValue126
 t51:=Tryz.underlying155
 a51:=Tryz.isAgg155
 z51:=Tryz.sizeOf155
 v51:=Tryz.zeroValue155
 t53:=Tryz.underlying172
 a53:=Tryz.isAgg172
 z53:=Tryz.sizeOf172
 v53:=Tryz.zeroValue172
 t171:=Tryz.underlying171
 a171:=Tryz.isAgg171
 z171:=Tryz.sizeOf171
 v171:=Tryz.zeroValue171
 t173:=Tryz.underlying176
 a173:=Tryz.isAgg176
 z173:=Tryz.sizeOf176
 v173:=Tryz.zeroValue176
 t212:=Tryz.underlying196
 a212:=Tryz.isAgg196
 z212:=Tryz.sizeOf196
 v212:=Tryz.zeroValue196
 t213:=Tryz.underlying197
 a213:=Tryz.isAgg197
 z213:=Tryz.sizeOf197
 t232:=Tryz.underlying216
 a232:=Tryz.isAgg216
 z232:=Tryz.sizeOf216
 v232:=Tryz.zeroValue216
 t233:=Tryz.underlying217
 a233:=Tryz.isAgg217
 z233:=Tryz.sizeOf217
 v233:=Tryz.zeroValue217
 g17:=by kernel_rfl
 g18:=by kernel_rfl
 g19:=by kernel_rfl }
open Go.RowKit Go.Sort Go.Lib in
theorem strconv_Itoa_small (i:Nat) (hi:i < 100) (w:World) :
  Calls Tryz.prog 35 #[.int .i64 i] w fun e w'=>e = .returned (.string ⟨(Lib.decDigits i).toArray⟩)∧w'=w:=Any.strconv_Itoa_small lays171 i hi w
def lays144_ren:Go.Shelf.Ren:=⟨fun|144=>96|143=>17|219=>39|217=>73|225=>74|224=>75|267=>76|266=>123|314=>124|n=>n,fun|9=>9|4=>4|3=>3|5=>5|46=>126|146=>156|51=>155|n=>n,fun|1=>0|n=>n⟩
theorem lays144:Go.Proofs.Lays.n144 Tryz.prog lays144_ren:={
 mixed:=by kernel_rfl
 f143:=Tryz.func17.trans (congrArg some (by kernel_rfl))
 f144:=Tryz.func96.trans (congrArg some (by kernel_rfl))
 f217:=Tryz.func73.trans (congrArg some (by kernel_rfl))
 f219:=Tryz.func39.trans (congrArg some (by kernel_rfl))
 f224:=Tryz.func75.trans (congrArg some (by kernel_rfl))
 f225:=Tryz.func74.trans (congrArg some (by kernel_rfl))
 f266:=Tryz.func123.trans (congrArg some (by kernel_rfl))
 f267:=Tryz.func76.trans (congrArg some (by kernel_rfl))
 f314:=Tryz.func124.trans (congrArg some (by kernel_rfl))
 t3:=Tryz.underlying3
 a3:=Tryz.isAgg3
 z3:=Tryz.sizeOf3
 v3:=Tryz.zeroValue3
 t4:=Tryz.underlying4
 a4:=Tryz.isAgg4
 z4:=Tryz.sizeOf4
 v4:=Tryz.zeroValue4
 t5:=Tryz.underlying5
 a5:=Tryz.isAgg5
 z5:=Tryz.sizeOf5
 v5:=Tryz.zeroValue5
 t9:=Tryz.underlying9
 a9:=Tryz.isAgg9
 z9:=Tryz.sizeOf9
 v9:=Tryz.zeroValue9
 t46:=Tryz.underlying126
 a46:=Tryz.isAgg126
 z46:=Tryz.sizeOf126
 v46:=Tryz.zeroValue126
 t51:=Tryz.underlying155
 a51:=Tryz.isAgg155
 z51:=Tryz.sizeOf155
 v51:=Tryz.zeroValue155
 t146:=Tryz.underlying156
 a146:=Tryz.isAgg156
 z146:=Tryz.sizeOf156
 v146:=Tryz.zeroValue156
 g1:=by kernel_rfl }
open Go.RowKit Go.Lib in
theorem strings_Contains (s sub:ByteArray) (m:Int) (w:World) (hs:s.size < 4294967281) (hm:w.cell? ⟨0,0,none⟩=some (.int .i64 m)) :
  Calls Tryz.prog 96 #[.string s,.string sub] w fun e w'=>e = .returned (.bool (Lib.contains s.data.toList sub.data.toList))∧w'=w:=Any.strings_Contains lays144 s sub m w hs hm
def lays99_ren:Go.Shelf.Ren:=⟨fun|99=>167|206=>168|n=>n,fun|9=>9|4=>4|3=>3|n=>n,fun|n=>n⟩
theorem lays99:Go.Proofs.Lays.n99 Tryz.prog lays99_ren:={
 mixed:=by kernel_rfl
 f99:=Tryz.func167.trans (congrArg some (by kernel_rfl))
 f206:=Tryz.func168.trans (congrArg some (by kernel_rfl))
 t3:=Tryz.underlying3
 a3:=Tryz.isAgg3
 z3:=Tryz.sizeOf3
 v3:=Tryz.zeroValue3
 t4:=Tryz.underlying4
 a4:=Tryz.isAgg4
 z4:=Tryz.sizeOf4
 v4:=Tryz.zeroValue4
 t9:=Tryz.underlying9
 a9:=Tryz.isAgg9
 z9:=Tryz.sizeOf9
 v9:=Tryz.zeroValue9 }
open Go.RowKit Go.Lib in
theorem strings_HasPrefix (s p:ByteArray) (w:World) :
  Calls Tryz.prog 167 #[.string s,.string p] w fun e w'=>e = .returned (.bool (Lib.hasPrefix s.data.toList p.data.toList))∧w'=w:=Any.strings_HasPrefix lays99 s p w
def lays146_ren:Go.Shelf.Ren:=⟨fun|146=>115|221=>145|268=>169|138=>170|143=>17|195=>189|197=>188|218=>190|219=>39|260=>199|217=>73|225=>74|224=>75|267=>76|266=>123|314=>124|n=>n,fun|9=>9|31=>34|3=>3|4=>4|0=>0|105=>201|21=>21|5=>5|46=>126|119=>218|139=>221|138=>220|146=>156|51=>155|n=>n,fun|1=>0|3=>4|4=>5|n=>n⟩
theorem lays146:Go.Proofs.Lays.n146 Tryz.prog lays146_ren:={
 mixed:=by kernel_rfl
 f138:=Tryz.func170.trans (congrArg some (by kernel_rfl))
 f143:=Tryz.func17.trans (congrArg some (by kernel_rfl))
 f146:=Tryz.func115.trans (congrArg some (by kernel_rfl))
 f195:=Tryz.func189.trans (congrArg some (by kernel_rfl))
 f197:=Tryz.func188.trans (congrArg some (by kernel_rfl))
 f217:=Tryz.func73.trans (congrArg some (by kernel_rfl))
 f218:=Tryz.func190.trans (congrArg some (by kernel_rfl))
 f219:=Tryz.func39.trans (congrArg some (by kernel_rfl))
 f221:=Tryz.func145.trans (congrArg some (by kernel_rfl))
 f224:=Tryz.func75.trans (congrArg some (by kernel_rfl))
 f225:=Tryz.func74.trans (congrArg some (by kernel_rfl))
 f260:=Tryz.func199.trans (congrArg some (by kernel_rfl))
 f266:=Tryz.func123.trans (congrArg some (by kernel_rfl))
 f267:=Tryz.func76.trans (congrArg some (by kernel_rfl))
 f268:=Tryz.func169.trans (congrArg some (by kernel_rfl))
 f314:=Tryz.func124.trans (congrArg some (by kernel_rfl))
 t0:=Tryz.underlying0
 a0:=Tryz.isAgg0
 z0:=Tryz.sizeOf0
 v0:=Tryz.zeroValue0
 t3:=Tryz.underlying3
 a3:=Tryz.isAgg3
 z3:=Tryz.sizeOf3
 v3:=Tryz.zeroValue3
 t4:=Tryz.underlying4
 a4:=Tryz.isAgg4
 z4:=Tryz.sizeOf4
 v4:=Tryz.zeroValue4
 t5:=Tryz.underlying5
 a5:=Tryz.isAgg5
 z5:=Tryz.sizeOf5
 v5:=Tryz.zeroValue5
 t9:=Tryz.underlying9
 a9:=Tryz.isAgg9
 z9:=Tryz.sizeOf9
 v9:=Tryz.zeroValue9
 t21:=Tryz.underlying21
 a21:=Tryz.isAgg21
 z21:=Tryz.sizeOf21
 v21:=Tryz.zeroValue21
 t31:=Tryz.underlying34
 a31:=Tryz.isAgg34
 z31:=Tryz.sizeOf34
 v31:=Tryz.zeroValue34
 t46:=Tryz.underlying126
 a46:=Tryz.isAgg126
 z46:=Tryz.sizeOf126
 v46:=Tryz.zeroValue126
 t51:=Tryz.underlying155
 a51:=Tryz.isAgg155
 z51:=Tryz.sizeOf155
 v51:=Tryz.zeroValue155
 t105:=Tryz.underlying201
 a105:=Tryz.isAgg201
 z105:=Tryz.sizeOf201
 v105:=Tryz.zeroValue201
 t119:=Tryz.underlying218
 a119:=Tryz.isAgg218
 z119:=Tryz.sizeOf218
 t138:=Tryz.underlying220
 a138:=Tryz.isAgg220
 z138:=Tryz.sizeOf220
 v138:=Tryz.zeroValue220
 t139:=Tryz.underlying221
 a139:=Tryz.isAgg221
 z139:=Tryz.sizeOf221
 v139:=Tryz.zeroValue221
 t146:=Tryz.underlying156
 a146:=Tryz.isAgg156
 z146:=Tryz.sizeOf156
 v146:=Tryz.zeroValue156
 g1:=by kernel_rfl
 g3:=by kernel_rfl
 g4:=by kernel_rfl }
open Go.RowKit Go.Lib in
theorem strings_Split (s sep:ByteArray) (m:Int) (w:World) (hs:s.size < 4294967281) (hm:w.cell? ⟨0,0,none⟩=some (.int .i64 m)) (h1:1≤sep.size) :
  Calls Tryz.prog 115 #[.string s,.string sep] w fun e w' =>
   e = .returned (.slice (some ⟨w.heap.size,0,none⟩) (Lib.countB s sep+1) (Lib.countB s sep+1))∧w'=w.alloc (.cells ((Lib.splitB sep 0 (Lib.countB s sep) s).map Value.string).toArray 9):=Any.strings_Split lays146 (by kernel_rfl) s sep m w hs hm h1
def lays155_ren:Go.Shelf.Ren:=⟨fun|155=>134|154=>166|138=>170|165=>162|143=>17|166=>163|197=>188|169=>164|195=>189|218=>190|240=>186|241=>187|219=>39|260=>199|276=>197|277=>198|217=>73|225=>74|224=>75|267=>76|266=>123|314=>124|n=>n,fun|9=>9|3=>3|4=>4|72=>180|0=>0|76=>184|105=>201|21=>21|5=>5|70=>178|20=>20|37=>175|75=>183|127=>200|164=>209|46=>126|119=>218|139=>221|138=>220|146=>156|51=>155|80=>131|n=>n,fun|1=>0|3=>4|4=>5|n=>n⟩
theorem lays155:Go.Proofs.Lays.n155 Tryz.prog lays155_ren:={
 mixed:=by kernel_rfl
 f138:=Tryz.func170.trans (congrArg some (by kernel_rfl))
 f143:=Tryz.func17.trans (congrArg some (by kernel_rfl))
 f154:=Tryz.func166.trans (congrArg some (by kernel_rfl))
 f155:=Tryz.func134.trans (congrArg some (by kernel_rfl))
 f165:=Tryz.func162.trans (congrArg some (by kernel_rfl))
 f166:=Tryz.func163.trans (congrArg some (by kernel_rfl))
 f169:=Tryz.func164.trans (congrArg some (by kernel_rfl))
 f195:=Tryz.func189.trans (congrArg some (by kernel_rfl))
 f197:=Tryz.func188.trans (congrArg some (by kernel_rfl))
 f217:=Tryz.func73.trans (congrArg some (by kernel_rfl))
 f218:=Tryz.func190.trans (congrArg some (by kernel_rfl))
 f219:=Tryz.func39.trans (congrArg some (by kernel_rfl))
 f224:=Tryz.func75.trans (congrArg some (by kernel_rfl))
 f225:=Tryz.func74.trans (congrArg some (by kernel_rfl))
 f240:=Tryz.func186.trans (congrArg some (by kernel_rfl))
 f241:=Tryz.func187.trans (congrArg some (by kernel_rfl))
 f260:=Tryz.func199.trans (congrArg some (by kernel_rfl))
 f266:=Tryz.func123.trans (congrArg some (by kernel_rfl))
 f267:=Tryz.func76.trans (congrArg some (by kernel_rfl))
 f276:=Tryz.func197.trans (congrArg some (by kernel_rfl))
 f277:=Tryz.func198.trans (congrArg some (by kernel_rfl))
 f314:=Tryz.func124.trans (congrArg some (by kernel_rfl))
 t0:=Tryz.underlying0
 a0:=Tryz.isAgg0
 z0:=Tryz.sizeOf0
 v0:=Tryz.zeroValue0
 t3:=Tryz.underlying3
 a3:=Tryz.isAgg3
 z3:=Tryz.sizeOf3
 v3:=Tryz.zeroValue3
 t4:=Tryz.underlying4
 a4:=Tryz.isAgg4
 z4:=Tryz.sizeOf4
 v4:=Tryz.zeroValue4
 t5:=Tryz.underlying5
 a5:=Tryz.isAgg5
 z5:=Tryz.sizeOf5
 v5:=Tryz.zeroValue5
 t9:=Tryz.underlying9
 a9:=Tryz.isAgg9
 z9:=Tryz.sizeOf9
 v9:=Tryz.zeroValue9
 t20:=Tryz.underlying20
 a20:=Tryz.isAgg20
 z20:=Tryz.sizeOf20
 v20:=Tryz.zeroValue20
 t21:=Tryz.underlying21
 a21:=Tryz.isAgg21
 z21:=Tryz.sizeOf21
 v21:=Tryz.zeroValue21
 t37:=Tryz.underlying175
 a37:=Tryz.isAgg175
 z37:=Tryz.sizeOf175
 v37:=Tryz.zeroValue175
 t46:=Tryz.underlying126
 a46:=Tryz.isAgg126
 z46:=Tryz.sizeOf126
 v46:=Tryz.zeroValue126
 t51:=Tryz.underlying155
 a51:=Tryz.isAgg155
 z51:=Tryz.sizeOf155
 v51:=Tryz.zeroValue155
 t70:=Tryz.underlying178
 a70:=Tryz.isAgg178
 z70:=Tryz.sizeOf178
 v70:=Tryz.zeroValue178
 t72:=Tryz.underlying180
 a72:=Tryz.isAgg180
 z72:=Tryz.sizeOf180
 v72:=Tryz.zeroValue180
 t75:=Tryz.underlying183
 a75:=Tryz.isAgg183
 z75:=Tryz.sizeOf183
 v75:=Tryz.zeroValue183
 t76:=Tryz.underlying184
 a76:=Tryz.isAgg184
 z76:=Tryz.sizeOf184
 v76:=Tryz.zeroValue184
 t105:=Tryz.underlying201
 a105:=Tryz.isAgg201
 z105:=Tryz.sizeOf201
 v105:=Tryz.zeroValue201
 t119:=Tryz.underlying218
 a119:=Tryz.isAgg218
 z119:=Tryz.sizeOf218
 t127:=Tryz.underlying200
 a127:=Tryz.isAgg200
 z127:=Tryz.sizeOf200
 v127:=Tryz.zeroValue200
 t138:=Tryz.underlying220
 a138:=Tryz.isAgg220
 z138:=Tryz.sizeOf220
 v138:=Tryz.zeroValue220
 t139:=Tryz.underlying221
 a139:=Tryz.isAgg221
 z139:=Tryz.sizeOf221
 v139:=Tryz.zeroValue221
 t146:=Tryz.underlying156
 a146:=Tryz.isAgg156
 z146:=Tryz.sizeOf156
 v146:=Tryz.zeroValue156
 t164:=Tryz.underlying209
 a164:=Tryz.isAgg209
 z164:=Tryz.sizeOf209
 v164:=Tryz.zeroValue209
 g1:=by kernel_rfl
 g3:=by kernel_rfl
 g4:=by kernel_rfl }
theorem Builder_Extra_155:Builder.Extra Tryz.prog lays155_ren:={
 sizeBuilder:=by kernel_rfl
 liesBuilder:=by kernel_rfl
 t5:=Tryz.underlying5
 a5:=Tryz.isAgg5
 z5:=Tryz.sizeOf5
 v5:=Tryz.zeroValue5
 infoByte:=by kernel_rfl
 cellsByte:=by kernel_rfl
 sizeByte:=by kernel_rfl
 neB5:=by decide }
open Go.RowKit Go.Lib in
theorem strings_ReplaceAll (s old new:ByteArray) (m:Int) (w:World) (hs:s.size < 4294967281) (hm:w.cell? ⟨0,0,none⟩=some (.int .i64 m)) (h1:1≤old.size) (hlen:s.size+Lib.countB s old * new.size≤140737488355328) :
  Calls Tryz.prog 134 #[.string s,.string old,.string new] w fun e w' =>
   e = .returned (.string ⟨(Lib.replaceAll s.data.toList old.data.toList new.data.toList).toArray⟩)∧Below w.heap.size w w':=Any.strings_ReplaceAll lays155 Builder_Extra_155 s old new m w hs hm h1 hlen
def lays150_ren:Go.Shelf.Ren:=⟨fun|150=>119|153=>151|152=>174|226=>175|227=>176|228=>177|137=>165|119=>194|224=>75|225=>74|217=>73|266=>123|n=>n,fun|9=>9|4=>4|3=>3|5=>5|21=>21|117=>192|116=>191|0=>0|46=>126|124=>207|n=>n,fun|n=>n⟩
theorem lays150:Go.Proofs.Lays.n150 Tryz.prog lays150_ren:={
 mixed:=by kernel_rfl
 f119:=Tryz.func194.trans (congrArg some (by kernel_rfl))
 f137:=Tryz.func165.trans (congrArg some (by kernel_rfl))
 f150:=Tryz.func119.trans (congrArg some (by kernel_rfl))
 f152:=Tryz.func174.trans (congrArg some (by kernel_rfl))
 f153:=Tryz.func151.trans (congrArg some (by kernel_rfl))
 f217:=Tryz.func73.trans (congrArg some (by kernel_rfl))
 f224:=Tryz.func75.trans (congrArg some (by kernel_rfl))
 f225:=Tryz.func74.trans (congrArg some (by kernel_rfl))
 f226:=Tryz.func175.trans (congrArg some (by kernel_rfl))
 f227:=Tryz.func176.trans (congrArg some (by kernel_rfl))
 f228:=Tryz.func177.trans (congrArg some (by kernel_rfl))
 f266:=Tryz.func123.trans (congrArg some (by kernel_rfl))
 t0:=Tryz.underlying0
 a0:=Tryz.isAgg0
 z0:=Tryz.sizeOf0
 v0:=Tryz.zeroValue0
 t3:=Tryz.underlying3
 a3:=Tryz.isAgg3
 z3:=Tryz.sizeOf3
 v3:=Tryz.zeroValue3
 t4:=Tryz.underlying4
 a4:=Tryz.isAgg4
 z4:=Tryz.sizeOf4
 v4:=Tryz.zeroValue4
 t5:=Tryz.underlying5
 a5:=Tryz.isAgg5
 z5:=Tryz.sizeOf5
 v5:=Tryz.zeroValue5
 t9:=Tryz.underlying9
 a9:=Tryz.isAgg9
 z9:=Tryz.sizeOf9
 v9:=Tryz.zeroValue9
 t21:=Tryz.underlying21
 a21:=Tryz.isAgg21
 z21:=Tryz.sizeOf21
 v21:=Tryz.zeroValue21
 t46:=Tryz.underlying126
 a46:=Tryz.isAgg126
 z46:=Tryz.sizeOf126
 v46:=Tryz.zeroValue126
 t116:=Tryz.underlying191
 a116:=Tryz.isAgg191
 z116:=Tryz.sizeOf191
 t117:=Tryz.underlying192
 a117:=Tryz.isAgg192
 z117:=Tryz.sizeOf192
 v117:=Tryz.zeroValue192
 t124:=Tryz.underlying207
 a124:=Tryz.isAgg207
 z124:=Tryz.sizeOf207
 v124:=Tryz.zeroValue207 }
open Go.RowKit Go.Lib in
theorem strings_ContainsAny_laid (s chars:ByteArray) (w:World) (hs:s.size < 4294967281) (hcs:chars.size < 4294967281) (has:∀ (j:Nat) b,s.data.toList[j]? = some b → b.toNat < 128) (hac:∀ (j:Nat) b,chars.data.toList[j]? = some b → b.toNat < 128) :
  Calls Tryz.prog 119 #[.string s,.string chars] w fun e w'=>e = .returned (.bool (Lib.containsAny s.data.toList chars.data.toList))∧Below w.heap.size w w':=Any.strings_ContainsAny_laid lays150 (by kernel_rfl) s chars w hs hcs has hac
end Go.Proofs.YthconflkbeipoaaGreatDoor
namespace Go.Proofs.YthconflkbeipoaaGreatDoor
open Go.RowKit
open IntWalk renaming iteOmega → iO, toNatUp → tN
set_option linter.unusedVariables false
set_option linter.unusedSimpArgs false
theorem lower_pure:PCalls Tryz.prog 172 [.c (.v (.string ⟨upperT.toArray⟩))] [] fun r os=>r = .c (.v (.string ⟨lowerT.toArray⟩))∧os=[] :=
 pcalls_plain [.string ⟨upperT.toArray⟩] _ rfl fun w _=>(strings_ToLower_ascii ⟨upperT.toArray⟩ w (by decide) (fun j b hb=>by
  have:∀ b ∈ upperT,b.toNat < 128:=by decide
  exact this b (List.mem_of_getElem? hb))).mono fun e w' ⟨he,hw⟩=>by
  rw [he]
  exact ⟨by congr,hw⟩
theorem idxb_pure (s:ByteArray) (c:Int):PCalls Tryz.prog 165 [.c (.v (.string s)),.c (.v (.int .u8 c))] [] fun r os=>r = .c (.v (.int .i64 (Lib.indexByte s.data.toList c.toNat.toUInt8)))∧os=[] :=
 pcalls_plain [.string s,.int .u8 c] _ rfl fun w _=>(strings_IndexByte s c w).mono fun e w' ⟨he,hw⟩=>by rw [he,hw];exact ⟨rfl,Below.refl _ _⟩
theorem cmpB_eq (a b:ByteArray):Lib.compareBytes a.data.toList b.data.toList=cmpS a b:=by
 have h1:=compare_lt a.data.toList b.data.toList
 have h2:=compare_eq a.data.toList b.data.toList
 have h3:∀ x y:List UInt8,Lib.compareBytes x y = -1∨Lib.compareBytes x y=0∨Lib.compareBytes x y=1:=by
  intro x
  induction x with
  | nil=>intro y;cases y<;>simp [Lib.compareBytes]
  | cons a x ih =>
   intro y
   cases y with
   | nil=>simp [Lib.compareBytes]
   | cons b y=>rw [Lib.compareBytes];split;simp;split;simp;exact ih y
 have h4:=h3 a.data.toList b.data.toList
 have hb:Op.bytesLess a.data.toList b.data.toList=bless a b:=by unfold bless;rw [Lib.toList_data,Lib.toList_data]
 rw [hb] at h1
 unfold cmpS
 by_cases e1:bless a b=true
 ·rw [if_pos e1];have:=h1.2 e1;omega
 ·rw [if_neg e1]
  by_cases e2:bless b a=true
  ·rw [if_pos e2]
   have hn:¬ Lib.compareBytes a.data.toList b.data.toList=0:=fun h=>by
    have he:=h2.1 h
    have:a=b:=by cases a;cases b;simp only at he;congr;exact Array.toList_inj.1 he
    exact bless_ne e2 this.symm
   have:¬ Lib.compareBytes a.data.toList b.data.toList < 0:=fun h=>e1 (h1.1 h)
   omega
  ·rw [if_neg e2]
   have:a=b:=bless_total (by simpa using e1) (by simpa using e2)
   rw [h2,this]
theorem scmp_pure (a b:ByteArray):PCalls Tryz.prog 122 [.c (.v (.string a)),.c (.v (.string b))] [] fun r os=>r = .c (.v (.int .i64 (cmpS a b)))∧os=[] :=
 pcalls_plain [.string a,.string b] _ rfl fun w _=>(strings_Compare a b w).mono fun e w' ⟨he,hw⟩=>by rw [he,hw,cmpB_eq];exact ⟨rfl,Below.refl _ _⟩
theorem repl_pure (s:ByteArray) (hs:s.size < 4294967281):PCalls Tryz.prog 134 [.c (.v (.string s)),.c (.v (.string ⟨#[33]⟩)),.c (.v (.string ⟨#[47]⟩))] [] fun r os=>r = .c (.v (.string (nodeS s)))∧os=[] :=
 pcalls_plain [.string s,.string ⟨#[33]⟩,.string ⟨#[47]⟩] _ rfl fun w hp=>by
  obtain ⟨m,hm⟩:=hp
  refine (strings_ReplaceAll s ⟨#[33]⟩ ⟨#[47]⟩ m w hs hm (by decide) (by
   have h:=Lib.countB_le ⟨#[33]⟩ (by decide) _ s (Nat.le_refl _)
   show _+_ * 1≤_
   omega)).mono fun e w' ⟨he,hw⟩=>?_
  exact ⟨he,hw⟩
theorem lcontains_one (c:UInt8):∀ l:List UInt8,Lib.contains l [c]=l.contains c:=by
 have key:∀ l:List UInt8,Lib.index l [c]=Lib.indexByte l c:=by
  intro l
  induction l with
  | nil=>rfl
  | cons b l ih =>
   rw [Lib.index,Lib.indexByte,ih]
   by_cases h:b=c
   ·subst h;simp
   ·simp [h,Ne.symm h]
 intro l
 rw [Lib.contains,key,Lib.contains_iff_indexByte]
theorem contains_pure (s:ByteArray) (c:UInt8) (hs:s.size < 4294967281):PCalls Tryz.prog 96 [.c (.v (.string s)),.c (.v (.string ⟨#[c]⟩))] [] fun r os=>r = .c (.v (.bool (s.data.toList.contains c)))∧os=[] :=
 pcalls_plain [.string s,.string ⟨#[c]⟩] _ rfl fun w hp=>by
  obtain ⟨m,hm⟩:=hp
  refine (strings_Contains s ⟨#[c]⟩ m w hs hm).mono fun e w' ⟨he,hw⟩=>?_
  rw [he,hw]
  exact ⟨by rw [show (⟨#[c]⟩:ByteArray).data.toList=[c] from rfl,lcontains_one],Below.refl _ _⟩
theorem texts_rows (w:World) (I:Nat → Prop):∀ l:List ByteArray,All2 (RD w I) (l.map strD).flatten (l.map Value.string)
 | []=>trivial
 | a :: l=>⟨by rw [RD];exact ⟨rfl,rfl⟩,texts_rows w I l⟩
theorem split_pure (s:ByteArray) (hs:s.size < 4294967281):PCalls Tryz.prog 115 [.c (.v (.string s)),.c (.v (.string ⟨#[47]⟩))] [] fun r os=>r = .c (.own 0 (parts s).length)∧os=[.arr 9 1 ((parts s).map strD)]:=by
 have h:=pcalls_row (P:=Tryz.prog) (g:=115) [.string s,.string ⟨#[47]⟩] 9 ((parts s).map strD) ((parts s).map Value.string) 1 (by omega) (fun r hr=>by obtain ⟨z,_,rfl⟩:=List.mem_map.1 hr;rfl) (by rw [List.length_map];exact parts_ne s) (fun w I=>texts_rows w I _)
  (fun w hp=>by
   obtain ⟨m,hm⟩:=hp
   refine (strings_Split s ⟨#[47]⟩ m w hs hm (by decide)).mono fun e w' ⟨he,hw⟩=>?_
   have hlen:Lib.countB s ⟨#[47]⟩+1=(parts s).length:=by rw [← splitB_parts,Lib.splitB_all _ (by decide) 0 _ s rfl]
   rw [splitB_parts] at hw
   rw [hlen] at he
   refine ⟨_,he,?_,by rw [hw];exact (Below.refl _ _).alloc (Nat.le_refl _) _⟩
   rw [hw,List.length_map]
   have:=own_blk (base:=w.heap.size) (n:=(parts s).length) (cap:=(parts s).length) (size:=1) (Blk.new w 9 ((parts s).map Value.string).toArray) (Nat.le_refl _) (by simp) (Nat.le_refl _) (by have:=parts_size (s:=s);unfold maxLen;omega)
   rwa [List.toList_toArray,List.take_of_length_le (by simp)] at this)
 simpa using h
end Go.Proofs.YthconflkbeipoaaGreatDoor
namespace Go.Proofs.YthconflkbeipoaaGreatDoor
attribute [local irreducible] PL QL PWPr PCalls Weak RetK Kontr PA
open Go.RowKit
open IntWalk renaming iteOmega → iO, toNatUp → tN
set_option linter.unusedVariables false
set_option linter.unusedSimpArgs false
set_option maxRecDepth 20000
def idxI:List Dev → Int → Int
 | [],_ => -1
 | d :: l,n=>if d.index=n then 0 else if idxI l n < 0 then -1 else idxI l n+1
theorem idxI_find (n:Int):∀ l:List Dev,(idxI l n = -1∧findD l n=none)∨∃ i:Nat,idxI l n=i∧i < l.length∧findD l n=some (l.getD i default)
 | []=>.inl ⟨rfl,rfl⟩
 | d :: l=>by
  by_cases h:d.index=n
  ·exact .inr ⟨0,by simp [idxI,h],by simp,by simp [findD,h]⟩
  ·have hf:findD (d :: l) n=findD l n:=by unfold findD;rw [List.find?_cons_of_neg (by simpa using h)]
   rw [hf,idxI,if_neg h]
   rcases idxI_find n l with ⟨h1,h2⟩|⟨i,h1,h2,h3⟩
   ·exact .inl ⟨by rw [h1];rfl,h2⟩
   ·exact .inr ⟨i+1,by rw [h1,if_neg (by omega)];omega,by simp only [List.length_cons];omega,by rw [h3];rfl⟩
theorem idxI_skip {n:Int} {b:List Dev}:∀ {a:List Dev},(∀ d ∈ a,d.index≠n) → idxI (a++b) n=if idxI b n < 0 then -1 else a.length+idxI b n
 | [],_=>by
  rcases idxI_find n b with ⟨h1,_⟩|⟨i,h1,_⟩
  ·simp [h1]
  ·rw [List.nil_append,h1,if_neg (by omega)];simp
 | x :: a,h=>by
  rw [List.cons_append,idxI,if_neg (h x (by simp)),idxI_skip fun d hd=>h d (by simp [hd])]
  split
  ·simp
  ·rw [if_neg (by omega),List.length_cons];omega
theorem idxI_at {l:List Dev} {n:Int} {k:Nat} (hk:k < l.length) (h0:∀ d ∈ l.take k,d.index≠n) (h:(l.getD k default).index=n):idxI l n=k:=by
 have e:l=l.take k++l[k] :: l.drop (k+1):=by rw [← List.drop_eq_getElem_cons hk,List.take_append_drop]
 rw [getD_lt l hk] at h
 rw [e,idxI_skip h0,idxI,if_pos h,List.length_take]
 simp
 omega
theorem idxI_none {l:List Dev} {n:Int} (h:∀ d ∈ l,d.index≠n):idxI l n = -1:=by
 rcases idxI_find n l with ⟨h1,_⟩|⟨i,_,h2,h3⟩
 ·exact h1
 ·rw [findD_none.2 h] at h3;cases h3
theorem dnext {l:List Dev} {n:Int} {k:Nat} (hk:k < l.length) (h0:∀ d ∈ l.take k,d.index≠n) (h:¬ (l.getD k default).index=n):∀ d ∈ l.take (k+1),d.index≠n:=by
 intro y hy
 rw [List.take_succ_eq_append_getElem hk,List.mem_append,List.mem_singleton] at hy
 rcases hy with hy|hy
 ·exact h0 y hy
 ·rw [hy,← getD_lt l hk];exact h
set_option maxHeartbeats 1000000 in
theorem rindex_pure (l:List Dev) (n:Int) (hl:l.length≤1000000000) :
  PCalls Tryz.prog 126 [.c (.sl 10 (l.map Dev.d)),.c (.v (.int .i64 n))] [] fun r os=>r = .c (.v (.int .i64 (idxI l n)))∧os=[]:=by
 refine pcalls_of Tryz.func126 rfl (by simp [Tryz.ntmps126]) ?_
 rw [Tryz.ntmps126,Tryz.results126]
 push_cast [iO,tN]
 have cB:CutB 6 []:=trivial
 repeat' (first|((first|refine pC ?_|refine pQC ?_|refine pU ?_);push_cast [iO,tN])|(refine pif (fun h=>?_) (fun h=>?_)<;>first|exact pN h|push_cast [iO,tN]))
 (apply pwp_loop3 (α:=Nat) 6 [] (fun k=>[(5,.c (.v (.int .i64 k)))]) (fun k=>[]) (fun k=>k≤l.length∧∀ d ∈ l.take k,d.index≠n) (fun k=>l.length - k) (0);(focus ((try push_cast [iO,tN]);rfl));(focus exact ⟨by omega,by simp⟩);(focus ((refine weak_fg ?_;try push_cast [iO,tN]))))
 rintro k ⟨hk,h0⟩
 push_cast [iO,tN]
 by_cases hlt:k < l.length
 ·by_cases hn:(l.getD k default).index=n
  ·have hg:=idxI_at hlt h0 hn
   have hn':=eq_true hn
   repeat' (first|((first|refine pC ?_|refine pQC ?_|refine pU ?_);push_cast [iO,tN,hn'])|(refine pif (fun h=>?_) (fun h=>?_)<;>first|exact pN h|push_cast [iO,tN,hn']))
   (refine retK_of [] ?_;push_cast [iO,tN])
   all_goals rw [hg]
  ·have h1:=dnext hlt h0 hn
   repeat' (first|((first|refine pC ?_|refine pQC ?_|refine pU ?_);push_cast [iO,tN,hn])|(refine pif (fun h=>?_) (fun h=>?_)<;>first|exact pN h|push_cast [iO,tN,hn]))
   exact ⟨k+1,⟨by omega,h1⟩,by (refine weak_fg ?_;push_cast [iO,tN]),by omega⟩
 ·rw [List.take_of_length_le (by omega)] at h0
  have hg:=idxI_none h0
  repeat' (first|((first|refine pC ?_|refine pQC ?_|refine pU ?_);push_cast [iO,tN])|(refine pif (fun h=>?_) (fun h=>?_)<;>first|exact pN h|push_cast [iO,tN]))
  (refine retK_of [] ?_;push_cast [iO,tN])
  all_goals rw [hg]
set_option maxHeartbeats 1000000 in
theorem rfind_pure (l:List Dev) (n:Int) (hl:l.length≤1000000000) :
  PCalls Tryz.prog 133 [.agg (trE l),.c (.v (.int .i64 n))] [] fun r os=>r = .two (.agg ((findD l n).getD default).e) (.c (.v (.bool ((findD l n).isSome))))∧os=[]:=by
 have hi:=rindex_pure l n hl
 refine pcalls_of Tryz.func133 rfl (by simp [Tryz.ntmps133]) ?_
 rw [Tryz.ntmps133,Tryz.results133]
 rcases idxI_find n l with ⟨h1,h2⟩|⟨i,h1,h2,h3⟩
 ·rw [h1] at hi
  rw [h2]
  push_cast [iO,tN]
  repeat' (first |  (refine plc [] (hi) ?_ ?_;push_cast [iO,tN];rintro r os ⟨rfl,rfl⟩;push_cast [iO,tN])  | ((first|refine pG ?_|refine pQ ?_|refine pU ?_);push_cast [iO,tN])|(refine pif (fun h=>?_) (fun h=>?_)<;>first|exact pN h|push_cast [iO,tN]))
  (refine retK_of [] ?_;push_cast [iO,tN])
  all_goals exact ⟨⟨rfl,rfl,rfl,rfl,rfl,rfl,rfl,rfl,rfl,rfl⟩,rfl⟩
 ·rw [h1] at hi
  rw [h3]
  push_cast [iO,tN]
  repeat' (first |  (refine plc [] (hi) ?_ ?_;push_cast [iO,tN];rintro r os ⟨rfl,rfl⟩;push_cast [iO,tN])  | ((first|refine pG ?_|refine pQ ?_|refine pU ?_);push_cast [iO,tN])|(refine pif (fun h=>?_) (fun h=>?_)<;>first|exact pN h|push_cast [iO,tN]))
  (refine retK_of [] ?_;push_cast [iO,tN])
  all_goals exact ⟨⟨rfl,rfl,rfl,rfl,rfl,rfl,rfl,rfl,rfl,rfl⟩,rfl⟩
end Go.Proofs.YthconflkbeipoaaGreatDoor
