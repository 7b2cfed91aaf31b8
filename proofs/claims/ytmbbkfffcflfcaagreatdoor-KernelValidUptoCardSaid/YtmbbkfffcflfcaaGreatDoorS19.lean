/- What the program computes, and the plain laws of it, part 19. -/
import Derived.Shelf.Strings.Builder1
import Derived.Shelf.Strings.Builder2
import Derived.Shelf.Strings.OnBuilder
import Derived.Shelf.Small.Utf8
import Derived.Shelf.Small.Strs
import Derived.Shelf.Small.Wraps
import Derived.Shelf.Strings.Search1
import Derived.Shelf.Strings.Search2
import Derived.Shelf.Strings.Search3
import Derived.Shelf.Strings.Count
import Derived.Shelf.Strings.Shaped
import Derived.Shelf.Strings.Prefix
import Derived.Shelf.Strings.Split
import Derived.Shelf.Strings.Replace
import Derived.Shelf.Unicode.Latin
import Derived.Shelf.Strings.Runes
import Derived.Shelf.Strings.IndexAny
import Derived.Shelf.Strings.AsciiSet
import Derived.Shelf.Strings.IndexAnyAll
import Derived.Shelf.Unicode.DecodeSlow
import Derived.Shelf.Unicode.CaseLookup
import Derived.Shelf.Unicode.CaseConvert
import Derived.Shelf.Unicode.CaseTo
import Derived.Shelf.Unicode.CaseLaid
import Derived.Shelf.Slices.Turned
import Derived.Shelf.Slices.Delete
import Derived.Test.YtmbbkfffcflfcaaGreatDoorProg
import Derived.Lib.IndexAny
import Derived.Test.YtmbbkfffcflfcaaGreatDoorS18
namespace Go.Proofs.YtmbbkfffcflfcaaGreatDoor
open Go.Shelf
set_option maxHeartbeats 1000000
def lays159_ren:Go.Shelf.Ren:=⟨fun|159=>166|165=>171|166=>172|167=>204|169=>173|230=>205|204=>206|240=>210|241=>211|197=>227|118=>230|168=>231|270=>232|262=>233|276=>235|277=>236|260=>253|242=>254|313=>255|278=>263|274=>264|275=>265|n=>n,fun|9=>9|4=>4|3=>3|5=>5|72=>216|0=>0|76=>220|75=>219|107=>244|70=>213|20=>20|37=>214|127=>247|21=>21|105=>252|164=>258|162=>270|203=>268|119=>275|46=>248|139=>278|138=>277|51=>279|160=>280|208=>288|206=>286|80=>222|n=>n,fun|13=>1|3=>2|4=>3|n=>n⟩
theorem lays159:Go.Proofs.Lays.n159 Tryz.prog lays159_ren:={
 mixed:=by kernel_rfl
 f118:=Tryz.func230.trans (congrArg some (by kernel_rfl))
 f159:=Tryz.func166.trans (congrArg some (by kernel_rfl))
 f165:=Tryz.func171.trans (congrArg some (by kernel_rfl))
 f166:=Tryz.func172.trans (congrArg some (by kernel_rfl))
 f167:=Tryz.func204.trans (congrArg some (by kernel_rfl))
 f168:=Tryz.func231.trans (congrArg some (by kernel_rfl))
 f169:=Tryz.func173.trans (congrArg some (by kernel_rfl))
 f197:=Tryz.func227.trans (congrArg some (by kernel_rfl))
 f204:=Tryz.func206.trans (congrArg some (by kernel_rfl))
 f230:=Tryz.func205.trans (congrArg some (by kernel_rfl))
 f240:=Tryz.func210.trans (congrArg some (by kernel_rfl))
 f241:=Tryz.func211.trans (congrArg some (by kernel_rfl))
 f242:=Tryz.func254.trans (congrArg some (by kernel_rfl))
 f260:=Tryz.func253.trans (congrArg some (by kernel_rfl))
 f262:=Tryz.func233.trans (congrArg some (by kernel_rfl))
 f270:=Tryz.func232.trans (congrArg some (by kernel_rfl))
 f274:=Tryz.func264.trans (congrArg some (by kernel_rfl))
 f275:=Tryz.func265.trans (congrArg some (by kernel_rfl))
 f276:=Tryz.func235.trans (congrArg some (by kernel_rfl))
 f277:=Tryz.func236.trans (congrArg some (by kernel_rfl))
 f278:=Tryz.func263.trans (congrArg some (by kernel_rfl))
 f313:=Tryz.func255.trans (congrArg some (by kernel_rfl))
 t0:=Tryz.underlying0
 a0:=Tryz.isAgg0
 z0:=Tryz.sizeOf0
 v0:=Tryz.zeroValue0
 t3:=Tryz.underlying3
 a3:=Tryz.isAgg3
 z3:=Tryz.sizeOf3
 v3:=Tryz.zeroValue3
 t4:=Tryz.underlying4
 a4:=Tryz.isAgg4
 z4:=Tryz.sizeOf4
 v4:=Tryz.zeroValue4
 t5:=Tryz.underlying5
 a5:=Tryz.isAgg5
 z5:=Tryz.sizeOf5
 v5:=Tryz.zeroValue5
 t9:=Tryz.underlying9
 a9:=Tryz.isAgg9
 z9:=Tryz.sizeOf9
 v9:=Tryz.zeroValue9
 t20:=Tryz.underlying20
 a20:=Tryz.isAgg20
 z20:=Tryz.sizeOf20
 v20:=Tryz.zeroValue20
 t21:=Tryz.underlying21
 a21:=Tryz.isAgg21
 z21:=Tryz.sizeOf21
 v21:=Tryz.zeroValue21
 t37:=Tryz.underlying214
 a37:=Tryz.isAgg214
 z37:=Tryz.sizeOf214
 v37:=Tryz.zeroValue214
 t46:=Tryz.underlying248
 a46:=Tryz.isAgg248
 z46:=Tryz.sizeOf248
 v46:=Tryz.zeroValue248
 t51:=Tryz.underlying279
 a51:=Tryz.isAgg279
 z51:=Tryz.sizeOf279
 v51:=Tryz.zeroValue279
 t70:=Tryz.underlying213
 a70:=Tryz.isAgg213
 z70:=Tryz.sizeOf213
 v70:=Tryz.zeroValue213
 t72:=Tryz.underlying216
 a72:=Tryz.isAgg216
 z72:=Tryz.sizeOf216
 v72:=Tryz.zeroValue216
 t75:=Tryz.underlying219
 a75:=Tryz.isAgg219
 z75:=Tryz.sizeOf219
 v75:=Tryz.zeroValue219
 t76:=Tryz.underlying220
 a76:=Tryz.isAgg220
 z76:=Tryz.sizeOf220
 v76:=Tryz.zeroValue220
 t105:=Tryz.underlying252
 a105:=Tryz.isAgg252
 z105:=Tryz.sizeOf252
 v105:=Tryz.zeroValue252
 t107:=Tryz.underlying244
 a107:=Tryz.isAgg244
 z107:=Tryz.sizeOf244
 v107:=Tryz.zeroValue244
 t119:=Tryz.underlying275
 a119:=Tryz.isAgg275
 z119:=Tryz.sizeOf275
 t127:=Tryz.underlying247
 a127:=Tryz.isAgg247
 z127:=Tryz.sizeOf247
 v127:=Tryz.zeroValue247
 t138:=Tryz.underlying277
 a138:=Tryz.isAgg277
 z138:=Tryz.sizeOf277
 v138:=Tryz.zeroValue277
 t139:=Tryz.underlying278
 a139:=Tryz.isAgg278
 z139:=Tryz.sizeOf278
 v139:=Tryz.zeroValue278
 t160:=Tryz.underlying280
 a160:=Tryz.isAgg280
 z160:=Tryz.sizeOf280
 v160:=Tryz.zeroValue280
 t162:=Tryz.underlying270
 a162:=Tryz.isAgg270
 z162:=Tryz.sizeOf270
 v162:=Tryz.zeroValue270
 t164:=Tryz.underlying258
 a164:=Tryz.isAgg258
 z164:=Tryz.sizeOf258
 v164:=Tryz.zeroValue258
 t203:=Tryz.underlying268
 a203:=Tryz.isAgg268
 z203:=Tryz.sizeOf268
 v203:=Tryz.zeroValue268
 t206:=Tryz.underlying286
 a206:=Tryz.isAgg286
 z206:=Tryz.sizeOf286
 v206:=Tryz.zeroValue286
 t208:=Tryz.underlying288
 a208:=Tryz.isAgg288
 z208:=Tryz.sizeOf288
 v208:=Tryz.zeroValue288
 g3:=by kernel_rfl
 g4:=by kernel_rfl
 g13:=by kernel_rfl }
theorem Builder_Extra_159:Builder.Extra Tryz.prog lays159_ren:={
 sizeBuilder:=by kernel_rfl
 liesBuilder:=by kernel_rfl
 t5:=Tryz.underlying5
 a5:=Tryz.isAgg5
 z5:=Tryz.sizeOf5
 v5:=Tryz.zeroValue5
 infoByte:=by kernel_rfl
 cellsByte:=by kernel_rfl
 sizeByte:=by kernel_rfl
 neB5:=by decide }
open Go.RowKit in
theorem strings_ToLower_ascii (s:ByteArray) (w:World) (hs:s.size≤140737488355328) (hascii:∀ (j:Nat) (b:UInt8),s.data.toList[j]? = some b → b.toNat < 128) :
  Calls Tryz.prog 166 #[.string s] w fun e w'=>e = .returned (.string ⟨(Lib.toLowerA s.data.toList).toArray⟩)∧Below w.heap.size w w':=Any.strings_ToLower_ascii lays159 Builder_Extra_159 s w hs hascii
def lays156_ren:Go.Shelf.Ren:=⟨fun|156=>132|165=>171|166=>172|169=>173|240=>210|241=>211|276=>235|277=>236|n=>n,fun|31=>31|9=>9|3=>3|4=>4|0=>0|20=>20|72=>216|76=>220|70=>213|37=>214|75=>219|127=>247|164=>258|5=>5|80=>222|n=>n,fun|n=>n⟩
theorem lays156:Go.Proofs.Lays.n156 Tryz.prog lays156_ren:={
 mixed:=by kernel_rfl
 f156:=Tryz.func132.trans (congrArg some (by kernel_rfl))
 f165:=Tryz.func171.trans (congrArg some (by kernel_rfl))
 f166:=Tryz.func172.trans (congrArg some (by kernel_rfl))
 f169:=Tryz.func173.trans (congrArg some (by kernel_rfl))
 f240:=Tryz.func210.trans (congrArg some (by kernel_rfl))
 f241:=Tryz.func211.trans (congrArg some (by kernel_rfl))
 f276:=Tryz.func235.trans (congrArg some (by kernel_rfl))
 f277:=Tryz.func236.trans (congrArg some (by kernel_rfl))
 t0:=Tryz.underlying0
 a0:=Tryz.isAgg0
 z0:=Tryz.sizeOf0
 v0:=Tryz.zeroValue0
 t3:=Tryz.underlying3
 a3:=Tryz.isAgg3
 z3:=Tryz.sizeOf3
 v3:=Tryz.zeroValue3
 t4:=Tryz.underlying4
 a4:=Tryz.isAgg4
 z4:=Tryz.sizeOf4
 v4:=Tryz.zeroValue4
 t9:=Tryz.underlying9
 a9:=Tryz.isAgg9
 z9:=Tryz.sizeOf9
 v9:=Tryz.zeroValue9
 t20:=Tryz.underlying20
 a20:=Tryz.isAgg20
 z20:=Tryz.sizeOf20
 v20:=Tryz.zeroValue20
 t31:=Tryz.underlying31
 a31:=Tryz.isAgg31
 z31:=Tryz.sizeOf31
 v31:=Tryz.zeroValue31
 t37:=Tryz.underlying214
 a37:=Tryz.isAgg214
 z37:=Tryz.sizeOf214
 v37:=Tryz.zeroValue214
 t70:=Tryz.underlying213
 a70:=Tryz.isAgg213
 z70:=Tryz.sizeOf213
 v70:=Tryz.zeroValue213
 t72:=Tryz.underlying216
 a72:=Tryz.isAgg216
 z72:=Tryz.sizeOf216
 v72:=Tryz.zeroValue216
 t75:=Tryz.underlying219
 a75:=Tryz.isAgg219
 z75:=Tryz.sizeOf219
 v75:=Tryz.zeroValue219
 t76:=Tryz.underlying220
 a76:=Tryz.isAgg220
 z76:=Tryz.sizeOf220
 v76:=Tryz.zeroValue220
 t127:=Tryz.underlying247
 a127:=Tryz.isAgg247
 z127:=Tryz.sizeOf247
 v127:=Tryz.zeroValue247
 t164:=Tryz.underlying258
 a164:=Tryz.isAgg258
 z164:=Tryz.sizeOf258
 v164:=Tryz.zeroValue258 }
theorem Builder_Extra_156:Builder.Extra Tryz.prog lays156_ren:={
 sizeBuilder:=by kernel_rfl
 liesBuilder:=by kernel_rfl
 t5:=Tryz.underlying5
 a5:=Tryz.isAgg5
 z5:=Tryz.sizeOf5
 v5:=Tryz.zeroValue5
 infoByte:=by kernel_rfl
 cellsByte:=by kernel_rfl
 sizeByte:=by kernel_rfl
 neB5:=by decide }
open Go.RowKit in
theorem strings_Join (bk o c:Nat) (xs:List ByteArray) (sep:ByteArray) (w:World) (hcells:∀ (j:Nat) x,xs[j]? = some x → w.cell? ⟨bk,o+j,none⟩=some (.string x)) (hbk:bk < w.heap.size) (hN:xs.length≤140737488355328) (hcap:xs.length≤c) (hlen:(Lib.join (xs.map (·.data.toList)) sep.data.toList).length≤140737488355328) :
  Calls Tryz.prog 132 #[.slice (some ⟨bk,o,none⟩) xs.length c,.string sep] w fun e w'=>e = .returned (.string ⟨(Lib.join (xs.map (·.data.toList)) sep.data.toList).toArray⟩)∧Below w.heap.size w w':=Any.strings_Join lays156 Builder_Extra_156 bk o c xs sep w hcells hbk hN hcap hlen
def lays106_ren:Go.Shelf.Ren:=⟨fun|106=>183|213=>215|265=>238|n=>n,fun|9=>9|3=>3|n=>n,fun|n=>n⟩
theorem lays106:Go.Proofs.Lays.n106 Tryz.prog lays106_ren:={
 mixed:=by kernel_rfl
 f106:=Tryz.func183.trans (congrArg some (by kernel_rfl))
 f213:=Tryz.func215.trans (congrArg some (by kernel_rfl))
 f265:=Tryz.func238.trans (congrArg some (by kernel_rfl))
 t3:=Tryz.underlying3
 a3:=Tryz.isAgg3
 z3:=Tryz.sizeOf3
 v3:=Tryz.zeroValue3
 t9:=Tryz.underlying9
 a9:=Tryz.isAgg9
 z9:=Tryz.sizeOf9
 v9:=Tryz.zeroValue9 }
open Go.RowKit in
theorem strings_Compare (a b:ByteArray) (w:World) :
  Calls Tryz.prog 183 #[.string a,.string b] w fun e w'=>e = .returned (.int .i64 (Lib.compareBytes a.data.toList b.data.toList))∧w'=w:=Any.strings_Compare lays106 a b w
def lays137_ren:Go.Shelf.Ren:=⟨fun|137=>167|217=>207|266=>234|n=>n,fun|9=>9|5=>5|3=>3|n=>n,fun|n=>n⟩
theorem lays137:Go.Proofs.Lays.n137 Tryz.prog lays137_ren:={
 mixed:=by kernel_rfl
 f137:=Tryz.func167.trans (congrArg some (by kernel_rfl))
 f217:=Tryz.func207.trans (congrArg some (by kernel_rfl))
 f266:=Tryz.func234.trans (congrArg some (by kernel_rfl))
 t3:=Tryz.underlying3
 a3:=Tryz.isAgg3
 z3:=Tryz.sizeOf3
 v3:=Tryz.zeroValue3
 t5:=Tryz.underlying5
 a5:=Tryz.isAgg5
 z5:=Tryz.sizeOf5
 v5:=Tryz.zeroValue5
 t9:=Tryz.underlying9
 a9:=Tryz.isAgg9
 z9:=Tryz.sizeOf9
 v9:=Tryz.zeroValue9 }
open Go.RowKit in
theorem strings_IndexByte (s:ByteArray) (c:Int) (w:World) :
  Calls Tryz.prog 167 #[.string s,.int .u8 c] w fun e w'=>e = .returned (.int .i64 (Lib.indexByte s.data.toList c.toNat.toUInt8))∧w'=w:=Any.strings_IndexByte lays137 s c w
def lays103_ren:Go.Shelf.Ren:=⟨fun|103=>163|210=>202|206=>217|n=>n,fun|9=>9|4=>4|24=>124|3=>3|n=>n,fun|n=>n⟩
theorem lays103:Go.Proofs.Lays.n103 Tryz.prog lays103_ren:={
 mixed:=by kernel_rfl
 f103:=Tryz.func163.trans (congrArg some (by kernel_rfl))
 f206:=Tryz.func217.trans (congrArg some (by kernel_rfl))
 f210:=Tryz.func202.trans (congrArg some (by kernel_rfl))
 t3:=Tryz.underlying3
 a3:=Tryz.isAgg3
 z3:=Tryz.sizeOf3
 v3:=Tryz.zeroValue3
 t4:=Tryz.underlying4
 a4:=Tryz.isAgg4
 z4:=Tryz.sizeOf4
 v4:=Tryz.zeroValue4
 t9:=Tryz.underlying9
 a9:=Tryz.isAgg9
 z9:=Tryz.sizeOf9
 v9:=Tryz.zeroValue9
 t24:=Tryz.underlying124
 a24:=Tryz.isAgg124
 z24:=Tryz.sizeOf124
 v24:=Tryz.zeroValue124 }
open Go.RowKit in
theorem strings_CutPrefix (s p:ByteArray) (w:World) :
  Calls Tryz.prog 163 #[.string s,.string p] w fun e w'=>e = .returned (.tuple #[.string ⟨(Lib.trimPrefix s.data.toList p.data.toList).toArray⟩,.bool (Lib.hasPrefix s.data.toList p.data.toList)])∧w'=w:=Any.strings_CutPrefix lays103 s p w
def lays99_ren:Go.Shelf.Ren:=⟨fun|99=>185|206=>217|n=>n,fun|9=>9|4=>4|3=>3|n=>n,fun|n=>n⟩
theorem lays99:Go.Proofs.Lays.n99 Tryz.prog lays99_ren:={
 mixed:=by kernel_rfl
 f99:=Tryz.func185.trans (congrArg some (by kernel_rfl))
 f206:=Tryz.func217.trans (congrArg some (by kernel_rfl))
 t3:=Tryz.underlying3
 a3:=Tryz.isAgg3
 z3:=Tryz.sizeOf3
 v3:=Tryz.zeroValue3
 t4:=Tryz.underlying4
 a4:=Tryz.isAgg4
 z4:=Tryz.sizeOf4
 v4:=Tryz.zeroValue4
 t9:=Tryz.underlying9
 a9:=Tryz.isAgg9
 z9:=Tryz.sizeOf9
 v9:=Tryz.zeroValue9 }
open Go.RowKit Go.Lib in
theorem strings_HasPrefix (s p:ByteArray) (w:World) :
  Calls Tryz.prog 185 #[.string s,.string p] w fun e w'=>e = .returned (.bool (Lib.hasPrefix s.data.toList p.data.toList))∧w'=w:=Any.strings_HasPrefix lays99 s p w
def lays146_ren:Go.Shelf.Ren:=⟨fun|146=>161|221=>201|268=>228|138=>225|143=>226|195=>250|197=>227|218=>251|219=>252|260=>253|217=>207|225=>261|224=>260|267=>262|266=>234|314=>266|n=>n,fun|9=>9|31=>31|3=>3|4=>4|0=>0|105=>252|21=>21|5=>5|46=>248|119=>275|139=>278|138=>277|146=>283|51=>279|n=>n,fun|1=>0|3=>2|4=>3|n=>n⟩
theorem lays146:Go.Proofs.Lays.n146 Tryz.prog lays146_ren:={
 mixed:=by kernel_rfl
 f138:=Tryz.func225.trans (congrArg some (by kernel_rfl))
 f143:=Tryz.func226.trans (congrArg some (by kernel_rfl))
 f146:=Tryz.func161.trans (congrArg some (by kernel_rfl))
 f195:=Tryz.func250.trans (congrArg some (by kernel_rfl))
 f197:=Tryz.func227.trans (congrArg some (by kernel_rfl))
 f217:=Tryz.func207.trans (congrArg some (by kernel_rfl))
 f218:=Tryz.func251.trans (congrArg some (by kernel_rfl))
 f219:=Tryz.func252.trans (congrArg some (by kernel_rfl))
 f221:=Tryz.func201.trans (congrArg some (by kernel_rfl))
 f224:=Tryz.func260.trans (congrArg some (by kernel_rfl))
 f225:=Tryz.func261.trans (congrArg some (by kernel_rfl))
 f260:=Tryz.func253.trans (congrArg some (by kernel_rfl))
 f266:=Tryz.func234.trans (congrArg some (by kernel_rfl))
 f267:=Tryz.func262.trans (congrArg some (by kernel_rfl))
 f268:=Tryz.func228.trans (congrArg some (by kernel_rfl))
 f314:=Tryz.func266.trans (congrArg some (by kernel_rfl))
 t0:=Tryz.underlying0
 a0:=Tryz.isAgg0
 z0:=Tryz.sizeOf0
 v0:=Tryz.zeroValue0
 t3:=Tryz.underlying3
 a3:=Tryz.isAgg3
 z3:=Tryz.sizeOf3
 v3:=Tryz.zeroValue3
 t4:=Tryz.underlying4
 a4:=Tryz.isAgg4
 z4:=Tryz.sizeOf4
 v4:=Tryz.zeroValue4
 t5:=Tryz.underlying5
 a5:=Tryz.isAgg5
 z5:=Tryz.sizeOf5
 v5:=Tryz.zeroValue5
 t9:=Tryz.underlying9
 a9:=Tryz.isAgg9
 z9:=Tryz.sizeOf9
 v9:=Tryz.zeroValue9
 t21:=Tryz.underlying21
 a21:=Tryz.isAgg21
 z21:=Tryz.sizeOf21
 v21:=Tryz.zeroValue21
 t31:=Tryz.underlying31
 a31:=Tryz.isAgg31
 z31:=Tryz.sizeOf31
 v31:=Tryz.zeroValue31
 t46:=Tryz.underlying248
 a46:=Tryz.isAgg248
 z46:=Tryz.sizeOf248
 v46:=Tryz.zeroValue248
 t51:=Tryz.underlying279
 a51:=Tryz.isAgg279
 z51:=Tryz.sizeOf279
 v51:=Tryz.zeroValue279
 t105:=Tryz.underlying252
 a105:=Tryz.isAgg252
 z105:=Tryz.sizeOf252
 v105:=Tryz.zeroValue252
 t119:=Tryz.underlying275
 a119:=Tryz.isAgg275
 z119:=Tryz.sizeOf275
 t138:=Tryz.underlying277
 a138:=Tryz.isAgg277
 z138:=Tryz.sizeOf277
 v138:=Tryz.zeroValue277
 t139:=Tryz.underlying278
 a139:=Tryz.isAgg278
 z139:=Tryz.sizeOf278
 v139:=Tryz.zeroValue278
 t146:=Tryz.underlying283
 a146:=Tryz.isAgg283
 z146:=Tryz.sizeOf283
 v146:=Tryz.zeroValue283
 g1:=by kernel_rfl
 g3:=by kernel_rfl
 g4:=by kernel_rfl }
open Go.RowKit Go.Lib in
theorem strings_Split (s sep:ByteArray) (m:Int) (w:World) (hs:s.size < 4294967281) (hm:w.cell? ⟨0,0,none⟩=some (.int .i64 m)) (h1:1≤sep.size) :
  Calls Tryz.prog 161 #[.string s,.string sep] w fun e w' =>
   e = .returned (.slice (some ⟨w.heap.size,0,none⟩) (Lib.countB s sep+1) (Lib.countB s sep+1))∧w'=w.alloc (.cells ((Lib.splitB sep 0 (Lib.countB s sep) s).map Value.string).toArray 9):=Any.strings_Split lays146 (by kernel_rfl) s sep m w hs hm h1
def lays155_ren:Go.Shelf.Ren:=⟨fun|155=>158|154=>199|138=>225|165=>171|143=>226|166=>172|197=>227|169=>173|195=>250|218=>251|240=>210|241=>211|219=>252|260=>253|276=>235|277=>236|217=>207|225=>261|224=>260|267=>262|266=>234|314=>266|n=>n,fun|9=>9|3=>3|4=>4|72=>216|0=>0|76=>220|105=>252|21=>21|5=>5|70=>213|20=>20|37=>214|75=>219|127=>247|164=>258|46=>248|119=>275|139=>278|138=>277|146=>283|51=>279|80=>222|n=>n,fun|1=>0|3=>2|4=>3|n=>n⟩
theorem lays155:Go.Proofs.Lays.n155 Tryz.prog lays155_ren:={
 mixed:=by kernel_rfl
 f138:=Tryz.func225.trans (congrArg some (by kernel_rfl))
 f143:=Tryz.func226.trans (congrArg some (by kernel_rfl))
 f154:=Tryz.func199.trans (congrArg some (by kernel_rfl))
 f155:=Tryz.func158.trans (congrArg some (by kernel_rfl))
 f165:=Tryz.func171.trans (congrArg some (by kernel_rfl))
 f166:=Tryz.func172.trans (congrArg some (by kernel_rfl))
 f169:=Tryz.func173.trans (congrArg some (by kernel_rfl))
 f195:=Tryz.func250.trans (congrArg some (by kernel_rfl))
 f197:=Tryz.func227.trans (congrArg some (by kernel_rfl))
 f217:=Tryz.func207.trans (congrArg some (by kernel_rfl))
 f218:=Tryz.func251.trans (congrArg some (by kernel_rfl))
 f219:=Tryz.func252.trans (congrArg some (by kernel_rfl))
 f224:=Tryz.func260.trans (congrArg some (by kernel_rfl))
 f225:=Tryz.func261.trans (congrArg some (by kernel_rfl))
 f240:=Tryz.func210.trans (congrArg some (by kernel_rfl))
 f241:=Tryz.func211.trans (congrArg some (by kernel_rfl))
 f260:=Tryz.func253.trans (congrArg some (by kernel_rfl))
 f266:=Tryz.func234.trans (congrArg some (by kernel_rfl))
 f267:=Tryz.func262.trans (congrArg some (by kernel_rfl))
 f276:=Tryz.func235.trans (congrArg some (by kernel_rfl))
 f277:=Tryz.func236.trans (congrArg some (by kernel_rfl))
 f314:=Tryz.func266.trans (congrArg some (by kernel_rfl))
 t0:=Tryz.underlying0
 a0:=Tryz.isAgg0
 z0:=Tryz.sizeOf0
 v0:=Tryz.zeroValue0
 t3:=Tryz.underlying3
 a3:=Tryz.isAgg3
 z3:=Tryz.sizeOf3
 v3:=Tryz.zeroValue3
 t4:=Tryz.underlying4
 a4:=Tryz.isAgg4
 z4:=Tryz.sizeOf4
 v4:=Tryz.zeroValue4
 t5:=Tryz.underlying5
 a5:=Tryz.isAgg5
 z5:=Tryz.sizeOf5
 v5:=Tryz.zeroValue5
 t9:=Tryz.underlying9
 a9:=Tryz.isAgg9
 z9:=Tryz.sizeOf9
 v9:=Tryz.zeroValue9
 t20:=Tryz.underlying20
 a20:=Tryz.isAgg20
 z20:=Tryz.sizeOf20
 v20:=Tryz.zeroValue20
 t21:=Tryz.underlying21
 a21:=Tryz.isAgg21
 z21:=Tryz.sizeOf21
 v21:=Tryz.zeroValue21
 t37:=Tryz.underlying214
 a37:=Tryz.isAgg214
 z37:=Tryz.sizeOf214
 v37:=Tryz.zeroValue214
 t46:=Tryz.underlying248
 a46:=Tryz.isAgg248
 z46:=Tryz.sizeOf248
 v46:=Tryz.zeroValue248
 t51:=Tryz.underlying279
 a51:=Tryz.isAgg279
 z51:=Tryz.sizeOf279
 v51:=Tryz.zeroValue279
 t70:=Tryz.underlying213
 a70:=Tryz.isAgg213
 z70:=Tryz.sizeOf213
 v70:=Tryz.zeroValue213
 t72:=Tryz.underlying216
 a72:=Tryz.isAgg216
 z72:=Tryz.sizeOf216
 v72:=Tryz.zeroValue216
 t75:=Tryz.underlying219
 a75:=Tryz.isAgg219
 z75:=Tryz.sizeOf219
 v75:=Tryz.zeroValue219
 t76:=Tryz.underlying220
 a76:=Tryz.isAgg220
 z76:=Tryz.sizeOf220
 v76:=Tryz.zeroValue220
 t105:=Tryz.underlying252
 a105:=Tryz.isAgg252
 z105:=Tryz.sizeOf252
 v105:=Tryz.zeroValue252
 t119:=Tryz.underlying275
 a119:=Tryz.isAgg275
 z119:=Tryz.sizeOf275
 t127:=Tryz.underlying247
 a127:=Tryz.isAgg247
 z127:=Tryz.sizeOf247
 v127:=Tryz.zeroValue247
 t138:=Tryz.underlying277
 a138:=Tryz.isAgg277
 z138:=Tryz.sizeOf277
 v138:=Tryz.zeroValue277
 t139:=Tryz.underlying278
 a139:=Tryz.isAgg278
 z139:=Tryz.sizeOf278
 v139:=Tryz.zeroValue278
 t146:=Tryz.underlying283
 a146:=Tryz.isAgg283
 z146:=Tryz.sizeOf283
 v146:=Tryz.zeroValue283
 t164:=Tryz.underlying258
 a164:=Tryz.isAgg258
 z164:=Tryz.sizeOf258
 v164:=Tryz.zeroValue258
 g1:=by kernel_rfl
 g3:=by kernel_rfl
 g4:=by kernel_rfl }
theorem Builder_Extra_155:Builder.Extra Tryz.prog lays155_ren:={
 sizeBuilder:=by kernel_rfl
 liesBuilder:=by kernel_rfl
 t5:=Tryz.underlying5
 a5:=Tryz.isAgg5
 z5:=Tryz.sizeOf5
 v5:=Tryz.zeroValue5
 infoByte:=by kernel_rfl
 cellsByte:=by kernel_rfl
 sizeByte:=by kernel_rfl
 neB5:=by decide }
open Go.RowKit Go.Lib in
theorem strings_ReplaceAll (s old new:ByteArray) (m:Int) (w:World) (hs:s.size < 4294967281) (hm:w.cell? ⟨0,0,none⟩=some (.int .i64 m)) (h1:1≤old.size) (hlen:s.size+Lib.countB s old * new.size≤140737488355328) :
  Calls Tryz.prog 158 #[.string s,.string old,.string new] w fun e w' =>
   e = .returned (.string ⟨(Lib.replaceAll s.data.toList old.data.toList new.data.toList).toArray⟩)∧Below w.heap.size w w':=Any.strings_ReplaceAll lays155 Builder_Extra_155 s old new m w hs hm h1 hlen
def lays150_ren:Go.Shelf.Ren:=⟨fun|150=>197|153=>224|152=>246|226=>247|227=>248|228=>249|137=>167|119=>259|224=>260|225=>261|217=>207|266=>234|n=>n,fun|9=>9|4=>4|3=>3|5=>5|21=>21|117=>265|116=>264|0=>0|46=>248|124=>274|n=>n,fun|n=>n⟩
theorem lays150:Go.Proofs.Lays.n150 Tryz.prog lays150_ren:={
 mixed:=by kernel_rfl
 f119:=Tryz.func259.trans (congrArg some (by kernel_rfl))
 f137:=Tryz.func167.trans (congrArg some (by kernel_rfl))
 f150:=Tryz.func197.trans (congrArg some (by kernel_rfl))
 f152:=Tryz.func246.trans (congrArg some (by kernel_rfl))
 f153:=Tryz.func224.trans (congrArg some (by kernel_rfl))
 f217:=Tryz.func207.trans (congrArg some (by kernel_rfl))
 f224:=Tryz.func260.trans (congrArg some (by kernel_rfl))
 f225:=Tryz.func261.trans (congrArg some (by kernel_rfl))
 f226:=Tryz.func247.trans (congrArg some (by kernel_rfl))
 f227:=Tryz.func248.trans (congrArg some (by kernel_rfl))
 f228:=Tryz.func249.trans (congrArg some (by kernel_rfl))
 f266:=Tryz.func234.trans (congrArg some (by kernel_rfl))
 t0:=Tryz.underlying0
 a0:=Tryz.isAgg0
 z0:=Tryz.sizeOf0
 v0:=Tryz.zeroValue0
 t3:=Tryz.underlying3
 a3:=Tryz.isAgg3
 z3:=Tryz.sizeOf3
 v3:=Tryz.zeroValue3
 t4:=Tryz.underlying4
 a4:=Tryz.isAgg4
 z4:=Tryz.sizeOf4
 v4:=Tryz.zeroValue4
 t5:=Tryz.underlying5
 a5:=Tryz.isAgg5
 z5:=Tryz.sizeOf5
 v5:=Tryz.zeroValue5
 t9:=Tryz.underlying9
 a9:=Tryz.isAgg9
 z9:=Tryz.sizeOf9
 v9:=Tryz.zeroValue9
 t21:=Tryz.underlying21
 a21:=Tryz.isAgg21
 z21:=Tryz.sizeOf21
 v21:=Tryz.zeroValue21
 t46:=Tryz.underlying248
 a46:=Tryz.isAgg248
 z46:=Tryz.sizeOf248
 v46:=Tryz.zeroValue248
 t116:=Tryz.underlying264
 a116:=Tryz.isAgg264
 z116:=Tryz.sizeOf264
 t117:=Tryz.underlying265
 a117:=Tryz.isAgg265
 z117:=Tryz.sizeOf265
 v117:=Tryz.zeroValue265
 t124:=Tryz.underlying274
 a124:=Tryz.isAgg274
 z124:=Tryz.sizeOf274
 v124:=Tryz.zeroValue274 }
open Go.RowKit Go.Lib in
theorem strings_ContainsAny_laid (s chars:ByteArray) (w:World) (hs:s.size < 4294967281) (hcs:chars.size < 4294967281) (has:∀ (j:Nat) b,s.data.toList[j]? = some b → b.toNat < 128) (hac:∀ (j:Nat) b,chars.data.toList[j]? = some b → b.toNat < 128) :
  Calls Tryz.prog 197 #[.string s,.string chars] w fun e w'=>e = .returned (.bool (Lib.containsAny s.data.toList chars.data.toList))∧Below w.heap.size w w':=Any.strings_ContainsAny_laid lays150 (by kernel_rfl) s chars w hs hcs has hac
end Go.Proofs.YtmbbkfffcflfcaaGreatDoor
namespace Go.Proofs.YtmbbkfffcflfcaaGreatDoor
open Go.RowKit
open IntWalk renaming iteOmega → O, toNatUp → U
set_option linter.unusedVariables false
set_option linter.unusedSimpArgs false
theorem lower_pure:PCalls Tryz.prog 166 [.c (.v (.string ⟨upperT.toArray⟩))] [] fun r os=>r = .c (.v (.string ⟨lowerT.toArray⟩))∧os=[] :=
 pcalls_plain [.string ⟨upperT.toArray⟩] _ rfl fun w _=>(strings_ToLower_ascii ⟨upperT.toArray⟩ w (by decide) (fun j b hb=>by
  have:∀ b ∈ upperT,b.toNat < 128:=by decide
  exact this b (List.mem_of_getElem? hb))).mono fun e w' ⟨he,hw⟩=>by
  rw [he]
  exact ⟨by congr,hw⟩
theorem idxb_pure (s:ByteArray) (c:Int):PCalls Tryz.prog 167 [.c (.v (.string s)),.c (.v (.int .u8 c))] [] fun r os=>r = .c (.v (.int .i64 (Lib.indexByte s.data.toList c.toNat.toUInt8)))∧os=[] :=
 pcalls_plain [.string s,.int .u8 c] _ rfl fun w _=>(strings_IndexByte s c w).mono fun e w' ⟨he,hw⟩=>by rw [he,hw];exact ⟨rfl,Below.refl _ _⟩
theorem cmpB_eq (a b:ByteArray):Lib.compareBytes a.data.toList b.data.toList=cmpS a b:=by
 have h1:=compare_lt a.data.toList b.data.toList
 have h2:=compare_eq a.data.toList b.data.toList
 have h3:∀ x y:List UInt8,Lib.compareBytes x y = -1∨Lib.compareBytes x y=0∨Lib.compareBytes x y=1:=by
  intro x
  induction x with
  | nil=>intro y;cases y<;>simp [Lib.compareBytes]
  | cons a x ih =>
   intro y
   cases y with
   | nil=>simp [Lib.compareBytes]
   | cons b y=>rw [Lib.compareBytes];split;simp;split;simp;exact ih y
 have h4:=h3 a.data.toList b.data.toList
 have hb:Op.bytesLess a.data.toList b.data.toList=bless a b:=by unfold bless;rw [Lib.toList_data,Lib.toList_data]
 rw [hb] at h1
 unfold cmpS
 by_cases e1:bless a b=true
 ·rw [if_pos e1];have:=h1.2 e1;omega
 ·rw [if_neg e1]
  by_cases e2:bless b a=true
  ·rw [if_pos e2]
   have hn:¬ Lib.compareBytes a.data.toList b.data.toList=0:=fun h=>by
    have he:=h2.1 h
    have:a=b:=by cases a;cases b;simp only at he;congr;exact Array.toList_inj.1 he
    exact bless_ne e2 this.symm
   have:¬ Lib.compareBytes a.data.toList b.data.toList < 0:=fun h=>e1 (h1.1 h)
   omega
  ·rw [if_neg e2]
   have:a=b:=bless_total (by simpa using e1) (by simpa using e2)
   rw [h2,this]
theorem scmp_pure (a b:ByteArray):PCalls Tryz.prog 183 [.c (.v (.string a)),.c (.v (.string b))] [] fun r os=>r = .c (.v (.int .i64 (cmpS a b)))∧os=[] :=
 pcalls_plain [.string a,.string b] _ rfl fun w _=>(strings_Compare a b w).mono fun e w' ⟨he,hw⟩=>by rw [he,hw,cmpB_eq];exact ⟨rfl,Below.refl _ _⟩
theorem repl_pure (s:ByteArray) (hs:s.size < 4294967281):PCalls Tryz.prog 158 [.c (.v (.string s)),.c (.v (.string ⟨#[33]⟩)),.c (.v (.string ⟨#[47]⟩))] [] fun r os=>r = .c (.v (.string (nodeS s)))∧os=[] :=
 pcalls_plain [.string s,.string ⟨#[33]⟩,.string ⟨#[47]⟩] _ rfl fun w hp=>by
  obtain ⟨m,hm⟩:=hp
  refine (strings_ReplaceAll s ⟨#[33]⟩ ⟨#[47]⟩ m w hs hm (by decide) (by
   have h:=Lib.countB_le ⟨#[33]⟩ (by decide) _ s (Nat.le_refl _)
   show _+_ * 1≤_
   omega)).mono fun e w' ⟨he,hw⟩=>?_
  exact ⟨he,hw⟩
theorem texts_rows (w:World) (I:Nat → Prop):∀ l:List ByteArray,All2 (RD w I) (l.map strD).flatten (l.map Value.string)
 | []=>trivial
 | a :: l=>⟨by rw [RD];exact ⟨rfl,rfl⟩,texts_rows w I l⟩
theorem split_pure (s:ByteArray) (hs:s.size < 4294967281):PCalls Tryz.prog 161 [.c (.v (.string s)),.c (.v (.string ⟨#[47]⟩))] [] fun r os=>r = .c (.own 0 (parts s).length)∧os=[.arr 9 1 ((parts s).map strD)]:=by
 have h:=pcalls_row (P:=Tryz.prog) (g:=161) [.string s,.string ⟨#[47]⟩] 9 ((parts s).map strD) ((parts s).map Value.string) 1 (by omega) (fun r hr=>by obtain ⟨z,_,rfl⟩:=List.mem_map.1 hr;rfl) (by rw [List.length_map];exact parts_ne s) (fun w I=>texts_rows w I _)
  (fun w hp=>by
   obtain ⟨m,hm⟩:=hp
   refine (strings_Split s ⟨#[47]⟩ m w hs hm (by decide)).mono fun e w' ⟨he,hw⟩=>?_
   have hlen:Lib.countB s ⟨#[47]⟩+1=(parts s).length:=by rw [← splitB_parts,Lib.splitB_all _ (by decide) 0 _ s rfl]
   rw [splitB_parts] at hw
   rw [hlen] at he
   refine ⟨_,he,?_,by rw [hw];exact (Below.refl _ _).alloc (Nat.le_refl _) _⟩
   rw [hw,List.length_map]
   have:=own_blk (base:=w.heap.size) (n:=(parts s).length) (cap:=(parts s).length) (size:=1) (Blk.new w 9 ((parts s).map Value.string).toArray) (Nat.le_refl _) (by simp) (Nat.le_refl _) (by have:=parts_size (s:=s);unfold maxLen;omega)
   rwa [List.toList_toArray,List.take_of_length_le (by simp)] at this)
 simpa using h
end Go.Proofs.YtmbbkfffcflfcaaGreatDoor
