/- What the program computes, and the plain laws of it, part 15. -/
import Derived.Shelf.Strings.Builder1
import Derived.Shelf.Strings.Builder2
import Derived.Shelf.Small.Strs
import Derived.Shelf.Strings.Search1
import Derived.Shelf.Strings.Search2
import Derived.Shelf.Strings.Search3
import Derived.Shelf.Strings.Count
import Derived.Shelf.Strings.Shaped
import Derived.Shelf.Strings.Prefix
import Derived.Shelf.Strings.Split
import Derived.Shelf.Strings.Replace
import Derived.Shelf.Slices.CompactS
import Derived.Shelf.Slices.Delete
import Derived.Shelf.SortM.Plain
import Derived.Shelf.SortM.SortNone
import Derived.Shelf.SlIter.Nil
import Derived.Test.YtmjffgienmcabaaGreatDoorProg
import Derived.Lib.IndexAny
import Derived.Test.YtmjffgienmcabaaGreatDoorS14
namespace Go.Proofs.YtmjffgienmcabaaGreatDoor
open Go.RowKit
open IntWalk renaming iteOmega → iO, toNatUp → tN
set_option linter.unusedVariables false
set_option linter.unusedSimpArgs false
theorem rp_vals {w:World} {Γ:G}:∀ {vs xs:List Value},All2 (RP w Γ) (vs.map fun v=>.c (.v v)) xs → xs=vs
 | [],_,h=>by rw [List.map_nil,All2.nil_l] at h;exact h
 | v :: vs,xs,h=>by
  rw [List.map_cons,All2.cons_l] at h
  obtain ⟨y,m,rfl,h1,h2⟩:=h
  rw [rp_vals h2,h1.1]
theorem ext_of_below {w w':World} (hB:Below w.heap.size w w'):Ext No w w':=⟨hB.os,hB.tape,hB.output,hB.size,fun k hk _=>hB.block k hk⟩
theorem pcalls_plain {P:Program} {g:FuncId} (vs:List Value) (v:Value) (hv:v.oneCell'=true) (h:∀ w,Pin w → Calls P g vs.toArray w fun e w'=>e = .returned v∧Below w.heap.size w w') :
  PCalls P g (vs.map fun v=>.c (.v v)) [] fun r os=>r = .c (.v v)∧os=[]:=fun Γ w xs hm hx=>by
 rw [rp_vals hx]
 refine (h w hm.pin.1).mono ?_
 rintro e w' ⟨rfl,hB⟩
 have hE:=ext_of_below hB
 exact ⟨_,[],Γ,_,rfl,⟨rfl,rfl⟩,⟨rfl,hv⟩,Nat.le_refl _,hm.same (Same.of_ext hE),ext_grow hE⟩
theorem pcalls_row {P:Program} {g:FuncId} (vs:List Value) (T:TypeId) (rows:List (List D)) (cells:List Value) (sz:Nat) (hsz:0 < sz) (hr:∀ r ∈ rows,r.length=sz) (hn:0 < rows.length) (hc:∀ w I,All2 (RD w I) rows.flatten cells)
  (h:∀ w,Pin w → Calls P g vs.toArray w fun e w'=>∃ v,e = .returned v∧w'.ownsRow w.heap.size T sz v rows.length cells∧Below w.heap.size w w') :
  PCalls P g (vs.map fun v=>.c (.v v)) [] fun r os=>r = .c (.own 0 rows.length)∧os=[.arr T sz rows]:=fun Γ w xs hm hx=>by
 rw [rp_vals hx]
 refine (h w hm.pin.1).mono ?_
 rintro e w' ⟨v,rfl,hrow,hB⟩
 have hE:=ext_of_below hB
 have hS:=Same.of_ext hE
 have hn0:Γ.n=0:=hm.n
 obtain ⟨b,c,rfl,h4,h5,h6,h7,h8,h9⟩:=arr_of_own (k:=Γ.n) (Γ:=Γ) (rows:=rows) hrow hn hsz hr rfl
 have hro:=h9 (Γ.push b c) (by simp [G.push,upd_same]) (by simp [G.push,upd_same]) (hc _ _)
 refine ⟨_,_,Γ.push b c,_,rfl,⟨rfl,rfl⟩,?_,by simp,hm.push hS _ b c hro (fun _=>h6),grow_push hm hE b c (fun _=>h6) (Nat.zero_le _)⟩
 have hrep:OwnRep (Γ.push b c) Γ.n rows.length (.slice (some ⟨b,0,none⟩) rows.length c):=.inr ⟨by simp [G.push,upd_same,h4],by simp [G.push,upd_same],by simp [G.push,upd_same];exact h5⟩
 rw [hn0] at hrep
 exact ⟨by simp [G.push,hn0],hrep⟩
end Go.Proofs.YtmjffgienmcabaaGreatDoor
namespace Go.Proofs.YtmjffgienmcabaaGreatDoor
open Go.Shelf
set_option maxHeartbeats 1000000
def lays106_ren:Go.Shelf.Ren:=⟨fun|106=>78|213=>97|265=>122|n=>n,fun|9=>9|3=>3|n=>n,fun|n=>n⟩
theorem lays106:Go.Proofs.Lays.n106 Tryz.prog lays106_ren:={
 mixed:=by kernel_rfl
 f106:=Tryz.func78.trans (congrArg some (by kernel_rfl))
 f213:=Tryz.func97.trans (congrArg some (by kernel_rfl))
 f265:=Tryz.func122.trans (congrArg some (by kernel_rfl))
 t3:=Tryz.underlying3
 a3:=Tryz.isAgg3
 z3:=Tryz.sizeOf3
 v3:=Tryz.zeroValue3
 t9:=Tryz.underlying9
 a9:=Tryz.isAgg9
 z9:=Tryz.sizeOf9
 v9:=Tryz.zeroValue9 }
open Go.RowKit in
theorem strings_Compare (a b:ByteArray) (w:World) :
  Calls Tryz.prog 78 #[.string a,.string b] w fun e w'=>e = .returned (.int .i64 (Lib.compareBytes a.data.toList b.data.toList))∧w'=w:=Any.strings_Compare lays106 a b w
def lays137_ren:Go.Shelf.Ren:=⟨fun|137=>118|217=>135|266=>145|n=>n,fun|9=>9|5=>5|3=>3|n=>n,fun|n=>n⟩
theorem lays137:Go.Proofs.Lays.n137 Tryz.prog lays137_ren:={
 mixed:=by kernel_rfl
 f137:=Tryz.func118.trans (congrArg some (by kernel_rfl))
 f217:=Tryz.func135.trans (congrArg some (by kernel_rfl))
 f266:=Tryz.func145.trans (congrArg some (by kernel_rfl))
 t3:=Tryz.underlying3
 a3:=Tryz.isAgg3
 z3:=Tryz.sizeOf3
 v3:=Tryz.zeroValue3
 t5:=Tryz.underlying5
 a5:=Tryz.isAgg5
 z5:=Tryz.sizeOf5
 v5:=Tryz.zeroValue5
 t9:=Tryz.underlying9
 a9:=Tryz.isAgg9
 z9:=Tryz.sizeOf9
 v9:=Tryz.zeroValue9 }
open Go.RowKit in
theorem strings_IndexByte (s:ByteArray) (c:Int) (w:World) :
  Calls Tryz.prog 118 #[.string s,.int .u8 c] w fun e w'=>e = .returned (.int .i64 (Lib.indexByte s.data.toList c.toNat.toUInt8))∧w'=w:=Any.strings_IndexByte lays137 s c w
def lays144_ren:Go.Shelf.Ren:=⟨fun|144=>94|143=>119|219=>136|217=>135|225=>146|224=>147|267=>148|266=>145|314=>154|n=>n,fun|9=>9|4=>4|3=>3|5=>5|46=>133|146=>211|51=>162|n=>n,fun|1=>0|n=>n⟩
theorem lays144:Go.Proofs.Lays.n144 Tryz.prog lays144_ren:={
 mixed:=by kernel_rfl
 f143:=Tryz.func119.trans (congrArg some (by kernel_rfl))
 f144:=Tryz.func94.trans (congrArg some (by kernel_rfl))
 f217:=Tryz.func135.trans (congrArg some (by kernel_rfl))
 f219:=Tryz.func136.trans (congrArg some (by kernel_rfl))
 f224:=Tryz.func147.trans (congrArg some (by kernel_rfl))
 f225:=Tryz.func146.trans (congrArg some (by kernel_rfl))
 f266:=Tryz.func145.trans (congrArg some (by kernel_rfl))
 f267:=Tryz.func148.trans (congrArg some (by kernel_rfl))
 f314:=Tryz.func154.trans (congrArg some (by kernel_rfl))
 t3:=Tryz.underlying3
 a3:=Tryz.isAgg3
 z3:=Tryz.sizeOf3
 v3:=Tryz.zeroValue3
 t4:=Tryz.underlying4
 a4:=Tryz.isAgg4
 z4:=Tryz.sizeOf4
 v4:=Tryz.zeroValue4
 t5:=Tryz.underlying5
 a5:=Tryz.isAgg5
 z5:=Tryz.sizeOf5
 v5:=Tryz.zeroValue5
 t9:=Tryz.underlying9
 a9:=Tryz.isAgg9
 z9:=Tryz.sizeOf9
 v9:=Tryz.zeroValue9
 t46:=Tryz.underlying133
 a46:=Tryz.isAgg133
 z46:=Tryz.sizeOf133
 v46:=Tryz.zeroValue133
 t51:=Tryz.underlying162
 a51:=Tryz.isAgg162
 z51:=Tryz.sizeOf162
 v51:=Tryz.zeroValue162
 t146:=Tryz.underlying211
 a146:=Tryz.isAgg211
 z146:=Tryz.sizeOf211
 v146:=Tryz.zeroValue211
 g1:=by kernel_rfl }
open Go.RowKit Go.Lib in
theorem strings_Contains (s sub:ByteArray) (m:Int) (w:World) (hs:s.size < 4294967281) (hm:w.cell? ⟨0,0,none⟩=some (.int .i64 m)) :
  Calls Tryz.prog 94 #[.string s,.string sub] w fun e w'=>e = .returned (.bool (Lib.contains s.data.toList sub.data.toList))∧w'=w:=Any.strings_Contains lays144 s sub m w hs hm
def lays99_ren:Go.Shelf.Ren:=⟨fun|99=>98|206=>123|n=>n,fun|9=>9|4=>4|3=>3|n=>n,fun|n=>n⟩
theorem lays99:Go.Proofs.Lays.n99 Tryz.prog lays99_ren:={
 mixed:=by kernel_rfl
 f99:=Tryz.func98.trans (congrArg some (by kernel_rfl))
 f206:=Tryz.func123.trans (congrArg some (by kernel_rfl))
 t3:=Tryz.underlying3
 a3:=Tryz.isAgg3
 z3:=Tryz.sizeOf3
 v3:=Tryz.zeroValue3
 t4:=Tryz.underlying4
 a4:=Tryz.isAgg4
 z4:=Tryz.sizeOf4
 v4:=Tryz.zeroValue4
 t9:=Tryz.underlying9
 a9:=Tryz.isAgg9
 z9:=Tryz.sizeOf9
 v9:=Tryz.zeroValue9 }
open Go.RowKit Go.Lib in
theorem strings_HasPrefix (s p:ByteArray) (w:World) :
  Calls Tryz.prog 98 #[.string s,.string p] w fun e w'=>e = .returned (.bool (Lib.hasPrefix s.data.toList p.data.toList))∧w'=w:=Any.strings_HasPrefix lays99 s p w
def lays146_ren:Go.Shelf.Ren:=⟨fun|146=>96|221=>121|268=>142|138=>137|143=>119|195=>149|197=>140|218=>150|219=>136|260=>153|217=>135|225=>146|224=>147|267=>148|266=>145|314=>154|n=>n,fun|9=>9|31=>29|3=>3|4=>4|0=>0|105=>200|21=>21|5=>5|46=>133|119=>216|139=>219|138=>218|146=>211|51=>162|n=>n,fun|1=>0|3=>1|4=>2|n=>n⟩
theorem lays146:Go.Proofs.Lays.n146 Tryz.prog lays146_ren:={
 mixed:=by kernel_rfl
 f138:=Tryz.func137.trans (congrArg some (by kernel_rfl))
 f143:=Tryz.func119.trans (congrArg some (by kernel_rfl))
 f146:=Tryz.func96.trans (congrArg some (by kernel_rfl))
 f195:=Tryz.func149.trans (congrArg some (by kernel_rfl))
 f197:=Tryz.func140.trans (congrArg some (by kernel_rfl))
 f217:=Tryz.func135.trans (congrArg some (by kernel_rfl))
 f218:=Tryz.func150.trans (congrArg some (by kernel_rfl))
 f219:=Tryz.func136.trans (congrArg some (by kernel_rfl))
 f221:=Tryz.func121.trans (congrArg some (by kernel_rfl))
 f224:=Tryz.func147.trans (congrArg some (by kernel_rfl))
 f225:=Tryz.func146.trans (congrArg some (by kernel_rfl))
 f260:=Tryz.func153.trans (congrArg some (by kernel_rfl))
 f266:=Tryz.func145.trans (congrArg some (by kernel_rfl))
 f267:=Tryz.func148.trans (congrArg some (by kernel_rfl))
 f268:=Tryz.func142.trans (congrArg some (by kernel_rfl))
 f314:=Tryz.func154.trans (congrArg some (by kernel_rfl))
 t0:=Tryz.underlying0
 a0:=Tryz.isAgg0
 z0:=Tryz.sizeOf0
 v0:=Tryz.zeroValue0
 t3:=Tryz.underlying3
 a3:=Tryz.isAgg3
 z3:=Tryz.sizeOf3
 v3:=Tryz.zeroValue3
 t4:=Tryz.underlying4
 a4:=Tryz.isAgg4
 z4:=Tryz.sizeOf4
 v4:=Tryz.zeroValue4
 t5:=Tryz.underlying5
 a5:=Tryz.isAgg5
 z5:=Tryz.sizeOf5
 v5:=Tryz.zeroValue5
 t9:=Tryz.underlying9
 a9:=Tryz.isAgg9
 z9:=Tryz.sizeOf9
 v9:=Tryz.zeroValue9
 t21:=Tryz.underlying21
 a21:=Tryz.isAgg21
 z21:=Tryz.sizeOf21
 v21:=Tryz.zeroValue21
 t31:=Tryz.underlying29
 a31:=Tryz.isAgg29
 z31:=Tryz.sizeOf29
 v31:=Tryz.zeroValue29
 t46:=Tryz.underlying133
 a46:=Tryz.isAgg133
 z46:=Tryz.sizeOf133
 v46:=Tryz.zeroValue133
 t51:=Tryz.underlying162
 a51:=Tryz.isAgg162
 z51:=Tryz.sizeOf162
 v51:=Tryz.zeroValue162
 t105:=Tryz.underlying200
 a105:=Tryz.isAgg200
 z105:=Tryz.sizeOf200
 v105:=Tryz.zeroValue200
 t119:=Tryz.underlying216
 a119:=Tryz.isAgg216
 z119:=Tryz.sizeOf216
 t138:=Tryz.underlying218
 a138:=Tryz.isAgg218
 z138:=Tryz.sizeOf218
 v138:=Tryz.zeroValue218
 t139:=Tryz.underlying219
 a139:=Tryz.isAgg219
 z139:=Tryz.sizeOf219
 v139:=Tryz.zeroValue219
 t146:=Tryz.underlying211
 a146:=Tryz.isAgg211
 z146:=Tryz.sizeOf211
 v146:=Tryz.zeroValue211
 g1:=by kernel_rfl
 g3:=by kernel_rfl
 g4:=by kernel_rfl }
open Go.RowKit Go.Lib in
theorem strings_Split (s sep:ByteArray) (m:Int) (w:World) (hs:s.size < 4294967281) (hm:w.cell? ⟨0,0,none⟩=some (.int .i64 m)) (h1:1≤sep.size) :
  Calls Tryz.prog 96 #[.string s,.string sep] w fun e w' =>
   e = .returned (.slice (some ⟨w.heap.size,0,none⟩) (Lib.countB s sep+1) (Lib.countB s sep+1))∧w'=w.alloc (.cells ((Lib.splitB sep 0 (Lib.countB s sep) s).map Value.string).toArray 9):=Any.strings_Split lays146 (by kernel_rfl) s sep m w hs hm h1
def lays155_ren:Go.Shelf.Ren:=⟨fun|155=>95|154=>120|138=>137|165=>138|143=>119|166=>139|197=>140|169=>141|195=>149|218=>150|240=>151|241=>152|219=>136|260=>153|276=>155|277=>156|217=>135|225=>146|224=>147|267=>148|266=>145|314=>154|n=>n,fun|9=>9|3=>3|4=>4|72=>194|0=>0|76=>198|105=>200|21=>21|5=>5|70=>192|20=>20|37=>148|75=>197|127=>210|164=>213|46=>133|119=>216|139=>219|138=>218|146=>211|51=>162|80=>202|n=>n,fun|1=>0|3=>1|4=>2|n=>n⟩
theorem lays155:Go.Proofs.Lays.n155 Tryz.prog lays155_ren:={
 mixed:=by kernel_rfl
 f138:=Tryz.func137.trans (congrArg some (by kernel_rfl))
 f143:=Tryz.func119.trans (congrArg some (by kernel_rfl))
 f154:=Tryz.func120.trans (congrArg some (by kernel_rfl))
 f155:=Tryz.func95.trans (congrArg some (by kernel_rfl))
 f165:=Tryz.func138.trans (congrArg some (by kernel_rfl))
 f166:=Tryz.func139.trans (congrArg some (by kernel_rfl))
 f169:=Tryz.func141.trans (congrArg some (by kernel_rfl))
 f195:=Tryz.func149.trans (congrArg some (by kernel_rfl))
 f197:=Tryz.func140.trans (congrArg some (by kernel_rfl))
 f217:=Tryz.func135.trans (congrArg some (by kernel_rfl))
 f218:=Tryz.func150.trans (congrArg some (by kernel_rfl))
 f219:=Tryz.func136.trans (congrArg some (by kernel_rfl))
 f224:=Tryz.func147.trans (congrArg some (by kernel_rfl))
 f225:=Tryz.func146.trans (congrArg some (by kernel_rfl))
 f240:=Tryz.func151.trans (congrArg some (by kernel_rfl))
 f241:=Tryz.func152.trans (congrArg some (by kernel_rfl))
 f260:=Tryz.func153.trans (congrArg some (by kernel_rfl))
 f266:=Tryz.func145.trans (congrArg some (by kernel_rfl))
 f267:=Tryz.func148.trans (congrArg some (by kernel_rfl))
 f276:=Tryz.func155.trans (congrArg some (by kernel_rfl))
 f277:=Tryz.func156.trans (congrArg some (by kernel_rfl))
 f314:=Tryz.func154.trans (congrArg some (by kernel_rfl))
 t0:=Tryz.underlying0
 a0:=Tryz.isAgg0
 z0:=Tryz.sizeOf0
 v0:=Tryz.zeroValue0
 t3:=Tryz.underlying3
 a3:=Tryz.isAgg3
 z3:=Tryz.sizeOf3
 v3:=Tryz.zeroValue3
 t4:=Tryz.underlying4
 a4:=Tryz.isAgg4
 z4:=Tryz.sizeOf4
 v4:=Tryz.zeroValue4
 t5:=Tryz.underlying5
 a5:=Tryz.isAgg5
 z5:=Tryz.sizeOf5
 v5:=Tryz.zeroValue5
 t9:=Tryz.underlying9
 a9:=Tryz.isAgg9
 z9:=Tryz.sizeOf9
 v9:=Tryz.zeroValue9
 t20:=Tryz.underlying20
 a20:=Tryz.isAgg20
 z20:=Tryz.sizeOf20
 v20:=Tryz.zeroValue20
 t21:=Tryz.underlying21
 a21:=Tryz.isAgg21
 z21:=Tryz.sizeOf21
 v21:=Tryz.zeroValue21
 t37:=Tryz.underlying148
 a37:=Tryz.isAgg148
 z37:=Tryz.sizeOf148
 v37:=Tryz.zeroValue148
 t46:=Tryz.underlying133
 a46:=Tryz.isAgg133
 z46:=Tryz.sizeOf133
 v46:=Tryz.zeroValue133
 t51:=Tryz.underlying162
 a51:=Tryz.isAgg162
 z51:=Tryz.sizeOf162
 v51:=Tryz.zeroValue162
 t70:=Tryz.underlying192
 a70:=Tryz.isAgg192
 z70:=Tryz.sizeOf192
 v70:=Tryz.zeroValue192
 t72:=Tryz.underlying194
 a72:=Tryz.isAgg194
 z72:=Tryz.sizeOf194
 v72:=Tryz.zeroValue194
 t75:=Tryz.underlying197
 a75:=Tryz.isAgg197
 z75:=Tryz.sizeOf197
 v75:=Tryz.zeroValue197
 t76:=Tryz.underlying198
 a76:=Tryz.isAgg198
 z76:=Tryz.sizeOf198
 v76:=Tryz.zeroValue198
 t105:=Tryz.underlying200
 a105:=Tryz.isAgg200
 z105:=Tryz.sizeOf200
 v105:=Tryz.zeroValue200
 t119:=Tryz.underlying216
 a119:=Tryz.isAgg216
 z119:=Tryz.sizeOf216
 t127:=Tryz.underlying210
 a127:=Tryz.isAgg210
 z127:=Tryz.sizeOf210
 v127:=Tryz.zeroValue210
 t138:=Tryz.underlying218
 a138:=Tryz.isAgg218
 z138:=Tryz.sizeOf218
 v138:=Tryz.zeroValue218
 t139:=Tryz.underlying219
 a139:=Tryz.isAgg219
 z139:=Tryz.sizeOf219
 v139:=Tryz.zeroValue219
 t146:=Tryz.underlying211
 a146:=Tryz.isAgg211
 z146:=Tryz.sizeOf211
 v146:=Tryz.zeroValue211
 t164:=Tryz.underlying213
 a164:=Tryz.isAgg213
 z164:=Tryz.sizeOf213
 v164:=Tryz.zeroValue213
 g1:=by kernel_rfl
 g3:=by kernel_rfl
 g4:=by kernel_rfl }
theorem Builder_Extra_155:Builder.Extra Tryz.prog lays155_ren:={
 sizeBuilder:=by kernel_rfl
 liesBuilder:=by kernel_rfl
 t5:=Tryz.underlying5
 a5:=Tryz.isAgg5
 z5:=Tryz.sizeOf5
 v5:=Tryz.zeroValue5
 infoByte:=by kernel_rfl
 cellsByte:=by kernel_rfl
 sizeByte:=by kernel_rfl
 neB5:=by decide }
open Go.RowKit Go.Lib in
theorem strings_ReplaceAll (s old new:ByteArray) (m:Int) (w:World) (hs:s.size < 4294967281) (hm:w.cell? ⟨0,0,none⟩=some (.int .i64 m)) (h1:1≤old.size) (hlen:s.size+Lib.countB s old * new.size≤140737488355328) :
  Calls Tryz.prog 95 #[.string s,.string old,.string new] w fun e w' =>
   e = .returned (.string ⟨(Lib.replaceAll s.data.toList old.data.toList new.data.toList).toArray⟩)∧Below w.heap.size w w':=Any.strings_ReplaceAll lays155 Builder_Extra_155 s old new m w hs hm h1 hlen
def lays194_ren:Go.Shelf.Ren:=⟨fun|194=>50|n=>n,fun|31=>29|9=>9|3=>3|4=>4|0=>0|n=>n,fun|n=>n⟩
theorem lays194:Go.Proofs.Lays.n194 Tryz.prog lays194_ren:={
 mixed:=by kernel_rfl
 f194:=Tryz.func50.trans (congrArg some (by kernel_rfl))
 t0:=Tryz.underlying0
 a0:=Tryz.isAgg0
 z0:=Tryz.sizeOf0
 v0:=Tryz.zeroValue0
 t3:=Tryz.underlying3
 a3:=Tryz.isAgg3
 z3:=Tryz.sizeOf3
 v3:=Tryz.zeroValue3
 t4:=Tryz.underlying4
 a4:=Tryz.isAgg4
 z4:=Tryz.sizeOf4
 v4:=Tryz.zeroValue4
 t9:=Tryz.underlying9
 a9:=Tryz.isAgg9
 z9:=Tryz.sizeOf9
 v9:=Tryz.zeroValue9
 t31:=Tryz.underlying29
 a31:=Tryz.isAgg29
 z31:=Tryz.sizeOf29
 v31:=Tryz.zeroValue29 }
open Go.RowKit Go.Lib Go.Sort in
theorem slices_Compact_string (blk off cap:Nat) (zs:List (List UInt8)) (w:World) (hH:Holds encStr w blk off zs.toArray) (hsz:zs.length≤9223372036854775807) (hcap:zs.length≤cap) :
  Calls Tryz.prog 50 #[.slice (some ⟨blk,off,none⟩) zs.length cap] w fun e w'=>e = .returned (.slice (some ⟨blk,off,none⟩) (Lib.compact zs).length cap)∧∃ q,w'=putRow encStr (Sort.ahead w q) blk off (Lib.compact zs++List.replicate (zs.length - (Lib.compact zs).length) []).toArray:=Any.slices_Compact_string lays194 blk off cap zs w hH hsz hcap
open Go.RowKit Go.Lib Go.Sort in
theorem slices_Compact_string_empty (a:Option Addr) (cap:Nat) (w:World) :
  Calls Tryz.prog 50 #[.slice a 0 cap] w fun e w'=>e = .returned (.slice a 0 cap)∧w'=w:=Any.slices_Compact_string_empty lays194 a cap w
def laysSlM6_f49_ren:Go.Shelf.Ren:=⟨fun|6=>49|8=>84|9=>83|19=>110|20=>111|21=>101|22=>102|23=>103|24=>104|25=>105|26=>106|27=>107|28=>108|29=>109|36=>126|31=>127|32=>128|37=>129|38=>130|39=>131|41=>144|n=>n,fun|27=>29|29=>9|3=>3|32=>133|26=>29|0=>0|44=>162|46=>164|4=>4|36=>155|35=>154|41=>159|5=>5|9=>9|53=>178|57=>182|63=>206|64=>207|n=>n,fun|n=>n⟩
theorem laysSlM6_f49:Go.Proofs.SlLaysM.n6 Tryz.prog laysSlM6_f49_ren:={
 mixed:=by kernel_rfl
 f6:=⟨Tryz.f49.name,by decide,Tryz.func49.trans (congrArg some (by kernel_rfl))⟩
 f8:=Tryz.func84.trans (congrArg some (by kernel_rfl))
 f9:=⟨Tryz.f83.name,by decide,Tryz.func83.trans (congrArg some (by kernel_rfl))⟩
 f19:=Tryz.func110.trans (congrArg some (by kernel_rfl))
 f20:=Tryz.func111.trans (congrArg some (by kernel_rfl))
 f21:=⟨Tryz.f101.name,by decide,Tryz.func101.trans (congrArg some (by kernel_rfl))⟩
 f22:=⟨Tryz.f102.name,by decide,Tryz.func102.trans (congrArg some (by kernel_rfl))⟩
 f23:=⟨Tryz.f103.name,by decide,Tryz.func103.trans (congrArg some (by kernel_rfl))⟩
 f24:=⟨Tryz.f104.name,by decide,Tryz.func104.trans (congrArg some (by kernel_rfl))⟩
 f25:=⟨Tryz.f105.name,by decide,Tryz.func105.trans (congrArg some (by kernel_rfl))⟩
 f26:=⟨Tryz.f106.name,by decide,Tryz.func106.trans (congrArg some (by kernel_rfl))⟩
 f27:=⟨Tryz.f107.name,by decide,Tryz.func107.trans (congrArg some (by kernel_rfl))⟩
 f28:=⟨Tryz.f108.name,by decide,Tryz.func108.trans (congrArg some (by kernel_rfl))⟩
 f29:=⟨Tryz.f109.name,by decide,Tryz.func109.trans (congrArg some (by kernel_rfl))⟩
 f31:=Tryz.func127.trans (congrArg some (by kernel_rfl))
 f32:=Tryz.func128.trans (congrArg some (by kernel_rfl))
 f36:=⟨Tryz.f126.name,by decide,Tryz.func126.trans (congrArg some (by kernel_rfl))⟩
 f37:=⟨Tryz.f129.name,by decide,Tryz.func129.trans (congrArg some (by kernel_rfl))⟩
 f38:=⟨Tryz.f130.name,by decide,Tryz.func130.trans (congrArg some (by kernel_rfl))⟩
 f39:=⟨Tryz.f131.name,by decide,Tryz.func131.trans (congrArg some (by kernel_rfl))⟩
 f41:=⟨Tryz.f144.name,by decide,Tryz.func144.trans (congrArg some (by kernel_rfl))⟩
 t0:=Tryz.underlying0
 a0:=Tryz.isAgg0
 z0:=Tryz.sizeOf0
 v0:=Tryz.zeroValue0
 t3:=Tryz.underlying3
 a3:=Tryz.isAgg3
 z3:=Tryz.sizeOf3
 v3:=Tryz.zeroValue3
 t4:=Tryz.underlying4
 a4:=Tryz.isAgg4
 z4:=Tryz.sizeOf4
 v4:=Tryz.zeroValue4
 t5:=Tryz.underlying5
 a5:=Tryz.isAgg5
 z5:=Tryz.sizeOf5
 v5:=Tryz.zeroValue5
 t9:=Tryz.underlying9
 a9:=Tryz.isAgg9
 z9:=Tryz.sizeOf9
 v9:=Tryz.zeroValue9
 t26:=Tryz.underlying29
 a26:=Tryz.isAgg29
 z26:=Tryz.sizeOf29
 v26:=Tryz.zeroValue29
 t27:=Tryz.underlying29
 a27:=Tryz.isAgg29
 z27:=Tryz.sizeOf29
 v27:=Tryz.zeroValue29
 t29:=Tryz.underlying9
 a29:=Tryz.isAgg9
 z29:=Tryz.sizeOf9
 v29:=Tryz.zeroValue9
 t32:=Tryz.underlying133
 a32:=Tryz.isAgg133
 z32:=Tryz.sizeOf133
 v32:=Tryz.zeroValue133
 t35:=Tryz.underlying154
 a35:=Tryz.isAgg154
 z35:=Tryz.sizeOf154
 v35:=Tryz.zeroValue154
 t36:=Tryz.underlying155
 a36:=Tryz.isAgg155
 z36:=Tryz.sizeOf155
 v36:=Tryz.zeroValue155
 t41:=Tryz.underlying159
 a41:=Tryz.isAgg159
 z41:=Tryz.sizeOf159
 v41:=Tryz.zeroValue159
 t44:=Tryz.underlying162
 a44:=Tryz.isAgg162
 z44:=Tryz.sizeOf162
 v44:=Tryz.zeroValue162
 t46:=Tryz.underlying164
 a46:=Tryz.isAgg164
 z46:=Tryz.sizeOf164
 v46:=Tryz.zeroValue164
 t53:=Tryz.underlying178
 a53:=Tryz.isAgg178
 z53:=Tryz.sizeOf178
 v53:=Tryz.zeroValue178
 t57:=Tryz.underlying182
 a57:=Tryz.isAgg182
 z57:=Tryz.sizeOf182
 v57:=Tryz.zeroValue182
 t63:=Tryz.underlying206
 a63:=Tryz.isAgg206
 z63:=Tryz.sizeOf206
 v63:=Tryz.zeroValue206
 t64:=Tryz.underlying207
 a64:=Tryz.isAgg207
 z64:=Tryz.sizeOf207
 v64:=Tryz.zeroValue207 }
open Go.Sort Go.RowKit in
theorem slices_Sort_string (blk off cap:Nat) (ss:List (List UInt8)) (w:World) (hH:Holds encStr w blk off ss.toArray) (hblk:blk < w.heap.size) (hsz:ss.length < 4611686018427387904) :
  Calls Tryz.prog 49 #[.slice (some ⟨blk,off,none⟩) ss.length cap] w fun e w' =>
   e = .returned (.tuple #[])∧∃ n os,w'=grow (putRow encStr (Sort.ahead w n) blk off (ss.mergeSort fun x y=>decide (x≤y)).toArray) os:=AnyM.slices_Sort_string laysSlM6_f49 blk off cap ss w hH hblk hsz
def keys29_ren:Go.Shelf.Ren:=⟨fun|7=>29|10=>52|n=>n,fun|23=>67|26=>9|3=>4|28=>75|0=>0|27=>74|33=>107|4=>4|n=>n,fun|n=>n⟩
theorem keys29:Go.Proofs.SlLaysZ.n7 Tryz.prog keys29_ren:={
 mixed:=by kernel_rfl
 f7:=⟨Tryz.f29.name,by decide,Tryz.func29.trans (congrArg some (by kernel_rfl))⟩
 f10:=⟨Tryz.f52.name,by decide,Tryz.func52.trans (congrArg some (by kernel_rfl))⟩
 t0:=Tryz.underlying0
 a0:=Tryz.isAgg0
 z0:=Tryz.sizeOf0
 v0:=Tryz.zeroValue0
 t4:=Tryz.underlying4
 a4:=Tryz.isAgg4
 z4:=Tryz.sizeOf4
 v4:=Tryz.zeroValue4
 t23:=Tryz.underlying67
 a23:=Tryz.isAgg67
 z23:=Tryz.sizeOf67
 v23:=Tryz.zeroValue67
 t26:=Tryz.underlying9
 a26:=Tryz.isAgg9
 z26:=Tryz.sizeOf9
 v26:=Tryz.zeroValue9
 t27:=Tryz.underlying74
 a27:=Tryz.isAgg74
 z27:=Tryz.sizeOf74
 v27:=Tryz.zeroValue74
 t28:=Tryz.underlying75
 a28:=Tryz.isAgg75
 z28:=Tryz.sizeOf75
 v28:=Tryz.zeroValue75
 t33:=Tryz.underlying107
 a33:=Tryz.isAgg107
 z33:=Tryz.sizeOf107
 v33:=Tryz.zeroValue107 }
def sorted28_ren:Go.Shelf.Ren:=⟨fun|6=>28|8=>51|9=>49|11=>85|13=>84|12=>83|23=>110|24=>111|14=>101|15=>102|16=>103|17=>104|18=>105|19=>106|20=>107|21=>108|22=>109|25=>126|26=>127|27=>128|28=>129|29=>130|30=>131|31=>144|n=>n,fun|26=>9|28=>75|24=>29|0=>0|3=>3|37=>133|48=>162|50=>164|4=>4|40=>155|39=>154|45=>159|5=>5|9=>9|51=>178|55=>182|57=>206|58=>207|33=>107|n=>n,fun|n=>n⟩
theorem sorted28:Go.Proofs.SlLaysZ.n6 Tryz.prog sorted28_ren:={
 mixed:=by kernel_rfl
 f6:=⟨Tryz.f28.name,by decide,Tryz.func28.trans (congrArg some (by kernel_rfl))⟩
 f8:=⟨Tryz.f51.name,by decide,Tryz.func51.trans (congrArg some (by kernel_rfl))⟩
 f11:=⟨Tryz.f85.name,by decide,Tryz.func85.trans (congrArg some (by kernel_rfl))⟩
 t0:=Tryz.underlying0
 a0:=Tryz.isAgg0
 z0:=Tryz.sizeOf0
 v0:=Tryz.zeroValue0
 t24:=Tryz.underlying29
 a24:=Tryz.isAgg29
 z24:=Tryz.sizeOf29
 v24:=Tryz.zeroValue29
 t26:=Tryz.underlying9
 a26:=Tryz.isAgg9
 z26:=Tryz.sizeOf9
 v26:=Tryz.zeroValue9
 t28:=Tryz.underlying75
 a28:=Tryz.isAgg75
 z28:=Tryz.sizeOf75
 v28:=Tryz.zeroValue75
 i26:=by kernel_rfl }
def sort49_ren:Go.Shelf.Ren:=⟨fun|6=>49|8=>84|9=>83|19=>110|20=>111|21=>101|22=>102|23=>103|24=>104|25=>105|26=>106|27=>107|28=>108|29=>109|36=>126|31=>127|32=>128|37=>129|38=>130|39=>131|41=>144|n=>n,fun|27=>29|29=>9|3=>3|32=>133|26=>29|0=>0|44=>162|46=>164|4=>4|36=>155|35=>154|41=>159|5=>5|9=>9|53=>178|57=>182|63=>206|64=>207|n=>n,fun|n=>n⟩
theorem sort49:Go.Proofs.SlLaysM.n6 Tryz.prog sort49_ren:={
 mixed:=by kernel_rfl
 f6:=⟨Tryz.f49.name,by decide,Tryz.func49.trans (congrArg some (by kernel_rfl))⟩
 f8:=Tryz.func84.trans (congrArg some (by kernel_rfl))
 f9:=⟨Tryz.f83.name,by decide,Tryz.func83.trans (congrArg some (by kernel_rfl))⟩
 f19:=Tryz.func110.trans (congrArg some (by kernel_rfl))
 f20:=Tryz.func111.trans (congrArg some (by kernel_rfl))
 f21:=⟨Tryz.f101.name,by decide,Tryz.func101.trans (congrArg some (by kernel_rfl))⟩
 f22:=⟨Tryz.f102.name,by decide,Tryz.func102.trans (congrArg some (by kernel_rfl))⟩
 f23:=⟨Tryz.f103.name,by decide,Tryz.func103.trans (congrArg some (by kernel_rfl))⟩
 f24:=⟨Tryz.f104.name,by decide,Tryz.func104.trans (congrArg some (by kernel_rfl))⟩
 f25:=⟨Tryz.f105.name,by decide,Tryz.func105.trans (congrArg some (by kernel_rfl))⟩
 f26:=⟨Tryz.f106.name,by decide,Tryz.func106.trans (congrArg some (by kernel_rfl))⟩
 f27:=⟨Tryz.f107.name,by decide,Tryz.func107.trans (congrArg some (by kernel_rfl))⟩
 f28:=⟨Tryz.f108.name,by decide,Tryz.func108.trans (congrArg some (by kernel_rfl))⟩
 f29:=⟨Tryz.f109.name,by decide,Tryz.func109.trans (congrArg some (by kernel_rfl))⟩
 f31:=Tryz.func127.trans (congrArg some (by kernel_rfl))
 f32:=Tryz.func128.trans (congrArg some (by kernel_rfl))
 f36:=⟨Tryz.f126.name,by decide,Tryz.func126.trans (congrArg some (by kernel_rfl))⟩
 f37:=⟨Tryz.f129.name,by decide,Tryz.func129.trans (congrArg some (by kernel_rfl))⟩
 f38:=⟨Tryz.f130.name,by decide,Tryz.func130.trans (congrArg some (by kernel_rfl))⟩
 f39:=⟨Tryz.f131.name,by decide,Tryz.func131.trans (congrArg some (by kernel_rfl))⟩
 f41:=⟨Tryz.f144.name,by decide,Tryz.func144.trans (congrArg some (by kernel_rfl))⟩
 t0:=Tryz.underlying0
 a0:=Tryz.isAgg0
 z0:=Tryz.sizeOf0
 v0:=Tryz.zeroValue0
 t3:=Tryz.underlying3
 a3:=Tryz.isAgg3
 z3:=Tryz.sizeOf3
 v3:=Tryz.zeroValue3
 t4:=Tryz.underlying4
 a4:=Tryz.isAgg4
 z4:=Tryz.sizeOf4
 v4:=Tryz.zeroValue4
 t5:=Tryz.underlying5
 a5:=Tryz.isAgg5
 z5:=Tryz.sizeOf5
 v5:=Tryz.zeroValue5
 t9:=Tryz.underlying9
 a9:=Tryz.isAgg9
 z9:=Tryz.sizeOf9
 v9:=Tryz.zeroValue9
 t26:=Tryz.underlying29
 a26:=Tryz.isAgg29
 z26:=Tryz.sizeOf29
 v26:=Tryz.zeroValue29
 t27:=Tryz.underlying29
 a27:=Tryz.isAgg29
 z27:=Tryz.sizeOf29
 v27:=Tryz.zeroValue29
 t29:=Tryz.underlying9
 a29:=Tryz.isAgg9
 z29:=Tryz.sizeOf9
 v29:=Tryz.zeroValue9
 t32:=Tryz.underlying133
 a32:=Tryz.isAgg133
 z32:=Tryz.sizeOf133
 v32:=Tryz.zeroValue133
 t35:=Tryz.underlying154
 a35:=Tryz.isAgg154
 z35:=Tryz.sizeOf154
 v35:=Tryz.zeroValue154
 t36:=Tryz.underlying155
 a36:=Tryz.isAgg155
 z36:=Tryz.sizeOf155
 v36:=Tryz.zeroValue155
 t41:=Tryz.underlying159
 a41:=Tryz.isAgg159
 z41:=Tryz.sizeOf159
 v41:=Tryz.zeroValue159
 t44:=Tryz.underlying162
 a44:=Tryz.isAgg162
 z44:=Tryz.sizeOf162
 v44:=Tryz.zeroValue162
 t46:=Tryz.underlying164
 a46:=Tryz.isAgg164
 z46:=Tryz.sizeOf164
 v46:=Tryz.zeroValue164
 t53:=Tryz.underlying178
 a53:=Tryz.isAgg178
 z53:=Tryz.sizeOf178
 v53:=Tryz.zeroValue178
 t57:=Tryz.underlying182
 a57:=Tryz.isAgg182
 z57:=Tryz.sizeOf182
 v57:=Tryz.zeroValue182
 t63:=Tryz.underlying206
 a63:=Tryz.isAgg206
 z63:=Tryz.sizeOf206
 v63:=Tryz.zeroValue206
 t64:=Tryz.underlying207
 a64:=Tryz.isAgg207
 z64:=Tryz.sizeOf207
 v64:=Tryz.zeroValue207 }
open Go.RowKit Go.Maps Go.Sort Go.Shelf in
theorem sorts28 (m:Nat):AnyZ.SortsIn Tryz.prog sorted28_ren Fence.wide m :=
 ⟨fun blk off cap ss W hH hblk hsz=>callsIn_wide.2 (AnyM.slices_Sort_string sort49 blk off cap ss W hH hblk hsz),
  fun p cap W=>callsIn_wide.2 (AnyM.slices_Sort_string_none sort49 p cap W)⟩
end Go.Proofs.YtmjffgienmcabaaGreatDoor
namespace Go.Proofs.YtmjffgienmcabaaGreatDoor
open Go.RowKit
open IntWalk renaming iteOmega → iO, toNatUp → tN
set_option linter.unusedVariables false
set_option linter.unusedSimpArgs false
theorem idxb_pure (s:ByteArray) (c:Int):PCalls Tryz.prog 118 [.c (.v (.string s)),.c (.v (.int .u8 c))] [] fun r os=>r = .c (.v (.int .i64 (Lib.indexByte s.data.toList c.toNat.toUInt8)))∧os=[] :=
 pcalls_plain [.string s,.int .u8 c] _ rfl fun w _=>(strings_IndexByte s c w).mono fun e w' ⟨he,hw⟩=>by rw [he,hw];exact ⟨rfl,Below.refl _ _⟩
theorem cmpB_eq (a b:ByteArray):Lib.compareBytes a.data.toList b.data.toList=cmpS a b:=by
 have h1:=compare_lt a.data.toList b.data.toList
 have h2:=compare_eq a.data.toList b.data.toList
 have h3:∀ x y:List UInt8,Lib.compareBytes x y = -1∨Lib.compareBytes x y=0∨Lib.compareBytes x y=1:=by
  intro x
  induction x with
  | nil=>intro y;cases y<;>simp [Lib.compareBytes]
  | cons a x ih =>
   intro y
   cases y with
   | nil=>simp [Lib.compareBytes]
   | cons b y=>rw [Lib.compareBytes];split;simp;split;simp;exact ih y
 have h4:=h3 a.data.toList b.data.toList
 have hb:Op.bytesLess a.data.toList b.data.toList=bless a b:=by unfold bless;rw [Lib.toList_data,Lib.toList_data]
 rw [hb] at h1
 unfold cmpS
 by_cases e1:bless a b=true
 ·rw [if_pos e1];have:=h1.2 e1;omega
 ·rw [if_neg e1]
  by_cases e2:bless b a=true
  ·rw [if_pos e2]
   have hn:¬ Lib.compareBytes a.data.toList b.data.toList=0:=fun h=>by
    have he:=h2.1 h
    have:a=b:=by cases a;cases b;simp only at he;congr;exact Array.toList_inj.1 he
    exact bless_ne e2 this.symm
   have:¬ Lib.compareBytes a.data.toList b.data.toList < 0:=fun h=>e1 (h1.1 h)
   omega
  ·rw [if_neg e2]
   have:a=b:=bless_total (by simpa using e1) (by simpa using e2)
   rw [h2,this]
theorem scmp_pure (a b:ByteArray):PCalls Tryz.prog 78 [.c (.v (.string a)),.c (.v (.string b))] [] fun r os=>r = .c (.v (.int .i64 (cmpS a b)))∧os=[] :=
 pcalls_plain [.string a,.string b] _ rfl fun w _=>(strings_Compare a b w).mono fun e w' ⟨he,hw⟩=>by rw [he,hw,cmpB_eq];exact ⟨rfl,Below.refl _ _⟩
theorem repl_pure (s:ByteArray) (hs:s.size < 4294967281):PCalls Tryz.prog 95 [.c (.v (.string s)),.c (.v (.string ⟨#[33]⟩)),.c (.v (.string ⟨#[47]⟩))] [] fun r os=>r = .c (.v (.string (nodeS s)))∧os=[] :=
 pcalls_plain [.string s,.string ⟨#[33]⟩,.string ⟨#[47]⟩] _ rfl fun w hp=>by
  obtain ⟨m,hm⟩:=hp
  refine (strings_ReplaceAll s ⟨#[33]⟩ ⟨#[47]⟩ m w hs hm (by decide) (by
   have h:=Lib.countB_le ⟨#[33]⟩ (by decide) _ s (Nat.le_refl _)
   show _+_ * 1≤_
   omega)).mono fun e w' ⟨he,hw⟩=>?_
  exact ⟨he,hw⟩
theorem lcontains_one (c:UInt8):∀ l:List UInt8,Lib.contains l [c]=l.contains c:=by
 have key:∀ l:List UInt8,Lib.index l [c]=Lib.indexByte l c:=by
  intro l
  induction l with
  | nil=>rfl
  | cons b l ih =>
   rw [Lib.index,Lib.indexByte,ih]
   by_cases h:b=c
   ·subst h;simp
   ·simp [h,Ne.symm h]
 intro l
 rw [Lib.contains,key,Lib.contains_iff_indexByte]
theorem contains_pure (s:ByteArray) (c:UInt8) (hs:s.size < 4294967281):PCalls Tryz.prog 94 [.c (.v (.string s)),.c (.v (.string ⟨#[c]⟩))] [] fun r os=>r = .c (.v (.bool (s.data.toList.contains c)))∧os=[] :=
 pcalls_plain [.string s,.string ⟨#[c]⟩] _ rfl fun w hp=>by
  obtain ⟨m,hm⟩:=hp
  refine (strings_Contains s ⟨#[c]⟩ m w hs hm).mono fun e w' ⟨he,hw⟩=>?_
  rw [he,hw]
  exact ⟨by rw [show (⟨#[c]⟩:ByteArray).data.toList=[c] from rfl,lcontains_one],Below.refl _ _⟩
theorem texts_rows (w:World) (I:Nat → Prop):∀ l:List ByteArray,All2 (RD w I) (l.map strD).flatten (l.map Value.string)
 | []=>trivial
 | a :: l=>⟨by rw [RD];exact ⟨rfl,rfl⟩,texts_rows w I l⟩
theorem split_pure (s:ByteArray) (hs:s.size < 4294967281):PCalls Tryz.prog 96 [.c (.v (.string s)),.c (.v (.string ⟨#[47]⟩))] [] fun r os=>r = .c (.own 0 (parts s).length)∧os=[.arr 9 1 ((parts s).map strD)]:=by
 have h:=pcalls_row (P:=Tryz.prog) (g:=96) [.string s,.string ⟨#[47]⟩] 9 ((parts s).map strD) ((parts s).map Value.string) 1 (by omega) (fun r hr=>by obtain ⟨z,_,rfl⟩:=List.mem_map.1 hr;rfl) (by rw [List.length_map];exact parts_ne s) (fun w I=>texts_rows w I _)
  (fun w hp=>by
   obtain ⟨m,hm⟩:=hp
   refine (strings_Split s ⟨#[47]⟩ m w hs hm (by decide)).mono fun e w' ⟨he,hw⟩=>?_
   have hlen:Lib.countB s ⟨#[47]⟩+1=(parts s).length:=by rw [← splitB_parts,Lib.splitB_all _ (by decide) 0 _ s rfl]
   rw [splitB_parts] at hw
   rw [hlen] at he
   refine ⟨_,he,?_,by rw [hw];exact (Below.refl _ _).alloc (Nat.le_refl _) _⟩
   rw [hw,List.length_map]
   have:=own_blk (base:=w.heap.size) (n:=(parts s).length) (cap:=(parts s).length) (size:=1) (Blk.new w 9 ((parts s).map Value.string).toArray) (Nat.le_refl _) (by simp) (Nat.le_refl _) (by have:=parts_size (s:=s);unfold maxLen;omega)
   rwa [List.toList_toArray,List.take_of_length_le (by simp)] at this)
 simpa using h
def allSome:List (Option PV) → List PV → Prop
 | [],[]=>True
 | some q :: l,r :: m=>leP q r∧allSome l m
 | _,_=>False
theorem allSome_ok {w:World} {Γ:G}:∀ {l:List (Option PV)} {m:List PV} {ys:List Value},allSome l m → All2 (fun q y=>∀ r,q=some r → RP w Γ r y) l ys → All2 (RP w Γ) m ys
 | [],[],_,_,h=>by rw [All2.nil_l] at h ⊢;exact h
 | some q :: l,r :: m,y :: ys,h,hr=>⟨leP_ok h.1 (hr.1 q rfl),allSome_ok h.2 hr.2⟩
 | some _ :: _,_ :: _,[],_,hr=>hr.elim
 | [],_ :: _,_,h,_=>h.elim
 | none :: _,_,_,h,_=>h.elim
 | some _ :: _,[],_,h,_=>h.elim
section
variable {P:Program} {N p:Nat} {ops:Array Oper} {rest:List Oper} {o:Oper} {s:S} {K:S → Prop}
theorem pl_call_all {f:Operand} {args:Array Operand} {tys:Array TypeId} {g:FuncId} {ds:List D} {cap:List Nat} {args':List PV} {R:PV → List Ob → Prop}
  (ho:o.op = .call ⟨.value f,args,tys⟩) (hg:gd ops s o.guard=some true) (hf:s.ev f=some (.c (.fn (.func g) ds cap))) (hb:bodyOk P g=true) (hd:dstOk N o.dst)
  (ha:allSome (callArgs s ds args.toList cap) args') (hc:PCalls P g args' s.o R)
  (hK:∀ r os'',R r os'' → PL P N p ops rest (S.put ⟨s.t,os''⟩ o.dst r) K):PL P N p ops (o :: rest) s K:=by
 intro Γ a w Q hA hQ
 obtain ⟨xs,ys,hfv,hargs⟩:=callArgs_ok hA.inv hf args
 have hseen:=allSome_ok ha hargs
 unfold wpListIn
 rw [if_pos (gd_ok hg hA.inv)]
 refine wpIn_enter (run_enter ho hfv hb) ?_
 have:=hc _ w _ hA.inv.m hseen
 rw [Array.toArray_toList] at this
 refine this.mono ?_
 rintro e w' ⟨r,os'',Γ',y,rfl,hR,hr,hlen,hm',hgr⟩
 have hle:p≤s.o.length:=by rw [← hA.inv.m.n];exact hA.le
 have hag:∀ j,j < Γ.n → Agree Γ Γ' j:=fun j hj=>by
  have hj':j < s.o.length:=by rw [← hA.inv.m.n];exact hj
  exact ⟨by rw [hm'.n];omega,(hgr.keep j hj').1,(hgr.keep j hj').2⟩
 have hI:=hA.inv.heap hm' (hgr.stay hA.inv.m) hag
 refine ⟨y,rfl,hK r os'' hR Γ' _ w' Q ⟨hI.put (dst_lt hd) hr,by rw [hm'.n];omega⟩ fun s' Γ2 a2 w2 hk hA2 hg2 hd2=>hQ s' Γ2 a2 w2 hk hA2 ?_ (hd2.trans (put_defers _ _ _))⟩
 have hgp:Grow p Γ w Γ' w':=⟨hgr.ext,hgr.sub,hgr.new,hgr.imm,fun k hk=>hgr.keep k (by omega)⟩
 exact hgp.trans hg2
theorem weak_slots {s':S} (ht:subT s s'.t) (ho:s'.o=s.o):Weak N p s s':=by
 intro Γ a w hA
 refine ⟨Γ,⟨⟨hA.inv.size,hA.inv.defers,fun i q hq=>?_,by rw [ho];exact hA.inv.m⟩,hA.le⟩,Grow.refl _ _ _⟩
 obtain ⟨r,hr,hle⟩:=subT_look ht hq
 obtain ⟨i1,i2⟩:=hA.inv.t i r hr
 exact ⟨i1,leP_ok hle i2⟩
end
theorem weak_seg {N p:Nat} {s:S} (i:Nat) {k n:Nat} (sz:Nat) (hi:s.get i=some (.c (.own k n))):Weak N p s ⟨(i,.c (.seg k sz 0 n)) :: s.t,s.o⟩:=by
 intro Γ a w hA
 refine ⟨Γ,⟨⟨hA.inv.size,hA.inv.defers,fun j q hq=>?_,hA.inv.m⟩,hA.le⟩,Grow.refl _ _ _⟩
 simp only [S.get,look] at hq
 split at hq
 ·rename_i e
  subst e
  cases hq
  obtain ⟨h1,h2,h3⟩:=hA.inv.t j _ hi
  refine ⟨h1,h2,?_⟩
  rcases h3 with ⟨_,⟨A,h4⟩,rfl⟩|⟨h4,h5,h6⟩
  ·exact ⟨A,0,h4,Nat.le_refl _,fun h=>absurd h (by omega)⟩
  ·exact ⟨_,_,h5,h6,fun _=>⟨h4,by omega,by simp⟩⟩
 ·exact hA.inv.t j q hq
def RetA (P:Program) (rs:List ResultVar) (p:Nat) (R:PV → List Ob → Prop) (s:S):Prop:=∃ r,resP P s rs=some r∧p≤s.o.length∧R r s.o
def RetQA (P:Program) (rs:List ResultVar) (p:Nat) (R:PV → List Ob → Prop):Exit → S → Prop
 | .normal,s=>RetA P rs p R s
 | .ret,s=>RetA P rs p R s
 | _,_=>False
theorem RetQA_normal (P:Program) (rs:List ResultVar) (p:Nat) (R:PV → List Ob → Prop) (s:S):RetQA P rs p R .normal s=RetA P rs p R s:=rfl
theorem RetQA_ret (P:Program) (rs:List ResultVar) (p:Nat) (R:PV → List Ob → Prop) (s:S):RetQA P rs p R .ret s=RetA P rs p R s:=rfl
attribute [push_cast] RetQA_normal RetQA_ret allSome
theorem pcalls_of_all {P:Program} {g:FuncId} {fn:Func} {c:Code} {args:List PV} {os:List Ob} {R:PV → List Ob → Prop} (hf:P.funcs[g]? = some fn) (hb:fn.body=some c) (hn:args.length≤fn.ntmps)
  (h:PWP P fn.ntmps os.length c (RetQA P fn.results.toList os.length R) ⟨parT 0 args,os⟩):PCalls P g args os R:=by
 refine calls_pwp (T:=RetA P fn.results.toList os.length R) hf hb hn (fun e s hq=>?_) (fun s' Γ Γ' a' w w' ht hI hg=>?_) h
 ·cases e with
  | normal=>exact ⟨.inl rfl,hq⟩
  | ret=>exact ⟨.inr rfl,hq⟩
  | exit j=>exact hq.elim
  | goto l=>exact hq.elim
  | panic ch=>exact hq.elim
  | outgrown=>exact hq.elim
 ·obtain ⟨r,h1,h2,h3⟩:=ht
  obtain ⟨y,h8,h9⟩:=resP_ok hI h1
  exact ⟨y,h8,r,s'.o,Γ',h3,h9,h2,hI.m,hg⟩
end Go.Proofs.YtmjffgienmcabaaGreatDoor
namespace Go.Proofs.YtmjffgienmcabaaGreatDoor
attribute [local irreducible] PL QL PWPr PCalls Weak RetK Kontr PA
open Go.RowKit
open IntWalk renaming iteOmega → iO, toNatUp → tN
set_option linter.unusedVariables false
set_option linter.unusedSimpArgs false
set_option maxRecDepth 20000
abbrev boolE (b:Bool):E:=.v (.bool b)
theorem all_repl (m n:Nat) (x:Value):(List.replicate m (E.v x)).all (keyOk n)=true:=List.all_eq_true.2 fun e he=>by rw [List.eq_of_mem_replicate he];rfl
theorem plusL_nil (cs:List Bool):plusL cs []=cs:=rfl
theorem seeEs_repl (v:Bool) (os:List Ob) (ks:List Nat) (m:Nat) (x:Value):seeEs v os ks (List.replicate m (E.v x))=some (List.replicate m (E.v x)):=by
 have:=seeEs_mapv v os ks (fun _:Unit=>x) (List.replicate m ())
 simpa only [List.map_replicate] using this
attribute [push_cast] seeEs_repl all_repl plusL_nil List.drop_replicate Nat.sub_self List.replicate_zero List.append_nil
theorem drop_bools (cs:List Bool) (i:Nat) (hi:i < cs.length):(cs.map boolE).drop i = .v (.bool (cs.getD i false)) :: (cs.map boolE).drop (i+1):=by
 have h:i < (cs.map boolE).length:=by rw [List.length_map];exact hi
 rw [List.drop_eq_getElem_cons h,List.getElem_map,List.getD_eq_getElem?_getD,List.getElem?_eq_getElem hi];rfl
end Go.Proofs.YtmjffgienmcabaaGreatDoor
