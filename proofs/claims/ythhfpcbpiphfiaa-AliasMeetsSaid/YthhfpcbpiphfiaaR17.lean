/- What the program computes, and the plain laws of it, part 17. -/
import Derived.Shelf.Strings.Prefix
import Derived.Shelf.Slices.Turned
import Derived.Shelf.Slices.CompactS
import Derived.Shelf.SortM.Plain
import Derived.Shelf.SortM.SortNone
import Derived.Test.YthhfpcbpiphfiaaProg
import Derived.Lib.IndexAny
import Derived.WideKeyEntry
import Derived.Test.YthhfpcbpiphfiaaR14
import Derived.Test.YthhfpcbpiphfiaaR16
namespace Go.Proofs.Ythhfpcbpiphfiaa
open Go.Shelf
set_option maxHeartbeats 1000000
def lays99_ren:Go.Shelf.Ren:=⟨fun|99=>83|206=>88|n=>n,fun|9=>9|4=>4|3=>3|n=>n,fun|n=>n⟩
theorem lays99:Go.Proofs.Lays.n99 Try.prog lays99_ren:={
 mixed:=by kernel_rfl
 f99:=Try.func83.trans (congrArg some (by kernel_rfl))
 f206:=Try.func88.trans (congrArg some (by kernel_rfl))
 t3:=Try.underlying3
 a3:=Try.isAgg3
 z3:=Try.sizeOf3
 v3:=Try.zeroValue3
 t4:=Try.underlying4
 a4:=Try.isAgg4
 z4:=Try.sizeOf4
 v4:=Try.zeroValue4
 t9:=Try.underlying9
 a9:=Try.isAgg9
 z9:=Try.sizeOf9
 v9:=Try.zeroValue9 }
open Go.RowKit Go.Lib in
theorem strings_HasPrefix (s p:ByteArray) (w:World) :
  Calls Try.prog 83 #[.string s,.string p] w fun e w'=>e = .returned (.bool (Lib.hasPrefix s.data.toList p.data.toList))∧w'=w:=Any.strings_HasPrefix lays99 s p w
def lays194_ren:Go.Shelf.Ren:=⟨fun|194=>28|n=>n,fun|31=>28|9=>9|3=>3|4=>4|0=>0|n=>n,fun|n=>n⟩
theorem lays194:Go.Proofs.Lays.n194 Try.prog lays194_ren:={
 mixed:=by kernel_rfl
 f194:=Try.func28.trans (congrArg some (by kernel_rfl))
 t0:=Try.underlying0
 a0:=Try.isAgg0
 z0:=Try.sizeOf0
 v0:=Try.zeroValue0
 t3:=Try.underlying3
 a3:=Try.isAgg3
 z3:=Try.sizeOf3
 v3:=Try.zeroValue3
 t4:=Try.underlying4
 a4:=Try.isAgg4
 z4:=Try.sizeOf4
 v4:=Try.zeroValue4
 t9:=Try.underlying9
 a9:=Try.isAgg9
 z9:=Try.sizeOf9
 v9:=Try.zeroValue9
 t31:=Try.underlying28
 a31:=Try.isAgg28
 z31:=Try.sizeOf28
 v31:=Try.zeroValue28 }
open Go.RowKit Go.Lib Go.Sort in
theorem slices_Compact_string (blk off cap:Nat) (zs:List (List UInt8)) (w:World) (hH:Holds encStr w blk off zs.toArray) (hsz:zs.length≤9223372036854775807) (hcap:zs.length≤cap) :
  Calls Try.prog 28 #[.slice (some ⟨blk,off,none⟩) zs.length cap] w fun e w'=>e = .returned (.slice (some ⟨blk,off,none⟩) (Lib.compact zs).length cap)∧∃ q,w'=putRow encStr (Sort.ahead w q) blk off (Lib.compact zs++List.replicate (zs.length - (Lib.compact zs).length) []).toArray:=Any.slices_Compact_string lays194 blk off cap zs w hH hsz hcap
open Go.RowKit Go.Lib Go.Sort in
theorem slices_Compact_string_empty (a:Option Addr) (cap:Nat) (w:World) :
  Calls Try.prog 28 #[.slice a 0 cap] w fun e w'=>e = .returned (.slice a 0 cap)∧w'=w:=Any.slices_Compact_string_empty lays194 a cap w
def laysSlM6_f27_ren:Go.Shelf.Ren:=⟨fun|6=>27|8=>42|9=>41|19=>66|20=>67|21=>57|22=>58|23=>59|24=>60|25=>61|26=>62|27=>63|28=>64|29=>65|36=>77|31=>78|32=>79|37=>80|38=>81|39=>82|41=>87|n=>n,fun|27=>28|29=>9|3=>3|32=>82|26=>28|0=>0|44=>130|46=>132|4=>4|36=>124|35=>123|41=>116|5=>5|9=>9|53=>149|57=>153|63=>160|64=>161|n=>n,fun|n=>n⟩
theorem laysSlM6_f27:Go.Proofs.SlLaysM.n6 Try.prog laysSlM6_f27_ren:={
 mixed:=by kernel_rfl
 f6:=⟨Try.f27.name,by decide,Try.func27.trans (congrArg some (by kernel_rfl))⟩
 f8:=Try.func42.trans (congrArg some (by kernel_rfl))
 f9:=⟨Try.f41.name,by decide,Try.func41.trans (congrArg some (by kernel_rfl))⟩
 f19:=Try.func66.trans (congrArg some (by kernel_rfl))
 f20:=Try.func67.trans (congrArg some (by kernel_rfl))
 f21:=⟨Try.f57.name,by decide,Try.func57.trans (congrArg some (by kernel_rfl))⟩
 f22:=⟨Try.f58.name,by decide,Try.func58.trans (congrArg some (by kernel_rfl))⟩
 f23:=⟨Try.f59.name,by decide,Try.func59.trans (congrArg some (by kernel_rfl))⟩
 f24:=⟨Try.f60.name,by decide,Try.func60.trans (congrArg some (by kernel_rfl))⟩
 f25:=⟨Try.f61.name,by decide,Try.func61.trans (congrArg some (by kernel_rfl))⟩
 f26:=⟨Try.f62.name,by decide,Try.func62.trans (congrArg some (by kernel_rfl))⟩
 f27:=⟨Try.f63.name,by decide,Try.func63.trans (congrArg some (by kernel_rfl))⟩
 f28:=⟨Try.f64.name,by decide,Try.func64.trans (congrArg some (by kernel_rfl))⟩
 f29:=⟨Try.f65.name,by decide,Try.func65.trans (congrArg some (by kernel_rfl))⟩
 f31:=Try.func78.trans (congrArg some (by kernel_rfl))
 f32:=Try.func79.trans (congrArg some (by kernel_rfl))
 f36:=⟨Try.f77.name,by decide,Try.func77.trans (congrArg some (by kernel_rfl))⟩
 f37:=⟨Try.f80.name,by decide,Try.func80.trans (congrArg some (by kernel_rfl))⟩
 f38:=⟨Try.f81.name,by decide,Try.func81.trans (congrArg some (by kernel_rfl))⟩
 f39:=⟨Try.f82.name,by decide,Try.func82.trans (congrArg some (by kernel_rfl))⟩
 f41:=⟨Try.f87.name,by decide,Try.func87.trans (congrArg some (by kernel_rfl))⟩
 t0:=Try.underlying0
 a0:=Try.isAgg0
 z0:=Try.sizeOf0
 v0:=Try.zeroValue0
 t3:=Try.underlying3
 a3:=Try.isAgg3
 z3:=Try.sizeOf3
 v3:=Try.zeroValue3
 t4:=Try.underlying4
 a4:=Try.isAgg4
 z4:=Try.sizeOf4
 v4:=Try.zeroValue4
 t5:=Try.underlying5
 a5:=Try.isAgg5
 z5:=Try.sizeOf5
 v5:=Try.zeroValue5
 t9:=Try.underlying9
 a9:=Try.isAgg9
 z9:=Try.sizeOf9
 v9:=Try.zeroValue9
 t26:=Try.underlying28
 a26:=Try.isAgg28
 z26:=Try.sizeOf28
 v26:=Try.zeroValue28
 t27:=Try.underlying28
 a27:=Try.isAgg28
 z27:=Try.sizeOf28
 v27:=Try.zeroValue28
 t29:=Try.underlying9
 a29:=Try.isAgg9
 z29:=Try.sizeOf9
 v29:=Try.zeroValue9
 t32:=Try.underlying82
 a32:=Try.isAgg82
 z32:=Try.sizeOf82
 v32:=Try.zeroValue82
 t35:=Try.underlying123
 a35:=Try.isAgg123
 z35:=Try.sizeOf123
 v35:=Try.zeroValue123
 t36:=Try.underlying124
 a36:=Try.isAgg124
 z36:=Try.sizeOf124
 v36:=Try.zeroValue124
 t41:=Try.underlying116
 a41:=Try.isAgg116
 z41:=Try.sizeOf116
 v41:=Try.zeroValue116
 t44:=Try.underlying130
 a44:=Try.isAgg130
 z44:=Try.sizeOf130
 v44:=Try.zeroValue130
 t46:=Try.underlying132
 a46:=Try.isAgg132
 z46:=Try.sizeOf132
 v46:=Try.zeroValue132
 t53:=Try.underlying149
 a53:=Try.isAgg149
 z53:=Try.sizeOf149
 v53:=Try.zeroValue149
 t57:=Try.underlying153
 a57:=Try.isAgg153
 z57:=Try.sizeOf153
 v57:=Try.zeroValue153
 t63:=Try.underlying160
 a63:=Try.isAgg160
 z63:=Try.sizeOf160
 v63:=Try.zeroValue160
 t64:=Try.underlying161
 a64:=Try.isAgg161
 z64:=Try.sizeOf161
 v64:=Try.zeroValue161 }
end Go.Proofs.Ythhfpcbpiphfiaa
namespace Go.Proofs.Ythhfpcbpiphfiaa
attribute [local irreducible] PL QL PWPr PCalls Weak RetK Kontr PA
open Go.RowKit
open IntWalk renaming iteOmega → iO, toNatUp → tN
set_option linter.unusedVariables false
set_option linter.unusedSimpArgs false
set_option maxRecDepth 20000
abbrev boolE (b:Bool):E:=.v (.bool b)
theorem all_repl (m n:Nat) (x:Value):(List.replicate m (E.v x)).all (keyOk n)=true:=List.all_eq_true.2 fun e he=>by rw [List.eq_of_mem_replicate he];rfl
theorem plusL_nil (cs:List Bool):plusL cs []=cs:=rfl
theorem seeEs_repl (v:Bool) (os:List Ob) (ks:List Nat) (m:Nat) (x:Value):seeEs v os ks (List.replicate m (E.v x))=some (List.replicate m (E.v x)):=by
 have:=seeEs_mapv v os ks (fun _:Unit=>x) (List.replicate m ())
 simpa only [List.map_replicate] using this
attribute [push_cast] seeEs_repl all_repl plusL_nil List.drop_replicate Nat.sub_self List.replicate_zero List.append_nil
theorem drop_bools (cs:List Bool) (i:Nat) (hi:i < cs.length):(cs.map boolE).drop i = .v (.bool (cs.getD i false)) :: (cs.map boolE).drop (i+1):=by
 have h:i < (cs.map boolE).length:=by rw [List.length_map];exact hi
 rw [List.drop_eq_getElem_cons h,List.getElem_map,List.getD_eq_getElem?_getD,List.getElem?_eq_getElem hi];rfl
set_option maxRecDepth 20000
theorem noneS_rep:noneS.map boolE=List.replicate 127 (E.v (.bool false)):=List.map_replicate
set_option maxRecDepth 20000 in
set_option maxHeartbeats 1000000 in
theorem every_pure:PCalls Try.prog 68 [] [] fun r os=>r = .agg (everyL.map boolE)∧os=[]:=by
 refine pcalls_of Try.func68 rfl (by simp [Try.ntmps68]) ?_
 rw [Try.ntmps68,Try.results68]
 push_cast [-List.reduceReplicate,iO,tN]
 have cB:CutB 3 []:=trivial
 repeat' (first|((first|refine pC ?_|refine pQC ?_|refine pU ?_);push_cast [-List.reduceReplicate,iO,tN])|(refine pif (fun h=>?_) (fun h=>?_)<;>first|exact pN h|push_cast [-List.reduceReplicate,iO,tN]))
 (apply pwp_loop3 (α:=Nat) 3 [] (fun k=>[(2,.c (.v (.int .i64 (32+k))))]) (fun k=>[(1,.box 90 ((fillN noneS 32 k).map boolE))]) (fun k=>k≤95) (fun k=>95 - k) (0);(focus ((try push_cast [-List.reduceReplicate,iO,tN]);rfl));(focus exact (by omega));(focus ((refine weak_fg ?_;try push_cast [-List.reduceReplicate,iO,tN]);(try (exact leEs_refl _)))))
 intro k hk
 push_cast [-List.reduceReplicate,iO,tN]
 have hlen:(fillN noneS 32 k).length=127:=by rw [fillN_len];rfl
 by_cases hlt:k < 95
 ·repeat' (first|((first|refine pC ?_|refine pQC ?_|refine pU ?_);push_cast [-List.reduceReplicate,iO,tN,hlen])|(refine pif (fun h=>?_) (fun h=>?_)<;>first|exact pN h|push_cast [-List.reduceReplicate,iO,tN,hlen]))
  have hs2:(List.map boolE (fillN noneS 32 k)).set (32+k) (.v (.bool true))=(fillN noneS 32 (k+1)).map boolE:=by rw [fillN,List.map_set]
  have hk3:(32+(k:Int)+1)=32+((k:Int)+1):=by omega
  exact ⟨k+1,by omega,by (refine weak_fg ?_;push_cast [-List.reduceReplicate,iO,tN,hs2,hk3]),by omega⟩
 ·have hk2:k=95:=by omega
  subst hk2
  have hst:List.take 127 ((fillN noneS 32 95).map boolE)=everyL.map boolE:=List.take_of_length_le (by rw [List.length_map,hlen];exact Nat.le_refl _)
  repeat' (first|((first|refine pC ?_|refine pQC ?_|refine pU ?_);push_cast [-List.reduceReplicate,iO,tN,hlen])|(refine pif (fun h=>?_) (fun h=>?_)<;>first|exact pN h|push_cast [-List.reduceReplicate,iO,tN,hlen]))
  (refine retK_of [] ?_;push_cast [-List.reduceReplicate,iO,tN,hlen,hst])
  exact leEs_refl _
theorem byt_sub {p:ByteArray} {i:Nat} (k:Nat) (h:i≤p.size):(p.extract i p.size).data.toList.getD k 0=byt p (i+k):=by
 have e:(p.extract i p.size).data.toList=p.data.toList.drop i:=by rw [ByteArray.data_extract,Array.toList_extract,List.extract_eq_take_drop];exact List.take_of_length_le (by rw [List.length_drop];exact Nat.le_refl _)
 unfold byt
 rw [e,List.getD_eq_getElem?_getD,List.getElem?_drop,← List.getD_eq_getElem?_getD]
abbrev rdE (p:ByteArray) (i:Nat):List E:=[.v (.string p),.v (.int .i64 i)]
set_option maxRecDepth 20000 in
set_option maxHeartbeats 1000000 in
theorem member_none (p:ByteArray) (i:Nat) (cs:List Bool) (h:i=p.size) (hp:p.size≤1000000) :
  PCalls Try.prog 84 [.c (.ptr 0 0),.c (.ptr 1 0)] [.box 86 (rdE p i),.box 90 (cs.map boolE)] fun r os=>r = .c (.v (.bool false))∧os=[.box 86 (rdE p i),.box 90 (cs.map boolE)]:=by
 have hx:p.extract i p.size=⟨#[]⟩:=by
  apply ByteArray.ext
  rw [ByteArray.data_extract]
  exact Array.extract_empty_of_stop_le_start (by omega)
 have hx2:((⟨#[]⟩:ByteArray)=⟨#[]⟩)=True:=eq_self _
 refine pcalls_of Try.func84 rfl (by simp [Try.ntmps84]) ?_
 rw [Try.ntmps84,Try.results84]
 push_cast [-List.reduceReplicate,iO,tN]
 have cB:CutB 9 []:=trivial
 repeat' (first|((first|refine pC ?_|refine pQC ?_|refine pU ?_);push_cast [-List.reduceReplicate,iO,tN,hx])|(refine pif (fun h=>?_) (fun h=>?_)<;>first|exact pN h|push_cast [-List.reduceReplicate,iO,tN,hx]))
 (refine retK_of [0,1] ?_;push_cast [-List.reduceReplicate,iO,tN])
set_option maxRecDepth 20000 in
set_option maxHeartbeats 2000000 in
theorem member_pure (p:ByteArray) (i:Nat) (cs:List Bool) (h:i < p.size) (hp:p.size≤1000000) (hcs:cs.length=127) (hb:∀ k,byt p k≤126) :
  PCalls Try.prog 84 [.c (.ptr 0 0),.c (.ptr 1 0)] [.box 86 (rdE p i),.box 90 (cs.map boolE)] fun r os=>r = .c (.v (.bool (decide (byt p i≤memTo p i))))∧os=[.box 86 (rdE p (memAt p i)),.box 90 ((memS p i cs).map boolE)]:=by
 have hsz:(p.extract i p.size).size=p.size - i:=by rw [ByteArray.size_extract];omega
 have hx:¬ p.extract i p.size=⟨#[]⟩:=fun e=>by rw [e] at hsz;have:(0:Nat)=p.size - i:=hsz;omega
 have b0:(p.extract i p.size).data.toList.getD 0 0=byt p i:=byt_sub (p:=p) (i:=i) 0 (by omega)
 have b1:=byt_sub (p:=p) (i:=i) 1 (by omega)
 have b2:=byt_sub (p:=p) (i:=i) 2 (by omega)
 have g0:0 < (p.extract i p.size).size:=by omega
 refine pcalls_of Try.func84 rfl (by simp [Try.ntmps84]) ?_
 rw [Try.ntmps84,Try.results84]
 push_cast [-List.reduceReplicate,iO,tN]
 have cB:CutB 9 []:=trivial
 by_cases h2:i+2 < p.size
 case neg =>
  have h2':¬ (2:Int) < ((p.extract i p.size).size:Int):=by omega
  have hq:rngQ p i=false:=by unfold rngQ;rw [decide_eq_false h2];rfl
  have hm:memAt p i=i+1:=by unfold memAt;rw [hq];rfl
  have ht:memTo p i=byt p i:=by unfold memTo;rw [hq];rfl
  obtain ⟨A,hA⟩:∃ A,(byt p i).toNat=A:=⟨_,rfl⟩
  obtain ⟨T,hT⟩:∃ T,(memTo p i).toNat=T:=⟨_,rfl⟩
  have hAT:A=T:=by rw [← hA,← hT,ht]
  have hT1:T≤126:=by rw [← hAT,← hA];exact UInt8.le_iff_toNat_le.1 (hb i)
  repeat' (first|((first|refine pC ?_|refine pQC ?_|refine pU ?_);push_cast [-List.reduceReplicate,iO,tN,hx,g0,b0,h2',hA])|(refine pif (fun h=>?_) (fun h=>?_)<;>first|exact pN h|push_cast [-List.reduceReplicate,iO,tN,hx,g0,b0,h2',hA]))
  have hS:memS p i cs=fillN cs A (T+1 - A):=by unfold memS;rw [hA,hT]
  (apply pwp_loop3 (α:=Nat) 9 [] (fun k=>[(8,.c (.v (.int .u8 ((A+k:Nat):Int))))]) (fun k=>[(1,.box 90 ((fillN cs A k).map boolE))]) (fun k=>k≤T+1 - A) (fun k=>(T+1 - A) - k) (0);(focus ((try push_cast [-List.reduceReplicate,iO,tN]);rfl));(focus exact (by omega));(focus ((refine weak_fg ?_;try push_cast [-List.reduceReplicate,iO,tN]);(try (exact ⟨(Int.add_zero _).symm,leEs_refl _⟩)))))
  intro k hk
  push_cast [-List.reduceReplicate,iO,tN]
  have hlen:(fillN cs A k).length=127:=by rw [fillN_len,hcs]
  by_cases hlt:k < T+1 - A
  ·have hc:(A:Int)+(k:Int)≤(T:Int):=by omega
   repeat' (first|((first|refine pC ?_|refine pQC ?_|refine pU ?_);push_cast [-List.reduceReplicate,iO,tN,hlen,hc])|(refine pif (fun h=>?_) (fun h=>?_)<;>first|exact pN h|push_cast [-List.reduceReplicate,iO,tN,hlen,hc]))
   have hs2:(List.map boolE (fillN cs A k)).set (A+k) (.v (.bool true))=(fillN cs A (k+1)).map boolE:=by rw [fillN,List.map_set]
   have hk3:((A:Int)+(k:Int)+1)=(A:Int)+((k:Int)+1):=by omega
   exact ⟨k+1,by omega,by (refine weak_fg ?_;push_cast [-List.reduceReplicate,iO,tN,hs2,hk3]),by omega⟩
  ·have hk2:k=T+1 - A:=by omega
   have hc:¬ (A:Int)+(k:Int)≤(T:Int):=by omega
   repeat' (first|((first|refine pC ?_|refine pQC ?_|refine pU ?_);push_cast [-List.reduceReplicate,iO,tN,hlen,hc])|(refine pif (fun h=>?_) (fun h=>?_)<;>first|exact pN h|push_cast [-List.reduceReplicate,iO,tN,hlen,hc]))
   subst hk2
   (refine retK_of [0,1] ?_;push_cast [-List.reduceReplicate,iO,tN])
   refine ⟨decide_eq_decide.2 ?_,by rw [hm];push_cast;try rfl,by rw [hS];exact leEs_refl _⟩
   rw [UInt8.le_iff_toNat_le,hA,hT];omega
 have h2':(2:Int) < ((p.extract i p.size).size:Int):=by omega
 have g1:1 < (p.extract i p.size).size:=by omega
 have g2:2 < (p.extract i p.size).size:=by omega
 by_cases h3:byt p (i+1)=45
 case neg =>
  have h3':¬ (byt p (i+1)).toNat=45:=fun e=>h3 (UInt8.toNat_inj.1 e)
  have hq:rngQ p i=false:=by unfold rngQ;rw [beq_eq_false_iff_ne.2 h3];simp
  have hm:memAt p i=i+1:=by unfold memAt;rw [hq];rfl
  have ht:memTo p i=byt p i:=by unfold memTo;rw [hq];rfl
  obtain ⟨A,hA⟩:∃ A,(byt p i).toNat=A:=⟨_,rfl⟩
  obtain ⟨T,hT⟩:∃ T,(memTo p i).toNat=T:=⟨_,rfl⟩
  have hAT:A=T:=by rw [← hA,← hT,ht]
  have hT1:T≤126:=by rw [← hAT,← hA];exact UInt8.le_iff_toNat_le.1 (hb i)
  repeat' (first|((first|refine pC ?_|refine pQC ?_|refine pU ?_);push_cast [-List.reduceReplicate,iO,tN,hx,g0,b0,g1,b1,h2',hA,h3',h3])|(refine pif (fun h=>?_) (fun h=>?_)<;>first|exact pN h|push_cast [-List.reduceReplicate,iO,tN,hx,g0,b0,g1,b1,h2',hA,h3',h3]))
  have hS:memS p i cs=fillN cs A (T+1 - A):=by unfold memS;rw [hA,hT]
  (apply pwp_loop3 (α:=Nat) 9 [] (fun k=>[(8,.c (.v (.int .u8 ((A+k:Nat):Int))))]) (fun k=>[(1,.box 90 ((fillN cs A k).map boolE))]) (fun k=>k≤T+1 - A) (fun k=>(T+1 - A) - k) (0);(focus ((try push_cast [-List.reduceReplicate,iO,tN]);rfl));(focus exact (by omega));(focus ((refine weak_fg ?_;try push_cast [-List.reduceReplicate,iO,tN]);(try (exact ⟨(Int.add_zero _).symm,leEs_refl _⟩)))))
  intro k hk
  push_cast [-List.reduceReplicate,iO,tN]
  have hlen:(fillN cs A k).length=127:=by rw [fillN_len,hcs]
  by_cases hlt:k < T+1 - A
  ·have hc:(A:Int)+(k:Int)≤(T:Int):=by omega
   repeat' (first|((first|refine pC ?_|refine pQC ?_|refine pU ?_);push_cast [-List.reduceReplicate,iO,tN,hlen,hc])|(refine pif (fun h=>?_) (fun h=>?_)<;>first|exact pN h|push_cast [-List.reduceReplicate,iO,tN,hlen,hc]))
   have hs2:(List.map boolE (fillN cs A k)).set (A+k) (.v (.bool true))=(fillN cs A (k+1)).map boolE:=by rw [fillN,List.map_set]
   have hk3:((A:Int)+(k:Int)+1)=(A:Int)+((k:Int)+1):=by omega
   exact ⟨k+1,by omega,by (refine weak_fg ?_;push_cast [-List.reduceReplicate,iO,tN,hs2,hk3]),by omega⟩
  ·have hk2:k=T+1 - A:=by omega
   have hc:¬ (A:Int)+(k:Int)≤(T:Int):=by omega
   repeat' (first|((first|refine pC ?_|refine pQC ?_|refine pU ?_);push_cast [-List.reduceReplicate,iO,tN,hlen,hc])|(refine pif (fun h=>?_) (fun h=>?_)<;>first|exact pN h|push_cast [-List.reduceReplicate,iO,tN,hlen,hc]))
   subst hk2
   (refine retK_of [0,1] ?_;push_cast [-List.reduceReplicate,iO,tN])
   refine ⟨decide_eq_decide.2 ?_,by rw [hm];push_cast;try rfl,by rw [hS];exact leEs_refl _⟩
   rw [UInt8.le_iff_toNat_le,hA,hT];omega
 by_cases h4:byt p (i+2)=93
 case pos =>
  have hq:rngQ p i=false:=by unfold rngQ;rw [h4];simp
  have hm:memAt p i=i+1:=by unfold memAt;rw [hq];rfl
  have ht:memTo p i=byt p i:=by unfold memTo;rw [hq];rfl
  obtain ⟨A,hA⟩:∃ A,(byt p i).toNat=A:=⟨_,rfl⟩
  obtain ⟨T,hT⟩:∃ T,(memTo p i).toNat=T:=⟨_,rfl⟩
  have hAT:A=T:=by rw [← hA,← hT,ht]
  have hT1:T≤126:=by rw [← hAT,← hA];exact UInt8.le_iff_toNat_le.1 (hb i)
  repeat' (first|((first|refine pC ?_|refine pQC ?_|refine pU ?_);push_cast [-List.reduceReplicate,iO,tN,hx,g0,b0,g1,b1,g2,b2,h2',hA,h3,h4])|(refine pif (fun h=>?_) (fun h=>?_)<;>first|exact pN h|push_cast [-List.reduceReplicate,iO,tN,hx,g0,b0,g1,b1,g2,b2,h2',hA,h3,h4]))
  have hS:memS p i cs=fillN cs A (T+1 - A):=by unfold memS;rw [hA,hT]
  (apply pwp_loop3 (α:=Nat) 9 [] (fun k=>[(8,.c (.v (.int .u8 ((A+k:Nat):Int))))]) (fun k=>[(1,.box 90 ((fillN cs A k).map boolE))]) (fun k=>k≤T+1 - A) (fun k=>(T+1 - A) - k) (0);(focus ((try push_cast [-List.reduceReplicate,iO,tN]);rfl));(focus exact (by omega));(focus ((refine weak_fg ?_;try push_cast [-List.reduceReplicate,iO,tN]);(try (exact ⟨(Int.add_zero _).symm,leEs_refl _⟩)))))
  intro k hk
  push_cast [-List.reduceReplicate,iO,tN]
  have hlen:(fillN cs A k).length=127:=by rw [fillN_len,hcs]
  by_cases hlt:k < T+1 - A
  ·have hc:(A:Int)+(k:Int)≤(T:Int):=by omega
   repeat' (first|((first|refine pC ?_|refine pQC ?_|refine pU ?_);push_cast [-List.reduceReplicate,iO,tN,hlen,hc])|(refine pif (fun h=>?_) (fun h=>?_)<;>first|exact pN h|push_cast [-List.reduceReplicate,iO,tN,hlen,hc]))
   have hs2:(List.map boolE (fillN cs A k)).set (A+k) (.v (.bool true))=(fillN cs A (k+1)).map boolE:=by rw [fillN,List.map_set]
   have hk3:((A:Int)+(k:Int)+1)=(A:Int)+((k:Int)+1):=by omega
   exact ⟨k+1,by omega,by (refine weak_fg ?_;push_cast [-List.reduceReplicate,iO,tN,hs2,hk3]),by omega⟩
  ·have hk2:k=T+1 - A:=by omega
   have hc:¬ (A:Int)+(k:Int)≤(T:Int):=by omega
   repeat' (first|((first|refine pC ?_|refine pQC ?_|refine pU ?_);push_cast [-List.reduceReplicate,iO,tN,hlen,hc])|(refine pif (fun h=>?_) (fun h=>?_)<;>first|exact pN h|push_cast [-List.reduceReplicate,iO,tN,hlen,hc]))
   subst hk2
   (refine retK_of [0,1] ?_;push_cast [-List.reduceReplicate,iO,tN])
   refine ⟨decide_eq_decide.2 ?_,by rw [hm];push_cast;try rfl,by rw [hS];exact leEs_refl _⟩
   rw [UInt8.le_iff_toNat_le,hA,hT];omega
 have h4':¬ (byt p (i+2)).toNat=93:=fun e=>h4 (UInt8.toNat_inj.1 e)
 have hq:rngQ p i=true:=by unfold rngQ;rw [h3,decide_eq_true h2];simp [h4]
 have hm:memAt p i=i+3:=by unfold memAt;rw [hq];rfl
 have ht:memTo p i=byt p (i+2):=by unfold memTo;rw [hq];rfl
 obtain ⟨A,hA⟩:∃ A,(byt p i).toNat=A:=⟨_,rfl⟩
 obtain ⟨T,hT⟩:∃ T,(memTo p i).toNat=T:=⟨_,rfl⟩
 have hTT:(byt p (i+2)).toNat=T:=by rw [← hT,ht]
 have hT1:T≤126:=by rw [← hTT];exact UInt8.le_iff_toNat_le.1 (hb _)
 have hA1:A≤126:=by rw [← hA];exact UInt8.le_iff_toNat_le.1 (hb _)
 repeat' (first|((first|refine pC ?_|refine pQC ?_|refine pU ?_);push_cast [-List.reduceReplicate,iO,tN,hx,g0,b0,g1,b1,g2,b2,h2',hA,h3,h4,h4',hTT])|(refine pif (fun h=>?_) (fun h=>?_)<;>first|exact pN h|push_cast [-List.reduceReplicate,iO,tN,hx,g0,b0,g1,b1,g2,b2,h2',hA,h3,h4,h4',hTT]))
 have hS:memS p i cs=fillN cs A (T+1 - A):=by unfold memS;rw [hA,hT]
 (apply pwp_loop3 (α:=Nat) 9 [] (fun k=>[(8,.c (.v (.int .u8 ((A+k:Nat):Int))))]) (fun k=>[(1,.box 90 ((fillN cs A k).map boolE))]) (fun k=>k≤T+1 - A) (fun k=>(T+1 - A) - k) (0);(focus ((try push_cast [-List.reduceReplicate,iO,tN]);rfl));(focus exact (by omega));(focus ((refine weak_fg ?_;try push_cast [-List.reduceReplicate,iO,tN]);(try (exact ⟨(Int.add_zero _).symm,leEs_refl _⟩)))))
 intro k hk
 push_cast [-List.reduceReplicate,iO,tN]
 have hlen:(fillN cs A k).length=127:=by rw [fillN_len,hcs]
 by_cases hlt:k < T+1 - A
 ·have hc:(A:Int)+(k:Int)≤(T:Int):=by omega
  repeat' (first|((first|refine pC ?_|refine pQC ?_|refine pU ?_);push_cast [-List.reduceReplicate,iO,tN,hlen,hc])|(refine pif (fun h=>?_) (fun h=>?_)<;>first|exact pN h|push_cast [-List.reduceReplicate,iO,tN,hlen,hc]))
  have hs2:(List.map boolE (fillN cs A k)).set (A+k) (.v (.bool true))=(fillN cs A (k+1)).map boolE:=by rw [fillN,List.map_set]
  have hk3:((A:Int)+(k:Int)+1)=(A:Int)+((k:Int)+1):=by omega
  exact ⟨k+1,by omega,by (refine weak_fg ?_;push_cast [-List.reduceReplicate,iO,tN,hs2,hk3]),by omega⟩
 ·have hk2:k=T+1 - A:=by omega
  have hc:¬ (A:Int)+(k:Int)≤(T:Int):=by omega
  repeat' (first|((first|refine pC ?_|refine pQC ?_|refine pU ?_);push_cast [-List.reduceReplicate,iO,tN,hlen,hc])|(refine pif (fun h=>?_) (fun h=>?_)<;>first|exact pN h|push_cast [-List.reduceReplicate,iO,tN,hlen,hc]))
  subst hk2
  (refine retK_of [0,1] ?_;push_cast [-List.reduceReplicate,iO,tN])
  refine ⟨decide_eq_decide.2 ?_,by rw [hm];push_cast;try rfl,by rw [hS];exact leEs_refl _⟩
  rw [UInt8.le_iff_toNat_le,hA,hT];omega
end Go.Proofs.Ythhfpcbpiphfiaa
namespace Go.Proofs.Ythhfpcbpiphfiaa
open Go.RowKit
open IntWalk renaming iteOmega → iO, toNatUp → tN
set_option linter.unusedVariables false
set_option linter.unusedSimpArgs false
def nestE {α:Type} (sz:Nat) (f:α → List D) (asv:List (List α)) (x:E) (m:Nat):List E:=asv.map (fun a=>E.sl sz (a.map f))++x :: List.replicate m .any
section
variable {α:Type} {sz:Nat} {f:α → List D}
theorem nest_len (asv:List (List α)) (x:E) (m:Nat):(nestE sz f asv x m).length=asv.length+(m+1):=by simp [nestE]
theorem nest_get (asv:List (List α)) (x:E) (m:Nat):(nestE sz f asv x m)[asv.length]? = some x:=by simp [nestE]
theorem nest_set (asv:List (List α)) (x y:E) (m:Nat):(nestE sz f asv x m).set asv.length y=nestE sz f asv y m:=by simp [nestE]
theorem nest_drop (asv:List (List α)) (x:E) (m:Nat):(nestE sz f asv x m).drop asv.length=x :: List.replicate m .any:=by
 unfold nestE
 rw [List.drop_left' (by simp)]
theorem nest_put (asv:List (List α)) (x y:E) (m:Nat):(nestE sz f asv x m).take asv.length++y :: (nestE sz f asv x m).drop (asv.length+1)=nestE sz f asv y m:=by
 unfold nestE
 rw [List.take_left' (by simp),← List.drop_drop,List.drop_left' (by simp)]
 rfl
theorem nest_kill (asv:List (List α)) (x:E) (m k:Nat):(nestE sz f asv x m).map (E.kill k)=nestE sz f asv (x.kill k) m:=by
 simp [nestE,E.kill,Function.comp_def]
theorem nest_frz (asv:List (List α)) (x:E) (m k z:Nat) (rows:List (List D)):(nestE sz f asv x m).map (E.frz k z rows)=nestE sz f asv (x.frz k z rows) m:=by
 simp [nestE,E.frz,Function.comp_def]
theorem nest_app (asv:List (List α)) (cur:List α) (y:E) (m m' k:Nat):((nestE sz f asv (.sl sz (cur.map f)) m).take (asv.length+1)).map (E.kill k)++y :: List.replicate m' .any=nestE sz f (asv++[cur]) y m':=by
 have e:(nestE sz f asv (.sl sz (cur.map f)) m).take (asv.length+1)=asv.map (fun a=>E.sl sz (a.map f))++[.sl sz (cur.map f)]:=by
  unfold nestE
  rw [show asv.map (fun a=>E.sl sz (a.map f))++E.sl sz (cur.map f) :: List.replicate m .any=(asv.map (fun a=>E.sl sz (a.map f))++[.sl sz (cur.map f)])++List.replicate m .any by simp]
  exact List.take_left' (by simp)
 rw [e]
 simp [nestE,E.kill,Function.comp_def]
theorem toDs_sl (asv:List (List α)):toDs (asv.map fun a=>E.sl sz (a.map f))=some (asv.map fun a=>D.sl sz (a.map f)):=by
 induction asv with
 | nil=>rfl
 | cons a asv ih=>simp only [List.map_cons,toDs,toD,ih]
theorem nest_toDs (asv:List (List α)) (cur:List α) (m:Nat):toDs ((nestE sz f asv (.sl sz (cur.map f)) m).take (asv.length+1))=some ((asv++[cur]).map fun a=>D.sl sz (a.map f)):=by
 unfold nestE
 rw [show asv.map (fun a=>E.sl sz (a.map f))++E.sl sz (cur.map f) :: List.replicate m .any=((asv++[cur]).map fun a=>E.sl sz (a.map f))++List.replicate m .any by simp]
 rw [List.take_left' (by simp),toDs_sl]
theorem nest_one (x:E):[x]=nestE sz f [] x 0:=by simp [nestE]
theorem seeEs_app (v:Bool) (os:List Ob) (ks:List Nat):∀ (a b:List E),seeEs v os ks (a++b)=(seeEs v os ks a).bind fun a'=>(seeEs v os ks b).map fun b'=>a'++b'
 | [],b=>by simp [seeEs]
 | x :: a,b=>by
  simp only [List.cons_append,seeEs,seeEs_app v os ks a b]
  cases seeE v os ks x<;>cases seeEs v os ks a<;>cases seeEs v os ks b<;>rfl
theorem seeEs_sl (v:Bool) (os:List Ob) (ks:List Nat) (asv:List (List α)):seeEs v os ks (asv.map fun a=>E.sl sz (a.map f))=some (asv.map fun a=>E.sl sz (a.map f)):=by
 induction asv with
 | nil=>rfl
 | cons a asv ih=>simp only [List.map_cons,seeEs,seeE,ih]
theorem seeEs_any (v:Bool) (os:List Ob) (ks:List Nat):∀ m,seeEs v os ks (List.replicate m .any)=some (List.replicate m .any)
 | 0=>rfl
 | m+1=>by simp only [List.replicate_succ,seeEs,seeE,seeEs_any v os ks m]
theorem nest_see (v:Bool) (os:List Ob) (ks:List Nat) (asv:List (List α)) (x:E) (m:Nat):seeEs v os ks (nestE sz f asv x m)=(seeE v os ks x).map fun y=>nestE sz f asv y m:=by
 unfold nestE
 rw [seeEs_app,seeEs_sl]
 simp only [seeEs,seeEs_any,Option.bind_some]
 cases seeE v os ks x<;>rfl
theorem nest_ok (n:Nat) (asv:List (List α)) (x:E) (m:Nat):(nestE sz f asv x m).all (keyOk n)=keyOk n x:=by
 unfold nestE
 rw [List.all_append,List.all_cons]
 have h1:(asv.map fun a=>E.sl sz (a.map f)).all (keyOk n)=true:=by rw [List.all_eq_true];intro e he;obtain ⟨a,_,rfl⟩:=List.mem_map.1 he;rfl
 have h2:(List.replicate m E.any).all (keyOk n)=true:=by rw [List.all_eq_true];intro e he;rw [List.mem_replicate] at he;rw [he.2];rfl
 rw [h1,h2];simp
end
attribute [push_cast] Nat.add_zero nest_drop nest_len nest_get nest_set nest_put nest_kill nest_frz nest_see nest_ok nest_app
theorem two_put (c0 c1:E) (l:List E) (k:Nat) (x:E) (h:k < l.length):(c0 :: c1 :: l).take (2+k)++x :: (c0 :: c1 :: l).drop (2+k+1)=c0 :: c1 :: l.set k x:=by
 rw [show 2+k=k+2 by omega,show k+2+1=(k+1)+2 by omega]
 simp only [List.take_succ_cons,List.drop_succ_cons,List.cons_append]
 congr 2
 rw [List.set_eq_take_append_cons_drop,if_pos h]
end Go.Proofs.Ythhfpcbpiphfiaa
