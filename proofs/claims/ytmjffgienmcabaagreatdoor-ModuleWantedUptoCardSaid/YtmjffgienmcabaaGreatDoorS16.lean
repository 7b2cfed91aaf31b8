/- What the program computes, and the plain laws of it, part 16. -/
import Derived.WideKeyEntry
import Derived.Test.YtmjffgienmcabaaGreatDoorS15
namespace Go.Proofs.YtmjffgienmcabaaGreatDoor
attribute [local irreducible] PL QL PWPr PCalls Weak RetK Kontr PA
open Go.RowKit
open IntWalk renaming iteOmega → iO, toNatUp → tN
set_option linter.unusedVariables false
set_option linter.unusedSimpArgs false
set_option maxRecDepth 20000
theorem noneS_rep:noneS.map boolE=List.replicate 127 (E.v (.bool false)):=List.map_replicate
set_option maxRecDepth 20000 in
set_option maxHeartbeats 1000000 in
theorem every_pure:PCalls Tryz.prog 124 [] [] fun r os=>r = .agg (everyL.map boolE)∧os=[]:=by
 refine pcalls_of Tryz.func124 rfl (by simp [Tryz.ntmps124]) ?_
 rw [Tryz.ntmps124,Tryz.results124]
 push_cast [-List.reduceReplicate,iO,tN]
 have cB:CutB 3 []:=trivial
 repeat' (first|((first|refine pC ?_|refine pQC ?_|refine pU ?_);push_cast [-List.reduceReplicate,iO,tN])|(refine pif (fun h=>?_) (fun h=>?_)<;>first|exact pN h|push_cast [-List.reduceReplicate,iO,tN]))
 (apply pwp_loop3 (α:=Nat) 3 [] (fun k=>[(2,.c (.v (.int .i64 (32+k))))]) (fun k=>[(1,.box 150 ((fillN noneS 32 k).map boolE))]) (fun k=>k≤95) (fun k=>95 - k) (0);(focus ((try push_cast [-List.reduceReplicate,iO,tN]);rfl));(focus exact (by omega));(focus ((refine weak_fg ?_;try push_cast [-List.reduceReplicate,iO,tN]);(try (exact leEs_refl _)))))
 intro k hk
 push_cast [-List.reduceReplicate,iO,tN]
 have hlen:(fillN noneS 32 k).length=127:=by rw [fillN_len];rfl
 by_cases hlt:k < 95
 ·repeat' (first|((first|refine pC ?_|refine pQC ?_|refine pU ?_);push_cast [-List.reduceReplicate,iO,tN,hlen])|(refine pif (fun h=>?_) (fun h=>?_)<;>first|exact pN h|push_cast [-List.reduceReplicate,iO,tN,hlen]))
  have hs2:(List.map boolE (fillN noneS 32 k)).set (32+k) (.v (.bool true))=(fillN noneS 32 (k+1)).map boolE:=by rw [fillN,List.map_set]
  have hk3:(32+(k:Int)+1)=32+((k:Int)+1):=by omega
  exact ⟨k+1,by omega,by (refine weak_fg ?_;push_cast [-List.reduceReplicate,iO,tN,hs2,hk3]),by omega⟩
 ·have hk2:k=95:=by omega
  subst hk2
  have hst:List.take 127 ((fillN noneS 32 95).map boolE)=everyL.map boolE:=List.take_of_length_le (by rw [List.length_map,hlen];exact Nat.le_refl _)
  repeat' (first|((first|refine pC ?_|refine pQC ?_|refine pU ?_);push_cast [-List.reduceReplicate,iO,tN,hlen])|(refine pif (fun h=>?_) (fun h=>?_)<;>first|exact pN h|push_cast [-List.reduceReplicate,iO,tN,hlen]))
  (refine retK_of [] ?_;push_cast [-List.reduceReplicate,iO,tN,hlen,hst])
  exact leEs_refl _
theorem byt_sub {p:ByteArray} {i:Nat} (k:Nat) (h:i≤p.size):(p.extract i p.size).data.toList.getD k 0=byt p (i+k):=by
 have e:(p.extract i p.size).data.toList=p.data.toList.drop i:=by rw [ByteArray.data_extract,Array.toList_extract,List.extract_eq_take_drop];exact List.take_of_length_le (by rw [List.length_drop];exact Nat.le_refl _)
 unfold byt
 rw [e,List.getD_eq_getElem?_getD,List.getElem?_drop,← List.getD_eq_getElem?_getD]
abbrev rdE (p:ByteArray) (i:Nat):List E:=[.v (.string p),.v (.int .i64 i)]
set_option maxRecDepth 20000 in
set_option maxHeartbeats 1000000 in
theorem member_none (p:ByteArray) (i:Nat) (cs:List Bool) (h:i=p.size) (hp:p.size≤1000000) :
  PCalls Tryz.prog 143 [.c (.ptr 0 0),.c (.ptr 1 0)] [.box 145 (rdE p i),.box 150 (cs.map boolE)] fun r os=>r = .c (.v (.bool false))∧os=[.box 145 (rdE p i),.box 150 (cs.map boolE)]:=by
 have hx:p.extract i p.size=⟨#[]⟩:=by
  apply ByteArray.ext
  rw [ByteArray.data_extract]
  exact Array.extract_empty_of_stop_le_start (by omega)
 have hx2:((⟨#[]⟩:ByteArray)=⟨#[]⟩)=True:=eq_self _
 refine pcalls_of Tryz.func143 rfl (by simp [Tryz.ntmps143]) ?_
 rw [Tryz.ntmps143,Tryz.results143]
 push_cast [-List.reduceReplicate,iO,tN]
 have cB:CutB 9 []:=trivial
 repeat' (first|((first|refine pC ?_|refine pQC ?_|refine pU ?_);push_cast [-List.reduceReplicate,iO,tN,hx])|(refine pif (fun h=>?_) (fun h=>?_)<;>first|exact pN h|push_cast [-List.reduceReplicate,iO,tN,hx]))
 (refine retK_of [0,1] ?_;push_cast [-List.reduceReplicate,iO,tN])
set_option maxRecDepth 20000 in
set_option maxHeartbeats 2000000 in
theorem member_pure (p:ByteArray) (i:Nat) (cs:List Bool) (h:i < p.size) (hp:p.size≤1000000) (hcs:cs.length=127) (hb:∀ k,byt p k≤126) :
  PCalls Tryz.prog 143 [.c (.ptr 0 0),.c (.ptr 1 0)] [.box 145 (rdE p i),.box 150 (cs.map boolE)] fun r os=>r = .c (.v (.bool (decide (byt p i≤memTo p i))))∧os=[.box 145 (rdE p (memAt p i)),.box 150 ((memS p i cs).map boolE)]:=by
 have hsz:(p.extract i p.size).size=p.size - i:=by rw [ByteArray.size_extract];omega
 have hx:¬ p.extract i p.size=⟨#[]⟩:=fun e=>by rw [e] at hsz;have:(0:Nat)=p.size - i:=hsz;omega
 have b0:(p.extract i p.size).data.toList.getD 0 0=byt p i:=byt_sub (p:=p) (i:=i) 0 (by omega)
 have b1:=byt_sub (p:=p) (i:=i) 1 (by omega)
 have b2:=byt_sub (p:=p) (i:=i) 2 (by omega)
 have g0:0 < (p.extract i p.size).size:=by omega
 refine pcalls_of Tryz.func143 rfl (by simp [Tryz.ntmps143]) ?_
 rw [Tryz.ntmps143,Tryz.results143]
 push_cast [-List.reduceReplicate,iO,tN]
 have cB:CutB 9 []:=trivial
 by_cases h2:i+2 < p.size
 case neg =>
  have h2':¬ (2:Int) < ((p.extract i p.size).size:Int):=by omega
  have hq:rngQ p i=false:=by unfold rngQ;rw [decide_eq_false h2];rfl
  have hm:memAt p i=i+1:=by unfold memAt;rw [hq];rfl
  have ht:memTo p i=byt p i:=by unfold memTo;rw [hq];rfl
  obtain ⟨A,hA⟩:∃ A,(byt p i).toNat=A:=⟨_,rfl⟩
  obtain ⟨T,hT⟩:∃ T,(memTo p i).toNat=T:=⟨_,rfl⟩
  have hAT:A=T:=by rw [← hA,← hT,ht]
  have hT1:T≤126:=by rw [← hAT,← hA];exact UInt8.le_iff_toNat_le.1 (hb i)
  repeat' (first|((first|refine pC ?_|refine pQC ?_|refine pU ?_);push_cast [-List.reduceReplicate,iO,tN,hx,g0,b0,h2',hA])|(refine pif (fun h=>?_) (fun h=>?_)<;>first|exact pN h|push_cast [-List.reduceReplicate,iO,tN,hx,g0,b0,h2',hA]))
  have hS:memS p i cs=fillN cs A (T+1 - A):=by unfold memS;rw [hA,hT]
  (apply pwp_loop3 (α:=Nat) 9 [] (fun k=>[(8,.c (.v (.int .u8 ((A+k:Nat):Int))))]) (fun k=>[(1,.box 150 ((fillN cs A k).map boolE))]) (fun k=>k≤T+1 - A) (fun k=>(T+1 - A) - k) (0);(focus ((try push_cast [-List.reduceReplicate,iO,tN]);rfl));(focus exact (by omega));(focus ((refine weak_fg ?_;try push_cast [-List.reduceReplicate,iO,tN]);(try (exact ⟨(Int.add_zero _).symm,leEs_refl _⟩)))))
  intro k hk
  push_cast [-List.reduceReplicate,iO,tN]
  have hlen:(fillN cs A k).length=127:=by rw [fillN_len,hcs]
  by_cases hlt:k < T+1 - A
  ·have hc:(A:Int)+(k:Int)≤(T:Int):=by omega
   repeat' (first|((first|refine pC ?_|refine pQC ?_|refine pU ?_);push_cast [-List.reduceReplicate,iO,tN,hlen,hc])|(refine pif (fun h=>?_) (fun h=>?_)<;>first|exact pN h|push_cast [-List.reduceReplicate,iO,tN,hlen,hc]))
   have hs2:(List.map boolE (fillN cs A k)).set (A+k) (.v (.bool true))=(fillN cs A (k+1)).map boolE:=by rw [fillN,List.map_set]
   have hk3:((A:Int)+(k:Int)+1)=(A:Int)+((k:Int)+1):=by omega
   exact ⟨k+1,by omega,by (refine weak_fg ?_;push_cast [-List.reduceReplicate,iO,tN,hs2,hk3]),by omega⟩
  ·have hk2:k=T+1 - A:=by omega
   have hc:¬ (A:Int)+(k:Int)≤(T:Int):=by omega
   repeat' (first|((first|refine pC ?_|refine pQC ?_|refine pU ?_);push_cast [-List.reduceReplicate,iO,tN,hlen,hc])|(refine pif (fun h=>?_) (fun h=>?_)<;>first|exact pN h|push_cast [-List.reduceReplicate,iO,tN,hlen,hc]))
   subst hk2
   (refine retK_of [0,1] ?_;push_cast [-List.reduceReplicate,iO,tN])
   refine ⟨decide_eq_decide.2 ?_,by rw [hm];push_cast;try rfl,by rw [hS];exact leEs_refl _⟩
   rw [UInt8.le_iff_toNat_le,hA,hT];omega
 have h2':(2:Int) < ((p.extract i p.size).size:Int):=by omega
 have g1:1 < (p.extract i p.size).size:=by omega
 have g2:2 < (p.extract i p.size).size:=by omega
 by_cases h3:byt p (i+1)=45
 case neg =>
  have h3':¬ (byt p (i+1)).toNat=45:=fun e=>h3 (UInt8.toNat_inj.1 e)
  have hq:rngQ p i=false:=by unfold rngQ;rw [beq_eq_false_iff_ne.2 h3];simp
  have hm:memAt p i=i+1:=by unfold memAt;rw [hq];rfl
  have ht:memTo p i=byt p i:=by unfold memTo;rw [hq];rfl
  obtain ⟨A,hA⟩:∃ A,(byt p i).toNat=A:=⟨_,rfl⟩
  obtain ⟨T,hT⟩:∃ T,(memTo p i).toNat=T:=⟨_,rfl⟩
  have hAT:A=T:=by rw [← hA,← hT,ht]
  have hT1:T≤126:=by rw [← hAT,← hA];exact UInt8.le_iff_toNat_le.1 (hb i)
  repeat' (first|((first|refine pC ?_|refine pQC ?_|refine pU ?_);push_cast [-List.reduceReplicate,iO,tN,hx,g0,b0,g1,b1,h2',hA,h3',h3])|(refine pif (fun h=>?_) (fun h=>?_)<;>first|exact pN h|push_cast [-List.reduceReplicate,iO,tN,hx,g0,b0,g1,b1,h2',hA,h3',h3]))
  have hS:memS p i cs=fillN cs A (T+1 - A):=by unfold memS;rw [hA,hT]
  (apply pwp_loop3 (α:=Nat) 9 [] (fun k=>[(8,.c (.v (.int .u8 ((A+k:Nat):Int))))]) (fun k=>[(1,.box 150 ((fillN cs A k).map boolE))]) (fun k=>k≤T+1 - A) (fun k=>(T+1 - A) - k) (0);(focus ((try push_cast [-List.reduceReplicate,iO,tN]);rfl));(focus exact (by omega));(focus ((refine weak_fg ?_;try push_cast [-List.reduceReplicate,iO,tN]);(try (exact ⟨(Int.add_zero _).symm,leEs_refl _⟩)))))
  intro k hk
  push_cast [-List.reduceReplicate,iO,tN]
  have hlen:(fillN cs A k).length=127:=by rw [fillN_len,hcs]
  by_cases hlt:k < T+1 - A
  ·have hc:(A:Int)+(k:Int)≤(T:Int):=by omega
   repeat' (first|((first|refine pC ?_|refine pQC ?_|refine pU ?_);push_cast [-List.reduceReplicate,iO,tN,hlen,hc])|(refine pif (fun h=>?_) (fun h=>?_)<;>first|exact pN h|push_cast [-List.reduceReplicate,iO,tN,hlen,hc]))
   have hs2:(List.map boolE (fillN cs A k)).set (A+k) (.v (.bool true))=(fillN cs A (k+1)).map boolE:=by rw [fillN,List.map_set]
   have hk3:((A:Int)+(k:Int)+1)=(A:Int)+((k:Int)+1):=by omega
   exact ⟨k+1,by omega,by (refine weak_fg ?_;push_cast [-List.reduceReplicate,iO,tN,hs2,hk3]),by omega⟩
  ·have hk2:k=T+1 - A:=by omega
   have hc:¬ (A:Int)+(k:Int)≤(T:Int):=by omega
   repeat' (first|((first|refine pC ?_|refine pQC ?_|refine pU ?_);push_cast [-List.reduceReplicate,iO,tN,hlen,hc])|(refine pif (fun h=>?_) (fun h=>?_)<;>first|exact pN h|push_cast [-List.reduceReplicate,iO,tN,hlen,hc]))
   subst hk2
   (refine retK_of [0,1] ?_;push_cast [-List.reduceReplicate,iO,tN])
   refine ⟨decide_eq_decide.2 ?_,by rw [hm];push_cast;try rfl,by rw [hS];exact leEs_refl _⟩
   rw [UInt8.le_iff_toNat_le,hA,hT];omega
 by_cases h4:byt p (i+2)=93
 case pos =>
  have hq:rngQ p i=false:=by unfold rngQ;rw [h4];simp
  have hm:memAt p i=i+1:=by unfold memAt;rw [hq];rfl
  have ht:memTo p i=byt p i:=by unfold memTo;rw [hq];rfl
  obtain ⟨A,hA⟩:∃ A,(byt p i).toNat=A:=⟨_,rfl⟩
  obtain ⟨T,hT⟩:∃ T,(memTo p i).toNat=T:=⟨_,rfl⟩
  have hAT:A=T:=by rw [← hA,← hT,ht]
  have hT1:T≤126:=by rw [← hAT,← hA];exact UInt8.le_iff_toNat_le.1 (hb i)
  repeat' (first|((first|refine pC ?_|refine pQC ?_|refine pU ?_);push_cast [-List.reduceReplicate,iO,tN,hx,g0,b0,g1,b1,g2,b2,h2',hA,h3,h4])|(refine pif (fun h=>?_) (fun h=>?_)<;>first|exact pN h|push_cast [-List.reduceReplicate,iO,tN,hx,g0,b0,g1,b1,g2,b2,h2',hA,h3,h4]))
  have hS:memS p i cs=fillN cs A (T+1 - A):=by unfold memS;rw [hA,hT]
  (apply pwp_loop3 (α:=Nat) 9 [] (fun k=>[(8,.c (.v (.int .u8 ((A+k:Nat):Int))))]) (fun k=>[(1,.box 150 ((fillN cs A k).map boolE))]) (fun k=>k≤T+1 - A) (fun k=>(T+1 - A) - k) (0);(focus ((try push_cast [-List.reduceReplicate,iO,tN]);rfl));(focus exact (by omega));(focus ((refine weak_fg ?_;try push_cast [-List.reduceReplicate,iO,tN]);(try (exact ⟨(Int.add_zero _).symm,leEs_refl _⟩)))))
  intro k hk
  push_cast [-List.reduceReplicate,iO,tN]
  have hlen:(fillN cs A k).length=127:=by rw [fillN_len,hcs]
  by_cases hlt:k < T+1 - A
  ·have hc:(A:Int)+(k:Int)≤(T:Int):=by omega
   repeat' (first|((first|refine pC ?_|refine pQC ?_|refine pU ?_);push_cast [-List.reduceReplicate,iO,tN,hlen,hc])|(refine pif (fun h=>?_) (fun h=>?_)<;>first|exact pN h|push_cast [-List.reduceReplicate,iO,tN,hlen,hc]))
   have hs2:(List.map boolE (fillN cs A k)).set (A+k) (.v (.bool true))=(fillN cs A (k+1)).map boolE:=by rw [fillN,List.map_set]
   have hk3:((A:Int)+(k:Int)+1)=(A:Int)+((k:Int)+1):=by omega
   exact ⟨k+1,by omega,by (refine weak_fg ?_;push_cast [-List.reduceReplicate,iO,tN,hs2,hk3]),by omega⟩
  ·have hk2:k=T+1 - A:=by omega
   have hc:¬ (A:Int)+(k:Int)≤(T:Int):=by omega
   repeat' (first|((first|refine pC ?_|refine pQC ?_|refine pU ?_);push_cast [-List.reduceReplicate,iO,tN,hlen,hc])|(refine pif (fun h=>?_) (fun h=>?_)<;>first|exact pN h|push_cast [-List.reduceReplicate,iO,tN,hlen,hc]))
   subst hk2
   (refine retK_of [0,1] ?_;push_cast [-List.reduceReplicate,iO,tN])
   refine ⟨decide_eq_decide.2 ?_,by rw [hm];push_cast;try rfl,by rw [hS];exact leEs_refl _⟩
   rw [UInt8.le_iff_toNat_le,hA,hT];omega
 have h4':¬ (byt p (i+2)).toNat=93:=fun e=>h4 (UInt8.toNat_inj.1 e)
 have hq:rngQ p i=true:=by unfold rngQ;rw [h3,decide_eq_true h2];simp [h4]
 have hm:memAt p i=i+3:=by unfold memAt;rw [hq];rfl
 have ht:memTo p i=byt p (i+2):=by unfold memTo;rw [hq];rfl
 obtain ⟨A,hA⟩:∃ A,(byt p i).toNat=A:=⟨_,rfl⟩
 obtain ⟨T,hT⟩:∃ T,(memTo p i).toNat=T:=⟨_,rfl⟩
 have hTT:(byt p (i+2)).toNat=T:=by rw [← hT,ht]
 have hT1:T≤126:=by rw [← hTT];exact UInt8.le_iff_toNat_le.1 (hb _)
 have hA1:A≤126:=by rw [← hA];exact UInt8.le_iff_toNat_le.1 (hb _)
 repeat' (first|((first|refine pC ?_|refine pQC ?_|refine pU ?_);push_cast [-List.reduceReplicate,iO,tN,hx,g0,b0,g1,b1,g2,b2,h2',hA,h3,h4,h4',hTT])|(refine pif (fun h=>?_) (fun h=>?_)<;>first|exact pN h|push_cast [-List.reduceReplicate,iO,tN,hx,g0,b0,g1,b1,g2,b2,h2',hA,h3,h4,h4',hTT]))
 have hS:memS p i cs=fillN cs A (T+1 - A):=by unfold memS;rw [hA,hT]
 (apply pwp_loop3 (α:=Nat) 9 [] (fun k=>[(8,.c (.v (.int .u8 ((A+k:Nat):Int))))]) (fun k=>[(1,.box 150 ((fillN cs A k).map boolE))]) (fun k=>k≤T+1 - A) (fun k=>(T+1 - A) - k) (0);(focus ((try push_cast [-List.reduceReplicate,iO,tN]);rfl));(focus exact (by omega));(focus ((refine weak_fg ?_;try push_cast [-List.reduceReplicate,iO,tN]);(try (exact ⟨(Int.add_zero _).symm,leEs_refl _⟩)))))
 intro k hk
 push_cast [-List.reduceReplicate,iO,tN]
 have hlen:(fillN cs A k).length=127:=by rw [fillN_len,hcs]
 by_cases hlt:k < T+1 - A
 ·have hc:(A:Int)+(k:Int)≤(T:Int):=by omega
  repeat' (first|((first|refine pC ?_|refine pQC ?_|refine pU ?_);push_cast [-List.reduceReplicate,iO,tN,hlen,hc])|(refine pif (fun h=>?_) (fun h=>?_)<;>first|exact pN h|push_cast [-List.reduceReplicate,iO,tN,hlen,hc]))
  have hs2:(List.map boolE (fillN cs A k)).set (A+k) (.v (.bool true))=(fillN cs A (k+1)).map boolE:=by rw [fillN,List.map_set]
  have hk3:((A:Int)+(k:Int)+1)=(A:Int)+((k:Int)+1):=by omega
  exact ⟨k+1,by omega,by (refine weak_fg ?_;push_cast [-List.reduceReplicate,iO,tN,hs2,hk3]),by omega⟩
 ·have hk2:k=T+1 - A:=by omega
  have hc:¬ (A:Int)+(k:Int)≤(T:Int):=by omega
  repeat' (first|((first|refine pC ?_|refine pQC ?_|refine pU ?_);push_cast [-List.reduceReplicate,iO,tN,hlen,hc])|(refine pif (fun h=>?_) (fun h=>?_)<;>first|exact pN h|push_cast [-List.reduceReplicate,iO,tN,hlen,hc]))
  subst hk2
  (refine retK_of [0,1] ?_;push_cast [-List.reduceReplicate,iO,tN])
  refine ⟨decide_eq_decide.2 ?_,by rw [hm];push_cast;try rfl,by rw [hS];exact leEs_refl _⟩
  rw [UInt8.le_iff_toNat_le,hA,hT];omega
end Go.Proofs.YtmjffgienmcabaaGreatDoor
namespace Go.Proofs.YtmjffgienmcabaaGreatDoor
open Go.RowKit
open IntWalk renaming iteOmega → iO, toNatUp → tN
set_option linter.unusedVariables false
set_option linter.unusedSimpArgs false
theorem Inv.fresh {N:Nat} {Γ:G} {s:S} {a:Act} {w:World} (h:Inv N Γ s a w) {d:Nat} {y:Value} (hd:s.get d=none):Inv N Γ s (a.put (some d) y) w:=by
 refine ⟨by simpa [Act.put] using h.size,h.defers,fun i q' hi=>?_,h.m⟩
 have e:i≠d:=fun e=>by rw [e,hd] at hi;cases hi
 obtain ⟨h1,h2⟩:=h.t i q' hi
 have h3:(a.put (some d) y).tmps.getD i Go.undef=a.tmps.getD i Go.undef:=by
  simp only [Act.put]
  rw [Array.getD_eq_getD_getElem?,Array.getD_eq_getD_getElem?,Array.getElem?_setIfInBounds_ne (fun e'=>e e'.symm)]
 rw [h3]
 exact ⟨h1,h2⟩
theorem put_get {N:Nat} {Γ:G} {s:S} {a:Act} {w:World} (h:Inv N Γ s a w) {d:Nat} (y:Value) (hd:d < N):(a.put (some d) y).eval (.tmp d)=y:=by
 have:d < a.tmps.size:=by rw [h.size];exact hd
 simp [Act.put,Act.eval,this]
theorem entry_pair {P:Program} {t kt e:TypeId} {kk:Option IntKind} {w:World} {b:Nat} {ms:Array MapEntry} {ck:Nat} {key:MK} {x:Value} {es:List (MK × List D)} {I:Nat → Prop} {ag:Bool}
  (hu:P.underlying t=some (.map kt e)) (hku:P.underlying kt=some (descOf kk)) (hc:key.kind=kk) (hz:∃ z,∀ w,(zeroValue e).run P w = .ok z w) (hb:w.heap[b]? = some (.map ms ck)) (hM:RM w I kk ag es ms.toList ck) :
  ∃ (w1 w2:World) (v:Value) (st:Int),(Instr.mapEntry t (.map (some b)) key.v).run P w = .ok (.tuple #[v,.int .i64 st]) w1∧(Instr.entryStore t (.map (some b)) (.int .i64 st) x).run P w1 = .ok () w2∧(Instr.mapUpdate t (.map (some b)) key.v x).run P w = .ok () w2:=by
 obtain ⟨z,hz⟩:=hz
 have hbn:(ms.toList.map MapEntry.born).Nodup:=hM.born.imp fun h=>Nat.ne_of_lt h
 rcases find_ok hc es ms.toList 0 hM.rows hM.kind with ⟨g1,g2,g3,g4⟩|⟨j,e0,m0,g1,g2,g3,g3',g5,g6,g7,g8⟩
 ·have hb1:({ w with heap:=w.heap.setIfInBounds b (.map (ms.push { key:=key.v,val:=z,born:=ck }) (ck+1)) }:World).heap[b]? = some (.map (ms.push { key:=key.v,val:=z,born:=ck }) (ck+1)):=(MapKept.heap_set hb).1
  refine ⟨{ w with heap:=w.heap.setIfInBounds b (.map (ms.push { key:=key.v,val:=z,born:=ck }) (ck+1)) },{ w with heap:=w.heap.setIfInBounds b (.map (ms.push { key:=key.v,val:=x,born:=ck }) (ck+1)) },z,ck,?_,?_,?_⟩
  ·simp [Instr.mapEntry,run_underlying hu,hz,MapKept.run_getObj_map hb,MapKept.run_checkKey hku (mk_isKey hc),MapKept.run_findKey hku g4,MapKept.run_setObj_map _ hb,goInt]
  ·have hidx:(ms.push { key:=key.v,val:=z,born:=ck }).findIdx? (fun e=>((e.born:Nat):Int) == ((ck:Nat):Int))=some ms.size:=by
    rw [WideElems.findIdx_arr]
    exact WideElems.findIdx_born (l:=(ms.push { key:=key.v,val:=z,born:=ck }).toList) (j:=ms.size) (e0:={ key:=key.v,val:=z,born:=ck }) (by
     simp only [Array.toList_push,List.map_append,List.map_cons,List.map_nil]
     refine List.nodup_append.2 ⟨hbn,by simp,fun a ha c hc e1=>?_⟩
     simp only [List.mem_singleton] at hc
     have:=hM.clock a ha
     omega) (by simp)
   have hmod:(ms.push { key:=key.v,val:=z,born:=ck }).modify ms.size (fun e=>{ e with val:=x })=ms.push { key:=key.v,val:=x,born:=ck }:=by
    apply Array.ext'
    rw [Array.toList_modify,Array.toList_push,Array.toList_push,← Array.length_toList,WideElems.modify_last]
   simp [Instr.entryStore,MapKept.run_getObj_map hb1,asInt,asIntOf,hidx,hmod,MapKept.run_setObj_map _ hb1]
  ·simp [Instr.mapUpdate,run_underlying hu,MapKept.run_getObj_map hb,MapKept.run_checkKey hku (mk_isKey hc),MapKept.run_findKey hku g4,MapKept.run_setObj_map _ hb]
 ·have hj:ms[j]? = some m0:=by simpa using g2
  have hsame:ms.modify j (fun e=>{ e with key:=key.v })=ms:=by
   apply Array.ext'
   rw [Array.toList_modify,List.modify_eq_set,g2,← g3']
   exact list_set_self g2
  have hb1:({ w with heap:=w.heap.setIfInBounds b (.map ms ck) }:World).heap[b]? = some (.map ms ck):=(MapKept.heap_set hb).1
  refine ⟨{ w with heap:=w.heap.setIfInBounds b (.map ms ck) },{ w with heap:=w.heap.setIfInBounds b (.map (ms.modify j fun e=>{ e with key:=key.v,val:=x }) ck) },m0.val,m0.born,?_,?_,?_⟩
  ·simp [Instr.mapEntry,run_underlying hu,MapKept.run_getObj_map hb,MapKept.run_checkKey hku (mk_isKey hc),MapKept.run_findKey hku g8,hj,g3',MapKept.run_keyThatStays (mk_isKey hc),hsame,MapKept.run_setObj_map _ hb,goInt]
  ·have hidx:ms.findIdx? (fun e=>((e.born:Nat):Int) == ((m0.born:Nat):Int))=some j:=by
    rw [WideElems.findIdx_arr]
    exact WideElems.findIdx_born hbn g2
   have hmod:ms.modify j (fun e=>{ e with val:=x })=ms.modify j (fun e=>{ e with key:=key.v,val:=x }):=by
    apply Array.ext'
    rw [Array.toList_modify,Array.toList_modify,List.modify_eq_set,List.modify_eq_set,g2,← g3']
    rfl
   simp [Instr.entryStore,MapKept.run_getObj_map hb1,asInt,asIntOf,hidx,hmod,MapKept.run_setObj_map _ hb1]
  ·simp [Instr.mapUpdate,run_underlying hu,MapKept.run_getObj_map hb,MapKept.run_checkKey hku (mk_isKey hc),MapKept.run_findKey hku g8,hj,g3',MapKept.run_keyThatStays (mk_isKey hc),MapKept.run_setObj_map _ hb]
section
variable {P:Program} {N p:Nat} {ops:Array Oper} {s:S} {K:S → Prop} {fuel:Nat} {listed:Array Bool}
theorem any_step {Q:Exit → Act → World → Prop} {a:Act} {w:World} (i:Nat) {o:Oper} (hr:Region.ready .any ops listed=[i]) (ho:ops[i]? = some o) (hw:Region.wanted o (yielded ops a.tmps)=true)
  (h:o.wpIn (Fw none) 0 P a w (wpAnyIn (Fw none) 0 P .any ops Q fuel (listed.setIfInBounds i true)) Q):wpAnyIn (Fw none) 0 P .any ops Q (fuel+1) listed a w:=by
 refine ⟨fun h0=>(by rw [hr] at h0;cases h0),fun j hj=>?_⟩
 rw [hr,List.mem_singleton] at hj
 subst hj
 unfold wpOpIn
 rw [ho]
 simp only []
 rw [if_pos hw]
 exact h
def entK (P:Program) (N p:Nat) (ops:Array Oper) (fuel:Nat) (listed:Array Bool) (K:S → Prop) (t:List (Nat × PV)):Option (PV × List Ob) → Prop
 | some (_,os)=>PA P N p ops fuel listed ⟨t,os⟩ K
 | none=>False
attribute [push_cast] entK
theorem pa_entry (i1 i2 i3:Nat) {t:TypeId} {mi d1 d2 k:Nat} {x y:Operand} {key:MK} {o1 o2 o3:Oper} {kk0:Option IntKind} {e0:TypeId} {cs0:List E}
  (h1:ops[i1]? = some o1) (h2:ops[i2]? = some o2) (h3:ops[i3]? = some o3)
  (r1:Region.ready .any ops listed=[i1]) (r2:Region.ready .any ops (listed.setIfInBounds i1 true)=[i2]) (r3:Region.ready .any ops ((listed.setIfInBounds i1 true).setIfInBounds i2 true)=[i3])
  (e1:o1.op = .mapEntry t (.tmp mi) x∧o1.dst=some d1∧o1.guard=none) (e2:o2.op = .extract (.tmp d1) 1∧o2.dst=some d2∧o2.guard=none) (e3:o3.op = .entryStore t (.tmp mi) (.tmp d2) y∧o3.dst=none∧o3.guard=none)
  (hd1:d1 < N) (hd2:d2 < N) (hm:s.get mi=some (.c (.mp k))) (hx:keyP (s.ev x)=some key) (g1:s.get d1=none) (g2:s.get d2=none)
  (hmp0:mpOf P t=some (kk0,e0)) (hz:zerOf P e0=some cs0) (hy:∀ a a':Act,a.eval y=a'.eval y)
  (hk0:entK P N p ops fuel (((listed.setIfInBounds i1 true).setIfInBounds i2 true).setIfInBounds i3 true) K s.t (updP P s.o t (s.ev (.tmp mi)) (s.ev x) (s.ev y))):PA P N p ops (fuel+3) listed s K:=by
 cases hupd:updP P s.o t (s.ev (.tmp mi)) (s.ev x) (s.ev y) with
 | none=>rw [hupd] at hk0;exact hk0.elim
 | some qo =>
 obtain ⟨q,os⟩:=qo
 rw [hupd] at hk0
 have hk:PA P N p ops fuel (((listed.setIfInBounds i1 true).setIfInBounds i2 true).setIfInBounds i3 true) ⟨s.t,os⟩ K:=hk0
 intro Γ a w Q hA hK
 have hI:=hA.inv
 have hu2:=hupd
 have hmv:=S.ev_ok (x:=.tmp mi) hm hI
 obtain ⟨_,hmv⟩:=hmv
 have hxv:=keyP_ok hx hI
 unfold updP at hu2
 rw [show s.ev (.tmp mi)=some (.c (.mp k)) from hm] at hu2
 dsimp only at hu2
 rw [hx] at hu2
 split at hu2
 ·rename_i key' kk e kk' ag es hkey hmp hob
  cases hkey
  split at hu2
  ·rename_i row hrow
   split at hu2
   ·rename_i hc
    obtain ⟨hc1,rfl⟩:=hc
    obtain ⟨kt,hu,hku⟩:=mp_run hmp
    obtain ⟨h0,ms,ck,hb,hM⟩:=hI.m.ob k _ hob
    have hzz:∃ z,∀ w,(zeroValue e).run P w = .ok z w:=by
     rw [hmp0] at hmp
     cases hmp
     obtain ⟨i,v,hi,hv,_⟩:=zer_ok hz
     exact ⟨v,fun w=>by simp [zeroValue,typeInfo,hi,hv]⟩
    obtain ⟨w1,w2,v,st,p1,p2,p3⟩:=entry_pair (x:=a.eval y) hu hku hc1 hzz hb hM
    let o':Oper:={ o3 with op:=.mapUpdate t (.tmp mi) x y,dst:=none }
    obtain ⟨y',w',Γ',hrun,hrp,hinv,hgr⟩:=upd_ok (N:=N) (p:=p) (o:=o') rfl hupd hI
    have hw':w'=w2:=by
     have:(execOp a.eval o').run P w = .ok .skip w2:=by simp only [execOp,o',Sem.run_bind,hmv,hxv,p3,Result.andThen_ok,Sem.run_pure]
     rw [this] at hrun
     rcases hrun with h|⟨h,_⟩
     ·cases h
     ·cases h;rfl
    subst hw'
    have a1:Inv N Γ s (a.put (some d1) (.tuple #[v,.int .i64 st])) w:=hI.fresh g1
    have a2:Inv N Γ s ((a.put (some d1) (.tuple #[v,.int .i64 st])).put (some d2) (.int .i64 st)) w:=a1.fresh g2
    have wnt:∀ (a':Act) (o:Oper),o.guard=none → Inv N Γ s a' w → Region.wanted o (yielded ops a'.tmps)=true:=fun a' o hg hI'=>gd_ok (s:=s) (by rw [hg];rfl) hI'
    refine any_step i1 r1 h1 (wnt a o1 e1.2.2 hI) ?_
    have run1:(execOp a.eval o1).run P w = .ok (.value (.tuple #[v,.int .i64 st])) w1:=by simp only [execOp,e1.1,Sem.run_bind,hmv,hxv,p1,Result.andThen_ok,Sem.run_pure]
    refine wpIn_run run1 ?_
    simp only [Oper.uponIn]
    rw [e1.2.1]
    refine any_step i2 r2 h2 (wnt _ o2 e2.2.2 a1) ?_
    have run2:(execOp (a.put (some d1) (.tuple #[v,.int .i64 st])).eval o2).run P w1 = .ok (.value (.int .i64 st)) w1:=by simp [execOp,e2.1,put_get hI _ hd1,Instr.extract]
    refine wpIn_run run2 ?_
    simp only [Oper.uponIn]
    rw [e2.2.1]
    refine any_step i3 r3 h3 (wnt _ o3 e3.2.2 a2) ?_
    have m2:=(S.ev_ok (x:=.tmp mi) hm a2).2
    have run3:(execOp ((a.put (some d1) (.tuple #[v,.int .i64 st])).put (some d2) (.int .i64 st)).eval o3).run P w1 = .ok .skip w':=by
     simp only [execOp,e3.1,Sem.run_bind,m2,put_get a1 _ hd2,hy _ a,p2,Result.andThen_ok,Sem.run_pure]
    refine wpIn_run run3 ?_
    simp only [Oper.uponIn]
    rw [e3.2.1]
    have hl:s.o.length≤os.length:=len_upd hupd
    have b1:=(hinv.fresh (d:=d1) (y:=.tuple #[v,.int .i64 st]) g1).fresh (d:=d2) (y:=.int .i64 st) g2
    exact hk Γ' _ w' Q ⟨b1,by have:=hA.le;rw [hI.m.n] at this;rw [hinv.m.n];exact Nat.le_trans this hl⟩ fun s' Γ2 a2 w2 hk' hA2 hg2 hd2=>hK s' Γ2 a2 w2 hk' hA2 (hgr.trans hg2) (hd2.trans ((put_defers _ _ _).trans ((put_defers _ _ _).trans (put_defers _ _ _))))
   ·cases hu2
  ·cases hu2
 ·cases hu2
end
section
variable {P:Program} {N p:Nat} {ops:Array Oper} {rest:List Oper} {o:Oper} {s:S} {K:S → Prop}
theorem set_two:∀ (arr:Array Value),arr.size=2 → ∀ x y:Value,(arr.setIfInBounds 0 x).setIfInBounds 1 y = #[x,y]
 | ⟨[]⟩,h,_,_=>by simp at h
 | ⟨[_]⟩,h,_,_=>by simp at h
 | ⟨[_,_]⟩,_,_,_=>by simp
 | ⟨_ :: _ :: _ :: _⟩,h,_,_=>by simp at h
theorem pl_fns {t e:TypeId} {x0 x1:Operand} {c0 c1 z:E} (ho:o.op = .buildSlice t 2 #[(0,x0),(1,x1)]) (hg:gd ops s o.guard=some true) (hel:elOf P t=some (e,1)) (hz:zerOf P e=some [z])
  (h0:s.ev x0=some (.c c0)) (h1:s.ev x1=some (.c c1)) (hd:dstOk N o.dst) (hK:PL P N p ops rest (S.put ⟨s.t,s.o++[.box e [c0,c1]]⟩ o.dst (.c (.seg s.o.length 1 0 2))) K):PL P N p ops (o :: rest) s K:=by
 refine pl_heap (q:=.c (.seg s.o.length 1 0 2)) (os:=s.o++[.box e [c0,c1]]) hg (fun Γ a w hA=>?_) (by simp) hd hK
 obtain ⟨hu,hsz'⟩:=el_run hel
 have hI:=hA.inv
 have r0:=S.ev_ok h0 hI
 have r1:=S.ev_ok h1 hI
 have k0:=one_cells (RE.one r0)
 have k1:=one_cells (RE.one r1)
 have hE:Ext No w (w.alloc (.cells #[a.eval x0,a.eval x1] e)):=(Ext.refl No w).alloc _
 have hS:=Same.of_ext hE
 have hag:=push_agree Γ w.heap.size 2
 have hn:=hI.m.n
 have hm:MemOk (Γ.push w.heap.size 2) (s.o++[.box e [c0,c1]]) (w.alloc (.cells #[a.eval x0,a.eval x1] e)):=by
  refine hI.m.push hS _ _ _ ⟨by simp [G.push,upd_same],[a.eval x0,a.eval x1],?_,?_,.inl (by simp [G.push,upd_same])⟩ (fun _=>Nat.le_refl _)
  ·simp only [G.push,upd_same];exact Blk.new w e #[a.eval x0,a.eval x1]
  ·have hx:All2 (RE w Γ) [c0,c1] [a.eval x0,a.eval x1]:=⟨r0,r1,trivial⟩
   exact re_stay hx (hS.stay Γ.I) fun k hk=>hag k (re_lt hx k hk)
 obtain ⟨ie,zv,hie,hzz,hzr⟩:=zer_ok hz
 have hzs:zv.cells.size=1:=by have:=(hzr w Γ).length;simpa using this.symm
 have hies:ie.size=1:=by obtain ⟨i',hi',e'⟩:=Option.map_eq_some_iff.1 hsz';rw [hie] at hi';cases hi';exact e'
 have hrun:(execOp a.eval o).run P w = .ok (.value (.slice (some ⟨w.heap.size,0,none⟩) 2 2)) (w.alloc (.cells #[a.eval x0,a.eval x1] e)):=by
  have hb:=run_buildSlice (P:=P) w t e 2 #[(0,a.eval x0),(1,a.eval x1)] #[a.eval x0,a.eval x1] ie zv hu hie hzz (by rw [hies];decide) (by rw [hies];decide) (by
   rw [hies]
   simp [Instr.fill,k0,k1]
   exact set_two _ (by simp) _ _)
  simp only [execOp,ho,Sem.run_bind]
  have hp:(#[(0,x0),(1,x1)]:Array (Nat × Operand)).map (fun (i,x)=>(i,a.eval x)) = #[(0,a.eval x0),(1,a.eval x1)]:=by simp
  rw [hp,hb]
  simp only [Result.andThen_ok,Sem.run_pure]
 refine ⟨_,_,Γ.push w.heap.size 2,.inl hrun,⟨by simp [G.push,hn],some ⟨w.heap.size,0,none⟩,2,rfl,Nat.le_refl _,fun _=>?_⟩,hI.heap hm (hS.stay Γ.I) hag,grow_push hI.m hE _ _ (fun _=>Nat.le_refl _) hA.le⟩
 simp [G.push,← hn,upd_same]
end
theorem weak_optr {N p:Nat} {s:S} (i:Nat) {k r:Nat} (hi:s.get i=some (.c (.orow k 1 r 0))):Weak N p s ⟨(i,.c (.ptr k r)) :: s.t,s.o⟩:=by
 intro Γ a w hA
 refine ⟨Γ,⟨⟨hA.inv.size,hA.inv.defers,fun j q hq=>?_,hA.inv.m⟩,hA.le⟩,Grow.refl _ _ _⟩
 simp only [S.get,look] at hq
 split at hq
 ·rename_i e
  subst e
  cases hq
  obtain ⟨h1,h2,h3⟩:=hA.inv.t j _ hi
  exact ⟨h1,h2,by rw [h3];simp⟩
 ·exact hA.inv.t j q hq
theorem pwp_label {rd:Option Nat} {P:Program} {N p l:Nat} {Q:Exit → S → Prop} {s:S} (h:Q .normal s):PWPr rd P N p (.label l) Q s:=fun z Γ a w hA hD=>wpIn_label ⟨s,Γ,h,hA,Grow.refl _ _ _,hD⟩
end Go.Proofs.YtmjffgienmcabaaGreatDoor
