/- What the program computes, and the plain laws of it, part 17. -/
import Derived.WideKeyEntry
import Derived.Test.YtmbbkfffcflfcaaGreatDoorT16
namespace Go.Proofs.YtmbbkfffcflfcaaGreatDoor
open List renaming reduceReplicate → rR
open Go.Proofs.Tryz
set_option linter.unusedSimpArgs false
set_option linter.unusedVariables false
attribute [local irreducible] PL QL aL ah bg La aV PA
open Go.RowKit
open IntWalk renaming iteOmega → O, toNatUp → U
set_option maxRecDepth 20000
abbrev elC (l:List Bool):List E:=.v (.bool false) :: .v (.bool false) :: l.map aN
set_option maxRecDepth 20000 in
set_option maxHeartbeats 4000000 in
theorem BJ (p:ByteArray) (i:Nat) (hi:i≤p.size) (hp:p.size≤1000000) (hb:∀ k,byt p k≤126) (hlo:∀ k,k < p.size → 32≤(byt p k).toNat) :
  ah prog 169 [.c (.v (.string p)),.c (.v (.int .i64 i)),.c (.ptr 0 0)] [.box 209 (elC (List.replicate 128 false))] fun r os =>
   match bY p i with
   | none=>r = .two (.c (.v (.int .i64 0))) (.c (.v (.bool false)))∧os=[.box 209 (elC (List.replicate 128 false))]
   | some q=>r = .two (.c (.v (.int .i64 ((q.2:Int) - 1)))) (.c (.v (.bool true)))∧os=[.box 209 (elC (q.1++[false]))]:=by
 refine aw func169 ntmps169 results169 ?_;push_cast [-rR,O,U];have cB:aH 13 []:=trivial;have hJi:=Ar p i;refine bf fun K0 hK0=>?_
 refine bi ?_;push_cast [-rR,O,U];refine ej.use (by assumption) ?_;apply Hr
 ·intro H;by_cases hs:i < p.size
  case neg =>
   have hs':¬ (i:Int) < (p.size:Int):=ac;have hnq:jA p i=false:=by unfold jA;rw [decide_eq_false hs];rfl
   have hJ:setJ p i=i:=by unfold setJ;rw [hnq];rfl
   refine bf fun K hK=>?_
   refine bi ?_;push_cast [-rR,O,U,hs'];refine ej.use (by assumption) ?_;refine bf fun K2 hK2=>?_
   refine bf fun K3 hK3=>?_
   refine bi ?_;push_cast [-rR,O,U,hs'];refine ej.use (by assumption) ?_;refine cg ?_;push_cast [-rR,O,U,hs'];refine cr ?_;push_cast [-rR,O,U];refine ej.use (by assumption) ?_;refine aF (s':=⟨[(8,.c (.v (.bool (jA p i)))),(1,.c (.v (.int .i64 (setJ p i:Int)))),(0,.c (.v (.string p))),(2,.c (.ptr 0 0)),(6,.c (.v (.int .i64 0))),(7,.c (.v (.bool false)))],[.box 209 (elC (List.replicate 128 false))]⟩) (by (refine weak_fg ?_;push_cast [-rR,O,U,hnq,hJ])) ?_;exact H.out
  by_cases h33:byt p i=33
  case pos =>
   have hg:p.data.toList.getD i 0=33:=h33;have hnq:jA p i=true:=by unfold jA;rw [decide_eq_true hs,h33];rfl
   have hJ:setJ p i=i+1:=by unfold setJ;rw [hnq];rfl
   refine bf fun K hK=>?_
   refine bi ?_;push_cast [-rR,O,U,hs,hg];refine ej.use (by assumption) ?_;refine bf fun K2 hK2=>?_
   refine bf fun K3 hK3=>?_
   refine bi ?_;push_cast [-rR,O,U,hs,hg];refine ej.use (by assumption) ?_;refine cg ?_;push_cast [-rR,O,U,hs,hg];repeat' (first|(refine ej.use hK3 ?_)|(refine bf fun K hK=>?_)|(refine bi ?_;push_cast [-rR,O,U]))
   refine ej.use (by assumption) ?_;refine aF (s':=⟨[(8,.c (.v (.bool (jA p i)))),(1,.c (.v (.int .i64 (setJ p i:Int)))),(0,.c (.v (.string p))),(2,.c (.ptr 0 0)),(6,.c (.v (.int .i64 0))),(7,.c (.v (.bool false)))],[.box 209 (elC (List.replicate 128 false))]⟩) (by (refine weak_fg ?_;push_cast [-rR,O,U,hnq,hJ])) ?_;exact H.out
  have hg:p.data.toList.getD i 0=byt p i:=rfl;have h33n:¬ (byt p i).toNat=33:=fun e=>h33 (UInt8.toNat_inj.1 e)
  have hnq:jA p i=false:=by unfold jA;rw [beq_eq_false_iff_ne.2 h33,Bool.and_false]
  have hJ:setJ p i=i:=by unfold setJ;rw [hnq];rfl
  refine bf fun K hK=>?_
  refine bi ?_;push_cast [-rR,O,U,hs,hg,h33,h33n];refine ej.use (by assumption) ?_;refine bf fun K2 hK2=>?_
  refine bf fun K3 hK3=>?_
  refine bi ?_;push_cast [-rR,O,U,hs,hg,h33,h33n];refine ej.use (by assumption) ?_;refine cg ?_;push_cast [-rR,O,U,hs,hg,h33,h33n];refine ⟨fun h=>absurd (of_decide_eq_true h) ac,fun _=>?_⟩;refine cr ?_;push_cast [-rR,O,U];refine ej.use (by assumption) ?_;refine aF (s':=⟨[(8,.c (.v (.bool (jA p i)))),(1,.c (.v (.int .i64 (setJ p i:Int)))),(0,.c (.v (.string p))),(2,.c (.ptr 0 0)),(6,.c (.v (.int .i64 0))),(7,.c (.v (.bool false)))],[.box 209 (elC (List.replicate 128 false))]⟩) (by (refine weak_fg ?_;push_cast [-rR,O,U,hnq,hJ,(decide_eq_false (by omega:¬ ((byt p i).toNat:Int)=33))])) ?_;exact H.out
 obtain ⟨J,hJ⟩:∃ J,setJ p i=J:=⟨_,rfl⟩
 obtain ⟨nq,hnq⟩:∃ nq,jA p i=nq:=⟨_,rfl⟩
 have hJs:J≤p.size:=by
  rw [← hJ];unfold setJ jA;split
  ·rename_i h;simp only [Bool.and_eq_true,decide_eq_true_eq] at h;omega
  ·exact hi
 rw [hJ,hnq];rw [hJ] at hJi;have z128:(List.replicate 128 (E.v (.bool false)))=(dn++[false]).map aN:=by rw [List.map_append,di];rfl
 obtain ⟨c0,hc0⟩:∃ c0,dn++[false]=c0:=⟨_,rfl⟩
 have hc1:c0.length=128:=by rw [← hc0];rfl
 rw [hc0] at z128;repeat' ((first|refine ae ?_|refine pif ?_ ?_<;>intro h<;>try exact pN h)<;>push_cast [-rR,O,U])
 rw [z128];(apply ap (α:=Nat × List Bool) 13 [] (fun x=>[(1,.c (.v (.int .i64 x.1)))]) (fun x=>[(1,.box 207 (x.2.map aN))]) (fun x=>J≤x.1∧x.1≤p.size∧x.2.length=128∧aT p J c0=aT p x.1 x.2∧(J < x.1 → byt p J≠93)) (fun x=>p.size - x.1) ((J,c0));(focus ((try push_cast [-rR,O,U]);rfl));(focus exact ⟨Nat.le_refl _,hJs,hc1,rfl,fun h=>absurd h (by simp)⟩);(focus ((refine weak_fg ?_;try push_cast [-rR,O,U]))));rintro ⟨j,cs⟩ ⟨h1,h2,h3,h4,h5⟩;simp only at h1 h2 h3 h4 h5 ⊢;push_cast [-rR,O,U];have happ:=yC hb (i:=J) (cs:=dn) rfl;rw [hc0] at happ;have hnone:aT p j cs=none → bY p i=none:=fun h=>by
  unfold bY;rw [hJ];by_cases hq:p.size≤J∨byt p J=93
  ·rw [if_pos hq]
  ·rw [if_neg hq];rw [← h4,happ] at h;rw [Option.map_eq_none_iff.1 h]
 by_cases hlt:j < p.size
 case neg =>
  have hR:=hnone (by rw [aT,dif_pos ac]);repeat' ((first|refine ae ?_|refine pif ?_ ?_<;>intro h<;>try exact pN h)<;>push_cast [-rR,O,U])
  (refine K9 [0] ?_;push_cast [-rR,O,U,hR])
 obtain ⟨g0,g1,g2⟩:p.data.toList.getD j 0=byt p j∧p.data.toList.getD (j+1) 0=byt p (j+1)∧p.data.toList.getD (j+2) 0=byt p (j+2):=⟨rfl,rfl,rfl⟩
 by_cases h93:byt p j=93
 case pos =>
  by_cases hjJ:j=J
  ·have hR:bY p i=none:=by unfold bY;rw [hJ,if_pos (.inr (hjJ ▸ h93))]
   have hcJ:((j:Int)=(J:Int))=True:=eq_true ac;repeat' ((first|refine ae ?_|refine pif ?_ ?_<;>intro h<;>try exact pN h)<;>push_cast [-rR,O,U,hlt,g0,h93,hcJ])
   (refine K9 [0] ?_;push_cast [-rR,O,U,hR])
  have hcJ:((j:Int)=(J:Int))=False:=eq_false ac;have hge:aT p j cs=some (cs,j):=by rw [aT,dif_neg ac,if_pos h93]
  rw [← h4,happ] at hge;obtain ⟨r,hr1,hr2⟩:=Option.map_eq_some_iff.1 hge;have hrl:r.1.length=127:=(tH hr1).2.2;have hlow:=yD hlo BF hr1;obtain ⟨hr3,hr4⟩:r.1++[false]=cs∧r.2=j:=by injection hr2 with a b;exact ⟨a,b⟩
  have hJn:¬ (p.size≤J∨byt p J=93):=by rintro (h|h);omega;exact h5 ac h
  have hR:bY p i=some (if nq then q8 r.1 else r.1,j+1):=by unfold bY;rw [hJ,if_neg hJn,hr1,hnq,← hr4]
  repeat' ((first|refine ae ?_|refine pif ?_ ?_<;>intro h<;>try exact pN h)<;>push_cast [-rR,O,U,hlt,g0,h93,hcJ])
  have z2:elC (List.replicate 128 false)=elC (jC cs nq 0):=rfl;rw [z2];(apply ap (α:=Nat) 13 [] (fun k=>[(12,.c (.v (.int .i64 (32+k))))]) (fun k=>[(0,.box 209 (elC (jC cs nq k)))]) (fun k=>k≤95) (fun k=>95 - k) (0);(focus ((try push_cast [-rR,O,U]);rfl));(focus exact ac);(focus ((refine weak_fg ?_;try push_cast [-rR,O,U]))));intro k hk;push_cast [-rR,O,U];have hlen:(jC cs nq k).length=128:=kP _ _ _;by_cases hlt2:k < 95
  ·have hd1:=jB cs (32+k) (by rw [h3];omega);obtain ⟨v,hv⟩:∃ v,(cs.getD (32+k) false != nq)=v:=⟨_,rfl⟩
   have hput:List.take (2+(32+k)) (E.v (.bool false) :: E.v (.bool false) :: (jC cs nq k).map aN)++E.v (.bool v) :: List.drop (2+(32+k)) (E.v (.bool false) :: (jC cs nq k).map aN)=elC (jC cs nq (k+1)):=by
    have h:=qn (E.v (.bool false)) (E.v (.bool false)) ((jC cs nq k).map aN) (32+k) (E.v (.bool v)) (by rw [List.length_map,hlen];omega);rw [List.drop_succ_cons] at h;rw [h,jC,hv];show _=E.v (.bool false) :: E.v (.bool false) :: ((jC cs nq k).set (32+k) v).map aN;rw [List.map_set]
   repeat' ((first|(refine av 13 [] ?_;apply ak;(focus kernel_rfl);(focus (simp only [aP,Nat.reduceAdd];(repeat' first|((first|refine pah 0 ?_|refine pah 1 ?_|refine pah 2 ?_|refine pah 3 ?_|refine pah 5 ?_|refine pah 6 ?_|refine pah 7 ?_|refine pah 8 ?_|refine pah 9 ?_);push_cast [-rR,O,U,hlen,hd1,hv,hput])|(refine pad ?_;first|with_reducible exact ao 13 [] _|(refine weak_fg ?_;push_cast [-rR,O,U,hlen,hd1,hv,hput]))|((first|refine pas [4] ?_|refine pas [10] ?_);push_cast [-rR,O,U,hlen,hd1,hv,hput])|((first|refine pas [4,10] ?_);push_cast [-rR,O,U,hlen,hd1,hv,hput];refine ⟨?_,?_⟩));done));push_cast [-rR,O,U,hlen,hd1,hv,hput])|refine ae ?_|refine pif ?_ ?_<;>intro h<;>try exact pN h)<;>push_cast [-rR,O,U,hlen,hd1,hv,hput])
   have hk3:(32+(k:Int)+1)=32+((k:Int)+1):=ac;exact ⟨k+1,ac,by (refine weak_fg ?_;push_cast [-rR,O,U,hk3]),ac⟩
  ·have hk2:k=95:=ac;have hout:jC cs nq k=(if nq then q8 r.1 else r.1)++[false]:=by
    rw [← hr3,EH hrl hlow nq hk2];have hN:gk r.1 k=q8 r.1:=by rw [hk2];rfl
    rw [hN]
   obtain ⟨ob,hob⟩:∃ ob,(if nq then q8 r.1 else r.1)++[false]=ob:=⟨_,rfl⟩
   rw [hob] at hout;obtain ⟨q1,hq1⟩:∃ q1,(if nq then q8 r.1 else r.1)=q1:=⟨_,rfl⟩
   rw [hq1] at hR hob;repeat' ((first|refine ae ?_|refine pif ?_ ?_<;>intro h<;>try exact pN h)<;>push_cast [-rR,O,U])
   (refine K9 [0] ?_;push_cast [-rR,O,U,hR,hout,hob])
 have h93n:¬ (byt p j).toNat=93:=fun e=>h93 (UInt8.toNat_inj.1 e)
 obtain ⟨A,hA⟩:∃ A,(byt p j).toNat=A:=⟨_,rfl⟩
 have hA1:A≤126:=by rw [← hA];exact UInt8.le_iff_toNat_le.1 (hb j)
 rw [hA] at h93n;by_cases hl2:j+2 < p.size
 case neg =>
  have hq:jz p j=false:=by unfold jz;rw [decide_eq_false hl2];rfl
  have hl2:¬ (j:Int)+2 < (p.size:Int):=ac;have hmt:dq p j=byt p j:=by unfold dq;rw [hq];rfl
  have hma:cH p j=j+1:=by unfold cH;rw [hq];rfl
  have hms:eR p j cs=cs.set A true:=by unfold eR;rw [hmt,hA,show A+1 - A=1 by omega];rfl
  have hst:aT p j cs=aT p (j+1) (cs.set A true):=by rw [aT,dif_neg ac,if_neg h93,if_pos (by rw [hmt];exact Nat.le_refl _),hma,hms]
  repeat' ((first|refine ae ?_|refine pif ?_ ?_<;>intro h<;>try exact pN h)<;>push_cast [-rR,O,U,hlt,h93,h93n,g0,h3,hA,hl2])
  obtain ⟨cs2,hcs2⟩:∃ cs2,cs.set A true=cs2:=⟨_,rfl⟩
  have hc2l:cs2.length=128:=by rw [← hcs2,List.length_set,h3]
  have hc2:(List.map aN cs).set A (.v (.bool true))=List.map aN cs2:=by rw [← hcs2,List.map_set]
  rw [hcs2] at hst;exact ⟨(j+1,cs2),⟨by simp only;omega,by simp only;omega,hc2l,by simp only;rw [h4,hst],fun _=>by by_cases e:j=J;exact e ▸ h93;exact h5 ac⟩,by (refine weak_fg ?_;push_cast [-rR,O,U,hc2]),by simp only;omega⟩
 by_cases h45:byt p (j+1)=45
 case neg =>
  have hq:jz p j=false:=by unfold jz;rw [beq_eq_false_iff_ne.2 h45];simp
  have h45n:¬ (byt p (j+1)).toNat=45:=fun e=>h45 (UInt8.toNat_inj.1 e)
  have hmt:dq p j=byt p j:=by unfold dq;rw [hq];rfl
  have hma:cH p j=j+1:=by unfold cH;rw [hq];rfl
  have hms:eR p j cs=cs.set A true:=by unfold eR;rw [hmt,hA,show A+1 - A=1 by omega];rfl
  have hst:aT p j cs=aT p (j+1) (cs.set A true):=by rw [aT,dif_neg ac,if_neg h93,if_pos (by rw [hmt];exact Nat.le_refl _),hma,hms]
  repeat' ((first|refine ae ?_|refine pif ?_ ?_<;>intro h<;>try exact pN h)<;>push_cast [-rR,O,U,hlt,h93,h93n,g0,h3,hA,hl2,g1,h45,h45n])
  obtain ⟨cs2,hcs2⟩:∃ cs2,cs.set A true=cs2:=⟨_,rfl⟩
  have hc2l:cs2.length=128:=by rw [← hcs2,List.length_set,h3]
  have hc2:(List.map aN cs).set A (.v (.bool true))=List.map aN cs2:=by rw [← hcs2,List.map_set]
  rw [hcs2] at hst;exact ⟨(j+1,cs2),⟨by simp only;omega,by simp only;omega,hc2l,by simp only;rw [h4,hst],fun _=>by by_cases e:j=J;exact e ▸ h93;exact h5 ac⟩,by (refine weak_fg ?_;push_cast [-rR,O,U,hc2]),by simp only;omega⟩
 by_cases hb93:byt p (j+2)=93
 case pos =>
  have hq:jz p j=false:=by unfold jz;rw [hb93];simp
  have hmt:dq p j=byt p j:=by unfold dq;rw [hq];rfl
  have hma:cH p j=j+1:=by unfold cH;rw [hq];rfl
  have hms:eR p j cs=cs.set A true:=by unfold eR;rw [hmt,hA,show A+1 - A=1 by omega];rfl
  have hst:aT p j cs=aT p (j+1) (cs.set A true):=by rw [aT,dif_neg ac,if_neg h93,if_pos (by rw [hmt];exact Nat.le_refl _),hma,hms]
  repeat' ((first|refine ae ?_|refine pif ?_ ?_<;>intro h<;>try exact pN h)<;>push_cast [-rR,O,U,hlt,h93,h93n,g0,h3,hA,hl2,g1,h45,g2,hb93])
  obtain ⟨cs2,hcs2⟩:∃ cs2,cs.set A true=cs2:=⟨_,rfl⟩
  have hc2l:cs2.length=128:=by rw [← hcs2,List.length_set,h3]
  have hc2:(List.map aN cs).set A (.v (.bool true))=List.map aN cs2:=by rw [← hcs2,List.map_set]
  rw [hcs2] at hst;exact ⟨(j+1,cs2),⟨by simp only;omega,by simp only;omega,hc2l,by simp only;rw [h4,hst],fun _=>by by_cases e:j=J;exact e ▸ h93;exact h5 ac⟩,by (refine weak_fg ?_;push_cast [-rR,O,U,hc2]),by simp only;omega⟩
 have hq:jz p j=true:=by unfold jz;rw [h45,decide_eq_true hl2];simp [hb93]
 have hma:cH p j=j+3:=by unfold cH;rw [hq];rfl
 have hmt:dq p j=byt p (j+2):=by unfold dq;rw [hq];rfl
 have hb93n:¬ (byt p (j+2)).toNat=93:=fun e=>hb93 (UInt8.toNat_inj.1 e)
 obtain ⟨T,hT⟩:∃ T,(byt p (j+2)).toNat=T:=⟨_,rfl⟩
 have hT1:T≤126:=by rw [← hT];exact UInt8.le_iff_toNat_le.1 (hb _)
 rw [hT] at hb93n;by_cases hAT:A≤T
 case neg =>
  have hR:=hnone (by rw [aT,dif_neg ac,if_neg h93,if_neg (by rw [hmt,UInt8.le_iff_toNat_le,hA,hT];exact hAT)]);repeat' ((first|refine ae ?_|refine pif ?_ ?_<;>intro h<;>try exact pN h)<;>push_cast [-rR,O,U,hlt,h93,h93n,g0,h3,hA,hl2,g1,h45,g2,hb93,hb93n,hT])
  (refine K9 [0] ?_;push_cast [-rR,O,U,hR])
 have hms:eR p j cs=br cs A (T+1 - A):=by unfold eR;rw [hmt,hA,hT]
 have hst:aT p j cs=aT p (j+3) (br cs A (T+1 - A)):=by rw [aT,dif_neg ac,if_neg h93,if_pos (by rw [hmt,UInt8.le_iff_toNat_le,hA,hT];exact hAT),hma,hms]
 repeat' ((first|refine ae ?_|refine pif ?_ ?_<;>intro h<;>try exact pN h)<;>push_cast [-rR,O,U,hlt,h93,h93n,g0,h3,hA,hl2,g1,h45,g2,hb93,hb93n,hT])
 (apply ap (α:=Nat) 13 [] (fun k=>[(11,.c (.v (.int .i64 ((A+k:Nat):Int))))]) (fun k=>[(1,.box 207 ((br cs A k).map aN))]) (fun k=>k≤T+1 - A) (fun k=>(T+1 - A) - k) (0);(focus ((try push_cast [-rR,O,U]);rfl));(focus exact ac);(focus ((refine weak_fg ?_;try push_cast [-rR,O,U]);(try (exact bT _)))));intro k hk;push_cast [-rR,O,U];have hlen:(br cs A k).length=128:=by rw [cR,h3]
 by_cases hlt2:k < T+1 - A
 ·have hc:(A:Int)+(k:Int)≤(T:Int):=ac;have hs2:(List.map aN (br cs A k)).set (A+k) (.v (.bool true))=(br cs A (k+1)).map aN:=by rw [br,List.map_set]
  have hk3:((A:Int)+(k:Int)+1)=(A:Int)+((k:Int)+1):=ac;repeat' ((first|refine ae ?_|refine pif ?_ ?_<;>intro h<;>try exact pN h)<;>push_cast [-rR,O,U,hlen,hc,g2,hT,hl2])
  exact ⟨k+1,ac,by (refine weak_fg ?_;push_cast [-rR,O,U,hs2,hk3]),ac⟩
 ·have hk2:k=T+1 - A:=ac;have hc:¬ (A:Int)+(k:Int)≤(T:Int):=ac;repeat' ((first|refine ae ?_|refine pif ?_ ?_<;>intro h<;>try exact pN h)<;>push_cast [-rR,O,U,hlen,hc,g2,hT,hl2])
  subst hk2;exact ⟨(j+3,br cs A (T+1 - A)),⟨by simp only;omega,by simp only;omega,by simp only;rw [cR,h3],by simp only;rw [h4,hst],fun _=>by by_cases e:j=J;exact e ▸ h93;exact h5 ac⟩,by (refine weak_fg ?_;push_cast [-rR,O,U]);omega,by simp only;omega⟩
set_option maxRecDepth 20000
def kQ (b:Bool):D:=.v (.bool b)
def El.d (e:El):List D:=.v (.int .u8 (e.lit:Int)) :: .v (.bool e.star) :: e.set.map kQ
def Au (l:List (List El)):List (List D):=l.map fun a=>[D.sl 129 (a.map El.d)]
theorem yE (l:List Bool):j7 (l.map fun x=>E.v (.bool x))=some (l.map kQ):=by
 induction l with
 | nil=>rfl
 | cons b l ih=>simp only [List.map_cons,j7,toD,ih];rfl
abbrev KW (l0:List (List El)) (x:E) (m:Nat):Ob:=.box 110 (cw 129 El.d l0 x m)
abbrev KX (cur:List El):Ob:=.arr 162 129 (cur.map El.d)
theorem Jq:zerOf prog 162=some (.v (.int .u8 0) :: .v (.bool false) :: List.replicate 127 (.v (.bool false))):=aj
attribute [push_cast] Jq yE
theorem jD {p:ByteArray} {i:Nat} {l:List (List El)} {x:List El} (h:i < p.size) (hb:byt p i=91) (hn:bY p (i+1)=none):bE p i l x=none:=by
 rw [bE,dif_neg ac,if_neg (by rw [hb];decide),if_neg (by rw [hb];decide),if_neg (by rw [hb];decide),if_pos hb];split
 ·rfl
 ·rename_i r hr;rw [hn] at hr;cases hr
theorem jE {p:ByteArray} {i:Nat} {l:List (List El)} {x:List El} {q:List Bool × Nat} (h:i < p.size) (hb:byt p i=91) (hn:bY p (i+1)=some q):bE p i l x=bE p q.2 l (x++[⟨0,false,q.1⟩]):=by
 rw [bE,dif_neg ac,if_neg (by rw [hb];decide),if_neg (by rw [hb];decide),if_neg (by rw [hb];decide),if_pos hb];split
 ·rename_i hr;rw [hn] at hr;cases hr
 ·rename_i r hr;rw [hn] at hr;cases hr;rfl
def Ky (p:ByteArray):Prop:=∀ i,i≤p.size → ah prog 148 [.c (.ptr 0 0)] [.box 156 (rdE p i)] fun r os =>
   match bY p i with
   | none=>r = .two (.agg (dn.map aN)) (.c (.v (.bool false)))∧∃ j:Nat,os=[.box 156 (rdE p j)]
   | some q=>r = .two (.agg (q.1.map aN)) (.c (.v (.bool true)))∧os=[.box 156 (rdE p q.2)]
set_option maxRecDepth 20000 in
set_option maxHeartbeats 4000000 in
theorem BK (p:ByteArray) (hp:p.size≤1000000) (hb:∀ k,byt p k≤126) (hset:Ky p) :
  ah prog 106 [.c (.ptr 0 0)] [.box 156 (rdE p 0)] fun r os =>
   (∃ i:Nat,os=[.box 156 (rdE p i)]) ∧
   match eH p with
   | none=>r = .two (.c (.v (.slice none 0 0))) (.c (.v (.bool false)))
   | some l=>r = .two (.c (.sl 1 (Au l))) (.c (.v (.bool true))):=by
 have he:=rf;refine aw func106 ntmps106 results106 ?_;push_cast [-rR,O,U];have cB:aH 9 [38]:=trivial;refine bf fun K hK=>?_
 refine bi ?_;push_cast [-rR,O,U];refine ej.use (by assumption) ?_;refine bf fun K hK=>?_
 refine iv ?_;refine Ap rfl rfl rfl rfl rfl (by push_cast [-rR,O,U]) ?_;push_cast [-rR,O,U];refine an ?_;push_cast [-rR,O,U];refine ej.use (by assumption) ?_;refine aF (bP 1 0 162 129 af _ _ (by rfl) (by rfl)) ?_;push_cast [-rR,O,U,List.set_cons_zero];have e0:[E.own 2 0]=cw 129 El.d [] (.own 2 0) 0:=wO _;rw [e0];repeat' ((first|refine ae ?_|refine pif ?_ ?_<;>intro h<;>try exact pN h)<;>push_cast [-rR,O,U])
 (apply ap (α:=Nat × List (List El) × List El × Nat) 9 [38] (fun x=>[(4,.c (.own 1 (x.2.1.length+1)))]) (fun x=>[(0,.box 156 (rdE p x.1)),(1,KW x.2.1 (.own 2 x.2.2.1.length) x.2.2.2),(2,KX x.2.2.1)]) (fun x=>x.1≤p.size∧eH p=bE p x.1 x.2.1 x.2.2.1∧x.2.1.length+x.2.2.1.length≤x.1) (fun x=>p.size - x.1) ((0,[],[],0));(focus ((try push_cast [-rR,O,U]);rfl));(focus exact ⟨Nat.zero_le _,rfl,Nat.le_refl _⟩);(focus ((refine weak_fg ?_;try push_cast [-rR,O,U]))));rintro ⟨i,as',cur,m⟩ ⟨h1,h2,h3⟩;simp only at h1 h2 h3 ⊢;push_cast [-rR,O,U];by_cases hlt:i < p.size
 case neg =>
  have hR:eH p=some (as'++[cur]):=by rw [h2,bE,dif_pos ac]
  refine aF (bQ 2 ac) ?_;push_cast [-rR,O,U];refine aF (pf 4 (k:=1) (n:=as'.length+1) (ds:=(as'++[cur]).map fun a=>D.sl 129 (a.map El.d)) ac (by rfl) (by rfl) (tL _ _ _) (by simp)) ?_;push_cast [-rR,O,U];repeat' ((first|refine ae ?_|refine pif ?_ ?_<;>intro h<;>try exact pN h)<;>push_cast [-rR,O,U])
  (refine K9 [0] ?_;push_cast [-rR,O,U,hR]);exact ⟨_,_,aE _,aB _,⟨i,rfl⟩,by simp [Au]⟩
 obtain ⟨b,hbe⟩:∃ b,byt p i=b:=⟨_,rfl⟩
 have hb1:b.toNat≤126:=by rw [← hbe];exact UInt8.le_iff_toNat_le.1 (hb i)
 have hg:p.data.toList.getD i 0=b:=hbe;by_cases h124:b=124
 case pos =>
  refine aF (bQ 2 ac) ?_;push_cast [-rR,O,U];repeat' ((first|(refine oo 1 rfl rfl (by push_cast [-rR,O,U,hg,h124]) rfl rfl rfl rfl rfl (by push_cast [-rR,O,U,hg,h124]) (by push_cast [-rR,O,U,hg,h124]) ac rfl ac ac ?_;intro m')|refine ae ?_|refine pif ?_ ?_<;>intro h<;>try exact pN h)<;>push_cast [-rR,O,U,hg,h124])
  have hnl:as'.length+1≤(cw 129 El.d as' (E.sl 129 (cur.map El.d)) m).length:=by rw [rk];omega
  refine oo 1 (by':=24) (z0:=.v (.slice none 0 0)) (d:=.v (.slice none 0 0)) rfl rfl (by push_cast [-rR,O,U]) rfl aj aj rfl rfl hnl ac (Nat.le_refl _) rfl ac ac ?_;intro m';push_cast [-rR,O,U];refine an ?_;push_cast [-rR,O,U];obtain ⟨as2,has2⟩:∃ as2,as'++[cur]=as2:=⟨_,rfl⟩
  have hal:as'.length+1=as2.length:=by rw [← has2];simp
  rw [has2];repeat' ((first|refine ae ?_|refine pif ?_ ?_<;>intro h<;>try exact pN h)<;>push_cast [-rR,O,U])
  refine ⟨(i+1,as2,[],m'),⟨by simp only;omega,by simp only;rw [h2,bE,dif_neg ac,if_pos (by rw [hbe,h124]),has2],by simp only [List.length_nil];omega⟩,(bP 1 as2.length 162 129 af _ _ (by rfl) (rl _ _ _)).trans ?_,by simp only;omega⟩;(refine gz true [0,1,4] ?_;push_cast [-rR,O,U,hal])
 by_cases h42:b=42
 case pos =>
  have hR:bE p i as' cur=bE p (i+1) as' (cur++[kN]):=by rw [bE,dif_neg ac,hbe,if_neg h124,if_pos h42]
  repeat' ((first|refine plE [] he ?_ ?_|(refine av 9 [38] ?_;apply ak;(focus kernel_rfl);(focus (simp only [aP,Nat.reduceAdd];(repeat' first|((first|refine pah 0 ?_|refine pah 1 ?_|refine pah 2 ?_|refine pah 3 ?_|refine pah 4 ?_|refine pah 5 ?_|refine pah 6 ?_|refine pah 7 ?_|refine pah 8 ?_|refine pah 13 ?_);push_cast [-rR,O,U,hg,h42,bZ])|(refine pad ?_;first|with_reducible exact ao 9 [38] _|(refine weak_fg ?_;push_cast [-rR,O,U,hg,h42,bZ]))|((first|refine pas [9] ?_|refine pas [10] ?_|refine pas [11] ?_|refine pas [12] ?_|refine pas [14] ?_);push_cast [-rR,O,U,hg,h42,bZ])|((first|refine pas [9,10] ?_|refine pas [9,11] ?_);push_cast [-rR,O,U,hg,h42,bZ];refine ⟨?_,?_⟩));done));push_cast [-rR,O,U,hg,h42,bZ])|refine ae ?_|refine pif ?_ ?_<;>intro h<;>try exact pN h)<;>push_cast [-rR,O,U,hg,h42,bZ])
  exact ⟨(i+1,as',cur++[kN],m),⟨by simp only;omega,by simp only;rw [h2,hR],by simp only [List.length_append,List.length_cons,List.length_nil];omega⟩,by (refine weak_fg ?_;push_cast [-rR,O,U,El.d,kN]),by simp only;omega⟩
 by_cases h63:b=63
 case pos =>
  have hR:bE p i as' cur=bE p (i+1) as' (cur++[ra]):=by rw [bE,dif_neg ac,hbe,if_neg h124,if_neg h42,if_pos h63]
  repeat' ((first|refine plE [] he ?_ ?_|(refine av 9 [38] ?_;apply ak;(focus kernel_rfl);(focus (simp only [aP,Nat.reduceAdd];(repeat' first|((first|refine pah 0 ?_|refine pah 1 ?_|refine pah 2 ?_|refine pah 3 ?_|refine pah 4 ?_|refine pah 5 ?_|refine pah 6 ?_|refine pah 7 ?_|refine pah 8 ?_|refine pah 13 ?_);push_cast [-rR,O,U,hg,h63,bZ])|(refine pad ?_;first|with_reducible exact ao 9 [38] _|(refine weak_fg ?_;push_cast [-rR,O,U,hg,h63,bZ]))|((first|refine pas [9] ?_|refine pas [10] ?_|refine pas [11] ?_|refine pas [12] ?_|refine pas [14] ?_);push_cast [-rR,O,U,hg,h63,bZ])|((first|refine pas [9,10] ?_|refine pas [9,11] ?_);push_cast [-rR,O,U,hg,h63,bZ];refine ⟨?_,?_⟩));done));push_cast [-rR,O,U,hg,h63,bZ])|refine ae ?_|refine pif ?_ ?_<;>intro h<;>try exact pN h)<;>push_cast [-rR,O,U,hg,h63,bZ])
  exact ⟨(i+1,as',cur++[ra],m),⟨by simp only;omega,by simp only;rw [h2,hR],by simp only [List.length_append,List.length_cons,List.length_nil];omega⟩,by (refine weak_fg ?_;push_cast [-rR,O,U,El.d,ra]),by simp only;omega⟩
 by_cases h91:b=91
 case pos =>
  have hs1:=hset (i+1) ac;cases hq:bY p (i+1) with
  | none =>
   have hR:eH p=none:=by rw [h2,jD hlt (hbe.trans h91) hq]
   rw [hq] at hs1;have hn7:dn.length=127:=rfl;repeat' ((first|(refine plc [0] (hs1) ?_ ?_;push_cast [-rR,O,U,hg,h91,hn7];rintro r os ⟨rfl,j,rfl⟩)|refine ae ?_|refine pif ?_ ?_<;>intro h<;>try exact pN h)<;>push_cast [-rR,O,U,hg,h91,hn7])
   (refine K9 [0] ?_;push_cast [-rR,O,U,hR]);exact ⟨_,_,aE _,aB _,⟨j,rfl⟩,rfl⟩
  | some q =>
   have hgt:=kM hq;have hR:bE p i as' cur=bE p q.2 as' (cur++[⟨0,false,q.1⟩]):=jE hlt (hbe.trans h91) hq;have hql:=hgt.2.2;rw [hq] at hs1;repeat' ((first|refine plE [0] hs1 ?_ ?_|(refine av 9 [38] ?_;apply ak;(focus kernel_rfl);(focus (simp only [aP,Nat.reduceAdd];(repeat' first|((first|refine pah 0 ?_|refine pah 1 ?_|refine pah 2 ?_|refine pah 3 ?_|refine pah 4 ?_|refine pah 5 ?_|refine pah 6 ?_|refine pah 7 ?_|refine pah 8 ?_|refine pah 13 ?_);push_cast [-rR,O,U,hg,h91,hql])|(refine pad ?_;first|with_reducible exact ao 9 [38] _|(refine weak_fg ?_;push_cast [-rR,O,U,hg,h91,hql]))|((first|refine pas [9] ?_|refine pas [10] ?_|refine pas [11] ?_|refine pas [12] ?_|refine pas [14] ?_);push_cast [-rR,O,U,hg,h91,hql])|((first|refine pas [9,10] ?_|refine pas [9,11] ?_);push_cast [-rR,O,U,hg,h91,hql];refine ⟨?_,?_⟩));done));push_cast [-rR,O,U,hg,h91,hql])|refine ae ?_|refine pif ?_ ?_<;>intro h<;>try exact pN h)<;>push_cast [-rR,O,U,hg,h91,hql])
   exact ⟨(q.2,as',cur++[⟨0,false,q.1⟩],m),⟨by simp only;omega,by simp only;rw [h2,hR],by simp only [List.length_append,List.length_cons,List.length_nil];omega⟩,by (refine weak_fg ?_;push_cast [-rR,O,U,El.d]),by simp only;omega⟩
 have hR:bE p i as' cur=bE p (i+1) as' (cur++[rb b]):=by rw [bE,dif_neg ac,hbe,if_neg h124,if_neg h42,if_neg h63,if_neg h91]
 have n124:¬ b.toNat=124:=fun e=>h124 (UInt8.toNat_inj.1 e)
 have n42:¬ b.toNat=42:=fun e=>h42 (UInt8.toNat_inj.1 e)
 have n63:¬ b.toNat=63:=fun e=>h63 (UInt8.toNat_inj.1 e)
 have n91:¬ b.toNat=91:=fun e=>h91 (UInt8.toNat_inj.1 e)
 obtain ⟨sb,hsb⟩:∃ sb,dn.set b.toNat true=sb:=⟨_,rfl⟩
 have hsl:sb.length=127:=by rw [← hsb,List.length_set];rfl
 have hput:List.take (2+b.toNat) (E.v (.int .u8 (b.toNat:Int)) :: E.v (.bool false) :: List.replicate 127 (E.v (.bool false)))++E.v (.bool true) :: List.drop (2+b.toNat) (E.v (.bool false) :: List.replicate 127 (E.v (.bool false)))=E.v (.int .u8 (b.toNat:Int)) :: E.v (.bool false) :: sb.map fun x=>E.v (.bool x):=by
  have h:=qn (E.v (.int .u8 (b.toNat:Int))) (E.v (.bool false)) (List.replicate 127 (E.v (.bool false))) b.toNat (E.v (.bool true)) (by rw [List.length_replicate];omega);rw [show 2+b.toNat+1=(2+b.toNat)+1 from rfl,List.drop_succ_cons] at h;rw [h,← hsb,List.map_set,← di]
 repeat' ((first|(refine av 9 [38] ?_;apply ak;(focus kernel_rfl);(focus (simp only [aP,Nat.reduceAdd];(repeat' first|((first|refine pah 0 ?_|refine pah 1 ?_|refine pah 2 ?_|refine pah 3 ?_|refine pah 4 ?_|refine pah 5 ?_|refine pah 6 ?_|refine pah 7 ?_|refine pah 8 ?_|refine pah 13 ?_);push_cast [-rR,O,U,hg,hsl,hput])|(refine pad ?_;first|with_reducible exact ao 9 [38] _|(refine weak_fg ?_;push_cast [-rR,O,U,hg,hsl,hput]))|((first|refine pas [9] ?_|refine pas [10] ?_|refine pas [11] ?_|refine pas [12] ?_|refine pas [14] ?_);push_cast [-rR,O,U,hg,hsl,hput])|((first|refine pas [9,10] ?_|refine pas [9,11] ?_);push_cast [-rR,O,U,hg,hsl,hput];refine ⟨?_,?_⟩));done));push_cast [-rR,O,U,hg,hsl,hput])|refine ae ?_|refine pif ?_ ?_<;>intro h<;>try exact pN h)<;>push_cast [-rR,O,U,hg,hsl,hput])
 exact ⟨(i+1,as',cur++[rb b],m),⟨by simp only;omega,by simp only;rw [h2,hR],by simp only [List.length_append,List.length_cons,List.length_nil];omega⟩,by (refine weak_fg ?_;push_cast [-rR,O,U,El.d,rb,hsb]),by simp only;omega⟩
end Go.Proofs.YtmbbkfffcflfcaaGreatDoor
