/- What the program computes, and the plain laws of it, part 32. -/
import Derived.Lib.IndexAny
import Derived.WideKeyEntry
import Derived.Test.YthhfpcbpiphfiaaR31
namespace Go.Proofs.Ythhfpcbpiphfiaa
attribute [local irreducible] PL QL PWPr PCalls Weak RetK Kontr PA
open Go.RowKit
open IntWalk renaming iteOmega → iO, toNatUp → tN
set_option linter.unusedVariables false
set_option linter.unusedSimpArgs false
set_option maxRecDepth 20000
def rset (e:El):List Bool:=if e.star then List.replicate 128 false else e.set++[false]
def El.r (e:El):List D:=.v (.bool e.star) :: .v (.bool (decide (e.lit≠0))) :: (rset e).map boolD
def altsR (l:List (List El)):List (List D):=l.map fun a=>[D.sl 130 (a.map El.r)]
abbrev outR (l0:List (List El)) (x:E) (m:Nat):Ob:=.box 115 (nestE 130 El.r l0 x m)
abbrev innR (cur:List El):Ob:=.arr 143 130 (cur.map El.r)
theorem every_app:fillN (noneS++[false]) 32 95=everyL++[false]:=fillN_app noneS 32 95 (by rw [show noneS.length=127 from List.length_replicate];decide)
theorem toDs_rep (b:Bool):∀ n,toDs (List.replicate n (E.v (.bool b)))=some (List.replicate n (boolD b))
 | 0=>rfl
 | n+1=>by simp only [List.replicate_succ,toDs,toD,toDs_rep b n];rfl
attribute [push_cast] toDs_rep
theorem r_star:El.r starEl=D.v (.bool true) :: List.replicate 129 (boolD false):=by
 unfold El.r starEl rset
 simp only [if_true,List.map_replicate]
 rfl
theorem r_set (s:List Bool) (f:Bool) (n:Nat) (h:decide (n≠0)=f):El.r ⟨n,false,s⟩=D.v (.bool false) :: D.v (.bool f) :: (s++[false]).map boolD:=by
 unfold El.r rset
 simp only [h]
 rfl
set_option maxRecDepth 20000 in
theorem z130:List.replicate 130 (E.v (.bool false))=elC (List.replicate 128 false):=rfl
def rparseR (p:ByteArray):PV:=.two (if p.data.toList.all textB∧(altsM p).isSome then .c (.sl 1 (altsR ((altsM p).getD []))) else .c (.v (.slice none 0 0))) (.c (.v (.bool (p.data.toList.all textB && (altsM p).isSome))))
set_option maxRecDepth 20000 in
set_option maxHeartbeats 8000000 in
theorem rparse_pure (p:ByteArray) (hp:p.size≤1000000):PCalls Try.prog 49 [.c (.v (.string p))] [] fun r os=>r=rparseR p∧os=[]:=by
 have hpr:=gprint_pure p (by omega)
 refine pcalls_of Try.func49 rfl (by simp [Try.ntmps49]) ?_
 rw [Try.ntmps49,Try.results49]
 push_cast [-List.reduceReplicate,iO,tN]
 have cB:CutB 11 [23]:=trivial
 by_cases htx:p.data.toList.all textB=true
 case neg =>
  have htf:=Bool.eq_false_iff.2 htx
  rw [htf] at hpr
  have hR:rparseR p = .two (.c (.v (.slice none 0 0))) (.c (.v (.bool false))):=by unfold rparseR;rw [htf];simp
  repeat' (first |  ((refine plc [] (hpr) ?_ ?_;push_cast [-List.reduceReplicate,iO,tN];rintro r os ⟨rfl,rfl⟩;push_cast [-List.reduceReplicate,iO,tN]))  | ((first|refine pC ?_|refine pQC ?_|refine pU ?_);push_cast [-List.reduceReplicate,iO,tN])|(refine pif (fun h=>?_) (fun h=>?_)<;>first|exact pN h|push_cast [-List.reduceReplicate,iO,tN]))
  (refine retK_of [] ?_;push_cast [-List.reduceReplicate,iO,tN,hR])
 rw [htx] at hpr
 have hb:=fun k=>text_byt htx k
 have hlo:=fun k hk=>text_lo htx k hk
 repeat' (first |  ((refine plc [] (hpr) ?_ ?_;push_cast [-List.reduceReplicate,iO,tN];rintro r os ⟨rfl,rfl⟩;push_cast [-List.reduceReplicate,iO,tN]))|(refine pwp_seq fun K hK=>?_)|(refine pwp_block ?_)|(refine pwp_regionL ?_;refine pl_nest rfl rfl rfl rfl rfl (by push_cast [-List.reduceReplicate,iO,tN]) ?_;push_cast [-List.reduceReplicate,iO,tN];refine pl_of_pops ?_;push_cast [-List.reduceReplicate,iO,tN])  | ((first|refine pC ?_|refine pQC ?_|refine pU ?_);push_cast [-List.reduceReplicate,iO,tN])|(refine pif (fun h=>?_) (fun h=>?_)<;>first|exact pN h|push_cast [-List.reduceReplicate,iO,tN]))
 refine pwp_weak (weak_adopt_box 0 0 143 130 (by decide) _ _ (by rfl) (by rfl)) ?_
 push_cast [-List.reduceReplicate,iO,tN,List.set_cons_zero]
 have e0:[E.own 1 0]=nestE 130 El.r [] (.own 1 0) 0:=nest_one _
 rw [e0]
 (apply pwp_loop3 (α:=Nat × List (List El) × List El × Nat) 11 [23] (fun x=>[(4,.c (.own 0 (x.2.1.length+1))),(5,.c (.v (.int .i64 x.1)))]) (fun x=>[(0,outR x.2.1 (.own 1 x.2.2.1.length) x.2.2.2),(1,innR x.2.2.1)]) (fun x=>x.1≤p.size∧altsM p=altGo p x.1 x.2.1 x.2.2.1∧x.2.1.length+x.2.2.1.length≤x.1) (fun x=>p.size - x.1) ((0,[],[],0));(focus ((try push_cast [-List.reduceReplicate,iO,tN]);rfl));(focus exact ⟨Nat.zero_le _,rfl,Nat.le_refl _⟩);(focus ((refine weak_fg ?_;try push_cast [-List.reduceReplicate,iO,tN]))))
 rintro ⟨i,as',cur,m⟩ ⟨h1,h2,h3⟩
 simp only at h1 h2 h3 ⊢
 push_cast [-List.reduceReplicate,iO,tN]
 by_cases hlt:i < p.size
 case neg =>
  have hal:altsM p=some (as'++[cur]):=by rw [h2,altGo,dif_pos (by omega)]
  have hR:rparseR p = .two (.c (.sl 1 (altsR (as'++[cur])))) (.c (.v (.bool true))):=by unfold rparseR;rw [hal,htx];simp
  refine pwp_weak (weak_frz 1 (by omega)) ?_
  push_cast [-List.reduceReplicate,iO,tN]
  refine pwp_weak (weak_frzbox 4 (k:=0) (n:=as'.length+1) (ds:=(as'++[cur]).map fun a=>D.sl 130 (a.map El.r)) (by omega) (by rfl) (by rfl) (nest_toDs _ _ _) (by simp)) ?_
  push_cast [-List.reduceReplicate,iO,tN]
  repeat' (first|((first|refine pC ?_|refine pQC ?_|refine pU ?_);push_cast [-List.reduceReplicate,iO,tN])|(refine pif (fun h=>?_) (fun h=>?_)<;>first|exact pN h|push_cast [-List.reduceReplicate,iO,tN]))
  (refine retK_of [] ?_;push_cast [-List.reduceReplicate,iO,tN,hR])
  simp [altsR]
 obtain ⟨b,hbe⟩:∃ b,byt p i=b:=⟨_,rfl⟩
 have hb1:b.toNat≤126:=by rw [← hbe];exact UInt8.le_iff_toNat_le.1 (hb i)
 have hb0:32≤b.toNat:=by rw [← hbe];exact hlo i hlt
 have hg:p.data.toList.getD i 0=b:=hbe
 by_cases h124:b=124
 case pos =>
  refine pwp_weak (weak_frz 1 (by omega)) ?_
  push_cast [-List.reduceReplicate,iO,tN]
  repeat' (first|(fail)|((first|refine pC ?_|refine pQC ?_|refine pU ?_);push_cast [-List.reduceReplicate,iO,tN,hg,h124])|(refine pif (fun h=>?_) (fun h=>?_)<;>first|exact pN h|push_cast [-List.reduceReplicate,iO,tN,hg,h124]))
  have hnl:as'.length+1≤(nestE 130 El.r as' (E.sl 130 (cur.map El.r)) m).length:=by rw [nest_len];omega
  refine pl_appbox 0 (by':=24) (z0:=.v (.slice none 0 0)) (d:=.v (.slice none 0 0)) rfl rfl (by push_cast [-List.reduceReplicate,iO,tN]) rfl (by kernel_rfl) (by kernel_rfl) rfl rfl hnl (by omega) (Nat.le_refl _) rfl (by omega) (by omega) ?_
  intro m'
  push_cast [-List.reduceReplicate,iO,tN]
  refine pl_of_pops ?_
  push_cast [-List.reduceReplicate,iO,tN]
  obtain ⟨as2,has2⟩:∃ as2,as'++[cur]=as2:=⟨_,rfl⟩
  have hal:as'.length+1=as2.length:=by rw [← has2];simp
  rw [has2]
  repeat' (first|((first|refine pC ?_|refine pQC ?_|refine pU ?_);push_cast [-List.reduceReplicate,iO,tN])|(refine pif (fun h=>?_) (fun h=>?_)<;>first|exact pN h|push_cast [-List.reduceReplicate,iO,tN]))
  refine ⟨(i+1,as2,[],m'),⟨by simp only;omega,by simp only;rw [h2,altGo,dif_neg (by omega),if_pos (by rw [hbe,h124]),has2],by simp only [List.length_nil];omega⟩,(weak_adopt_box 0 as2.length 143 130 (by decide) _ _ (by rfl) (nest_get _ _ _)).trans ?_,by simp only;omega⟩
  (refine weak_keep true [0,3] ?_;push_cast [-List.reduceReplicate,iO,tN,hal])
 by_cases h42:b=42
 case pos =>
  have hR:altGo p i as' cur=altGo p (i+1) as' (cur++[starEl]):=by rw [altGo,dif_neg (by omega),hbe,if_neg h124,if_pos h42]
  repeat' (first|((refine pwp_cut 11 [23] ?_;apply pwp_drawn_to;(focus kernel_rfl);(focus (simp only [List.length_cons,List.length_nil,Nat.reduceAdd];(repeat' first|((first|refine pah 0 ?_|refine pah 1 ?_|refine pah 2 ?_|refine pah 3 ?_|refine pah 4 ?_|refine pah 9 ?_);push_cast [-List.reduceReplicate,iO,tN,hg,h42])|(refine pad ?_;first|with_reducible exact weak_cutS 11 [23] _|(refine weak_fg ?_;push_cast [-List.reduceReplicate,iO,tN,hg,h42]))|((first|refine pas [5] ?_|refine pas [6] ?_|refine pas [7] ?_|refine pas [8] ?_|refine pas [10] ?_);push_cast [-List.reduceReplicate,iO,tN,hg,h42])|((first|refine pas [5,6] ?_|refine pas [5,7] ?_);push_cast [-List.reduceReplicate,iO,tN,hg,h42];refine ⟨?_,?_⟩));done));push_cast [-List.reduceReplicate,iO,tN,hg,h42]))|((first|refine pC ?_|refine pQC ?_|refine pU ?_);push_cast [-List.reduceReplicate,iO,tN,hg,h42])|(refine pif (fun h=>?_) (fun h=>?_)<;>first|exact pN h|push_cast [-List.reduceReplicate,iO,tN,hg,h42]))
  exact ⟨(i+1,as',cur++[starEl],m),⟨by simp only;omega,by simp only;rw [h2,hR],by simp only [List.length_append,List.length_cons,List.length_nil];omega⟩,by (refine weak_fg ?_;push_cast [-List.reduceReplicate,iO,tN,r_star]),by simp only;omega⟩
 by_cases h63:b=63
 case pos =>
  have hR:altGo p i as' cur=altGo p (i+1) as' (cur++[askEl]):=by rw [altGo,dif_neg (by omega),hbe,if_neg h124,if_neg h42,if_pos h63]
  have hra:El.r askEl=D.v (.bool false) :: D.v (.bool false) :: (everyL++[false]).map boolD:=r_set _ _ _ rfl
  obtain ⟨c0,hc0⟩:∃ c0,noneS++[false]=c0:=⟨_,rfl⟩
  have hc1:c0.length=128:=by rw [← hc0];rfl
  repeat' (first|((first|refine pC ?_|refine pQC ?_|refine pU ?_);push_cast [-List.reduceReplicate,iO,tN,hg,h63])|(refine pif (fun h=>?_) (fun h=>?_)<;>first|exact pN h|push_cast [-List.reduceReplicate,iO,tN,hg,h63]))
  rw [z130,show List.replicate 128 false=c0 by rw [← hc0];rfl]
  (apply pwp_loop3 (α:=Nat) 11 [23] (fun k=>[(7,.c (.v (.int .i64 (32+k))))]) (fun k=>[(2,.box 143 (elC (fillN c0 32 k)))]) (fun k=>k≤95) (fun k=>95 - k) (0);(focus ((try push_cast [-List.reduceReplicate,iO,tN]);rfl));(focus exact (by omega));(focus ((refine weak_fg ?_;try push_cast [-List.reduceReplicate,iO,tN]);(try (exact leEs_refl _)))))
  intro k hk
  push_cast [-List.reduceReplicate,iO,tN]
  have hlen:(fillN c0 32 k).length=128:=by rw [fillN_len,hc1]
  by_cases hlt2:k < 95
  ·have hput:List.take (2+(32+k)) (E.v (.bool false) :: E.v (.bool false) :: (fillN c0 32 k).map boolE)++E.v (.bool true) :: List.drop (2+(32+k)) (E.v (.bool false) :: (fillN c0 32 k).map boolE)=elC (fillN c0 32 (k+1)):=by
    have h:=two_put (E.v (.bool false)) (E.v (.bool false)) ((fillN c0 32 k).map boolE) (32+k) (E.v (.bool true)) (by rw [List.length_map,hlen];omega)
    rw [List.drop_succ_cons] at h
    rw [h,fillN]
    show _=E.v (.bool false) :: E.v (.bool false) :: ((fillN c0 32 k).set (32+k) true).map boolE
    rw [List.map_set]
   repeat' (first|((first|refine pC ?_|refine pQC ?_|refine pU ?_);push_cast [-List.reduceReplicate,iO,tN,hlen,hput])|(refine pif (fun h=>?_) (fun h=>?_)<;>first|exact pN h|push_cast [-List.reduceReplicate,iO,tN,hlen,hput]))
   have hk3:(32+(k:Int)+1)=32+((k:Int)+1):=by omega
   exact ⟨k+1,by omega,by (refine weak_fg ?_;push_cast [-List.reduceReplicate,iO,tN,hk3]),by omega⟩
  ·have hk2:k=95:=by omega
   have hfe:fillN c0 32 k=everyL++[false]:=by rw [hk2,← hc0];exact every_app
   obtain ⟨ev,hev2⟩:∃ ev,everyL++[false]=ev:=⟨_,rfl⟩
   rw [hev2] at hfe hra
   have hevl:ev.length=128:=by rw [← hfe,hlen]
   rw [hfe]
   repeat' (first|((refine pwp_cut 11 [23] ?_;apply pwp_drawn_to;(focus kernel_rfl);(focus (simp only [List.length_cons,List.length_nil,Nat.reduceAdd];(repeat' first|((first|refine pah 0 ?_|refine pah 1 ?_|refine pah 2 ?_|refine pah 3 ?_|refine pah 4 ?_|refine pah 9 ?_);push_cast [-List.reduceReplicate,iO,tN,hevl])|(refine pad ?_;first|with_reducible exact weak_cutS 11 [23] _|(refine weak_fg ?_;push_cast [-List.reduceReplicate,iO,tN,hevl]))|((first|refine pas [5] ?_|refine pas [6] ?_|refine pas [7] ?_|refine pas [8] ?_|refine pas [10] ?_);push_cast [-List.reduceReplicate,iO,tN,hevl])|((first|refine pas [5,6] ?_|refine pas [5,7] ?_);push_cast [-List.reduceReplicate,iO,tN,hevl];refine ⟨?_,?_⟩));done));push_cast [-List.reduceReplicate,iO,tN,hevl]))|((first|refine pC ?_|refine pQC ?_|refine pU ?_);push_cast [-List.reduceReplicate,iO,tN,hevl])|(refine pif (fun h=>?_) (fun h=>?_)<;>first|exact pN h|push_cast [-List.reduceReplicate,iO,tN,hevl]))
   exact ⟨(i+1,as',cur++[askEl],m),⟨by simp only;omega,by simp only;rw [h2,hR],by simp only [List.length_append,List.length_cons,List.length_nil];omega⟩,by (refine weak_fg ?_;push_cast [-List.reduceReplicate,iO,tN,hra]),by simp only;omega⟩
 by_cases h91:b=91
 case pos =>
  have hs1:=gset_pure p (i+1) (by omega) hp hb hlo
  cases hq:bsetM p (i+1) with
  | none =>
   have hal:altsM p=none:=by rw [h2,altGo_none hlt (hbe.trans h91) hq]
   have hR:rparseR p = .two (.c (.v (.slice none 0 0))) (.c (.v (.bool false))):=by unfold rparseR;rw [hal];simp
   rw [hq] at hs1
   repeat' (first|((refine plc [2] (hs1) ?_ ?_;push_cast [-List.reduceReplicate,iO,tN,hg,h91,z130];rintro r os ⟨rfl,rfl⟩;push_cast [-List.reduceReplicate,iO,tN,hg,h91,z130]))|((first|refine pC ?_|refine pQC ?_|refine pU ?_);push_cast [-List.reduceReplicate,iO,tN,hg,h91,z130])|(refine pif (fun h=>?_) (fun h=>?_)<;>first|exact pN h|push_cast [-List.reduceReplicate,iO,tN,hg,h91,z130]))
   (refine retK_of [] ?_;push_cast [-List.reduceReplicate,iO,tN,hR])
  | some q =>
   have hgt:=bsetM_gt hq
   have hR:altGo p i as' cur=altGo p q.2 as' (cur++[⟨0,false,q.1⟩]):=altGo_some hlt (hbe.trans h91) hq
   have hra:El.r ⟨0,false,q.1⟩=D.v (.bool false) :: D.v (.bool false) :: (q.1++[false]).map boolD:=r_set _ _ _ rfl
   rw [hq] at hs1
   simp only at hs1
   obtain ⟨ev,hev2⟩:∃ ev,q.1++[false]=ev:=⟨_,rfl⟩
   rw [hev2] at hra hs1
   have hqq:(q.2:Int) - 1+1=(q.2:Int):=by omega
   have hevl:ev.length=128:=by rw [← hev2,List.length_append,hgt.2.2];rfl
   repeat' (first|((refine plc [2] (hs1) ?_ ?_;push_cast [-List.reduceReplicate,iO,tN,hg,h91,z130,hevl,hqq];rintro r os ⟨rfl,rfl⟩;push_cast [-List.reduceReplicate,iO,tN,hg,h91,z130,hevl,hqq]))|((refine pwp_cut 11 [23] ?_;apply pwp_drawn_to;(focus kernel_rfl);(focus (simp only [List.length_cons,List.length_nil,Nat.reduceAdd];(repeat' first|((first|refine pah 0 ?_|refine pah 1 ?_|refine pah 2 ?_|refine pah 3 ?_|refine pah 4 ?_|refine pah 9 ?_);push_cast [-List.reduceReplicate,iO,tN,hg,h91,z130,hevl,hqq])|(refine pad ?_;first|with_reducible exact weak_cutS 11 [23] _|(refine weak_fg ?_;push_cast [-List.reduceReplicate,iO,tN,hg,h91,z130,hevl,hqq]))|((first|refine pas [5] ?_|refine pas [6] ?_|refine pas [7] ?_|refine pas [8] ?_|refine pas [10] ?_);push_cast [-List.reduceReplicate,iO,tN,hg,h91,z130,hevl,hqq])|((first|refine pas [5,6] ?_|refine pas [5,7] ?_);push_cast [-List.reduceReplicate,iO,tN,hg,h91,z130,hevl,hqq];refine ⟨?_,?_⟩));done));push_cast [-List.reduceReplicate,iO,tN,hg,h91,z130,hevl,hqq]))|((first|refine pC ?_|refine pQC ?_|refine pU ?_);push_cast [-List.reduceReplicate,iO,tN,hg,h91,z130,hevl,hqq])|(refine pif (fun h=>?_) (fun h=>?_)<;>first|exact pN h|push_cast [-List.reduceReplicate,iO,tN,hg,h91,z130,hevl,hqq]))
   exact ⟨(q.2,as',cur++[⟨0,false,q.1⟩],m),⟨by simp only;omega,by simp only;rw [h2,hR],by simp only [List.length_append,List.length_cons,List.length_nil];omega⟩,by (refine weak_fg ?_;push_cast [-List.reduceReplicate,iO,tN,hra]),by simp only;omega⟩
 have hR:altGo p i as' cur=altGo p (i+1) as' (cur++[litEl b]):=by rw [altGo,dif_neg (by omega),hbe,if_neg h124,if_neg h42,if_neg h63,if_neg h91]
 have n124:¬ b.toNat=124:=fun e=>h124 (UInt8.toNat_inj.1 e)
 have n42:¬ b.toNat=42:=fun e=>h42 (UInt8.toNat_inj.1 e)
 have n63:¬ b.toNat=63:=fun e=>h63 (UInt8.toNat_inj.1 e)
 have n91:¬ b.toNat=91:=fun e=>h91 (UInt8.toNat_inj.1 e)
 obtain ⟨sb,hsb⟩:∃ sb,noneS.set b.toNat true++[false]=sb:=⟨_,rfl⟩
 have hsl:sb.length=128:=by rw [← hsb,List.length_append,List.length_set];rfl
 have hra:El.r (litEl b)=D.v (.bool false) :: D.v (.bool true) :: sb.map boolD:=by rw [← hsb];exact r_set _ _ _ (decide_eq_true (by omega))
 have hput:List.take (2+b.toNat) (E.v (.bool false) :: E.v (.bool true) :: List.replicate 128 (E.v (.bool false)))++E.v (.bool true) :: List.drop (2+b.toNat) (E.v (.bool true) :: List.replicate 128 (E.v (.bool false)))=E.v (.bool false) :: E.v (.bool true) :: sb.map fun x=>E.v (.bool x):=by
  have h:=two_put (E.v (.bool false)) (E.v (.bool true)) (List.replicate 128 (E.v (.bool false))) b.toNat (E.v (.bool true)) (by rw [List.length_replicate];omega)
  rw [show 2+b.toNat+1=(2+b.toNat)+1 from rfl,List.drop_succ_cons] at h
  have h2:(List.replicate 128 (E.v (.bool false))).set b.toNat (E.v (.bool true))=sb.map fun x=>E.v (.bool x):=by
   rw [← hsb,List.map_append,List.map_set,← List.set_append_left _ _ (by rw [List.length_map,show noneS.length=127 from List.length_replicate];omega)]
   rw [show noneS.map (fun x=>E.v (.bool x))=List.replicate 127 (E.v (.bool false)) from noneS_rep]
   rfl
  rw [h,h2]
 have ht1:List.take 1 (List.replicate 130 (E.v (.bool false)))=[E.v (.bool false)]:=rfl
 repeat' (first|((refine pwp_cut 11 [23] ?_;apply pwp_drawn_to;(focus kernel_rfl);(focus (simp only [List.length_cons,List.length_nil,Nat.reduceAdd];(repeat' first|((first|refine pah 0 ?_|refine pah 1 ?_|refine pah 2 ?_|refine pah 3 ?_|refine pah 4 ?_|refine pah 9 ?_);push_cast [-List.reduceReplicate,iO,tN,hg,hsl,hput,ht1])|(refine pad ?_;first|with_reducible exact weak_cutS 11 [23] _|(refine weak_fg ?_;push_cast [-List.reduceReplicate,iO,tN,hg,hsl,hput,ht1]))|((first|refine pas [5] ?_|refine pas [6] ?_|refine pas [7] ?_|refine pas [8] ?_|refine pas [10] ?_);push_cast [-List.reduceReplicate,iO,tN,hg,hsl,hput,ht1])|((first|refine pas [5,6] ?_|refine pas [5,7] ?_);push_cast [-List.reduceReplicate,iO,tN,hg,hsl,hput,ht1];refine ⟨?_,?_⟩));done));push_cast [-List.reduceReplicate,iO,tN,hg,hsl,hput,ht1]))|((refine pwp_cut 11 [23] ?_;apply pwp_drawn_to;(focus kernel_rfl);(focus (simp only [List.length_cons,List.length_nil,Nat.reduceAdd];(repeat' first|((first|refine pah 0 ?_|refine pah 1 ?_|refine pah 2 ?_|refine pah 3 ?_|refine pah 5 ?_|refine pah 6 ?_);push_cast [-List.reduceReplicate,iO,tN,hg,hsl,hput,ht1])|(refine pad ?_;first|with_reducible exact weak_cutS 11 [23] _|(refine weak_fg ?_;push_cast [-List.reduceReplicate,iO,tN,hg,hsl,hput,ht1]))|((first|refine pas [4] ?_|refine pas [7] ?_);push_cast [-List.reduceReplicate,iO,tN,hg,hsl,hput,ht1]));done));push_cast [-List.reduceReplicate,iO,tN,hg,hsl,hput,ht1]))|((first|refine pC ?_|refine pQC ?_|refine pU ?_);push_cast [-List.reduceReplicate,iO,tN,hg,hsl,hput,ht1])|(refine pif (fun h=>?_) (fun h=>?_)<;>first|exact pN h|push_cast [-List.reduceReplicate,iO,tN,hg,hsl,hput,ht1]))
 exact ⟨(i+1,as',cur++[litEl b],m),⟨by simp only;omega,by simp only;rw [h2,hR],by simp only [List.length_append,List.length_cons,List.length_nil];omega⟩,by (refine weak_fg ?_;push_cast [-List.reduceReplicate,iO,tN,hra]),by simp only;omega⟩
set_option maxHeartbeats 1000000 in
theorem gcheck_pure (p:ByteArray) (hp:p.size≤9223372036854775807):PCalls Try.prog 48 [.c (.v (.string p))] [] fun r os=>r = .c (.v (.int .i64 (globM p)))∧os=[]:=by
 refine pcalls_of Try.func48 rfl (by simp [Try.ntmps48]) ?_
 rw [Try.ntmps48,Try.results48]
 push_cast [-List.reduceReplicate,iO,tN]
 by_cases h1:256 < p.size
 ·have hR:globM p=21:=by unfold globM;rw [if_pos h1]
  have h1':(256:Int) < (p.size:Int):=by omega
  repeat' (first|((first|refine pG ?_|refine pQ ?_|refine pU ?_);push_cast [-List.reduceReplicate,iO,tN,h1'])|(refine pif (fun h=>?_) (fun h=>?_)<;>first|exact pN h|push_cast [-List.reduceReplicate,iO,tN,h1']))
  (refine retK_of [] ?_;push_cast [-List.reduceReplicate,iO,tN,hR])
 have h1':¬ (256:Int) < (p.size:Int):=by omega
 have hq:=rparse_pure p (by omega)
 unfold rparseR at hq
 by_cases h2:p.data.toList.all textB=true∧(altsM p).isSome=true
 ·have hR:globM p=0:=by
   obtain ⟨l,hl⟩:=Option.isSome_iff_exists.1 h2.2
   unfold globM;rw [if_neg h1,if_neg (by rw [h2.1];simp),hl]
  rw [if_pos h2,h2.1,h2.2] at hq
  repeat' (first|((refine plc [] (hq) ?_ ?_;push_cast [-List.reduceReplicate,iO,tN,h1'];rintro r os ⟨rfl,rfl⟩;push_cast [-List.reduceReplicate,iO,tN,h1']))|((first|refine pG ?_|refine pQ ?_|refine pU ?_);push_cast [-List.reduceReplicate,iO,tN,h1'])|(refine pif (fun h=>?_) (fun h=>?_)<;>first|exact pN h|push_cast [-List.reduceReplicate,iO,tN,h1']))
  (refine retK_of [] ?_;push_cast [-List.reduceReplicate,iO,tN,hR])
 ·have hb:(p.data.toList.all textB && (altsM p).isSome)=false:=by rw [Bool.and_eq_false_iff];by_cases h:p.data.toList.all textB=true;exact .inr (Bool.eq_false_iff.2 fun e=>h2 ⟨h,e⟩);exact .inl (Bool.eq_false_iff.2 h)
  have hR:globM p=20:=by
   unfold globM
   rw [if_neg h1]
   by_cases h:p.data.toList.all textB=true
   ·rw [if_neg (by rw [h];simp)]
    cases hl:altsM p with
    | none=>rfl
    | some l=>exact absurd ⟨h,by rw [hl];rfl⟩ h2
   ·rw [if_pos (by rw [Bool.eq_false_iff.2 h];rfl)]
  rw [if_neg h2,hb] at hq
  repeat' (first|((refine plc [] (hq) ?_ ?_;push_cast [-List.reduceReplicate,iO,tN,h1'];rintro r os ⟨rfl,rfl⟩;push_cast [-List.reduceReplicate,iO,tN,h1']))|((first|refine pG ?_|refine pQ ?_|refine pU ?_);push_cast [-List.reduceReplicate,iO,tN,h1'])|(refine pif (fun h=>?_) (fun h=>?_)<;>first|exact pN h|push_cast [-List.reduceReplicate,iO,tN,h1']))
  (refine retK_of [] ?_;push_cast [-List.reduceReplicate,iO,tN,hR])
end Go.Proofs.Ythhfpcbpiphfiaa
namespace Go.Proofs.Ythhfpcbpiphfiaa
open Go.RowKit
open IntWalk renaming iteOmega → iO, toNatUp → tN
set_option linter.unusedVariables false
set_option linter.unusedSimpArgs false
def starAt (l:List El) (i:Nat):Bool:=decide (i < l.length) && (l.getD i default).star
def plN (l:List El) (a:List Bool):Nat → List Bool
 | 0=>a
 | i+1=>if (plN l a i).getD i false && (l.getD i default).star then (plN l a i).set (i+1) true else plN l a i
def placesL (l:List El) (a:List Bool):List Bool:=plN l a l.length
theorem plN_len (l:List El) (a:List Bool):∀ i,(plN l a i).length=a.length
 | 0=>rfl
 | i+1=>by rw [plN];split<;>simp [plN_len l a i]
theorem getD_set {l:List Bool} {i j:Nat} (h:i < l.length):(l.set i true).getD j false=if j=i then true else l.getD j false:=by
 rw [List.getD_eq_getElem?_getD]
 by_cases e:j=i
 ·subst e;rw [List.getElem?_set_self h,if_pos rfl];rfl
 ·rw [List.getElem?_set_ne (Ne.symm e),if_neg e,← List.getD_eq_getElem?_getD]
theorem plN_get (l:List El) (a:List Bool) (ha:a.length=l.length+1):∀ i,i≤l.length → ∀ j,(plN l a i).getD j false=if 0 < j∧j≤i then a.getD j false || ((plN l a (j - 1)).getD (j - 1) false && (l.getD (j - 1) default).star) else a.getD j false
 | 0,_,j=>by rw [if_neg (by omega),plN]
 | i+1,h,j=>by
  have ih:=plN_get l a ha i (by omega)
  rw [plN]
  by_cases hj:j=i+1
  ·subst hj
   have h0:=ih (i+1)
   rw [if_neg (by omega)] at h0
   have hpp:(0 < i+1∧i+1≤i+1)=True:=eq_true ⟨by omega,Nat.le_refl _⟩
   simp only [hpp,if_true,Nat.add_sub_cancel]
   cases hc:((plN l a i).getD i false && (l.getD i default).star)
   ·rw [Bool.or_false];simp only [Bool.false_eq_true,if_false];exact h0
   ·rw [if_pos rfl,getD_set (by rw [plN_len];omega),if_pos rfl,Bool.or_true]
  ·have h1:(if ((plN l a i).getD i false && (l.getD i default).star)=true then (plN l a i).set (i+1) true else plN l a i).getD j false=(plN l a i).getD j false:=by
    split
    ·rw [getD_set (by rw [plN_len];omega),if_neg hj]
    ·rfl
   rw [h1,ih j]
   by_cases h2:0 < j∧j≤i
   ·rw [if_pos h2,if_pos (by omega)]
   ·rw [if_neg h2,if_neg (by omega)]
theorem plN_stay (l:List El) (a:List Bool) (ha:a.length=l.length+1) {i j:Nat} (hi:i≤l.length) (hj:j≤i):(plN l a i).getD j false=(plN l a j).getD j false:=by
 rw [plN_get l a ha i hi j,plN_get l a ha j (by omega) j]
 by_cases h:0 < j
 ·rw [if_pos ⟨h,hj⟩,if_pos ⟨h,Nat.le_refl _⟩]
 ·rw [if_neg (by omega),if_neg (by omega)]
theorem placesL_zero (l:List El) (a:List Bool) (ha:a.length=l.length+1):(placesL l a).getD 0 false=a.getD 0 false:=by
 unfold placesL
 rw [plN_get l a ha _ (Nat.le_refl _) 0,if_neg (by omega)]
theorem placesL_succ (l:List El) (a:List Bool) (ha:a.length=l.length+1) {j:Nat} (hj:j < l.length):(placesL l a).getD (j+1) false=(a.getD (j+1) false || ((placesL l a).getD j false && (l.getD j default).star)):=by
 unfold placesL
 rw [plN_get l a ha _ (Nat.le_refl _) (j+1),if_pos (by omega),Nat.add_sub_cancel,plN_stay l a ha (Nat.le_refl _) (by omega:j≤l.length)]
theorem placesL_len (l:List El) (a:List Bool):(placesL l a).length=a.length:=plN_len _ _ _
def nxN (l:List El) (a:List Bool) (b:UInt8):Nat → List Bool
 | 0=>List.replicate (l.length+1) false
 | i+1 =>
  let u:=if a.getD i false && (l.getD i default).star then (nxN l a b i).set i true else nxN l a b i
  if (a.getD i false && !(l.getD i default).star) && (l.getD i default).has b then u.set (i+1) true else u
theorem nxN_len (l:List El) (a:List Bool) (b:UInt8):∀ i,(nxN l a b i).length=l.length+1
 | 0=>by simp [nxN]
 | i+1=>by
  have ih:=nxN_len l a b i
  rw [nxN]
  split<;>split<;>simp [ih]
theorem nxN_get (l:List El) (a:List Bool) (b:UInt8):∀ i,i≤l.length → ∀ j,(nxN l a b i).getD j false=((decide (j < i) && (a.getD j false && (l.getD j default).star)) || (decide (0 < j∧j≤i) && ((a.getD (j - 1) false && !(l.getD (j - 1) default).star) && (l.getD (j - 1) default).has b)))
 | 0,_,j=>by
  rw [nxN,decide_eq_false (by omega),decide_eq_false (by omega),List.getD_eq_getElem?_getD,List.getElem?_replicate]
  simp only [Bool.false_and,Bool.or_self]
  split<;>rfl
 | i+1,h,j=>by
  have ih:=nxN_get l a b i (by omega) j
  have hl:=nxN_len l a b i
  rw [nxN]
  obtain ⟨c1,hc1⟩:∃ c,(a.getD i false && (l.getD i default).star)=c:=⟨_,rfl⟩
  obtain ⟨c2,hc2⟩:∃ c,((a.getD i false && !(l.getD i default).star) && (l.getD i default).has b)=c:=⟨_,rfl⟩
  rw [hc1,hc2]
  have hu:(if c1=true then (nxN l a b i).set i true else nxN l a b i).getD j false=((decide (j=i) && c1) || (nxN l a b i).getD j false):=by
   cases c1
   ·simp
   ·rw [if_pos rfl,getD_set (by omega)]
    by_cases e:j=i<;>simp [e]
  have hul:(if c1=true then (nxN l a b i).set i true else nxN l a b i).length=l.length+1:=by split<;>simp [hl]
  have hv:(if c2=true then (if c1=true then (nxN l a b i).set i true else nxN l a b i).set (i+1) true else (if c1=true then (nxN l a b i).set i true else nxN l a b i)).getD j false=((decide (j=i+1) && c2) || ((decide (j=i) && c1) || (nxN l a b i).getD j false)):=by
   cases c2
   ·rw [if_neg (by simp),hu];simp
   ·rw [if_pos rfl,getD_set (by omega),hu]
    by_cases e:j=i+1<;>simp [e]
  rw [hv,ih]
  by_cases e1:j=i
  ·subst e1
   rw [hc1,decide_eq_true (by omega:j < j+1),decide_eq_false (by omega:¬ j < j),decide_eq_false (by omega:¬ j=j+1)]
   by_cases h0:0 < j
   ·rw [decide_eq_true (by omega:0 < j∧j≤j),decide_eq_true (by omega:0 < j∧j≤j+1)];simp
   ·rw [decide_eq_false (by omega:¬ (0 < j∧j≤j)),decide_eq_false (by omega:¬ (0 < j∧j≤j+1))];simp
  ·by_cases e2:j=i+1
   ·subst e2
    rw [Nat.add_sub_cancel,hc2,decide_eq_false (by omega:¬ i+1 < i),decide_eq_false (by omega:¬ i+1 < i+1),decide_eq_true (by omega:0 < i+1∧i+1≤i+1),decide_eq_false (by omega:¬ (0 < i+1∧i+1≤i)),decide_eq_false (by omega:¬ i+1=i)]
    simp
   ·have d1:decide (j < i+1)=decide (j < i):=decide_eq_decide.2 (by omega)
    have d2:decide (0 < j∧j≤i+1)=decide (0 < j∧j≤i):=decide_eq_decide.2 (by omega)
    rw [d1,d2,decide_eq_false e1,decide_eq_false e2];simp
def aM (l:List El) (i:Nat) (t:List UInt8):Bool:=if starAt l i then mat (l.take (i+1)) t else mat (l.take i) t
theorem take_snoc {l:List El} {i:Nat} (h:i < l.length):l.take (i+1)=l.take i++[l.getD i default]:=by
 rw [List.take_succ_eq_append_getElem h]
 congr 2
 simp [List.getD,h]
theorem starAt_lt {l:List El} {i:Nat} (h:i < l.length):starAt l i=(l.getD i default).star:=by unfold starAt;rw [decide_eq_true h,Bool.true_and]
def AtOk (l:List El) (a:List Bool) (t:List UInt8):Prop:=a.length=l.length+1∧∀ i,i≤l.length → a.getD i false=aM l i t
theorem aM_nil (l:List El):∀ i,i≤l.length → aM l i []=mat (l.take i) []:=fun i hi=>by
 unfold aM
 by_cases hs:starAt l i=true
 ·rw [if_pos hs]
  have hlt:i < l.length:=by unfold starAt at hs;simp only [Bool.and_eq_true,decide_eq_true_eq] at hs;exact hs.1
  rw [take_snoc hlt,mat_snoc_nil,← starAt_lt hlt,hs,Bool.and_true]
 ·rw [if_neg hs]
theorem AtOk.start (l:List El):AtOk l (placesL l ((List.replicate (l.length+1) false).set 0 true)) []:=by
 have hl:((List.replicate (l.length+1) false).set 0 true).length=l.length+1:=by simp
 refine ⟨by rw [placesL_len,hl],fun i=>?_⟩
 induction i with
 | zero =>
  intro _
  rw [placesL_zero l _ hl,aM_nil l 0 (Nat.zero_le _),List.replicate_succ]
  rfl
 | succ i ih =>
  intro hi
  rw [placesL_succ l _ hl (by omega),ih (by omega),aM_nil l i (by omega),aM_nil l (i+1) hi,take_snoc (by omega),mat_snoc_nil]
  rw [List.getD_eq_getElem?_getD,List.getElem?_set_ne (by omega),List.getElem?_replicate]
  split<;>simp
theorem AtOk.step {l:List El} {a:List Bool} {t:List UInt8} (h:AtOk l a t) (b:UInt8):AtOk l (placesL l (nxN l a b l.length)) (t++[b]):=by
 have hl:=nxN_len l a b l.length
 refine ⟨by rw [placesL_len,hl],fun i=>?_⟩
 induction i with
 | zero =>
  intro _
  rw [placesL_zero l _ hl,nxN_get l a b _ (Nat.le_refl _) 0,decide_eq_false (by omega:¬ (0 < 0∧0≤l.length)),Bool.false_and,Bool.or_false]
  have h0:=h.2 0 (Nat.zero_le _)
  unfold aM at h0 ⊢
  by_cases hlt:0 < l.length
  ·rw [starAt_lt hlt] at *
   rw [decide_eq_true hlt,Bool.true_and,h0]
   cases hs:(l.getD 0 default).star
   ·simp [mat]
   ·simp only [if_true,Bool.and_true]
    have h1:l.take (0+1)=[l.getD 0 default]:=by rw [take_snoc hlt];simp
    rw [h1]
    have hm:∀ u:List UInt8,mat [l.getD 0 default] u=true:=fun u=>(mat_star hs).2 ⟨u.length,Nat.le_refl _,by simp [mat]⟩
    rw [hm,hm]
  ·rw [decide_eq_false hlt,Bool.false_and]
   have hn:starAt l 0=false:=by unfold starAt;rw [decide_eq_false hlt];rfl
   rw [hn]
   simp [mat]
 | succ i ih =>
  intro hi
  have hlt:i < l.length:=by omega
  have hi1:=h.2 i (by omega)
  have hi2:=h.2 (i+1) hi
  rw [placesL_succ l _ hl hlt,ih (by omega),nxN_get l a b _ (Nat.le_refl _) (i+1),decide_eq_true (by omega:0 < i+1∧i+1≤l.length),Bool.true_and,Nat.add_sub_cancel,hi1]
  have hX:mat (l.take (i+1)) (t++[b])=if (l.getD i default).star then (mat (l.take i) (t++[b]) || mat (l.take (i+1)) t) else (mat (l.take i) t && (l.getD i default).has b):=by
   rw [take_snoc hlt]
   cases hs:(l.getD i default).star
   ·rw [mat_snoc_one hs];rfl
   ·rw [mat_snoc_star hs];rfl
  have hprev:(((aM l i t && !(l.getD i default).star) && (l.getD i default).has b) || (aM l i (t++[b]) && (l.getD i default).star))=mat (l.take (i+1)) (t++[b]):=by
   unfold aM
   rw [starAt_lt hlt]
   cases hs:(l.getD i default).star
   ·rw [hX,hs];simp
   ·simp
  have hgo:(decide (i+1 < l.length) && (a.getD (i+1) false && (l.getD (i+1) default).star))=(starAt l (i+1) && mat (l.take (i+1+1)) t):=by
   rw [hi2]
   unfold aM
   cases hs:starAt l (i+1)
   ·unfold starAt at hs
    cases hd:decide (i+1 < l.length)
    ·simp
    ·rw [hd,Bool.true_and] at hs;rw [hs];simp
   ·have hs2:=hs
    unfold starAt at hs2
    simp only [Bool.and_eq_true] at hs2
    rw [hs2.1,hs2.2];simp
  rw [Bool.or_assoc,hprev,hgo]
  show _=aM l (i+1) (t++[b])
  unfold aM
  cases hs:starAt l (i+1)
  ·simp
  ·have hlt2:i+1 < l.length:=by unfold starAt at hs;simp only [Bool.and_eq_true,decide_eq_true_eq] at hs;exact hs.1
   have hs':(l.getD (i+1) default).star=true:=by rw [← starAt_lt hlt2];exact hs
   simp only [Bool.true_and,if_true]
   rw [take_snoc hlt2,mat_snoc_star hs']
   cases mat (List.take (i+1) l) (t++[b])<;>simp
theorem AtOk.fin {l:List El} {a:List Bool} {t:List UInt8} (h:AtOk l a t):a.getD l.length false=mat l t:=by
 rw [h.2 _ (Nat.le_refl _)]
 unfold aM starAt
 rw [decide_eq_false (by omega),Bool.false_and,List.take_length]
 rfl
end Go.Proofs.Ythhfpcbpiphfiaa
