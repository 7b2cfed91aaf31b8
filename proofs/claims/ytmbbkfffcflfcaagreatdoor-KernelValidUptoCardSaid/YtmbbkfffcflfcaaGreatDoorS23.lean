/- What the program computes, and the plain laws of it, part 23. -/
import Derived.WideKeyEntry
import Derived.Test.YtmbbkfffcflfcaaGreatDoorS22
namespace Go.Proofs.YtmbbkfffcflfcaaGreatDoor
attribute [local irreducible] PL QL PWPr PCalls Weak RetK Kontr PA
open Go.RowKit
open IntWalk renaming iteOmega → O, toNatUp → U
set_option linter.unusedVariables false
set_option linter.unusedSimpArgs false
set_option maxRecDepth 20000
def rset (e:El):List Bool:=if e.star then List.replicate 128 false else e.set++[false]
def El.r (e:El):List D:=.v (.bool e.star) :: .v (.bool (decide (e.lit≠0))) :: (rset e).map boolD
def altsR (l:List (List El)):List (List D):=l.map fun a=>[D.sl 130 (a.map El.r)]
abbrev outR (l0:List (List El)) (x:E) (m:Nat):Ob:=.box 212 (nestE 130 El.r l0 x m)
abbrev innR (cur:List El):Ob:=.arr 209 130 (cur.map El.r)
theorem every_app:fillN (noneS++[false]) 32 95=everyL++[false]:=fillN_app noneS 32 95 (by rw [show noneS.length=127 from List.length_replicate];decide)
theorem toDs_rep (b:Bool):∀ n,toDs (List.replicate n (E.v (.bool b)))=some (List.replicate n (boolD b))
 | 0=>rfl
 | n+1=>by simp only [List.replicate_succ,toDs,toD,toDs_rep b n];rfl
attribute [push_cast] toDs_rep
theorem r_star:El.r starEl=D.v (.bool true) :: List.replicate 129 (boolD false):=by
 unfold El.r starEl rset
 simp only [if_true,List.map_replicate]
 rfl
theorem r_set (s:List Bool) (f:Bool) (n:Nat) (h:decide (n≠0)=f):El.r ⟨n,false,s⟩=D.v (.bool false) :: D.v (.bool f) :: (s++[false]).map boolD:=by
 unfold El.r rset
 simp only [h]
 rfl
set_option maxRecDepth 20000 in
theorem z130:List.replicate 130 (E.v (.bool false))=elC (List.replicate 128 false):=rfl
def rparseR (p:ByteArray):PV:=.two (if p.data.toList.all textB∧(altsM p).isSome then .c (.sl 1 (altsR ((altsM p).getD []))) else .c (.v (.slice none 0 0))) (.c (.v (.bool (p.data.toList.all textB && (altsM p).isSome))))
set_option maxRecDepth 20000 in
set_option maxHeartbeats 8000000 in
theorem rparse_pure (p:ByteArray) (hp:p.size≤1000000):PCalls Tryz.prog 130 [.c (.v (.string p))] [] fun r os=>r=rparseR p∧os=[]:=by
 have hpr:=gprint_pure p (by omega)
 refine pcalls_of Tryz.func130 rfl (by simp [Tryz.ntmps130]) ?_
 rw [Tryz.ntmps130,Tryz.results130]
 push_cast [-List.reduceReplicate,O,U]
 have cB:CutB 11 [23]:=trivial
 by_cases htx:p.data.toList.all textB=true
 case neg =>
  have htf:=Bool.eq_false_iff.2 htx
  rw [htf] at hpr
  have hR:rparseR p = .two (.c (.v (.slice none 0 0))) (.c (.v (.bool false))):=by unfold rparseR;rw [htf];simp
  repeat' ((first|refine plE [] hpr ?_ ?_|refine pC ?_|refine pQC ?_|refine pU ?_|refine pif ?_ ?_<;>intro h<;>try exact pN h)<;>push_cast [-List.reduceReplicate,O,U])
  (refine retK_of [] ?_;push_cast [-List.reduceReplicate,O,U,hR])
 rw [htx] at hpr
 have hb:=fun k=>text_byt htx k
 have hlo:=fun k hk=>text_lo htx k hk
 repeat' ((first|refine plE [] hpr ?_ ?_|(refine pwp_seq fun K hK=>?_)|(refine pwp_block ?_)|(refine pwp_regionL ?_;refine pl_nest rfl rfl rfl rfl rfl (by push_cast [-List.reduceReplicate,O,U]) ?_;push_cast [-List.reduceReplicate,O,U];refine pl_of_pops ?_;push_cast [-List.reduceReplicate,O,U])|refine pC ?_|refine pQC ?_|refine pU ?_|refine pif ?_ ?_<;>intro h<;>try exact pN h)<;>push_cast [-List.reduceReplicate,O,U])
 refine pwp_weak (weak_adopt_box 0 0 209 130 (by decide) _ _ (by rfl) (by rfl)) ?_
 push_cast [-List.reduceReplicate,O,U,List.set_cons_zero]
 have e0:[E.own 1 0]=nestE 130 El.r [] (.own 1 0) 0:=nest_one _
 rw [e0]
 (apply pwp_loop3 (α:=Nat × List (List El) × List El × Nat) 11 [23] (fun x=>[(4,.c (.own 0 (x.2.1.length+1))),(5,.c (.v (.int .i64 x.1)))]) (fun x=>[(0,outR x.2.1 (.own 1 x.2.2.1.length) x.2.2.2),(1,innR x.2.2.1)]) (fun x=>x.1≤p.size∧altsM p=altGo p x.1 x.2.1 x.2.2.1∧x.2.1.length+x.2.2.1.length≤x.1) (fun x=>p.size - x.1) ((0,[],[],0));(focus ((try push_cast [-List.reduceReplicate,O,U]);rfl));(focus exact ⟨Nat.zero_le _,rfl,Nat.le_refl _⟩);(focus ((refine weak_fg ?_;try push_cast [-List.reduceReplicate,O,U]))))
 rintro ⟨i,as',cur,m⟩ ⟨h1,h2,h3⟩
 simp only at h1 h2 h3 ⊢
 push_cast [-List.reduceReplicate,O,U]
 by_cases hlt:i < p.size
 case neg =>
  have hal:altsM p=some (as'++[cur]):=by rw [h2,altGo,dif_pos (by omega)]
  have hR:rparseR p = .two (.c (.sl 1 (altsR (as'++[cur])))) (.c (.v (.bool true))):=by unfold rparseR;rw [hal,htx];simp
  refine pwp_weak (weak_frz 1 (by omega)) ?_
  push_cast [-List.reduceReplicate,O,U]
  refine pwp_weak (weak_frzbox 4 (k:=0) (n:=as'.length+1) (ds:=(as'++[cur]).map fun a=>D.sl 130 (a.map El.r)) (by omega) (by rfl) (by rfl) (nest_toDs _ _ _) (by simp)) ?_
  push_cast [-List.reduceReplicate,O,U]
  repeat' ((first|refine pC ?_|refine pQC ?_|refine pU ?_|refine pif ?_ ?_<;>intro h<;>try exact pN h)<;>push_cast [-List.reduceReplicate,O,U])
  (refine retK_of [] ?_;push_cast [-List.reduceReplicate,O,U,hR])
  simp [altsR]
 obtain ⟨b,hbe⟩:∃ b,byt p i=b:=⟨_,rfl⟩
 have hb1:b.toNat≤126:=by rw [← hbe];exact UInt8.le_iff_toNat_le.1 (hb i)
 have hb0:32≤b.toNat:=by rw [← hbe];exact hlo i hlt
 have hg:p.data.toList.getD i 0=b:=hbe
 by_cases h124:b=124
 case pos =>
  refine pwp_weak (weak_frz 1 (by omega)) ?_
  push_cast [-List.reduceReplicate,O,U]
  repeat' ((first|(fail)|refine pC ?_|refine pQC ?_|refine pU ?_|refine pif ?_ ?_<;>intro h<;>try exact pN h)<;>push_cast [-List.reduceReplicate,O,U,hg,h124])
  have hnl:as'.length+1≤(nestE 130 El.r as' (E.sl 130 (cur.map El.r)) m).length:=by rw [nest_len];omega
  refine pl_appbox 0 (by':=24) (z0:=.v (.slice none 0 0)) (d:=.v (.slice none 0 0)) rfl rfl (by push_cast [-List.reduceReplicate,O,U]) rfl (by kernel_rfl) (by kernel_rfl) rfl rfl hnl (by omega) (Nat.le_refl _) rfl (by omega) (by omega) ?_
  intro m'
  push_cast [-List.reduceReplicate,O,U]
  refine pl_of_pops ?_
  push_cast [-List.reduceReplicate,O,U]
  obtain ⟨as2,has2⟩:∃ as2,as'++[cur]=as2:=⟨_,rfl⟩
  have hal:as'.length+1=as2.length:=by rw [← has2];simp
  rw [has2]
  repeat' ((first|refine pC ?_|refine pQC ?_|refine pU ?_|refine pif ?_ ?_<;>intro h<;>try exact pN h)<;>push_cast [-List.reduceReplicate,O,U])
  refine ⟨(i+1,as2,[],m'),⟨by simp only;omega,by simp only;rw [h2,altGo,dif_neg (by omega),if_pos (by rw [hbe,h124]),has2],by simp only [List.length_nil];omega⟩,(weak_adopt_box 0 as2.length 209 130 (by decide) _ _ (by rfl) (nest_get _ _ _)).trans ?_,by simp only;omega⟩
  (refine weak_keep true [0,3] ?_;push_cast [-List.reduceReplicate,O,U,hal])
 by_cases h42:b=42
 case pos =>
  have hR:altGo p i as' cur=altGo p (i+1) as' (cur++[starEl]):=by rw [altGo,dif_neg (by omega),hbe,if_neg h124,if_pos h42]
  repeat' ((first|(refine pwp_cut 11 [23] ?_;apply pwp_drawn_to;(focus kernel_rfl);(focus (simp only [List.length_cons,List.length_nil,Nat.reduceAdd];(repeat' first|((first|refine pah 0 ?_|refine pah 1 ?_|refine pah 2 ?_|refine pah 3 ?_|refine pah 4 ?_|refine pah 9 ?_);push_cast [-List.reduceReplicate,O,U,hg,h42])|(refine pad ?_;first|with_reducible exact weak_cutS 11 [23] _|(refine weak_fg ?_;push_cast [-List.reduceReplicate,O,U,hg,h42]))|((first|refine pas [5] ?_|refine pas [6] ?_|refine pas [7] ?_|refine pas [8] ?_|refine pas [10] ?_);push_cast [-List.reduceReplicate,O,U,hg,h42])|((first|refine pas [5,6] ?_|refine pas [5,7] ?_|refine pas [5,8] ?_|refine pas [5,10] ?_|refine pas [6,7] ?_|refine pas [6,8] ?_|refine pas [6,10] ?_|refine pas [7,8] ?_|refine pas [7,10] ?_|refine pas [8,10] ?_);push_cast [-List.reduceReplicate,O,U,hg,h42];refine ⟨?_,?_⟩)|((first|refine pas [5,6,7] ?_|refine pas [5,6,8] ?_|refine pas [5,6,10] ?_|refine pas [5,7,8] ?_|refine pas [5,7,10] ?_|refine pas [5,8,10] ?_|refine pas [6,7,8] ?_|refine pas [6,7,10] ?_|refine pas [6,8,10] ?_|refine pas [7,8,10] ?_);push_cast [-List.reduceReplicate,O,U,hg,h42];refine ⟨?_,?_,?_⟩)|((first|refine pas [5,6,7,8] ?_|refine pas [5,6,7,10] ?_|refine pas [5,6,8,10] ?_|refine pas [5,7,8,10] ?_|refine pas [6,7,8,10] ?_);push_cast [-List.reduceReplicate,O,U,hg,h42];refine ⟨?_,?_,?_,?_⟩));done));push_cast [-List.reduceReplicate,O,U,hg,h42])|refine pC ?_|refine pQC ?_|refine pU ?_|refine pif ?_ ?_<;>intro h<;>try exact pN h)<;>push_cast [-List.reduceReplicate,O,U,hg,h42])
  exact ⟨(i+1,as',cur++[starEl],m),⟨by simp only;omega,by simp only;rw [h2,hR],by simp only [List.length_append,List.length_cons,List.length_nil];omega⟩,by (refine weak_fg ?_;push_cast [-List.reduceReplicate,O,U,r_star]),by simp only;omega⟩
 by_cases h63:b=63
 case pos =>
  have hR:altGo p i as' cur=altGo p (i+1) as' (cur++[askEl]):=by rw [altGo,dif_neg (by omega),hbe,if_neg h124,if_neg h42,if_pos h63]
  have hra:El.r askEl=D.v (.bool false) :: D.v (.bool false) :: (everyL++[false]).map boolD:=r_set _ _ _ rfl
  obtain ⟨c0,hc0⟩:∃ c0,noneS++[false]=c0:=⟨_,rfl⟩
  have hc1:c0.length=128:=by rw [← hc0];rfl
  repeat' ((first|refine pC ?_|refine pQC ?_|refine pU ?_|refine pif ?_ ?_<;>intro h<;>try exact pN h)<;>push_cast [-List.reduceReplicate,O,U,hg,h63])
  rw [z130,show List.replicate 128 false=c0 by rw [← hc0];rfl]
  (apply pwp_loop3 (α:=Nat) 11 [23] (fun k=>[(7,.c (.v (.int .i64 (32+k))))]) (fun k=>[(2,.box 209 (elC (fillN c0 32 k)))]) (fun k=>k≤95) (fun k=>95 - k) (0);(focus ((try push_cast [-List.reduceReplicate,O,U]);rfl));(focus exact (by omega));(focus ((refine weak_fg ?_;try push_cast [-List.reduceReplicate,O,U]);(try (exact leEs_refl _)))))
  intro k hk
  push_cast [-List.reduceReplicate,O,U]
  have hlen:(fillN c0 32 k).length=128:=by rw [fillN_len,hc1]
  by_cases hlt2:k < 95
  ·have hput:List.take (2+(32+k)) (E.v (.bool false) :: E.v (.bool false) :: (fillN c0 32 k).map boolE)++E.v (.bool true) :: List.drop (2+(32+k)) (E.v (.bool false) :: (fillN c0 32 k).map boolE)=elC (fillN c0 32 (k+1)):=by
    have h:=two_put (E.v (.bool false)) (E.v (.bool false)) ((fillN c0 32 k).map boolE) (32+k) (E.v (.bool true)) (by rw [List.length_map,hlen];omega)
    rw [List.drop_succ_cons] at h
    rw [h,fillN]
    show _=E.v (.bool false) :: E.v (.bool false) :: ((fillN c0 32 k).set (32+k) true).map boolE
    rw [List.map_set]
   repeat' ((first|refine pC ?_|refine pQC ?_|refine pU ?_|refine pif ?_ ?_<;>intro h<;>try exact pN h)<;>push_cast [-List.reduceReplicate,O,U,hlen,hput])
   have hk3:(32+(k:Int)+1)=32+((k:Int)+1):=by omega
   exact ⟨k+1,by omega,by (refine weak_fg ?_;push_cast [-List.reduceReplicate,O,U,hk3]),by omega⟩
  ·have hk2:k=95:=by omega
   have hfe:fillN c0 32 k=everyL++[false]:=by rw [hk2,← hc0];exact every_app
   obtain ⟨ev,hev2⟩:∃ ev,everyL++[false]=ev:=⟨_,rfl⟩
   rw [hev2] at hfe hra
   have hevl:ev.length=128:=by rw [← hfe,hlen]
   rw [hfe]
   repeat' ((first|(refine pwp_cut 11 [23] ?_;apply pwp_drawn_to;(focus kernel_rfl);(focus (simp only [List.length_cons,List.length_nil,Nat.reduceAdd];(repeat' first|((first|refine pah 0 ?_|refine pah 1 ?_|refine pah 2 ?_|refine pah 3 ?_|refine pah 4 ?_|refine pah 9 ?_);push_cast [-List.reduceReplicate,O,U,hevl])|(refine pad ?_;first|with_reducible exact weak_cutS 11 [23] _|(refine weak_fg ?_;push_cast [-List.reduceReplicate,O,U,hevl]))|((first|refine pas [5] ?_|refine pas [6] ?_|refine pas [7] ?_|refine pas [8] ?_|refine pas [10] ?_);push_cast [-List.reduceReplicate,O,U,hevl])|((first|refine pas [5,6] ?_|refine pas [5,7] ?_|refine pas [5,8] ?_|refine pas [5,10] ?_|refine pas [6,7] ?_|refine pas [6,8] ?_|refine pas [6,10] ?_|refine pas [7,8] ?_|refine pas [7,10] ?_|refine pas [8,10] ?_);push_cast [-List.reduceReplicate,O,U,hevl];refine ⟨?_,?_⟩)|((first|refine pas [5,6,7] ?_|refine pas [5,6,8] ?_|refine pas [5,6,10] ?_|refine pas [5,7,8] ?_|refine pas [5,7,10] ?_|refine pas [5,8,10] ?_|refine pas [6,7,8] ?_|refine pas [6,7,10] ?_|refine pas [6,8,10] ?_|refine pas [7,8,10] ?_);push_cast [-List.reduceReplicate,O,U,hevl];refine ⟨?_,?_,?_⟩)|((first|refine pas [5,6,7,8] ?_|refine pas [5,6,7,10] ?_|refine pas [5,6,8,10] ?_|refine pas [5,7,8,10] ?_|refine pas [6,7,8,10] ?_);push_cast [-List.reduceReplicate,O,U,hevl];refine ⟨?_,?_,?_,?_⟩));done));push_cast [-List.reduceReplicate,O,U,hevl])|refine pC ?_|refine pQC ?_|refine pU ?_|refine pif ?_ ?_<;>intro h<;>try exact pN h)<;>push_cast [-List.reduceReplicate,O,U,hevl])
   exact ⟨(i+1,as',cur++[askEl],m),⟨by simp only;omega,by simp only;rw [h2,hR],by simp only [List.length_append,List.length_cons,List.length_nil];omega⟩,by (refine weak_fg ?_;push_cast [-List.reduceReplicate,O,U,hra]),by simp only;omega⟩
 by_cases h91:b=91
 case pos =>
  have hs1:=gset_pure p (i+1) (by omega) hp hb hlo
  cases hq:bsetM p (i+1) with
  | none =>
   have hal:altsM p=none:=by rw [h2,altGo_none hlt (hbe.trans h91) hq]
   have hR:rparseR p = .two (.c (.v (.slice none 0 0))) (.c (.v (.bool false))):=by unfold rparseR;rw [hal];simp
   rw [hq] at hs1
   repeat' ((first|refine plE [2] hs1 ?_ ?_|refine pC ?_|refine pQC ?_|refine pU ?_|refine pif ?_ ?_<;>intro h<;>try exact pN h)<;>push_cast [-List.reduceReplicate,O,U,hg,h91,z130])
   (refine retK_of [] ?_;push_cast [-List.reduceReplicate,O,U,hR])
  | some q =>
   have hgt:=bsetM_gt hq
   have hR:altGo p i as' cur=altGo p q.2 as' (cur++[⟨0,false,q.1⟩]):=altGo_some hlt (hbe.trans h91) hq
   have hra:El.r ⟨0,false,q.1⟩=D.v (.bool false) :: D.v (.bool false) :: (q.1++[false]).map boolD:=r_set _ _ _ rfl
   rw [hq] at hs1
   simp only at hs1
   obtain ⟨ev,hev2⟩:∃ ev,q.1++[false]=ev:=⟨_,rfl⟩
   rw [hev2] at hra hs1
   have hqq:(q.2:Int) - 1+1=(q.2:Int):=by omega
   have hevl:ev.length=128:=by rw [← hev2,List.length_append,hgt.2.2];rfl
   repeat' ((first|refine plE [2] hs1 ?_ ?_|(refine pwp_cut 11 [23] ?_;apply pwp_drawn_to;(focus kernel_rfl);(focus (simp only [List.length_cons,List.length_nil,Nat.reduceAdd];(repeat' first|((first|refine pah 0 ?_|refine pah 1 ?_|refine pah 2 ?_|refine pah 3 ?_|refine pah 4 ?_|refine pah 9 ?_);push_cast [-List.reduceReplicate,O,U,hg,h91,z130,hevl,hqq])|(refine pad ?_;first|with_reducible exact weak_cutS 11 [23] _|(refine weak_fg ?_;push_cast [-List.reduceReplicate,O,U,hg,h91,z130,hevl,hqq]))|((first|refine pas [5] ?_|refine pas [6] ?_|refine pas [7] ?_|refine pas [8] ?_|refine pas [10] ?_);push_cast [-List.reduceReplicate,O,U,hg,h91,z130,hevl,hqq])|((first|refine pas [5,6] ?_|refine pas [5,7] ?_|refine pas [5,8] ?_|refine pas [5,10] ?_|refine pas [6,7] ?_|refine pas [6,8] ?_|refine pas [6,10] ?_|refine pas [7,8] ?_|refine pas [7,10] ?_|refine pas [8,10] ?_);push_cast [-List.reduceReplicate,O,U,hg,h91,z130,hevl,hqq];refine ⟨?_,?_⟩)|((first|refine pas [5,6,7] ?_|refine pas [5,6,8] ?_|refine pas [5,6,10] ?_|refine pas [5,7,8] ?_|refine pas [5,7,10] ?_|refine pas [5,8,10] ?_|refine pas [6,7,8] ?_|refine pas [6,7,10] ?_|refine pas [6,8,10] ?_|refine pas [7,8,10] ?_);push_cast [-List.reduceReplicate,O,U,hg,h91,z130,hevl,hqq];refine ⟨?_,?_,?_⟩)|((first|refine pas [5,6,7,8] ?_|refine pas [5,6,7,10] ?_|refine pas [5,6,8,10] ?_|refine pas [5,7,8,10] ?_|refine pas [6,7,8,10] ?_);push_cast [-List.reduceReplicate,O,U,hg,h91,z130,hevl,hqq];refine ⟨?_,?_,?_,?_⟩));done));push_cast [-List.reduceReplicate,O,U,hg,h91,z130,hevl,hqq])|refine pC ?_|refine pQC ?_|refine pU ?_|refine pif ?_ ?_<;>intro h<;>try exact pN h)<;>push_cast [-List.reduceReplicate,O,U,hg,h91,z130,hevl,hqq])
   exact ⟨(q.2,as',cur++[⟨0,false,q.1⟩],m),⟨by simp only;omega,by simp only;rw [h2,hR],by simp only [List.length_append,List.length_cons,List.length_nil];omega⟩,by (refine weak_fg ?_;push_cast [-List.reduceReplicate,O,U,hra]),by simp only;omega⟩
 have hR:altGo p i as' cur=altGo p (i+1) as' (cur++[litEl b]):=by rw [altGo,dif_neg (by omega),hbe,if_neg h124,if_neg h42,if_neg h63,if_neg h91]
 have n124:¬ b.toNat=124:=fun e=>h124 (UInt8.toNat_inj.1 e)
 have n42:¬ b.toNat=42:=fun e=>h42 (UInt8.toNat_inj.1 e)
 have n63:¬ b.toNat=63:=fun e=>h63 (UInt8.toNat_inj.1 e)
 have n91:¬ b.toNat=91:=fun e=>h91 (UInt8.toNat_inj.1 e)
 obtain ⟨sb,hsb⟩:∃ sb,noneS.set b.toNat true++[false]=sb:=⟨_,rfl⟩
 have hsl:sb.length=128:=by rw [← hsb,List.length_append,List.length_set];rfl
 have hra:El.r (litEl b)=D.v (.bool false) :: D.v (.bool true) :: sb.map boolD:=by rw [← hsb];exact r_set _ _ _ (decide_eq_true (by omega))
 have hput:List.take (2+b.toNat) (E.v (.bool false) :: E.v (.bool true) :: List.replicate 128 (E.v (.bool false)))++E.v (.bool true) :: List.drop (2+b.toNat) (E.v (.bool true) :: List.replicate 128 (E.v (.bool false)))=E.v (.bool false) :: E.v (.bool true) :: sb.map fun x=>E.v (.bool x):=by
  have h:=two_put (E.v (.bool false)) (E.v (.bool true)) (List.replicate 128 (E.v (.bool false))) b.toNat (E.v (.bool true)) (by rw [List.length_replicate];omega)
  rw [show 2+b.toNat+1=(2+b.toNat)+1 from rfl,List.drop_succ_cons] at h
  have h2:(List.replicate 128 (E.v (.bool false))).set b.toNat (E.v (.bool true))=sb.map fun x=>E.v (.bool x):=by
   rw [← hsb,List.map_append,List.map_set,← List.set_append_left _ _ (by rw [List.length_map,show noneS.length=127 from List.length_replicate];omega)]
   rw [show noneS.map (fun x=>E.v (.bool x))=List.replicate 127 (E.v (.bool false)) from noneS_rep]
   rfl
  rw [h,h2]
 have ht1:List.take 1 (List.replicate 130 (E.v (.bool false)))=[E.v (.bool false)]:=rfl
 repeat' ((first|(refine pwp_cut 11 [23] ?_;apply pwp_drawn_to;(focus kernel_rfl);(focus (simp only [List.length_cons,List.length_nil,Nat.reduceAdd];(repeat' first|((first|refine pah 0 ?_|refine pah 1 ?_|refine pah 2 ?_|refine pah 3 ?_|refine pah 4 ?_|refine pah 9 ?_);push_cast [-List.reduceReplicate,O,U,hg,hsl,hput,ht1])|(refine pad ?_;first|with_reducible exact weak_cutS 11 [23] _|(refine weak_fg ?_;push_cast [-List.reduceReplicate,O,U,hg,hsl,hput,ht1]))|((first|refine pas [5] ?_|refine pas [6] ?_|refine pas [7] ?_|refine pas [8] ?_|refine pas [10] ?_);push_cast [-List.reduceReplicate,O,U,hg,hsl,hput,ht1])|((first|refine pas [5,6] ?_|refine pas [5,7] ?_|refine pas [5,8] ?_|refine pas [5,10] ?_|refine pas [6,7] ?_|refine pas [6,8] ?_|refine pas [6,10] ?_|refine pas [7,8] ?_|refine pas [7,10] ?_|refine pas [8,10] ?_);push_cast [-List.reduceReplicate,O,U,hg,hsl,hput,ht1];refine ⟨?_,?_⟩)|((first|refine pas [5,6,7] ?_|refine pas [5,6,8] ?_|refine pas [5,6,10] ?_|refine pas [5,7,8] ?_|refine pas [5,7,10] ?_|refine pas [5,8,10] ?_|refine pas [6,7,8] ?_|refine pas [6,7,10] ?_|refine pas [6,8,10] ?_|refine pas [7,8,10] ?_);push_cast [-List.reduceReplicate,O,U,hg,hsl,hput,ht1];refine ⟨?_,?_,?_⟩)|((first|refine pas [5,6,7,8] ?_|refine pas [5,6,7,10] ?_|refine pas [5,6,8,10] ?_|refine pas [5,7,8,10] ?_|refine pas [6,7,8,10] ?_);push_cast [-List.reduceReplicate,O,U,hg,hsl,hput,ht1];refine ⟨?_,?_,?_,?_⟩));done));push_cast [-List.reduceReplicate,O,U,hg,hsl,hput,ht1])|(refine pwp_cut 11 [23] ?_;apply pwp_drawn_to;(focus kernel_rfl);(focus (simp only [List.length_cons,List.length_nil,Nat.reduceAdd];(repeat' first|((first|refine pah 0 ?_|refine pah 1 ?_|refine pah 2 ?_|refine pah 3 ?_|refine pah 5 ?_|refine pah 6 ?_);push_cast [-List.reduceReplicate,O,U,hg,hsl,hput,ht1])|(refine pad ?_;first|with_reducible exact weak_cutS 11 [23] _|(refine weak_fg ?_;push_cast [-List.reduceReplicate,O,U,hg,hsl,hput,ht1]))|((first|refine pas [4] ?_|refine pas [7] ?_);push_cast [-List.reduceReplicate,O,U,hg,hsl,hput,ht1])|((first|refine pas [4,7] ?_);push_cast [-List.reduceReplicate,O,U,hg,hsl,hput,ht1];refine ⟨?_,?_⟩));done));push_cast [-List.reduceReplicate,O,U,hg,hsl,hput,ht1])|refine pC ?_|refine pQC ?_|refine pU ?_|refine pif ?_ ?_<;>intro h<;>try exact pN h)<;>push_cast [-List.reduceReplicate,O,U,hg,hsl,hput,ht1])
 exact ⟨(i+1,as',cur++[litEl b],m),⟨by simp only;omega,by simp only;rw [h2,hR],by simp only [List.length_append,List.length_cons,List.length_nil];omega⟩,by (refine weak_fg ?_;push_cast [-List.reduceReplicate,O,U,hra]),by simp only;omega⟩
set_option maxHeartbeats 1000000 in
theorem gcheck_pure (p:ByteArray) (hp:p.size≤9223372036854775807):PCalls Tryz.prog 81 [.c (.v (.string p))] [] fun r os=>r = .c (.v (.int .i64 (globM p)))∧os=[]:=by
 refine pcalls_of Tryz.func81 rfl (by simp [Tryz.ntmps81]) ?_
 rw [Tryz.ntmps81,Tryz.results81]
 push_cast [-List.reduceReplicate,O,U]
 by_cases h1:256 < p.size
 ·have hR:globM p=21:=by unfold globM;rw [if_pos h1]
  have h1':(256:Int) < (p.size:Int):=by omega
  repeat' ((first|refine pG ?_|refine pQ ?_|refine pU ?_|refine pif ?_ ?_<;>intro h<;>try exact pN h)<;>push_cast [-List.reduceReplicate,O,U,h1'])
  (refine retK_of [] ?_;push_cast [-List.reduceReplicate,O,U,hR])
 have h1':¬ (256:Int) < (p.size:Int):=by omega
 have hq:=rparse_pure p (by omega)
 unfold rparseR at hq
 by_cases h2:p.data.toList.all textB=true∧(altsM p).isSome=true
 ·have hR:globM p=0:=by
   obtain ⟨l,hl⟩:=Option.isSome_iff_exists.1 h2.2
   unfold globM;rw [if_neg h1,if_neg (by rw [h2.1];simp),hl]
  rw [if_pos h2,h2.1,h2.2] at hq
  repeat' ((first|refine plE [] hq ?_ ?_|refine pG ?_|refine pQ ?_|refine pU ?_|refine pif ?_ ?_<;>intro h<;>try exact pN h)<;>push_cast [-List.reduceReplicate,O,U,h1'])
  (refine retK_of [] ?_;push_cast [-List.reduceReplicate,O,U,hR])
 ·have hb:(p.data.toList.all textB && (altsM p).isSome)=false:=by rw [Bool.and_eq_false_iff];by_cases h:p.data.toList.all textB=true;exact .inr (Bool.eq_false_iff.2 fun e=>h2 ⟨h,e⟩);exact .inl (Bool.eq_false_iff.2 h)
  have hR:globM p=20:=by
   unfold globM
   rw [if_neg h1]
   by_cases h:p.data.toList.all textB=true
   ·rw [if_neg (by rw [h];simp)]
    cases hl:altsM p with
    | none=>rfl
    | some l=>exact absurd ⟨h,by rw [hl];rfl⟩ h2
   ·rw [if_pos (by rw [Bool.eq_false_iff.2 h];rfl)]
  rw [if_neg h2,hb] at hq
  repeat' ((first|refine plE [] hq ?_ ?_|refine pG ?_|refine pQ ?_|refine pU ?_|refine pif ?_ ?_<;>intro h<;>try exact pN h)<;>push_cast [-List.reduceReplicate,O,U,h1'])
  (refine retK_of [] ?_;push_cast [-List.reduceReplicate,O,U,hR])
set_option maxRecDepth 20000
theorem wayM_star {L S at_ st f i:Nat} (h:at_ < L) (hs:st≤at_) (hi:i≤S):wayM L S (at_+1) (at_+1) i < wayM L S at_ st f:=by
 unfold wayM
 obtain ⟨X,hX⟩:∃ X,(S+1) * (L+2)=X:=⟨_,rfl⟩
 have h1:(S - i) * (L+2)≤S * (L+2):=Nat.mul_le_mul_right _ (by omega)
 have h2:S * (L+2)+(L+2)=X:=by rw [← hX,Nat.add_mul];omega
 have h3:(L - (at_+1)+1) * X≤(L - st) * X:=Nat.mul_le_mul_right _ (by omega)
 rw [hX,Nat.add_mul] at *
 omega
theorem wayM_step {L S at_ st f:Nat} (h:at_ < L):wayM L S (at_+1) st f < wayM L S at_ st f:=by unfold wayM;omega
theorem wayM_back {L S at_ st f:Nat} (hf:f < S):wayM L S st st (f+1) < wayM L S at_ st f:=by
 unfold wayM
 have h1:(S - (f+1)+1) * (L+2)≤(S - f) * (L+2):=Nat.mul_le_mul_right _ (by omega)
 rw [Nat.add_mul] at h1
 omega
theorem rd_bool (l:List Bool) (k:Nat) (h:k < l.length):List.map D.e (List.drop k (l.map boolD))=E.v (.bool (l.getD k false)) :: (l.drop (k+1)).map boolE:=by
 rw [List.drop_eq_getElem_cons (by simpa using h)]
 simp only [List.map_cons,List.map_drop,List.map_map,List.getElem_map,List.getD,List.getElem?_eq_getElem h,Option.getD_some]
 rfl
def OkEl (l:List El):Prop:=∀ e ∈ l,e.set.length=127
theorem okEl_get {l:List El} (h:OkEl l) {k:Nat} (hk:k < l.length):(l.getD k default).set.length=127:=by rw [getD_lt l hk];exact h _ (List.getElem_mem hk)
set_option maxRecDepth 20000 in
set_option maxHeartbeats 4000000 in
theorem matches_pure (l:List El) (s:ByteArray) (hl:OkEl l) (hll:l.length≤1000000) (hs:s.size≤9000000000000000000) (hb:∀ k,byt s k≤126) :
  PCalls Tryz.prog 60 [.c (.sl 129 (l.map El.d)),.c (.v (.string s))] [] fun r os=>r = .c (.v (.bool (mat l s.data.toList)))∧os=[]:=by
 refine pcalls_of Tryz.func60 rfl (by simp [Tryz.ntmps60]) ?_
 rw [Tryz.ntmps60,Tryz.results60]
 push_cast [-List.reduceReplicate,O,U]
 have cB:CutB 9 [13,29,49]:=trivial
 repeat' ((first|refine pC ?_|refine pQC ?_|refine pU ?_|refine pif ?_ ?_<;>intro h<;>try exact pN h)<;>push_cast [-List.reduceReplicate,O,U])
 (apply pwp_loop3 (α:=Nat × Nat × Nat × Nat) 9 [13,29,49] (fun x=>[(5,.c (.v (.int .i64 x.1))),(6,.c (.v (.int .i64 ((x.2.2.1:Int) - 1)))),(7,.c (.v (.int .i64 x.2.2.2))),(8,.c (.v (.int .i64 x.2.1)))]) (fun x=>[]) (fun x=>Way l s.data.toList x.1 x.2.1 x.2.2.1 x.2.2.2) (fun x=>wayM l.length s.size x.1 x.2.2.1 x.2.2.2) ((0,0,0,0));(focus ((try push_cast [-List.reduceReplicate,O,U]);rfl));(focus exact (Way.start _ _));(focus ((refine weak_fg ?_;try push_cast [-List.reduceReplicate,O,U]))))
 rintro ⟨a,i,st,f⟩ hw
 simp only at hw ⊢
 push_cast [-List.reduceReplicate,O,U]
 have hsz:s.data.toList.length=s.size:=rfl
 have hwi:=hw.hi
 have hwa:=hw.hat
 have hws:=hw.hst
 have hwf:=hw.hf
 by_cases hi:i < s.size
 case neg =>
  have hi2:i=s.size:=by omega
  subst hi2
  have hfin:=hw.fin
  repeat' ((first|refine pC ?_|refine pQC ?_|refine pU ?_|refine pif ?_ ?_<;>intro h<;>try exact pN h)<;>push_cast [-List.reduceReplicate,O,U])
  (apply pwp_loop3 (α:=Nat) 9 [13,29,49] (fun k=>[(5,.c (.v (.int .i64 k)))]) (fun k=>[]) (fun k=>k≤l.length∧mat (l.drop k) []=mat (l.drop a) []) (fun k=>l.length - k) (a);(focus ((try push_cast [-List.reduceReplicate,O,U]);rfl));(focus exact ⟨hwa,rfl⟩);(focus ((refine weak_fg ?_;try push_cast [-List.reduceReplicate,O,U]))))
  rintro k ⟨hk,hm⟩
  push_cast [-List.reduceReplicate,O,U]
  by_cases hkl:k < l.length
  ·cases hst:(l.getD k default).star with
   | true =>
    have hm2:mat (l.drop (k+1)) []=mat (l.drop k) []:=by
     rw [drop_at hkl,mat_stars,mat_stars,List.all_cons,← getD_lt l hkl,hst,Bool.true_and]
    repeat' ((first|refine pC ?_|refine pQC ?_|refine pU ?_|refine pif ?_ ?_<;>intro h<;>try exact pN h)<;>push_cast [-List.reduceReplicate,O,U,El.d,hst])
    exact ⟨k+1,⟨by omega,hm2.trans hm⟩,by (refine weak_fg ?_;push_cast [-List.reduceReplicate,O,U]),by omega⟩
   | false =>
    have hm2:mat (l.drop k) []=false:=by rw [drop_at hkl,mat_end (by rw [← getD_lt l hkl];exact hst)]
    have hR:mat l s.data.toList=false:=by rw [hfin,← hm,hm2]
    repeat' ((first|refine pC ?_|refine pQC ?_|refine pU ?_|refine pif ?_ ?_<;>intro h<;>try exact pN h)<;>push_cast [-List.reduceReplicate,O,U,El.d,hst])
    (refine retK_of [] ?_;push_cast [-List.reduceReplicate,O,U,hR])
    rw [decide_eq_false (by omega)]
  ·have hk2:k=l.length:=by omega
   subst hk2
   have hR:mat l s.data.toList=true:=by rw [hfin,← hm,List.drop_length];rfl
   repeat' ((first|refine pC ?_|refine pQC ?_|refine pU ?_|refine pif ?_ ?_<;>intro h<;>try exact pN h)<;>push_cast [-List.reduceReplicate,O,U])
   (refine retK_of [] ?_;push_cast [-List.reduceReplicate,O,U,hR])
 obtain ⟨b,hg⟩:∃ b,s.data.toList.getD i 0=b:=⟨_,rfl⟩
 have hb1:b.toNat≤126:=by rw [← hg];exact UInt8.le_iff_toNat_le.1 (hb i)
 have hsi:s.data.toList[i]=b:=by rw [← hg,List.getD_eq_getElem?_getD,List.getElem?_eq_getElem (by omega)];rfl
 by_cases ha:a < l.length
 ·have hla:=getD_lt l ha
  have h127:=okEl_get hl ha
  cases hst:(l.getD a default).star with
  | true =>
   have hw2:=hw.star ha (by rw [← hla];exact hst)
   repeat' ((first|refine pC ?_|refine pQC ?_|refine pU ?_|refine pif ?_ ?_<;>intro h<;>try exact pN h)<;>push_cast [-List.reduceReplicate,O,U,El.d,hst])
   exact ⟨(a+1,i,a+1,i),hw2,by (refine weak_fg ?_;push_cast [-List.reduceReplicate,O,U]),wayM_star ha hw.hst (Nat.le_of_lt hi)⟩
  | false =>
   cases hh:(l.getD a default).has b with
   | true =>
    have hw2:=hw.step ha hi (by rw [← hla];exact hst) (by rw [← hla,hsi];exact hh)
    have hrd:=rd_bool (l.getD a default).set b.toNat (by omega)
    rw [show (l.getD a default).set.getD b.toNat false=true from hh] at hrd
    repeat' ((first|refine pC ?_|refine pQC ?_|refine pU ?_|refine pif ?_ ?_<;>intro h<;>try exact pN h)<;>push_cast [-List.reduceReplicate,O,U,El.d,hst,hg,hrd])
    exact ⟨(a+1,i+1,st,f),hw2,by (refine weak_fg ?_;push_cast [-List.reduceReplicate,O,U]),wayM_step ha⟩
   | false =>
    have hrd:=rd_bool (l.getD a default).set b.toNat (by omega)
    rw [show (l.getD a default).set.getD b.toNat false=false from hh] at hrd
    have hno:mat (l.drop a) (s.data.toList.drop i)=false:=mat_miss hi fun _=>⟨ha,by rw [← hla];exact hst,by rw [← hla,hsi];exact hh⟩
    by_cases h0:st=0
    ·subst h0
     have hR:=hw.none hno
     have hst0:¬ (0:Int)≤((0:Nat):Int) - 1:=by omega
     repeat' ((first|refine pC ?_|refine pQC ?_|refine pU ?_|refine pif ?_ ?_<;>intro h<;>try exact pN h)<;>push_cast [-List.reduceReplicate,O,U,El.d,hst,hg,hrd,hst0])
     (refine retK_of [] ?_;push_cast [-List.reduceReplicate,O,U,hR])
    ·have hw2:=hw.back hi (by omega) hno
     have hst0:(0:Int)≤(st:Int) - 1:=by omega
     have hff:=hw.hf
     repeat' ((first|refine pC ?_|refine pQC ?_|refine pU ?_|refine pif ?_ ?_<;>intro h<;>try exact pN h)<;>push_cast [-List.reduceReplicate,O,U,El.d,hst,hg,hrd,hst0])
     have hsa:(st:Int) - 1+1=(st:Int):=by omega
     exact ⟨(st,f+1,st,f+1),hw2,by (refine weak_fg ?_;push_cast [-List.reduceReplicate,O,U,hsa]),wayM_back (Nat.lt_of_le_of_lt hff hi)⟩
 ·have hno:mat (l.drop a) (s.data.toList.drop i)=false:=mat_miss hi fun h=>absurd h ha
  by_cases h0:st=0
  ·subst h0
   have hR:=hw.none hno
   have hst0:¬ (0:Int)≤((0:Nat):Int) - 1:=by omega
   repeat' ((first|refine pC ?_|refine pQC ?_|refine pU ?_|refine pif ?_ ?_<;>intro h<;>try exact pN h)<;>push_cast [-List.reduceReplicate,O,U,hst0])
   (refine retK_of [] ?_;push_cast [-List.reduceReplicate,O,U,hR])
  ·have hw2:=hw.back hi (by omega) hno
   have hst0:(0:Int)≤(st:Int) - 1:=by omega
   have hff:=hw.hf
   repeat' ((first|refine pC ?_|refine pQC ?_|refine pU ?_|refine pif ?_ ?_<;>intro h<;>try exact pN h)<;>push_cast [-List.reduceReplicate,O,U,hst0])
   have hsa:(st:Int) - 1+1=(st:Int):=by omega
   exact ⟨(st,f+1,st,f+1),hw2,by (refine weak_fg ?_;push_cast [-List.reduceReplicate,O,U,hsa]),wayM_back (Nat.lt_of_le_of_lt hff hi)⟩
theorem okEl_snoc {x:List El} {e:El} (h:OkEl x) (he:e.set.length=127):OkEl (x++[e]):=fun y hy=>by
 rcases List.mem_append.1 hy with hy|hy
 ·exact h y hy
 ·rw [List.mem_singleton.1 hy];exact he
theorem altGo_ok {p:ByteArray}:∀ {i:Nat} {l:List (List El)} {x:List El} {r:List (List El)},(∀ a ∈ l,OkEl a∧a.length≤i) → OkEl x → x.length≤i → i≤p.size → altGo p i l x=some r → ∀ a ∈ r,OkEl a∧a.length≤p.size:=by
 intro i
 induction i using (measure fun i=>p.size - i).wf.induction with
 | _ i ih =>
  intro l x r hl hx hxi hi h
  by_cases h1:p.size≤i
  ·rw [altGo,dif_pos h1] at h
   cases h
   intro a ha
   rcases List.mem_append.1 ha with ha|ha
   ·exact ⟨(hl a ha).1,by have:=(hl a ha).2;omega⟩
   ·rw [List.mem_singleton.1 ha];exact ⟨hx,by omega⟩
  have hl1:∀ j,i≤j → ∀ a ∈ l,OkEl a∧a.length≤j:=fun j hj a ha=>⟨(hl a ha).1,by have:=(hl a ha).2;omega⟩
  have m1:p.size - (i+1) < p.size - i:=by omega
  have hel:=everyL_len
  by_cases h2:byt p i=124
  ·rw [altGo,dif_neg h1,if_pos h2] at h
   refine ih (i+1) m1 (fun a ha=>?_) (fun e he=>by simp at he) (Nat.zero_le _) (by omega) h
   rcases List.mem_append.1 ha with ha|ha
   ·exact hl1 _ (by omega) a ha
   ·rw [List.mem_singleton.1 ha];exact ⟨hx,by omega⟩
  by_cases h3:byt p i=42
  ·rw [altGo,dif_neg h1,if_neg h2,if_pos h3] at h
   exact ih (i+1) m1 (hl1 _ (by omega)) (okEl_snoc hx hel) (by simp;omega) (by omega) h
  by_cases h4:byt p i=63
  ·rw [altGo,dif_neg h1,if_neg h2,if_neg h3,if_pos h4] at h
   exact ih (i+1) m1 (hl1 _ (by omega)) (okEl_snoc hx hel) (by simp;omega) (by omega) h
  by_cases h5:byt p i=91
  ·cases hq:bsetM p (i+1) with
   | none=>rw [altGo_none (by omega) h5 hq] at h;cases h
   | some q =>
    rw [altGo_some (by omega) h5 hq] at h
    have hg:=bsetM_gt hq
    exact ih q.2 (by show p.size - q.2 < p.size - i;omega) (hl1 _ (by omega)) (okEl_snoc hx hg.2.2) (by simp;omega) hg.2.1 h
  ·rw [altGo,dif_neg h1,if_neg h2,if_neg h3,if_neg h4,if_neg h5] at h
   exact ih (i+1) m1 (hl1 _ (by omega)) (okEl_snoc hx (by show (noneS.set _ _).length=127;rw [List.length_set];rfl)) (by simp;omega) (by omega) h
theorem altsM_ok {p:ByteArray} {r:List (List El)} (h:altsM p=some r):∀ a ∈ r,OkEl a∧a.length≤p.size:=altGo_ok (fun a ha=>by simp at ha) (fun e he=>by simp at he) (Nat.zero_le _) (Nat.zero_le _) h
theorem altGo_len {p:ByteArray}:∀ {i:Nat} {l:List (List El)} {x:List El} {r:List (List El)},l.length≤i → i≤p.size → altGo p i l x=some r → r.length≤p.size+1:=by
 intro i
 induction i using (measure fun i=>p.size - i).wf.induction with
 | _ i ih =>
  intro l x r hl hi h
  by_cases h1:p.size≤i
  ·rw [altGo,dif_pos h1] at h
   cases h
   simp;omega
  have m1:p.size - (i+1) < p.size - i:=by omega
  by_cases h2:byt p i=124
  ·rw [altGo,dif_neg h1,if_pos h2] at h
   exact ih (i+1) m1 (by simp;omega) (by omega) h
  by_cases h3:byt p i=42
  ·rw [altGo,dif_neg h1,if_neg h2,if_pos h3] at h
   exact ih (i+1) m1 (by omega) (by omega) h
  by_cases h4:byt p i=63
  ·rw [altGo,dif_neg h1,if_neg h2,if_neg h3,if_pos h4] at h
   exact ih (i+1) m1 (by omega) (by omega) h
  by_cases h5:byt p i=91
  ·cases hq:bsetM p (i+1) with
   | none=>rw [altGo_none (by omega) h5 hq] at h;cases h
   | some q =>
    rw [altGo_some (by omega) h5 hq] at h
    have hg:=bsetM_gt hq
    exact ih q.2 (by show p.size - q.2 < p.size - i;omega) (by omega) hg.2.1 h
  ·rw [altGo,dif_neg h1,if_neg h2,if_neg h3,if_neg h4,if_neg h5] at h
   exact ih (i+1) m1 (by omega) (by omega) h
end Go.Proofs.YtmbbkfffcflfcaaGreatDoor
