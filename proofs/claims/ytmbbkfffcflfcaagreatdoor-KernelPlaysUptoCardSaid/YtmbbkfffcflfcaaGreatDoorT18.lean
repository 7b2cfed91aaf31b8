/- What the program computes, and the plain laws of it, part 18. -/
import Derived.WideKeyEntry
import Derived.Test.YtmbbkfffcflfcaaGreatDoorT17
namespace Go.Proofs.YtmbbkfffcflfcaaGreatDoor
open List renaming reduceReplicate → rR
open Go.Proofs.Tryz
set_option linter.unusedSimpArgs false
set_option linter.unusedVariables false
attribute [local irreducible] PL QL aL ah bg La aV PA
open Go.RowKit
open IntWalk renaming iteOmega → O, toNatUp → U
set_option maxRecDepth 20000
def rm (e:El):List Bool:=if e.star then List.replicate 128 false else e.set++[false]
def El.r (e:El):List D:=.v (.bool e.star) :: .v (.bool (decide (e.lit≠0))) :: (rm e).map kQ
def Av (l:List (List El)):List (List D):=l.map fun a=>[D.sl 130 (a.map El.r)]
abbrev KY (l0:List (List El)) (x:E) (m:Nat):Ob:=.box 212 (cw 130 El.r l0 x m)
abbrev KZ (cur:List El):Ob:=.arr 209 130 (cur.map El.r)
theorem BL:br (dn++[false]) 32 95=fA++[false]:=ot dn 32 95 (by rw [show dn.length=127 from List.length_replicate];decide)
theorem wP (b:Bool):∀ n,j7 (List.replicate n (E.v (.bool b)))=some (List.replicate n (kQ b))
 | 0=>rfl
 | n+1=>by simp only [List.replicate_succ,j7,toD,wP b n];rfl
attribute [push_cast] wP
theorem Jr:El.r kN=D.v (.bool true) :: List.replicate 129 (kQ false):=by
 unfold El.r kN rm;simp only [if_true,List.map_replicate];rfl
theorem EO (s:List Bool) (f:Bool) (n:Nat) (h:decide (n≠0)=f):El.r ⟨n,false,s⟩=D.v (.bool false) :: D.v (.bool f) :: (s++[false]).map kQ:=by
 unfold El.r rm;simp only [h];rfl
set_option maxRecDepth 20000 in
theorem sE:List.replicate 130 (E.v (.bool false))=elC (List.replicate 128 false):=rfl
def gr (p:ByteArray):PV:=.two (if p.data.toList.all bR∧(eH p).isSome then .c (.sl 1 (Av ((eH p).getD []))) else .c (.v (.slice none 0 0))) (.c (.v (.bool (p.data.toList.all bR && (eH p).isSome))))
set_option maxRecDepth 20000 in
set_option maxHeartbeats 8000000 in
theorem pv (p:ByteArray) (hp:p.size≤1000000):ah prog 130 [.c (.v (.string p))] [] fun r os=>r=gr p∧os=[]:=by
 have hpr:=pu p ac;refine aw func130 ntmps130 results130 ?_;push_cast [-rR,O,U];have cB:aH 11 [23]:=trivial;by_cases htx:p.data.toList.all bR=true
 case neg =>
  have htf:=Bool.eq_false_iff.2 htx;rw [htf] at hpr;have hR:gr p = .two (.c (.v (.slice none 0 0))) (.c (.v (.bool false))):=by unfold gr;rw [htf];simp
  repeat' ((first|refine plE [] hpr ?_ ?_|refine ae ?_|refine pif ?_ ?_<;>intro h<;>try exact pN h)<;>push_cast [-rR,O,U])
  (refine K9 [] ?_;push_cast [-rR,O,U,hR])
 rw [htx] at hpr;have hb:=fun k=>kO htx k
 have hlo:=fun k hk=>Hq htx k hk
 repeat' ((first|refine plE [] hpr ?_ ?_|(refine bf fun K hK=>?_)|(refine cf ?_)|(refine iv ?_;refine Ap rfl rfl rfl rfl rfl (by push_cast [-rR,O,U]) ?_;push_cast [-rR,O,U];refine an ?_;push_cast [-rR,O,U])|refine ae ?_|refine pif ?_ ?_<;>intro h<;>try exact pN h)<;>push_cast [-rR,O,U])
 refine aF (bP 0 0 209 130 af _ _ (by rfl) (by rfl)) ?_;push_cast [-rR,O,U,List.set_cons_zero];have e0:[E.own 1 0]=cw 130 El.r [] (.own 1 0) 0:=wO _;rw [e0];(apply ap (α:=Nat × List (List El) × List El × Nat) 11 [23] (fun x=>[(4,.c (.own 0 (x.2.1.length+1))),(5,.c (.v (.int .i64 x.1)))]) (fun x=>[(0,KY x.2.1 (.own 1 x.2.2.1.length) x.2.2.2),(1,KZ x.2.2.1)]) (fun x=>x.1≤p.size∧eH p=bE p x.1 x.2.1 x.2.2.1∧x.2.1.length+x.2.2.1.length≤x.1) (fun x=>p.size - x.1) ((0,[],[],0));(focus ((try push_cast [-rR,O,U]);rfl));(focus exact ⟨Nat.zero_le _,rfl,Nat.le_refl _⟩);(focus ((refine weak_fg ?_;try push_cast [-rR,O,U]))));rintro ⟨i,as',cur,m⟩ ⟨h1,h2,h3⟩;simp only at h1 h2 h3 ⊢;push_cast [-rR,O,U];by_cases hlt:i < p.size
 case neg =>
  have hal:eH p=some (as'++[cur]):=by rw [h2,bE,dif_pos ac]
  have hR:gr p = .two (.c (.sl 1 (Av (as'++[cur])))) (.c (.v (.bool true))):=by unfold gr;rw [hal,htx];simp
  refine aF (bQ 1 ac) ?_;push_cast [-rR,O,U];refine aF (pf 4 (k:=0) (n:=as'.length+1) (ds:=(as'++[cur]).map fun a=>D.sl 130 (a.map El.r)) ac (by rfl) (by rfl) (tL _ _ _) (by simp)) ?_;push_cast [-rR,O,U];repeat' ((first|refine ae ?_|refine pif ?_ ?_<;>intro h<;>try exact pN h)<;>push_cast [-rR,O,U])
  (refine K9 [] ?_;push_cast [-rR,O,U,hR]);simp [Av]
 obtain ⟨b,hbe⟩:∃ b,byt p i=b:=⟨_,rfl⟩
 have hb1:b.toNat≤126:=by rw [← hbe];exact UInt8.le_iff_toNat_le.1 (hb i)
 have hb0:32≤b.toNat:=by rw [← hbe];exact hlo i hlt
 have hg:p.data.toList.getD i 0=b:=hbe;by_cases h124:b=124
 case pos =>
  refine aF (bQ 1 ac) ?_;push_cast [-rR,O,U];repeat' ((first|(fail)|refine ae ?_|refine pif ?_ ?_<;>intro h<;>try exact pN h)<;>push_cast [-rR,O,U,hg,h124])
  have hnl:as'.length+1≤(cw 130 El.r as' (E.sl 130 (cur.map El.r)) m).length:=by rw [rk];omega
  refine oo 0 (by':=24) (z0:=.v (.slice none 0 0)) (d:=.v (.slice none 0 0)) rfl rfl (by push_cast [-rR,O,U]) rfl aj aj rfl rfl hnl ac (Nat.le_refl _) rfl ac ac ?_;intro m';push_cast [-rR,O,U];refine an ?_;push_cast [-rR,O,U];obtain ⟨as2,has2⟩:∃ as2,as'++[cur]=as2:=⟨_,rfl⟩
  have hal:as'.length+1=as2.length:=by rw [← has2];simp
  rw [has2];repeat' ((first|refine ae ?_|refine pif ?_ ?_<;>intro h<;>try exact pN h)<;>push_cast [-rR,O,U])
  refine ⟨(i+1,as2,[],m'),⟨by simp only;omega,by simp only;rw [h2,bE,dif_neg ac,if_pos (by rw [hbe,h124]),has2],by simp only [List.length_nil];omega⟩,(bP 0 as2.length 209 130 af _ _ (by rfl) (rl _ _ _)).trans ?_,by simp only;omega⟩;(refine gz true [0,3] ?_;push_cast [-rR,O,U,hal])
 by_cases h42:b=42
 case pos =>
  have hR:bE p i as' cur=bE p (i+1) as' (cur++[kN]):=by rw [bE,dif_neg ac,hbe,if_neg h124,if_pos h42]
  repeat' ((first|(refine av 11 [23] ?_;apply ak;(focus kernel_rfl);(focus (simp only [aP,Nat.reduceAdd];(repeat' first|((first|refine pah 0 ?_|refine pah 1 ?_|refine pah 2 ?_|refine pah 3 ?_|refine pah 4 ?_|refine pah 9 ?_);push_cast [-rR,O,U,hg,h42])|(refine pad ?_;first|with_reducible exact ao 11 [23] _|(refine weak_fg ?_;push_cast [-rR,O,U,hg,h42]))|((first|refine pas [5] ?_|refine pas [6] ?_|refine pas [7] ?_|refine pas [8] ?_|refine pas [10] ?_);push_cast [-rR,O,U,hg,h42])|((first|refine pas [5,6] ?_|refine pas [5,7] ?_|refine pas [5,8] ?_|refine pas [5,10] ?_|refine pas [6,7] ?_|refine pas [6,8] ?_|refine pas [6,10] ?_|refine pas [7,8] ?_|refine pas [7,10] ?_|refine pas [8,10] ?_);push_cast [-rR,O,U,hg,h42];refine ⟨?_,?_⟩)|((first|refine pas [5,6,7] ?_|refine pas [5,6,8] ?_|refine pas [5,6,10] ?_|refine pas [5,7,8] ?_|refine pas [5,7,10] ?_|refine pas [5,8,10] ?_|refine pas [6,7,8] ?_|refine pas [6,7,10] ?_|refine pas [6,8,10] ?_|refine pas [7,8,10] ?_);push_cast [-rR,O,U,hg,h42];refine ⟨?_,?_,?_⟩)|((first|refine pas [5,6,7,8] ?_|refine pas [5,6,7,10] ?_|refine pas [5,6,8,10] ?_|refine pas [5,7,8,10] ?_|refine pas [6,7,8,10] ?_);push_cast [-rR,O,U,hg,h42];refine ⟨?_,?_,?_,?_⟩));done));push_cast [-rR,O,U,hg,h42])|refine ae ?_|refine pif ?_ ?_<;>intro h<;>try exact pN h)<;>push_cast [-rR,O,U,hg,h42])
  exact ⟨(i+1,as',cur++[kN],m),⟨by simp only;omega,by simp only;rw [h2,hR],by simp only [List.length_append,List.length_cons,List.length_nil];omega⟩,by (refine weak_fg ?_;push_cast [-rR,O,U,Jr]),by simp only;omega⟩
 by_cases h63:b=63
 case pos =>
  have hR:bE p i as' cur=bE p (i+1) as' (cur++[ra]):=by rw [bE,dif_neg ac,hbe,if_neg h124,if_neg h42,if_pos h63]
  have hra:El.r ra=D.v (.bool false) :: D.v (.bool false) :: (fA++[false]).map kQ:=EO _ _ _ rfl;obtain ⟨c0,hc0⟩:∃ c0,dn++[false]=c0:=⟨_,rfl⟩
  have hc1:c0.length=128:=by rw [← hc0];rfl
  repeat' ((first|refine ae ?_|refine pif ?_ ?_<;>intro h<;>try exact pN h)<;>push_cast [-rR,O,U,hg,h63])
  rw [sE,show List.replicate 128 false=c0 by rw [← hc0];rfl];(apply ap (α:=Nat) 11 [23] (fun k=>[(7,.c (.v (.int .i64 (32+k))))]) (fun k=>[(2,.box 209 (elC (br c0 32 k)))]) (fun k=>k≤95) (fun k=>95 - k) (0);(focus ((try push_cast [-rR,O,U]);rfl));(focus exact ac);(focus ((refine weak_fg ?_;try push_cast [-rR,O,U]);(try (exact bT _)))));intro k hk;push_cast [-rR,O,U];have hlen:(br c0 32 k).length=128:=by rw [cR,hc1]
  by_cases hlt2:k < 95
  ·have hput:List.take (2+(32+k)) (E.v (.bool false) :: E.v (.bool false) :: (br c0 32 k).map aN)++E.v (.bool true) :: List.drop (2+(32+k)) (E.v (.bool false) :: (br c0 32 k).map aN)=elC (br c0 32 (k+1)):=by
    have h:=qn (E.v (.bool false)) (E.v (.bool false)) ((br c0 32 k).map aN) (32+k) (E.v (.bool true)) (by rw [List.length_map,hlen];omega);rw [List.drop_succ_cons] at h;rw [h,br];show _=E.v (.bool false) :: E.v (.bool false) :: ((br c0 32 k).set (32+k) true).map aN;rw [List.map_set]
   repeat' ((first|refine ae ?_|refine pif ?_ ?_<;>intro h<;>try exact pN h)<;>push_cast [-rR,O,U,hlen,hput])
   have hk3:(32+(k:Int)+1)=32+((k:Int)+1):=ac;exact ⟨k+1,ac,by (refine weak_fg ?_;push_cast [-rR,O,U,hk3]),ac⟩
  ·have hk2:k=95:=ac;have hfe:br c0 32 k=fA++[false]:=by rw [hk2,← hc0];exact BL
   obtain ⟨ev,hev2⟩:∃ ev,fA++[false]=ev:=⟨_,rfl⟩
   rw [hev2] at hfe hra;have hevl:ev.length=128:=by rw [← hfe,hlen]
   rw [hfe];repeat' ((first|(refine av 11 [23] ?_;apply ak;(focus kernel_rfl);(focus (simp only [aP,Nat.reduceAdd];(repeat' first|((first|refine pah 0 ?_|refine pah 1 ?_|refine pah 2 ?_|refine pah 3 ?_|refine pah 4 ?_|refine pah 9 ?_);push_cast [-rR,O,U,hevl])|(refine pad ?_;first|with_reducible exact ao 11 [23] _|(refine weak_fg ?_;push_cast [-rR,O,U,hevl]))|((first|refine pas [5] ?_|refine pas [6] ?_|refine pas [7] ?_|refine pas [8] ?_|refine pas [10] ?_);push_cast [-rR,O,U,hevl])|((first|refine pas [5,6] ?_|refine pas [5,7] ?_|refine pas [5,8] ?_|refine pas [5,10] ?_|refine pas [6,7] ?_|refine pas [6,8] ?_|refine pas [6,10] ?_|refine pas [7,8] ?_|refine pas [7,10] ?_|refine pas [8,10] ?_);push_cast [-rR,O,U,hevl];refine ⟨?_,?_⟩)|((first|refine pas [5,6,7] ?_|refine pas [5,6,8] ?_|refine pas [5,6,10] ?_|refine pas [5,7,8] ?_|refine pas [5,7,10] ?_|refine pas [5,8,10] ?_|refine pas [6,7,8] ?_|refine pas [6,7,10] ?_|refine pas [6,8,10] ?_|refine pas [7,8,10] ?_);push_cast [-rR,O,U,hevl];refine ⟨?_,?_,?_⟩)|((first|refine pas [5,6,7,8] ?_|refine pas [5,6,7,10] ?_|refine pas [5,6,8,10] ?_|refine pas [5,7,8,10] ?_|refine pas [6,7,8,10] ?_);push_cast [-rR,O,U,hevl];refine ⟨?_,?_,?_,?_⟩));done));push_cast [-rR,O,U,hevl])|refine ae ?_|refine pif ?_ ?_<;>intro h<;>try exact pN h)<;>push_cast [-rR,O,U,hevl])
   exact ⟨(i+1,as',cur++[ra],m),⟨by simp only;omega,by simp only;rw [h2,hR],by simp only [List.length_append,List.length_cons,List.length_nil];omega⟩,by (refine weak_fg ?_;push_cast [-rR,O,U,hra]),by simp only;omega⟩
 by_cases h91:b=91
 case pos =>
  have hs1:=BJ p (i+1) ac hp hb hlo;cases hq:bY p (i+1) with
  | none =>
   have hal:eH p=none:=by rw [h2,jD hlt (hbe.trans h91) hq]
   have hR:gr p = .two (.c (.v (.slice none 0 0))) (.c (.v (.bool false))):=by unfold gr;rw [hal];simp
   rw [hq] at hs1;repeat' ((first|refine plE [2] hs1 ?_ ?_|refine ae ?_|refine pif ?_ ?_<;>intro h<;>try exact pN h)<;>push_cast [-rR,O,U,hg,h91,sE])
   (refine K9 [] ?_;push_cast [-rR,O,U,hR])
  | some q =>
   have hgt:=kM hq;have hR:bE p i as' cur=bE p q.2 as' (cur++[⟨0,false,q.1⟩]):=jE hlt (hbe.trans h91) hq;have hra:El.r ⟨0,false,q.1⟩=D.v (.bool false) :: D.v (.bool false) :: (q.1++[false]).map kQ:=EO _ _ _ rfl;rw [hq] at hs1;simp only at hs1;obtain ⟨ev,hev2⟩:∃ ev,q.1++[false]=ev:=⟨_,rfl⟩
   rw [hev2] at hra hs1;have hqq:(q.2:Int) - 1+1=(q.2:Int):=ac;have hevl:ev.length=128:=by rw [← hev2,List.length_append,hgt.2.2];rfl
   repeat' ((first|refine plE [2] hs1 ?_ ?_|(refine av 11 [23] ?_;apply ak;(focus kernel_rfl);(focus (simp only [aP,Nat.reduceAdd];(repeat' first|((first|refine pah 0 ?_|refine pah 1 ?_|refine pah 2 ?_|refine pah 3 ?_|refine pah 4 ?_|refine pah 9 ?_);push_cast [-rR,O,U,hg,h91,sE,hevl,hqq])|(refine pad ?_;first|with_reducible exact ao 11 [23] _|(refine weak_fg ?_;push_cast [-rR,O,U,hg,h91,sE,hevl,hqq]))|((first|refine pas [5] ?_|refine pas [6] ?_|refine pas [7] ?_|refine pas [8] ?_|refine pas [10] ?_);push_cast [-rR,O,U,hg,h91,sE,hevl,hqq])|((first|refine pas [5,6] ?_|refine pas [5,7] ?_|refine pas [5,8] ?_|refine pas [5,10] ?_|refine pas [6,7] ?_|refine pas [6,8] ?_|refine pas [6,10] ?_|refine pas [7,8] ?_|refine pas [7,10] ?_|refine pas [8,10] ?_);push_cast [-rR,O,U,hg,h91,sE,hevl,hqq];refine ⟨?_,?_⟩)|((first|refine pas [5,6,7] ?_|refine pas [5,6,8] ?_|refine pas [5,6,10] ?_|refine pas [5,7,8] ?_|refine pas [5,7,10] ?_|refine pas [5,8,10] ?_|refine pas [6,7,8] ?_|refine pas [6,7,10] ?_|refine pas [6,8,10] ?_|refine pas [7,8,10] ?_);push_cast [-rR,O,U,hg,h91,sE,hevl,hqq];refine ⟨?_,?_,?_⟩)|((first|refine pas [5,6,7,8] ?_|refine pas [5,6,7,10] ?_|refine pas [5,6,8,10] ?_|refine pas [5,7,8,10] ?_|refine pas [6,7,8,10] ?_);push_cast [-rR,O,U,hg,h91,sE,hevl,hqq];refine ⟨?_,?_,?_,?_⟩));done));push_cast [-rR,O,U,hg,h91,sE,hevl,hqq])|refine ae ?_|refine pif ?_ ?_<;>intro h<;>try exact pN h)<;>push_cast [-rR,O,U,hg,h91,sE,hevl,hqq])
   exact ⟨(q.2,as',cur++[⟨0,false,q.1⟩],m),⟨by simp only;omega,by simp only;rw [h2,hR],by simp only [List.length_append,List.length_cons,List.length_nil];omega⟩,by (refine weak_fg ?_;push_cast [-rR,O,U,hra]),by simp only;omega⟩
 have hR:bE p i as' cur=bE p (i+1) as' (cur++[rb b]):=by rw [bE,dif_neg ac,hbe,if_neg h124,if_neg h42,if_neg h63,if_neg h91]
 have n124:¬ b.toNat=124:=fun e=>h124 (UInt8.toNat_inj.1 e)
 have n42:¬ b.toNat=42:=fun e=>h42 (UInt8.toNat_inj.1 e)
 have n63:¬ b.toNat=63:=fun e=>h63 (UInt8.toNat_inj.1 e)
 have n91:¬ b.toNat=91:=fun e=>h91 (UInt8.toNat_inj.1 e)
 obtain ⟨sb,hsb⟩:∃ sb,dn.set b.toNat true++[false]=sb:=⟨_,rfl⟩
 have hsl:sb.length=128:=by rw [← hsb,List.length_append,List.length_set];rfl
 have hra:El.r (rb b)=D.v (.bool false) :: D.v (.bool true) :: sb.map kQ:=by rw [← hsb];exact EO _ _ _ (decide_eq_true ac)
 have hput:List.take (2+b.toNat) (E.v (.bool false) :: E.v (.bool true) :: List.replicate 128 (E.v (.bool false)))++E.v (.bool true) :: List.drop (2+b.toNat) (E.v (.bool true) :: List.replicate 128 (E.v (.bool false)))=E.v (.bool false) :: E.v (.bool true) :: sb.map fun x=>E.v (.bool x):=by
  have h:=qn (E.v (.bool false)) (E.v (.bool true)) (List.replicate 128 (E.v (.bool false))) b.toNat (E.v (.bool true)) (by rw [List.length_replicate];omega);rw [show 2+b.toNat+1=(2+b.toNat)+1 from rfl,List.drop_succ_cons] at h;have h2:(List.replicate 128 (E.v (.bool false))).set b.toNat (E.v (.bool true))=sb.map fun x=>E.v (.bool x):=by
   rw [← hsb,List.map_append,List.map_set,← List.set_append_left _ _ (by rw [List.length_map,show dn.length=127 from List.length_replicate];omega)];rw [show dn.map (fun x=>E.v (.bool x))=List.replicate 127 (E.v (.bool false)) from di];rfl
  rw [h,h2]
 have ht1:List.take 1 (List.replicate 130 (E.v (.bool false)))=[E.v (.bool false)]:=rfl;repeat' ((first|(refine av 11 [23] ?_;apply ak;(focus kernel_rfl);(focus (simp only [aP,Nat.reduceAdd];(repeat' first|((first|refine pah 0 ?_|refine pah 1 ?_|refine pah 2 ?_|refine pah 3 ?_|refine pah 4 ?_|refine pah 9 ?_);push_cast [-rR,O,U,hg,hsl,hput,ht1])|(refine pad ?_;first|with_reducible exact ao 11 [23] _|(refine weak_fg ?_;push_cast [-rR,O,U,hg,hsl,hput,ht1]))|((first|refine pas [5] ?_|refine pas [6] ?_|refine pas [7] ?_|refine pas [8] ?_|refine pas [10] ?_);push_cast [-rR,O,U,hg,hsl,hput,ht1])|((first|refine pas [5,6] ?_|refine pas [5,7] ?_|refine pas [5,8] ?_|refine pas [5,10] ?_|refine pas [6,7] ?_|refine pas [6,8] ?_|refine pas [6,10] ?_|refine pas [7,8] ?_|refine pas [7,10] ?_|refine pas [8,10] ?_);push_cast [-rR,O,U,hg,hsl,hput,ht1];refine ⟨?_,?_⟩)|((first|refine pas [5,6,7] ?_|refine pas [5,6,8] ?_|refine pas [5,6,10] ?_|refine pas [5,7,8] ?_|refine pas [5,7,10] ?_|refine pas [5,8,10] ?_|refine pas [6,7,8] ?_|refine pas [6,7,10] ?_|refine pas [6,8,10] ?_|refine pas [7,8,10] ?_);push_cast [-rR,O,U,hg,hsl,hput,ht1];refine ⟨?_,?_,?_⟩)|((first|refine pas [5,6,7,8] ?_|refine pas [5,6,7,10] ?_|refine pas [5,6,8,10] ?_|refine pas [5,7,8,10] ?_|refine pas [6,7,8,10] ?_);push_cast [-rR,O,U,hg,hsl,hput,ht1];refine ⟨?_,?_,?_,?_⟩));done));push_cast [-rR,O,U,hg,hsl,hput,ht1])|(refine av 11 [23] ?_;apply ak;(focus kernel_rfl);(focus (simp only [aP,Nat.reduceAdd];(repeat' first|((first|refine pah 0 ?_|refine pah 1 ?_|refine pah 2 ?_|refine pah 3 ?_|refine pah 5 ?_|refine pah 6 ?_);push_cast [-rR,O,U,hg,hsl,hput,ht1])|(refine pad ?_;first|with_reducible exact ao 11 [23] _|(refine weak_fg ?_;push_cast [-rR,O,U,hg,hsl,hput,ht1]))|((first|refine pas [4] ?_|refine pas [7] ?_);push_cast [-rR,O,U,hg,hsl,hput,ht1])|((first|refine pas [4,7] ?_);push_cast [-rR,O,U,hg,hsl,hput,ht1];refine ⟨?_,?_⟩));done));push_cast [-rR,O,U,hg,hsl,hput,ht1])|refine ae ?_|refine pif ?_ ?_<;>intro h<;>try exact pN h)<;>push_cast [-rR,O,U,hg,hsl,hput,ht1])
 exact ⟨(i+1,as',cur++[rb b],m),⟨by simp only;omega,by simp only;rw [h2,hR],by simp only [List.length_append,List.length_cons,List.length_nil];omega⟩,by (refine weak_fg ?_;push_cast [-rR,O,U,hra]),by simp only;omega⟩
set_option maxHeartbeats 1000000 in
theorem pw (p:ByteArray) (hp:p.size≤9223372036854775807):ah prog 81 [.c (.v (.string p))] [] fun r os=>r = .c (.v (.int .i64 (cA p)))∧os=[]:=by
 refine aw func81 ntmps81 results81 ?_;push_cast [-rR,O,U];by_cases h1:256 < p.size
 ·have hR:cA p=21:=by unfold cA;rw [if_pos h1]
  have h1':(256:Int) < (p.size:Int):=ac;repeat' ((first|refine au ?_|refine pif ?_ ?_<;>intro h<;>try exact pN h)<;>push_cast [-rR,O,U,h1'])
  (refine K9 [] ?_;push_cast [-rR,O,U,hR])
 have h1':¬ (256:Int) < (p.size:Int):=ac;have hq:=pv p ac;unfold gr at hq;by_cases h2:p.data.toList.all bR=true∧(eH p).isSome=true
 ·have hR:cA p=0:=by
   obtain ⟨l,hl⟩:=Option.isSome_iff_exists.1 h2.2;unfold cA;rw [if_neg h1,if_neg (by rw [h2.1];simp),hl]
  rw [if_pos h2,h2.1,h2.2] at hq;repeat' ((first|refine plE [] hq ?_ ?_|refine au ?_|refine pif ?_ ?_<;>intro h<;>try exact pN h)<;>push_cast [-rR,O,U,h1'])
  (refine K9 [] ?_;push_cast [-rR,O,U,hR])
 ·have hb:(p.data.toList.all bR && (eH p).isSome)=false:=by rw [Bool.and_eq_false_iff];by_cases h:p.data.toList.all bR=true;exact .inr (Bool.eq_false_iff.2 fun e=>h2 ⟨h,e⟩);exact .inl (Bool.eq_false_iff.2 h)
  have hR:cA p=20:=by
   unfold cA;rw [if_neg h1];by_cases h:p.data.toList.all bR=true
   ·rw [if_neg (by rw [h];simp)];cases hl:eH p with
    | none=>rfl
    | some l=>exact absurd ⟨h,by rw [hl];rfl⟩ h2
   ·rw [if_pos (by rw [Bool.eq_false_iff.2 h];rfl)]
  rw [if_neg h2,hb] at hq;repeat' ((first|refine plE [] hq ?_ ?_|refine au ?_|refine pif ?_ ?_<;>intro h<;>try exact pN h)<;>push_cast [-rR,O,U,h1'])
  (refine K9 [] ?_;push_cast [-rR,O,U,hR])
set_option maxRecDepth 20000
theorem BM {L S at_ st f i:Nat} (h:at_ < L) (hs:st≤at_) (hi:i≤S):sB L S (at_+1) (at_+1) i < sB L S at_ st f:=by
 unfold sB;obtain ⟨X,hX⟩:∃ X,(S+1) * (L+2)=X:=⟨_,rfl⟩
 have h1:(S - i) * (L+2)≤S * (L+2):=Nat.mul_le_mul_right _ ac;have h2:S * (L+2)+(L+2)=X:=by rw [← hX,Nat.add_mul];omega
 have h3:(L - (at_+1)+1) * X≤(L - st) * X:=Nat.mul_le_mul_right _ ac;rw [hX,Nat.add_mul] at *;omega
theorem BN {L S at_ st f:Nat} (h:at_ < L):sB L S (at_+1) st f < sB L S at_ st f:=by unfold sB;omega
theorem tO {L S at_ st f:Nat} (hf:f < S):sB L S st st (f+1) < sB L S at_ st f:=by
 unfold sB;have h1:(S - (f+1)+1) * (L+2)≤(S - f) * (L+2):=Nat.mul_le_mul_right _ ac;rw [Nat.add_mul] at h1;omega
theorem uV (l:List Bool) (k:Nat) (h:k < l.length):List.map D.e (List.drop k (l.map kQ))=E.v (.bool (l.getD k false)) :: (l.drop (k+1)).map aN:=by
 rw [List.drop_eq_getElem_cons (by simpa using h)];simp only [List.map_cons,List.map_drop,List.map_map,List.getElem_map,List.getD,List.getElem?_eq_getElem h,Option.getD_some];rfl
def sF (l:List El):Prop:=∀ e ∈ l,e.set.length=127
theorem wQ {l:List El} (h:sF l) {k:Nat} (hk:k < l.length):(l.getD k default).set.length=127:=by rw [ai l hk];exact h _ (List.getElem_mem hk)
set_option maxRecDepth 20000 in
set_option maxHeartbeats 4000000 in
theorem uW (l:List El) (s:ByteArray) (hl:sF l) (hll:l.length≤1000000) (hs:s.size≤9000000000000000000) (hb:∀ k,byt s k≤126) :
  ah prog 60 [.c (.sl 129 (l.map El.d)),.c (.v (.string s))] [] fun r os=>r = .c (.v (.bool (mat l s.data.toList)))∧os=[]:=by
 refine aw func60 ntmps60 results60 ?_;push_cast [-rR,O,U];have cB:aH 9 [13,29,49]:=trivial;repeat' ((first|refine ae ?_|refine pif ?_ ?_<;>intro h<;>try exact pN h)<;>push_cast [-rR,O,U])
 (apply ap (α:=Nat × Nat × Nat × Nat) 9 [13,29,49] (fun x=>[(5,.c (.v (.int .i64 x.1))),(6,.c (.v (.int .i64 ((x.2.2.1:Int) - 1)))),(7,.c (.v (.int .i64 x.2.2.2))),(8,.c (.v (.int .i64 x.2.1)))]) (fun x=>[]) (fun x=>Way l s.data.toList x.1 x.2.1 x.2.2.1 x.2.2.2) (fun x=>sB l.length s.size x.1 x.2.2.1 x.2.2.2) ((0,0,0,0));(focus ((try push_cast [-rR,O,U]);rfl));(focus exact (Way.start _ _));(focus ((refine weak_fg ?_;try push_cast [-rR,O,U]))));rintro ⟨a,i,st,f⟩ hw;simp only at hw ⊢;push_cast [-rR,O,U];have hsz:s.data.toList.length=s.size:=rfl;have hwi:=hw.hi;have hwa:=hw.hat;have hws:=hw.hst;have hwf:=hw.hf;by_cases hi:i < s.size
 case neg =>
  have hi2:i=s.size:=ac;subst hi2;have hfin:=hw.fin;repeat' ((first|refine ae ?_|refine pif ?_ ?_<;>intro h<;>try exact pN h)<;>push_cast [-rR,O,U])
  (apply ap (α:=Nat) 9 [13,29,49] (fun k=>[(5,.c (.v (.int .i64 k)))]) (fun k=>[]) (fun k=>k≤l.length∧mat (l.drop k) []=mat (l.drop a) []) (fun k=>l.length - k) (a);(focus ((try push_cast [-rR,O,U]);rfl));(focus exact ⟨hwa,rfl⟩);(focus ((refine weak_fg ?_;try push_cast [-rR,O,U]))));rintro k ⟨hk,hm⟩;push_cast [-rR,O,U];by_cases hkl:k < l.length
  ·cases hst:(l.getD k default).star with
   | true =>
    have hm2:mat (l.drop (k+1)) []=mat (l.drop k) []:=by
     rw [lw hkl,iY,iY,List.all_cons,← ai l hkl,hst,Bool.true_and]
    repeat' ((first|refine ae ?_|refine pif ?_ ?_<;>intro h<;>try exact pN h)<;>push_cast [-rR,O,U,El.d,hst])
    exact ⟨k+1,⟨ac,hm2.trans hm⟩,by (refine weak_fg ?_;push_cast [-rR,O,U]),ac⟩
   | false =>
    have hm2:mat (l.drop k) []=false:=by rw [lw hkl,ql (by rw [← ai l hkl];exact hst)]
    have hR:mat l s.data.toList=false:=by rw [hfin,← hm,hm2]
    repeat' ((first|refine ae ?_|refine pif ?_ ?_<;>intro h<;>try exact pN h)<;>push_cast [-rR,O,U,El.d,hst])
    (refine K9 [] ?_;push_cast [-rR,O,U,hR]);rw [decide_eq_false ac]
  ·have hk2:k=l.length:=ac;subst hk2;have hR:mat l s.data.toList=true:=by rw [hfin,← hm,List.drop_length];rfl
   repeat' ((first|refine ae ?_|refine pif ?_ ?_<;>intro h<;>try exact pN h)<;>push_cast [-rR,O,U])
   (refine K9 [] ?_;push_cast [-rR,O,U,hR])
 obtain ⟨b,hg⟩:∃ b,s.data.toList.getD i 0=b:=⟨_,rfl⟩
 have hb1:b.toNat≤126:=by rw [← hg];exact UInt8.le_iff_toNat_le.1 (hb i)
 have hsi:s.data.toList[i]=b:=by rw [← hg,List.getD_eq_getElem?_getD,List.getElem?_eq_getElem ac];rfl
 by_cases ha:a < l.length
 ·have hla:=ai l ha;have h127:=wQ hl ha;cases hst:(l.getD a default).star with
  | true =>
   have hw2:=hw.star ha (by rw [← hla];exact hst);repeat' ((first|refine ae ?_|refine pif ?_ ?_<;>intro h<;>try exact pN h)<;>push_cast [-rR,O,U,El.d,hst])
   exact ⟨(a+1,i,a+1,i),hw2,by (refine weak_fg ?_;push_cast [-rR,O,U]),BM ha hw.hst (Nat.le_of_lt hi)⟩
  | false =>
   cases hh:(l.getD a default).has b with
   | true =>
    have hw2:=hw.step ha hi (by rw [← hla];exact hst) (by rw [← hla,hsi];exact hh);have hrd:=uV (l.getD a default).set b.toNat ac;rw [show (l.getD a default).set.getD b.toNat false=true from hh] at hrd;repeat' ((first|refine ae ?_|refine pif ?_ ?_<;>intro h<;>try exact pN h)<;>push_cast [-rR,O,U,El.d,hst,hg,hrd])
    exact ⟨(a+1,i+1,st,f),hw2,by (refine weak_fg ?_;push_cast [-rR,O,U]),BN ha⟩
   | false =>
    have hrd:=uV (l.getD a default).set b.toNat ac;rw [show (l.getD a default).set.getD b.toNat false=false from hh] at hrd;have hno:mat (l.drop a) (s.data.toList.drop i)=false:=wA hi fun _=>⟨ha,by rw [← hla];exact hst,by rw [← hla,hsi];exact hh⟩
    by_cases h0:st=0
    ·subst h0;have hR:=hw.none hno;have hst0:¬ (0:Int)≤((0:Nat):Int) - 1:=ac;repeat' ((first|refine ae ?_|refine pif ?_ ?_<;>intro h<;>try exact pN h)<;>push_cast [-rR,O,U,El.d,hst,hg,hrd,hst0])
     (refine K9 [] ?_;push_cast [-rR,O,U,hR])
    ·have hw2:=hw.back hi ac hno;have hst0:(0:Int)≤(st:Int) - 1:=ac;have hff:=hw.hf;repeat' ((first|refine ae ?_|refine pif ?_ ?_<;>intro h<;>try exact pN h)<;>push_cast [-rR,O,U,El.d,hst,hg,hrd,hst0])
     have hsa:(st:Int) - 1+1=(st:Int):=ac;exact ⟨(st,f+1,st,f+1),hw2,by (refine weak_fg ?_;push_cast [-rR,O,U,hsa]),tO (Nat.lt_of_le_of_lt hff hi)⟩
 ·have hno:mat (l.drop a) (s.data.toList.drop i)=false:=wA hi fun h=>absurd h ha
  by_cases h0:st=0
  ·subst h0;have hR:=hw.none hno;have hst0:¬ (0:Int)≤((0:Nat):Int) - 1:=ac;repeat' ((first|refine ae ?_|refine pif ?_ ?_<;>intro h<;>try exact pN h)<;>push_cast [-rR,O,U,hst0])
   (refine K9 [] ?_;push_cast [-rR,O,U,hR])
  ·have hw2:=hw.back hi ac hno;have hst0:(0:Int)≤(st:Int) - 1:=ac;have hff:=hw.hf;repeat' ((first|refine ae ?_|refine pif ?_ ?_<;>intro h<;>try exact pN h)<;>push_cast [-rR,O,U,hst0])
   have hsa:(st:Int) - 1+1=(st:Int):=ac;exact ⟨(st,f+1,st,f+1),hw2,by (refine weak_fg ?_;push_cast [-rR,O,U,hsa]),tO (Nat.lt_of_le_of_lt hff hi)⟩
theorem lA {x:List El} {e:El} (h:sF x) (he:e.set.length=127):sF (x++[e]):=fun y hy=>by
 rcases List.mem_append.1 hy with hy|hy
 ·exact h y hy
 ·rw [List.mem_singleton.1 hy];exact he
theorem EP {p:ByteArray}:∀ {i:Nat} {l:List (List El)} {x:List El} {r:List (List El)},(∀ a ∈ l,sF a∧a.length≤i) → sF x → x.length≤i → i≤p.size → bE p i l x=some r → ∀ a ∈ r,sF a∧a.length≤p.size:=by
 intro i;induction i using (measure fun i=>p.size - i).wf.induction with
 | _ i ih =>
  intro l x r hl hx hxi hi h;by_cases h1:p.size≤i
  ·rw [bE,dif_pos h1] at h;cases h;intro a ha;rcases List.mem_append.1 ha with ha|ha
   ·exact ⟨(hl a ha).1,by have:=(hl a ha).2;omega⟩
   ·rw [List.mem_singleton.1 ha];exact ⟨hx,ac⟩
  have hl1:∀ j,i≤j → ∀ a ∈ l,sF a∧a.length≤j:=fun j hj a ha=>⟨(hl a ha).1,by have:=(hl a ha).2;omega⟩
  have m1:p.size - (i+1) < p.size - i:=ac;have hel:=bZ;by_cases h2:byt p i=124
  ·rw [bE,dif_neg h1,if_pos h2] at h;refine ih (i+1) m1 (fun a ha=>?_) (fun e he=>by simp at he) (Nat.zero_le _) ac h;rcases List.mem_append.1 ha with ha|ha
   ·exact hl1 _ ac a ha
   ·rw [List.mem_singleton.1 ha];exact ⟨hx,ac⟩
  by_cases h3:byt p i=42
  ·rw [bE,dif_neg h1,if_neg h2,if_pos h3] at h;exact ih (i+1) m1 (hl1 _ ac) (lA hx hel) (by simp;omega) ac h
  by_cases h4:byt p i=63
  ·rw [bE,dif_neg h1,if_neg h2,if_neg h3,if_pos h4] at h;exact ih (i+1) m1 (hl1 _ ac) (lA hx hel) (by simp;omega) ac h
  by_cases h5:byt p i=91
  ·cases hq:bY p (i+1) with
   | none=>rw [jD ac h5 hq] at h;cases h
   | some q =>
    rw [jE ac h5 hq] at h;have hg:=kM hq;exact ih q.2 (by show p.size - q.2 < p.size - i;omega) (hl1 _ ac) (lA hx hg.2.2) (by simp;omega) hg.2.1 h
  ·rw [bE,dif_neg h1,if_neg h2,if_neg h3,if_neg h4,if_neg h5] at h;exact ih (i+1) m1 (hl1 _ ac) (lA hx (by show (dn.set _ _).length=127;rw [List.length_set];rfl)) (by simp;omega) ac h
theorem wR {p:ByteArray} {r:List (List El)} (h:eH p=some r):∀ a ∈ r,sF a∧a.length≤p.size:=EP (fun a ha=>by simp at ha) (fun e he=>by simp at he) (Nat.zero_le _) (Nat.zero_le _) h
theorem tP {p:ByteArray}:∀ {i:Nat} {l:List (List El)} {x:List El} {r:List (List El)},l.length≤i → i≤p.size → bE p i l x=some r → r.length≤p.size+1:=by
 intro i;induction i using (measure fun i=>p.size - i).wf.induction with
 | _ i ih =>
  intro l x r hl hi h;by_cases h1:p.size≤i
  ·rw [bE,dif_pos h1] at h;cases h;simp;omega
  have m1:p.size - (i+1) < p.size - i:=ac;by_cases h2:byt p i=124
  ·rw [bE,dif_neg h1,if_pos h2] at h;exact ih (i+1) m1 (by simp;omega) ac h
  by_cases h3:byt p i=42
  ·rw [bE,dif_neg h1,if_neg h2,if_pos h3] at h;exact ih (i+1) m1 ac ac h
  by_cases h4:byt p i=63
  ·rw [bE,dif_neg h1,if_neg h2,if_neg h3,if_pos h4] at h;exact ih (i+1) m1 ac ac h
  by_cases h5:byt p i=91
  ·cases hq:bY p (i+1) with
   | none=>rw [jD ac h5 hq] at h;cases h
   | some q =>
    rw [jE ac h5 hq] at h;have hg:=kM hq;exact ih q.2 (by show p.size - q.2 < p.size - i;omega) ac hg.2.1 h
  ·rw [bE,dif_neg h1,if_neg h2,if_neg h3,if_neg h4,if_neg h5] at h;exact ih (i+1) m1 ac ac h
end Go.Proofs.YtmbbkfffcflfcaaGreatDoor
