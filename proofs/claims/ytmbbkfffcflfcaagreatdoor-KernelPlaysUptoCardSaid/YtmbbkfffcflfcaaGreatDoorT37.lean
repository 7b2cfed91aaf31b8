/- What the program computes, and the plain laws of it, part 37. -/
import Derived.Lib.ItoaNum
import Derived.WideKeyEntry
import Derived.Test.YtmbbkfffcflfcaaGreatDoorT36
namespace Go.Proofs.YtmbbkfffcflfcaaGreatDoor
open Nat renaming reduceAdd → rA
open Go.Proofs.Tryz
set_option linter.unusedSimpArgs false
set_option linter.unusedVariables false
open Go.RowKit
open IntWalk renaming iteOmega → O, toNatUp → U
set_option maxRecDepth 20000
section
attribute [local irreducible] PL QL aL ah bg La aV PA
def cL:Dev:=⟨0,0,⟨#[]⟩,⟨#[]⟩,⟨#[]⟩,⟨#[]⟩,⟨#[]⟩,0,0,[]⟩
attribute [push_cast] cL
theorem xA:cL.ok:=⟨af,af,af,af,af,(fun a ha=>by cases ha),af,af⟩
theorem pY {kd:Int} {p n v:ByteArray} (hp:p.size≤1001000) (hn:n.size≤100) (hv:v.size≤100):eA ⟨kd,p,cL,n,v⟩ :=
 ⟨xA,Nat.zero_le _,bN hp af,bN hn af,bN hv af⟩
theorem un {l:List ByteArray} {s:ByteArray} (h:l.all (fun s=>decide (s.size≤100))=true) (hm:s ∈ l):s.size≤100:=by
 have:=List.all_eq_true.1 h s hm;simpa using this
set_option maxHeartbeats 32000000 in
theorem oS (L:List Int) (k:Nat) (l:List Dev) (hk:k < 80000) (hl:l.length≤256) (hz:∀ d ∈ l,d.original.size≤1000) (hi:∀ d ∈ l,d.index≤90000) (hi0:∀ d ∈ l,0≤d.index) (hL:∀ x ∈ L,-9223372036854775808≤x∧x≤9223372036854775807) (hLl:L.length≤9223372036854775807) :
  ah prog 19 [.c (.ptr 0 0),.agg (trE l)] [tape L k] fun r os=>∃ (o:Opr) (k':Nat),eA o∧k'≤k+40∧r = .agg o.e∧os=[tape L k']:=by
 refine aw func19 ntmps19 results19 ?_;have hsm:=ET L k l ac ac hL hLl;have hpl:=fun n=>pF l n ac hz
 have hps:=fun n=>jL (show l.length≤1000 by omega) hz n
 have nex:=fun (j:Nat) (hj:j < 1000000) (m:Int) (hm:0 < m) (hm2:m≤9223372036854775807)=>cP L j m hj hm hm2 hL hLl
 have one:=fun (j:Nat) (hj:j < 1000000) (t:List ByteArray) (h0:0 < t.length) (h1:t.length≤1000000)=>c9 L j t hj h0 h1 hL hLl
 push_cast [O,U];have cB:aH 8 [14,15,29,33,43,50,54,83,90,94]:=trivial;repeat' ((first|(refine eQ 1 ?_)|refine ae ?_|refine pif ?_ ?_<;>intro h<;>try exact pN h)<;>push_cast [O,U])
 refine dd ?_;(refine av 8 [14,15,29,33,43,50,54,83,90,94] ?_;apply uM (α:=ByteArray × Nat) 8 [14,15,29,33,43,50,54,83,90,94] (fun x=>[(5,.c (.v (.string x.1)))]) (fun x=>[(0,tape L x.2)]) (fun x=>x.1.size≤1001000∧x.2≤k+2) ((⟨#[]⟩,0));(focus ((try push_cast [O,U]);rfl));(focus kernel_rfl);(focus (simp only [aP,rA];(repeat' first|((refine plc [0] (hsm) ?_ ?_;push_cast [O,U];rintro r os ⟨v,q,hq,rfl,rfl⟩;push_cast [O,U]))|((refine plE [] ((hpl v)) ?_ ?_;(focus (push_cast [O,U];done));push_cast [O,U]))|((first|refine pah 1 ?_|refine pah 5 ?_);push_cast [O,U])|(refine pad ?_;try push_cast [O,U])|((first|refine pas [0] ?_|refine pas [2] ?_|refine pas [3] ?_|refine pas [4] ?_);push_cast [O,U])|((first|refine pas [0,2] ?_|refine pas [0,3] ?_|refine pas [0,4] ?_|refine pas [2,3] ?_|refine pas [2,4] ?_|refine pas [3,4] ?_);push_cast [O,U];refine ⟨?_,?_⟩)|((first|refine pas [0,2,3] ?_|refine pas [0,2,4] ?_|refine pas [0,3,4] ?_|refine pas [2,3,4] ?_);push_cast [O,U];refine ⟨?_,?_,?_⟩));all_goals (exact ⟨(aZ l v,q),⟨hps _,hq⟩,aA⟩))));rintro ⟨p,q⟩ ⟨hp,hq⟩;simp only at hp hq;push_cast [O,U];repeat' ((first|refine ae ?_|refine pif ?_ ?_<;>intro h<;>try exact pN h)<;>push_cast [O,U])
 have hn1:=nex q ac 14 af af;(refine plc [0] (hn1) ?_ ?_;push_cast [O,U];rintro r os ⟨v,⟨va,vb⟩,rfl,rfl⟩;push_cast [O,U]);have hdv:=H6 L (q+1) l 90000 ac ac ac hi hi0 hL hLl;refine pif (fun h0=>?_) (fun h0=>?_)
 ·push_cast [O,U];repeat' ((first|(refine plc [0] (hdv) ?_ ?_;push_cast [O,U];rintro r os ⟨d,q2,⟨hd,hd1,hd2⟩,hq2,rfl,rfl⟩)|(refine eQ 8 ?_)|refine ae ?_|refine pif ?_ ?_<;>intro h<;>try exact pN h)<;>push_cast [O,U])
  refine dd ?_;(refine av 8 [14,15,29,33,43,50,54,83,90,94] ?_;apply ak;(focus kernel_rfl);(focus (simp only [aP,rA];(repeat' first|((refine plE [] ((hpl d.parent)) ?_ ?_<;>push_cast [O,U]))|((first|refine pah 1 ?_|refine pah 5 ?_);push_cast [O,U])|(refine pad ?_;first|with_reducible exact ao 8 [14,15,29,33,43,50,54,83,90,94] _|(refine weak_fg ?_;push_cast [O,U]))|((first|refine pas [0] ?_|refine pas [2] ?_|refine pas [3] ?_|refine pas [4] ?_|refine pas [6] ?_);push_cast [O,U])|((first|refine pas [0,2] ?_|refine pas [0,4] ?_|refine pas [2,4] ?_|refine pas [3,4] ?_);push_cast [O,U];refine ⟨?_,?_⟩)|((first|refine pas [0,2,4] ?_);push_cast [O,U];refine ⟨?_,?_,?_⟩));done));push_cast [O,U]);(refine K9 [0] ?_;push_cast [O,U]);exact ⟨.agg (Opr.e ⟨1,aZ l d.parent,d,⟨#[]⟩,⟨#[]⟩⟩),[tape L q2],by push_cast [O,U],by push_cast [O,U],⟨1,aZ l d.parent,d,⟨#[]⟩,⟨#[]⟩⟩,q2,⟨hd.ok,Nat.le_trans hd.att af,bN (hps _) af,bN (Nat.zero_le 100) af,bN (Nat.zero_le 100) af⟩,ac,rfl,rfl⟩
 push_cast [O,U];refine pif (fun h1=>?_) (fun h1=>?_)
 ·push_cast [O,U];repeat' ((first|(refine plc [0] (hdv) ?_ ?_;push_cast [O,U];rintro r os ⟨d,q2,⟨hd,hd1,hd2⟩,hq2,rfl,rfl⟩)|(refine eQ 8 ?_)|refine ae ?_|refine pif ?_ ?_<;>intro h<;>try exact pN h)<;>push_cast [O,U])
  refine dd ?_;(refine av 8 [14,15,29,33,43,50,54,83,90,94] ?_;apply ak;(focus kernel_rfl);(focus (simp only [aP,rA];(repeat' first|((refine plE [] ((hpl d.parent)) ?_ ?_<;>push_cast [O,U]))|((first|refine pah 1 ?_|refine pah 5 ?_);push_cast [O,U])|(refine pad ?_;first|with_reducible exact ao 8 [14,15,29,33,43,50,54,83,90,94] _|(refine weak_fg ?_;push_cast [O,U]))|((first|refine pas [0] ?_|refine pas [2] ?_|refine pas [3] ?_|refine pas [4] ?_|refine pas [6] ?_);push_cast [O,U])|((first|refine pas [0,2] ?_|refine pas [0,4] ?_|refine pas [2,4] ?_|refine pas [3,4] ?_);push_cast [O,U];refine ⟨?_,?_⟩)|((first|refine pas [0,2,4] ?_);push_cast [O,U];refine ⟨?_,?_,?_⟩));done));push_cast [O,U]);(refine K9 [0] ?_;push_cast [O,U]);exact ⟨.agg (Opr.e ⟨1,aZ l d.parent,d,⟨#[]⟩,⟨#[]⟩⟩),[tape L q2],by push_cast [O,U],by push_cast [O,U],⟨1,aZ l d.parent,d,⟨#[]⟩,⟨#[]⟩⟩,q2,⟨hd.ok,Nat.le_trans hd.att af,bN (hps _) af,bN (Nat.zero_le 100) af,bN (Nat.zero_le 100) af⟩,ac,rfl,rfl⟩
 push_cast [O,U];refine pif (fun h2=>?_) (fun h2=>?_)
 ·push_cast [O,U];repeat' ((first|(refine plc [0] (hdv) ?_ ?_;push_cast [O,U];rintro r os ⟨d,q2,⟨hd,hd1,hd2⟩,hq2,rfl,rfl⟩)|(refine eQ 8 ?_)|refine ae ?_|refine pif ?_ ?_<;>intro h<;>try exact pN h)<;>push_cast [O,U])
  refine dd ?_;(refine av 8 [14,15,29,33,43,50,54,83,90,94] ?_;apply ak;(focus kernel_rfl);(focus (simp only [aP,rA];(repeat' first|((refine plE [] ((hpl d.parent)) ?_ ?_<;>push_cast [O,U]))|((first|refine pah 1 ?_|refine pah 5 ?_);push_cast [O,U])|(refine pad ?_;first|with_reducible exact ao 8 [14,15,29,33,43,50,54,83,90,94] _|(refine weak_fg ?_;push_cast [O,U]))|((first|refine pas [0] ?_|refine pas [2] ?_|refine pas [3] ?_|refine pas [4] ?_|refine pas [6] ?_);push_cast [O,U])|((first|refine pas [0,2] ?_|refine pas [0,4] ?_|refine pas [2,4] ?_|refine pas [3,4] ?_);push_cast [O,U];refine ⟨?_,?_⟩)|((first|refine pas [0,2,4] ?_);push_cast [O,U];refine ⟨?_,?_,?_⟩));done));push_cast [O,U]);(refine K9 [0] ?_;push_cast [O,U]);exact ⟨.agg (Opr.e ⟨1,aZ l d.parent,d,⟨#[]⟩,⟨#[]⟩⟩),[tape L q2],by push_cast [O,U],by push_cast [O,U],⟨1,aZ l d.parent,d,⟨#[]⟩,⟨#[]⟩⟩,q2,⟨hd.ok,Nat.le_trans hd.att af,bN (hps _) af,bN (Nat.zero_le 100) af,bN (Nat.zero_le 100) af⟩,ac,rfl,rfl⟩
 push_cast [O,U];refine pif (fun h3=>?_) (fun h3=>?_)
 ·push_cast [O,U];repeat' ((first|(refine plc [0] (hdv) ?_ ?_;push_cast [O,U];rintro r os ⟨d,q2,⟨hd,hd1,hd2⟩,hq2,rfl,rfl⟩)|(refine eQ 8 ?_)|refine ae ?_|refine pif ?_ ?_<;>intro h<;>try exact pN h)<;>push_cast [O,U])
  refine dd ?_;(refine av 8 [14,15,29,33,43,50,54,83,90,94] ?_;apply ak;(focus kernel_rfl);(focus (simp only [aP,rA];(repeat' first|((refine plE [] ((hpl d.parent)) ?_ ?_<;>push_cast [O,U]))|((first|refine pah 1 ?_|refine pah 5 ?_);push_cast [O,U])|(refine pad ?_;first|with_reducible exact ao 8 [14,15,29,33,43,50,54,83,90,94] _|(refine weak_fg ?_;push_cast [O,U]))|((first|refine pas [0] ?_|refine pas [2] ?_|refine pas [3] ?_|refine pas [4] ?_|refine pas [6] ?_);push_cast [O,U])|((first|refine pas [0,2] ?_|refine pas [0,4] ?_|refine pas [2,4] ?_|refine pas [3,4] ?_);push_cast [O,U];refine ⟨?_,?_⟩)|((first|refine pas [0,2,4] ?_);push_cast [O,U];refine ⟨?_,?_,?_⟩));done));push_cast [O,U]);(refine K9 [0] ?_;push_cast [O,U]);exact ⟨.agg (Opr.e ⟨1,aZ l d.parent,d,⟨#[]⟩,⟨#[]⟩⟩),[tape L q2],by push_cast [O,U],by push_cast [O,U],⟨1,aZ l d.parent,d,⟨#[]⟩,⟨#[]⟩⟩,q2,⟨hd.ok,Nat.le_trans hd.att af,bN (hps _) af,bN (Nat.zero_le 100) af,bN (Nat.zero_le 100) af⟩,ac,rfl,rfl⟩
 push_cast [O,U];have hcs:v=4∨v=5∨v=6∨v=7∨v=8∨v=9∨v=10∨(v=11∨v=12)∨v=13:=ac;clear va vb;rcases hcs with rfl|rfl|rfl|rfl|rfl|rfl|rfl|h|rfl
 ·push_cast [O,U];repeat' ((first|refine ae ?_|refine pif ?_ ?_<;>intro h<;>try exact pN h)<;>push_cast [O,U])
  (refine K9 [0] ?_;push_cast [O,U]);exact ⟨.agg (Opr.e ⟨2,p,cL,⟨#[]⟩,⟨#[]⟩⟩),[tape L (q+1)],by push_cast [O,U],by push_cast [O,U],⟨2,p,cL,⟨#[]⟩,⟨#[]⟩⟩,q+1,pY hp (Nat.zero_le _) (Nat.zero_le _),ac,rfl,rfl⟩
 ·have o0:=one (q+1) ac [⟨#[115,105,122,101]⟩,⟨#[118,101,110,100,111,114]⟩,⟨#[115,108,111,116]⟩] af af;have o1:=one (q+1+1) ac [⟨#[]⟩,⟨#[49]⟩,⟨#[50]⟩] af af;push_cast [O,U];repeat' ((first|(refine plc [0] (o0) ?_ ?_;push_cast [O,U];rintro r os ⟨s0,hs0,rfl,rfl⟩)|(refine plc [0] (o1) ?_ ?_;push_cast [O,U];rintro r os ⟨s1,hs1,rfl,rfl⟩)|refine ae ?_|refine pif ?_ ?_<;>intro h<;>try exact pN h)<;>push_cast [O,U])
  (refine K9 [0] ?_;push_cast [O,U]);exact ⟨.agg (Opr.e ⟨3,p,cL,s0,s1⟩),[tape L (q+1+1+1)],by push_cast [O,U],by push_cast [O,U],⟨3,p,cL,s0,s1⟩,q+1+1+1,pY hp (un af hs0) (un af hs1),ac,rfl,rfl⟩
 ·push_cast [O,U];repeat' ((first|(refine plc [] (lc) ?_ ?_;push_cast [O,U];rintro r os ⟨⟨t,ht1,ht2,rfl⟩,rfl⟩)|(refine plc [0] ((one (q+1) ac t ac ac)) ?_ ?_;push_cast [O,U];rintro r os ⟨s,hs,rfl,rfl⟩)|refine ae ?_|refine pif ?_ ?_<;>intro h<;>try exact pN h)<;>push_cast [O,U])
  (refine K9 [0] ?_;push_cast [O,U]);exact ⟨.agg (Opr.e ⟨3,p,cL,⟨#[99,111,110,116,101,110,116]⟩,s⟩),[tape L (q+1+1)],by push_cast [O,U],by push_cast [O,U],⟨3,p,cL,⟨#[99,111,110,116,101,110,116]⟩,s⟩,q+1+1,pY hp af (ht2 s hs),ac,rfl,rfl⟩
 ·push_cast [O,U];repeat' ((first|refine ae ?_|refine pif ?_ ?_<;>intro h<;>try exact pN h)<;>push_cast [O,U])
  (refine K9 [0] ?_;push_cast [O,U]);exact ⟨.agg (Opr.e ⟨4,p,cL,⟨#[]⟩,⟨#[]⟩⟩),[tape L (q+1)],by push_cast [O,U],by push_cast [O,U],⟨4,p,cL,⟨#[]⟩,⟨#[]⟩⟩,q+1,pY hp (Nat.zero_le _) (Nat.zero_le _),ac,rfl,rfl⟩
 ·push_cast [O,U];repeat' ((first|refine ae ?_|refine pif ?_ ?_<;>intro h<;>try exact pN h)<;>push_cast [O,U])
  (apply ap (α:=Nat × ByteArray) 8 [14,15,29,33,43,50,54,83,90,94] (fun x=>[(7,.c (.v (.int .i64 x.1))),(5,.c (.v (.string x.2)))]) (fun x=>[]) (fun x=>x.1≤l.length∧x.2.size≤1001000) (fun x=>l.length - x.1) ((0,p));(focus ((try push_cast [O,U]);rfl));(focus exact ⟨Nat.zero_le _,hp⟩);(focus ((refine weak_fg ?_;try push_cast [O,U]);(try (rfl)))));rintro ⟨i,p2⟩ ⟨hi1,hp2⟩;simp only at hi1 hp2;push_cast [O,U];by_cases hlt:i < l.length
  ·have hpi:=hpl (l.getD i default).index;by_cases hk4:(l.getD i default).kind=4
   ·repeat' ((first|(refine av 8 [14,15,29,33,43,50,54,83,90,94] ?_;apply ak;(focus kernel_rfl);(focus (simp only [aP,rA];(repeat' first|((refine plE [] hpi ?_ ?_<;>push_cast [O,U,  hk4]))|((first|refine pah 1 ?_|refine pah 3 ?_|refine pah 4 ?_|refine pah 5 ?_|refine pah 8 ?_);push_cast [O,U,  hk4])|(refine pad ?_;first|with_reducible exact ao 8 [14,15,29,33,43,50,54,83,90,94] _|(refine weak_fg ?_;push_cast [O,U,  hk4]))|((first|refine pas [0] ?_|refine pas [2] ?_|refine pas [6] ?_|refine pas [7] ?_);push_cast [O,U,  hk4])|((first|refine pas [0,2] ?_|refine pas [0,6] ?_);push_cast [O,U,  hk4];refine ⟨?_,?_⟩));done));push_cast [O,U,  hk4])|refine ae ?_|refine pif ?_ ?_<;>intro h<;>try exact pN h)<;>push_cast [O,U,hk4])
    exact ⟨(i+1,aZ l (l.getD i default).index),⟨by simp only;omega,hps _⟩,aA,by simp only;omega⟩
   ·repeat' ((first|refine ae ?_|refine pif ?_ ?_<;>intro h<;>try exact pN h)<;>push_cast [O,U,hk4])
    exact ⟨(i+1,p2),⟨by simp only;omega,hp2⟩,aA,by simp only;omega⟩
  have o0:=one (q+1) ac [⟨#[101,116,104,48]⟩,⟨#[101,116,104,49]⟩,⟨#[108,97,110,48]⟩,⟨#[108,97,110,49]⟩,⟨#[97,58,98]⟩] af af;push_cast [O,U];repeat' ((first|(refine plc [0] (o0) ?_ ?_;push_cast [O,U];rintro r os ⟨s0,hs0,rfl,rfl⟩)|refine ae ?_|refine pif ?_ ?_<;>intro h<;>try exact pN h)<;>push_cast [O,U])
  (refine K9 [0] ?_;push_cast [O,U]);exact ⟨.agg (Opr.e ⟨5,p2,cL,s0,⟨#[]⟩⟩),[tape L (q+1+1)],by push_cast [O,U],by push_cast [O,U],⟨5,p2,cL,s0,⟨#[]⟩⟩,q+1+1,pY hp2 (un af hs0) (Nat.zero_le _),ac,rfl,rfl⟩
 ·have o0:=one (q+1) ac [⟨#[104,105,100]⟩,⟨#[110,105,99]⟩,⟨#[120,32,121]⟩] af af;push_cast [O,U];repeat' ((first|(refine plc [0] (o0) ?_ ?_;push_cast [O,U];rintro r os ⟨s0,hs0,rfl,rfl⟩)|refine ae ?_|refine pif ?_ ?_<;>intro h<;>try exact pN h)<;>push_cast [O,U])
  (refine K9 [0] ?_;push_cast [O,U]);exact ⟨.agg (Opr.e ⟨6,p,cL,⟨#[]⟩,s0⟩),[tape L (q+1+1)],by push_cast [O,U],by push_cast [O,U],⟨6,p,cL,⟨#[]⟩,s0⟩,q+1+1,pY hp (Nat.zero_le _) (un af hs0),ac,rfl,rfl⟩
 ·push_cast [O,U];repeat' ((first|refine ae ?_|refine pif ?_ ?_<;>intro h<;>try exact pN h)<;>push_cast [O,U])
  (refine K9 [0] ?_;push_cast [O,U]);exact ⟨.agg (Opr.e ⟨7,p,cL,⟨#[]⟩,⟨#[]⟩⟩),[tape L (q+1)],by push_cast [O,U],by push_cast [O,U],⟨7,p,cL,⟨#[]⟩,⟨#[]⟩⟩,q+1,pY hp (Nat.zero_le _) (Nat.zero_le _),ac,rfl,rfl⟩
 ·rcases h with rfl|rfl;all_goals
   have o0:=one (q+1) ac [⟨#[104,105,100]⟩,⟨#[110,105,99]⟩,⟨#[99,111,114,101]⟩,⟨#[101,120,116,114,97]⟩,⟨#[111,116,104,101,114]⟩,⟨#[98,97,100]⟩,⟨#[114,105,110,103]⟩] af af;push_cast [O,U];repeat' ((first|(refine plc [0] (o0) ?_ ?_;push_cast [O,U];rintro r os ⟨s0,hs0,rfl,rfl⟩)|refine ae ?_|refine pif ?_ ?_<;>intro h<;>try exact pN h)<;>push_cast [O,U])
   (refine K9 [0] ?_;push_cast [O,U]);exact ⟨.agg (Opr.e ⟨8,⟨#[]⟩,cL,⟨#[]⟩,s0⟩),[tape L (q+1+1)],by push_cast [O,U],by push_cast [O,U],⟨8,⟨#[]⟩,cL,⟨#[]⟩,s0⟩,q+1+1,pY (Nat.zero_le _) (Nat.zero_le _) (un af hs0),ac,rfl,rfl⟩
 ·have o0:=one (q+1) ac [⟨#[104,105,100]⟩,⟨#[110,105,99]⟩,⟨#[99,111,114,101]⟩,⟨#[101,120,116,114,97]⟩,⟨#[111,116,104,101,114]⟩] af af;push_cast [O,U];repeat' ((first|(refine plc [0] (o0) ?_ ?_;push_cast [O,U];rintro r os ⟨s0,hs0,rfl,rfl⟩)|refine ae ?_|refine pif ?_ ?_<;>intro h<;>try exact pN h)<;>push_cast [O,U])
  (refine K9 [0] ?_;push_cast [O,U]);exact ⟨.agg (Opr.e ⟨9,⟨#[]⟩,cL,⟨#[]⟩,s0⟩),[tape L (q+1+1)],by push_cast [O,U],by push_cast [O,U],⟨9,⟨#[]⟩,cL,⟨#[]⟩,s0⟩,q+1+1,pY (Nat.zero_le _) (Nat.zero_le _) (un af hs0),ac,rfl,rfl⟩
end
section
attribute [local irreducible] PL QL aL ah bg La aV PA bm
def db (l:List Atr) (n v:ByteArray):List Atr:=cX n v l
theorem oU (l:List Atr) (n:ByteArray):(eM l n).1=((l.find? fun a=>decide (a.name=n)).map Atr.value).getD ⟨#[]⟩:=by
 unfold eM;cases l.find? (fun a=>decide (a.name=n))<;>rfl
theorem vp {n v:ByteArray}:∀ {l:List Atr} {a:Atr},a ∈ cX n v l → a ∈ l∨a=⟨n,v⟩
 | [],a,h=>by
  simp only [cX,one] at h;split at h
  ·cases h
  ·exact .inr (List.mem_singleton.1 h)
 | x :: t,a,h=>by
  rw [cX] at h;split at h
  ·rcases List.mem_cons.1 h with rfl|h
   ·exact .inl (List.mem_cons_self ..)
   ·rcases vp h with h|h
    ·exact .inl (List.mem_cons_of_mem _ h)
    ·exact .inr h
  ·rcases List.mem_append.1 h with h|h
   ·simp only [one] at h;split at h
    ·cases h
    ·exact .inr (List.mem_singleton.1 h)
   ·split at h
    ·exact .inl (List.mem_cons_of_mem _ h)
    ·exact .inl h
def jZ (d:Dev) (n v:ByteArray):Bool:=decide (((d.attrs.find? fun a=>decide (a.name=n)).map Atr.value).getD ⟨#[]⟩=v)
set_option maxHeartbeats 4000000 in
theorem CH (k:Ker) (op:Opr) (d:Dev) (hB:bL k) (ho:eA op) (hd:d ∈ k.tree) (hn:k.evs.length+1≤1000000) :
  bm 1 prog 98 [.c (.ptr 0 0),.agg op.e,.agg d.e] (bI k) fun r os=>r = .c (.v (.int .i64 ((k.set d op.name (cX op.name op.value d.attrs) (jZ d op.name op.value)).2)))∧os=bI (k.set d op.name (cX op.name op.value d.attrs) (jZ d op.name op.value)).1:=by
 have hal:d.attrs.length≤24:=(hB.small hd).att;have hdk:=hB.ok hd;have hv:=dt op.name ho.name;have hg:=FD d.attrs op.name ac;have hs:=FG d.attrs op.name op.value ac (FH hB hd);have hsl:=r6 op.name op.value d.attrs;have hdo:(il d (cX op.name op.value d.attrs)).ok:=⟨hdk.name,hdk.original,hdk.subsystem,hdk.driver,hdk.alias_,fun a ha=>by
  rcases vp ha with h|rfl
  ·exact hdk.attrs a h
  ·exact ⟨ho.name,ho.value⟩,by show (cX op.name op.value d.attrs).length≤_;omega,hdk.orig⟩
 have hc:=oQ k (il d (cX op.name op.value d.attrs)) hB hdo (by have:=hB.orig d hd;show d.original.size≤_;omega) (by show (cX op.name op.value d.attrs).length≤_;omega);obtain ⟨gv,hgv⟩:∃ gv,(eM d.attrs op.name).1=gv:=⟨_,rfl⟩
 rw [hgv] at hg;have hsv:jZ d op.name op.value=decide (gv=op.value):=by unfold jZ;rw [← oU,hgv]
 obtain ⟨na,hna⟩:∃ na,cX op.name op.value d.attrs=na:=⟨_,rfl⟩
 rw [hna] at hs hc hdo hsl ⊢;have hat:∀ x,il d x=⟨d.index,d.parent,d.name,d.original,d.subsystem,d.driver,d.alias_,d.kind,d.number,x⟩:=fun x=>rfl
 obtain ⟨X,hX⟩:∃ X,k.set d op.name na (jZ d op.name op.value)=X:=⟨_,rfl⟩
 rw [hX];rw [hsv] at hX;unfold Ker.set at hX;refine cG 1 (by simp [bI]) func98 rfl (by simp [ntmps98]) (by rintro r os ⟨rfl,rfl⟩;simp [bI]) ?_;rw [ntmps98,results98];push_cast [O,U];have cB:aH 10 []:=trivial;cases hvv:validS op.name with
 | false =>
  rw [hvv] at hv hX;rw [if_pos rfl] at hX;subst hX;repeat' ((first|refine aK [] hv ?_|refine ae ?_|refine pif ?_ ?_<;>intro h<;>try exact pN h)<;>push_cast [O,U])
  exact am [0,1,2]
 | true =>
  rw [hvv] at hv hX;rw [if_neg (by simp)] at hX;by_cases he:aR k.tree (il d na)=0
  case neg =>
   rw [if_pos he] at hX;rw [if_neg he] at hc;obtain ⟨ce,hce⟩:∃ ce,aR k.tree (il d na)=ce:=⟨_,rfl⟩
   rw [hce] at he hc hX;subst hX;rw [hat] at hc;repeat' ((first|(refine plE [] hv ?_ ?_;focus (push_cast [O,U,he];done))|(refine plE [] hg ?_ ?_;focus (push_cast [O,U,he];done))|(refine plE [] hs ?_ ?_;focus (push_cast [O,U,he];done))|(refine plE [0,1,2] hc ?_ ?_;focus (push_cast [O,U,he];done))|refine ae ?_|refine pif ?_ ?_<;>intro h<;>try exact pN h)<;>push_cast [O,U,he])
   exact am [0,1,2]
  rw [if_neg (fun h=>h he)] at hX;rw [if_pos he,he] at hc;have hB2:=hB.chg he;obtain ⟨K,hK⟩:∃ K,k.withT (ed k.tree (il d na))=K:=⟨_,rfl⟩
  have hKe:K.evs=k.evs:=by rw [← hK];rfl
  rw [hK] at hc hB2 hX;rw [hat] at hc;by_cases hgv2:gv=op.value
  ·rw [decide_eq_true hgv2,if_pos rfl] at hX;subst hX;have hgn:(op.value≠op.value)=False:=by simp
   repeat' ((first|(refine plE [] hv ?_ ?_;focus (push_cast [O,U,hgv2,hgn];done))|(refine plE [] hg ?_ ?_;focus (push_cast [O,U,hgv2,hgn];done))|(refine plE [] hs ?_ ?_;focus (push_cast [O,U,hgv2,hgn];done))|(refine plE [0,1,2] hc ?_ ?_;focus (push_cast [O,U,hgv2,hgn];done))|refine ae ?_|refine pif ?_ ?_<;>intro h<;>try exact pN h)<;>push_cast [O,U,hgv2,hgn])
   exact am [0,1,2]
  ·rw [decide_eq_false hgv2,if_neg (by simp)] at hX;have h1:=gb K 3 d.index hB2.inv.tree;have h2:=fa K [⟨0,3,d.index,bF K.tree d.index,⟨#[]⟩⟩] (by rw [hKe];simp;omega);rw [show K.tells [⟨0,3,d.index,bF K.tree d.index,⟨#[]⟩⟩]=K.emit 3 d.index ⟨#[]⟩ from rfl] at h2;obtain ⟨E,hE⟩:∃ E,K.emit 3 d.index ⟨#[]⟩=E:=⟨_,rfl⟩
   rw [hE] at h2 hX;subst hX;repeat' ((first|(refine plE [] hv ?_ ?_;focus (push_cast [O,U,hgv2];done))|(refine plE [] hg ?_ ?_;focus (push_cast [O,U,hgv2];done))|(refine plE [] hs ?_ ?_;focus (push_cast [O,U,hgv2];done))|(refine plE [0,1,2] hc ?_ ?_;focus (push_cast [O,U,hgv2];done))|(refine plE [0,1,2] h1 ?_ ?_;focus (push_cast [O,U,hgv2];done))|(refine eZ 1 [0,1,2] (h2) ?_ ?_;push_cast [O,U,hgv2];rintro r os ⟨rfl,rfl⟩)|refine ae ?_|refine pif ?_ ?_<;>intro h<;>try exact pN h)<;>push_cast [O,U,hgv2])
   exact am [0,1,2]
set_option maxHeartbeats 4000000 in
theorem CJ (k:Ker) (op:Opr) (d:Dev) (hB:bL k) (ho:eA op) (hd:d ∈ k.tree) (hn:k.evs.length+1≤1000000) :
  bm 1 prog 100 [.c (.ptr 0 0),.agg op.e,.agg d.e] (bI k) fun r os=>r = .c (.v (.int .i64 ((k.rename d op.name).2)))∧os=bI (k.rename d op.name).1:=by
 have hdk:=hB.ok hd;have hdo:(jc d op.name).ok:=⟨ho.name,hdk.original,hdk.subsystem,hdk.driver,hdk.alias_,hdk.attrs,hdk.len,hdk.orig⟩
 have hc:=oQ k (jc d op.name) hB hdo (by have:=hB.orig d hd;show d.original.size≤_;omega) (hB.att d hd);have h0:=gb k 4 d.index hB.inv.tree;have hat:jc d op.name=⟨d.index,d.parent,op.name,d.original,d.subsystem,d.driver,d.alias_,d.kind,d.number,d.attrs⟩:=rfl;obtain ⟨X,hX⟩:∃ X,k.rename d op.name=X:=⟨_,rfl⟩
 rw [hX];unfold Ker.rename at hX;refine cG 1 (by simp [bI]) func100 rfl (by simp [ntmps100]) (by rintro r os ⟨rfl,rfl⟩;simp [bI]) ?_;rw [ntmps100,results100];push_cast [O,U];have cB:aH 11 []:=trivial;by_cases hk:d.kind=4
 case neg =>
  rw [if_pos hk] at hX;subst hX;repeat' ((first|refine ae ?_|refine pif ?_ ?_<;>intro h<;>try exact pN h)<;>push_cast [O,U,hk])
  exact am [0,1,2]
 rw [if_neg (fun h=>h hk)] at hX;by_cases he:aR k.tree (jc d op.name)=0
 case neg =>
  rw [if_pos he] at hX;rw [if_neg he] at hc;obtain ⟨ce,hce⟩:∃ ce,aR k.tree (jc d op.name)=ce:=⟨_,rfl⟩
  rw [hce] at he hc hX;subst hX;rw [hat] at hc;have hsm:(decide (d.name=op.name)=true)∨(decide (d.name=op.name)=false):=by cases decide (d.name=op.name)<;>simp
  rcases hsm with hs|hs
  ·have hs':=of_decide_eq_true hs;repeat' ((first|(refine av 11 [] ?_;apply ak;(focus kernel_rfl);(focus (simp only [aP,rA];(repeat' first|(refine plE [0,1,2] h0 ?_ ?_<;>push_cast [O,U,  hs])|((first|refine pah 0 ?_|refine pah 1 ?_|refine pah 4 ?_|refine pah 5 ?_|refine pah 7 ?_|refine pah 9 ?_|refine pah 10 ?_|refine pah 11 ?_);push_cast [O,U,  hs])|(refine pad ?_;first|with_reducible exact ao 11 [] _|(refine weak_fg ?_;push_cast [O,U,  hs]))|((first|refine pas [2] ?_|refine pas [3] ?_|refine pas [6] ?_|refine pas [8] ?_);push_cast [O,U,  hs])|((first|refine pas [2,6] ?_|refine pas [2,8] ?_|refine pas [3,6] ?_|refine pas [3,8] ?_|refine pas [6,8] ?_);push_cast [O,U,  hs];refine ⟨?_,?_⟩)|((first|refine pas [2,6,8] ?_|refine pas [3,6,8] ?_);push_cast [O,U,  hs];refine ⟨?_,?_,?_⟩));done));push_cast [O,U,  hs])|(refine plE [0,1,2] hc ?_ ?_;focus (push_cast [O,U,hk,he,hs];done))|refine ae ?_|refine pif ?_ ?_<;>intro h<;>try exact pN h)<;>push_cast [O,U,hk,he,hs])
   exact am [0,1,2]
  ·have hs':=of_decide_eq_false hs;repeat' ((first|(refine av 11 [] ?_;apply ak;(focus kernel_rfl);(focus (simp only [aP,rA];(repeat' first|(refine plE [0,1,2] h0 ?_ ?_<;>push_cast [O,U,  hs])|((first|refine pah 0 ?_|refine pah 1 ?_|refine pah 4 ?_|refine pah 5 ?_|refine pah 7 ?_|refine pah 9 ?_|refine pah 10 ?_|refine pah 11 ?_);push_cast [O,U,  hs])|(refine pad ?_;first|with_reducible exact ao 11 [] _|(refine weak_fg ?_;push_cast [O,U,  hs]))|((first|refine pas [2] ?_|refine pas [3] ?_|refine pas [6] ?_|refine pas [8] ?_);push_cast [O,U,  hs])|((first|refine pas [2,6] ?_|refine pas [2,8] ?_|refine pas [3,6] ?_|refine pas [3,8] ?_|refine pas [6,8] ?_);push_cast [O,U,  hs];refine ⟨?_,?_⟩)|((first|refine pas [2,6,8] ?_|refine pas [3,6,8] ?_);push_cast [O,U,  hs];refine ⟨?_,?_,?_⟩));done));push_cast [O,U,  hs])|(refine plE [0,1,2] hc ?_ ?_;focus (push_cast [O,U,hk,he,hs];done))|refine ae ?_|refine pif ?_ ?_<;>intro h<;>try exact pN h)<;>push_cast [O,U,hk,he,hs])
   exact am [0,1,2]
 rw [if_neg (fun h=>h he)] at hX;rw [if_pos he,he] at hc;have hB2:=hB.chg he;obtain ⟨K,hK⟩:∃ K,k.withT (ed k.tree (jc d op.name))=K:=⟨_,rfl⟩
 have hKe:K.evs=k.evs:=by rw [← hK];rfl
 rw [hK] at hc hB2 hX;rw [hat] at hc;by_cases hs':d.name=op.name
 ·rw [if_pos hs'] at hX;subst hX;have hs:=decide_eq_true hs';repeat' ((first|(refine av 11 [] ?_;apply ak;(focus kernel_rfl);(focus (simp only [aP,rA];(repeat' first|(refine plE [0,1,2] h0 ?_ ?_<;>push_cast [O,U,  hs])|((first|refine pah 0 ?_|refine pah 1 ?_|refine pah 4 ?_|refine pah 5 ?_|refine pah 7 ?_|refine pah 9 ?_|refine pah 10 ?_|refine pah 11 ?_);push_cast [O,U,  hs])|(refine pad ?_;first|with_reducible exact ao 11 [] _|(refine weak_fg ?_;push_cast [O,U,  hs]))|((first|refine pas [2] ?_|refine pas [3] ?_|refine pas [6] ?_|refine pas [8] ?_);push_cast [O,U,  hs])|((first|refine pas [2,6] ?_|refine pas [2,8] ?_|refine pas [3,6] ?_|refine pas [3,8] ?_|refine pas [6,8] ?_);push_cast [O,U,  hs];refine ⟨?_,?_⟩)|((first|refine pas [2,6,8] ?_|refine pas [3,6,8] ?_);push_cast [O,U,  hs];refine ⟨?_,?_,?_⟩));done));push_cast [O,U,  hs])|(refine plE [0,1,2] hc ?_ ?_;focus (push_cast [O,U,hk,hs];done))|refine ae ?_|refine pif ?_ ?_<;>intro h<;>try exact pN h)<;>push_cast [O,U,hk,hs])
  exact am [0,1,2]
 ·rw [if_neg hs'] at hX;have hs:=decide_eq_false hs';have h1:=gb K 4 d.index hB2.inv.tree;have h2:=fa K [⟨0,4,d.index,bF K.tree d.index,bF k.tree d.index⟩] (by rw [hKe];simp;omega);rw [show K.tells [⟨0,4,d.index,bF K.tree d.index,bF k.tree d.index⟩]=K.emit 4 d.index (bF k.tree d.index) from rfl] at h2;obtain ⟨E,hE⟩:∃ E,K.emit 4 d.index (bF k.tree d.index)=E:=⟨_,rfl⟩
  rw [hE] at h2 hX;subst hX;repeat' ((first|(refine av 11 [] ?_;apply ak;(focus kernel_rfl);(focus (simp only [aP,rA];(repeat' first|(refine plE [0,1,2] h0 ?_ ?_;(focus (push_cast [O,U,  hs];done));push_cast [O,U,  hs])|((first|refine pah 0 ?_|refine pah 1 ?_|refine pah 4 ?_|refine pah 5 ?_|refine pah 7 ?_|refine pah 9 ?_|refine pah 10 ?_|refine pah 11 ?_);push_cast [O,U,  hs])|(refine pad ?_;first|with_reducible exact ao 11 [] _|(refine weak_fg ?_;push_cast [O,U,  hs]))|((first|refine pas [2] ?_|refine pas [3] ?_|refine pas [6] ?_|refine pas [8] ?_);push_cast [O,U,  hs])|((first|refine pas [2,6] ?_|refine pas [2,8] ?_|refine pas [3,6] ?_|refine pas [3,8] ?_|refine pas [6,8] ?_);push_cast [O,U,  hs];refine ⟨?_,?_⟩)|((first|refine pas [2,6,8] ?_|refine pas [3,6,8] ?_);push_cast [O,U,  hs];refine ⟨?_,?_,?_⟩));done));push_cast [O,U,  hs])|refine plE [0,1,2] hc ?_ ?_;focus (push_cast [O,U,hk,hs];done)|refine plE [0,1,2] h1 ?_ ?_;focus (push_cast [O,U,hk,hs];done)|(refine eZ 1 [0,1,2] (h2) ?_ ?_;push_cast [O,U,hk,hs];rintro r os ⟨rfl,rfl⟩)|refine ae ?_|refine pif ?_ ?_<;>intro h<;>try exact pN h)<;>push_cast [O,U,hk,hs])
  exact am [0,1,2]
set_option maxRecDepth 20000
theorem xB {k:Ker} (h:bJ k) {n:ByteArray} {m:Mod} (hm:aJ k.mods n=some m) (c1:inM n k.loaded=false) (c2:m.fails=false) (c3:(m.needs.any fun s=>!inM s k.loaded)=false):bJ (k.withL (k.loaded++[n])):=by
 refine ⟨h.tree,h.top0,h.top,h.evn,h.tell,h.mods,fun s hs=>?_,?_,fun s hs m2 hm2=>?_⟩
 ·have hs:s ∈ k.loaded++[n]:=hs;show ∃ m,aJ k.mods s=some m∧m.fails=false∧∀ x ∈ m.needs,x ∈ k.loaded++[n]
  rcases List.mem_append.1 hs with hs|hs
  ·obtain ⟨m2,g1,g2,g3⟩:=h.load s hs;exact ⟨m2,g1,g2,fun x hx=>List.mem_append_left _ (g3 x hx)⟩
  ·rw [List.mem_singleton] at hs;subst hs;refine ⟨m,hm,c2,fun x hx=>List.mem_append_left _ ?_⟩;rw [← gp];have:=List.any_eq_false.1 c3 x hx;simpa using this
 ·show (k.loaded++[n]).Nodup;rw [List.nodup_append];exact ⟨h.lnd,by simp,fun a ha b hb=>by rw [List.mem_singleton] at hb;rw [hb];exact fun e=>gA.1 c1 (e ▸ ha)⟩
 ·have hs:s ∈ k.loaded++[n]:=hs;have hm3:aJ k.mods s=some m2:=hm2;rcases List.mem_append.1 hs with hs|hs
  ·exact h.slf s hs m2 hm3
  ·rw [List.mem_singleton] at hs;subst hs;rw [hm] at hm3;injection hm3 with hm3
   subst hm3;intro hx;have:=List.any_eq_false.1 c3 s hx;rw [c1] at this;simp at this
theorem sc {k:Ker} (h:bJ k) {n:ByteArray} (c2:k.needed n=false):bJ (k.withL (k.loaded.filter fun s=>!decide (s=n))):=by
 refine ⟨h.tree,h.top0,h.top,h.evn,h.tell,h.mods,fun s hs=>?_,?_,fun s hs m2 hm2=>h.slf s (List.mem_filter.1 hs).1 m2 hm2⟩
 ·have hs:s ∈ k.loaded.filter fun s=>!decide (s=n):=hs
  show ∃ m,aJ k.mods s=some m∧m.fails=false∧∀ x ∈ m.needs,x ∈ k.loaded.filter fun s=>!decide (s=n)
  have hs2:=(List.mem_filter.1 hs).1;obtain ⟨m2,g1,g2,g3⟩:=h.load s hs2;refine ⟨m2,g1,g2,fun x hx=>?_⟩;refine List.mem_filter.2 ⟨g3 x hx,?_⟩;rw [Bool.not_eq_true',decide_eq_false_iff_not];intro e;unfold Ker.needed at c2;have:=List.any_eq_false.1 c2 s hs2;rw [g1] at this;exact this (by rw [gp,← e];exact hx)
 ·exact h.lnd.filter _
theorem bL.each {k:Ker} (h:bL k) (q:Dev → Bool) (v:ByteArray) (l:List Dev) (hl:k.evs.length+l.length≤1000000):bL (k.each q v l):=by
 obtain ⟨h1,h2,h3⟩:=lF q v l k;exact ⟨h.inv.each q v l,Nat.le_trans (ga q v l k) hl,by rw [h2];exact h.modl,by rw [h2];exact h.als,by rw [h2];exact h.alz,by rw [h3];exact h.top⟩
theorem bL.withL {k:Ker} (h:bL k) {l:List ByteArray} (hi:bJ (k.withL l)):bL (k.withL l):=⟨hi,h.evl,h.modl,h.als,h.alz,h.top⟩
theorem zm {l:List ByteArray} {n:ByteArray} {i:Nat} (hn:l.Nodup) (hi:i < l.length) (he:l.getD i default=n):l.take i++l.drop (i+1)=l.filter fun s=>!decide (s=n):=by
 have h1:l=l.take i++n :: l.drop (i+1):=by
  rw [← he,ai l hi,← List.drop_eq_getElem_cons hi,List.take_append_drop]
 have h2:=hn;rw [h1,List.nodup_append] at h2;obtain ⟨_,h3,h4⟩:=h2;rw [List.nodup_cons] at h3
 conv=>rhs;rw [h1]
 rw [List.filter_append,List.filter_cons];have e1:(l.take i).filter (fun s=>!decide (s=n))=l.take i:=List.filter_eq_self.2 fun a ha=>by
  have:=h4 a ha n (List.mem_cons_self ..);simpa using this
 have e2:(l.drop (i+1)).filter (fun s=>!decide (s=n))=l.drop (i+1):=List.filter_eq_self.2 fun a ha=>by
  have:a≠n:=fun e=>h3.1 (e ▸ ha)
  simpa using this
 rw [e1,e2];simp
def neO (k:Ker) (n:ByteArray):List Ob:=[jI k,.box 35 [.ptr 3 0],.box 9 [.v (.string n)],jd 0 4 k,je k]
attribute [push_cast] neO
theorem dM {k:Ker} (hB:bL k) (s:ByteArray):((aJ k.mods s).getD bW).aliases.length≤1000000∧((aJ k.mods s).getD bW).needs.length≤1000000∧∀ p ∈ ((aJ k.mods s).getD bW).aliases,p.size≤1000000000:=by
 cases h:aJ k.mods s with
 | none=>exact ⟨by simp [bW],by simp [bW],fun p hp=>by simp [bW] at hp⟩
 | some m =>
  obtain ⟨h1,_⟩:=ez h;exact ⟨(hB.als m h1).1,(hB.als m h1).2,hB.alz m h1⟩
theorem xC (k:Ker) (n s:ByteArray) (hB:bL k) :
  ah prog 141 [.c (.v (.string s)),.c (.ptr 1 0),.c (.ptr 2 0)] (neO k n) fun r os=>r = .c (.v (.bool (inM n ((aJ k.mods s).getD bW).needs)))∧os=neO k n:=by
 have hm:=lG k s (by have:=hB.modl;omega);have hc:=gX ((aJ k.mods s).getD bW).needs n (by have:=(dM hB s).2.1;omega);obtain ⟨m,hmm⟩:∃ m,(aJ k.mods s).getD bW=m:=⟨_,rfl⟩
 rw [hmm] at hm hc ⊢;refine aw func141 ntmps141 results141 ?_;push_cast [O,U];have cB:aH 7 []:=trivial;repeat' ((first|refine aK [3,0,4] hm ?_|refine aK [] hc ?_|refine ae ?_|refine pif ?_ ?_<;>intro h<;>try exact pN h)<;>push_cast [O,U])
 exact am [0,1,2,3,4]
theorem zo (k:Ker) (n:ByteArray) (hB:bL k) :
  ah prog 95 [.c (.ptr 0 0),.c (.v (.string n))] (bI k) fun r os=>r = .c (.v (.bool (k.needed n)))∧os=bI k:=by
 have hc:=nr k.loaded (by have:=hB.lod;omega) 141 [1,2] [.box 35 [.ptr 3 0],.box 9 [.v (.string n)],jd 0 4 k,je k] (fun s=>inM n ((aJ k.mods s).getD bW).needs) ⟨aj,fun x _=>xC k n x hB⟩;refine aw func95 ntmps95 results95 ?_;unfold Ker.needed;push_cast [O,U];repeat' ((first|refine aK [1,3,4,0,2] hc ?_|refine au ?_|refine pif ?_ ?_<;>intro h<;>try exact pN h)<;>push_cast [O,U])
 exact am [0,1,2]
end
end Go.Proofs.YtmbbkfffcflfcaaGreatDoor
