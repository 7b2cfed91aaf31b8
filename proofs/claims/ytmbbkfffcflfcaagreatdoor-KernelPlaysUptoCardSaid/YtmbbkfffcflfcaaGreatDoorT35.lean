/- What the program computes, and the plain laws of it, part 35. -/
import Derived.WideKeyEntry
import Derived.Test.YtmbbkfffcflfcaaGreatDoorT34
namespace Go.Proofs.YtmbbkfffcflfcaaGreatDoor
open Nat renaming reduceAdd → rA
open Go.Proofs.Tryz
set_option linter.unusedSimpArgs false
set_option linter.unusedVariables false
open Go.RowKit
open IntWalk renaming iteOmega → O, toNatUp → U
section
attribute [local irreducible] PL QL aL ah bg La aV PA
set_option maxRecDepth 20000
structure mC (d:Dev):Prop where
 ok:d.ok
 orig:d.original.size≤20
 att:d.attrs.length≤10
 num:0≤d.number∧d.number≤9
 al:d.alias_.size≤100
theorem dA {l:List ByteArray} {s:ByteArray} (h:l.all (fun s=>decide (s.size≤20))=true) (hm:s ∈ l):s.size≤20:=by
 have:=List.all_eq_true.1 h s hm;simpa using this
theorem mC.mk' {i p:Int} {nm o s dr al:ByteArray} {kd n:Int} {at_:List Atr} (h1:nm.size≤100) (h2:o.size≤20) (h3:s.size≤100) (h4:dr.size≤100) (h5:al.size≤100) (h6:0≤n∧n≤9) (h7:at_.length≤10) (h8:jO at_):mC ⟨i,p,nm,o,s,dr,al,kd,n,at_⟩ :=
 ⟨⟨bN h1 af,bN h2 af,bN h3 af,bN h4 af,bN h5 af,fun a ha=>⟨bN (h8 a ha).1 af,bN (h8 a ha).2 af⟩,by show at_.length≤_;omega,by show o.size≤_;omega⟩,h2,h7,h6,h5⟩
set_option maxHeartbeats 8000000 in
theorem H6 (L:List Int) (k:Nat) (l:List Dev) (B:Nat) (hk:k < 90000) (hl:l.length≤1000) (hB:B≤100000) (hi:∀ d ∈ l,d.index≤B) (hi0:∀ d ∈ l,0≤d.index) (hL:∀ x ∈ L,-9223372036854775808≤x∧x≤9223372036854775807) (hLl:L.length≤9223372036854775807) :
  ah prog 50 [.c (.ptr 0 0),.agg (trE l)] [tape L k] fun r os=>∃ (d:Dev) (k':Nat),(mC d∧1≤d.index∧d.index≤B+1)∧k'≤k+20∧r = .agg d.e∧os=[tape L k']:=by
 refine aw func50 ntmps50 results50 ?_;push_cast [O,U];have cB:aH 8 [61]:=trivial;have n1:=cP L (k+1) 4 ac af af hL hLl;have o1:=c9 L k [⟨#[98,108,111,99,107]⟩,⟨#[117,115,98]⟩,⟨#[110,101,116]⟩,⟨#[112,99,105]⟩] ac af af hL hLl;have o2:=c9 L (k+1+1) [⟨#[]⟩,⟨#[]⟩,⟨#[104,105,100]⟩,⟨#[110,105,99]⟩] ac af af hL hLl;have o3:=c9 L (k+1+1+1) [⟨#[]⟩,⟨#[117,115,98,58,118,49]⟩,⟨#[112,99,105,58,100,50]⟩,⟨#[117,115,98,58,118,50]⟩] ac af af hL hLl;have a1:=Cf L (k+1+1+1+1) ac hL hLl;repeat' ((first|(refine plc [0] (o1) ?_ ?_;push_cast [O,U];rintro r os ⟨s1,m1,rfl,rfl⟩)|(refine plc [0] (n1) ?_ ?_;push_cast [O,U];rintro r os ⟨v1,⟨va,vb⟩,rfl,rfl⟩)|(refine plc [0] (o2) ?_ ?_;push_cast [O,U];rintro r os ⟨s2,m2,rfl,rfl⟩)|(refine plc [0] (o3) ?_ ?_;push_cast [O,U];rintro r os ⟨s3,m3,rfl,rfl⟩)|(refine plc [0] (a1) ?_ ?_;push_cast [O,U];rintro r os ⟨at_,q,⟨hal,has⟩,hq,rfl,rfl⟩)|refine ae ?_|refine pif ?_ ?_<;>intro h<;>try exact pN h)<;>push_cast [O,U])
 have z1:s1.size≤100:=cJ af m1;have z2:s2.size≤100:=cJ af m2;have z3:s3.size≤100:=cJ af m3;have hv1:1≤1+v1∧1+v1≤4:=ac;generalize 1+v1=kd at hv1 ⊢;(apply ap (α:=Nat × Int) 8 [61] (fun x=>[(6,.c (.v (.int .i64 x.1)))]) (fun x=>[(3,.box 53 (Dev.e ⟨x.2,0,⟨#[]⟩,⟨#[]⟩,s1,s2,s3,kd,0,at_⟩))]) (fun x=>x.1≤l.length∧1≤x.2∧x.2≤B+1) (fun x=>l.length - x.1) ((0,1));(focus ((try push_cast [O,U]);rfl));(focus exact ⟨Nat.zero_le _,by simp,by simp only;omega⟩);(focus ((refine weak_fg ?_;try push_cast [O,U]))));rintro ⟨j,ix⟩ ⟨g1,g2,g3⟩;simp only at g1 g2 g3;push_cast [O,U];by_cases hlt:j < l.length
 ·have hij:=hi _ (rX hlt);have hij0:=hi0 _ (rX hlt);repeat' ((first|(refine eQ 5 ?_)|refine ae ?_|refine pif ?_ ?_<;>intro h<;>try exact pN h)<;>push_cast [O,U])
  refine dd ?_;(refine av 8 [61] ?_;refine aO aj ?_;simp only [aP,rA];refine pah 0 ?_;push_cast [O,U,  hlt];refine pah 2 ?_;push_cast [O,U,  hlt];refine pah 4 ?_;push_cast [O,U,  hlt];apply ar;intro z6;apply ar;intro z5;apply ar;intro z4;apply ar;intro z3;apply ar;intro z2;apply ar;intro z1;refine pas [1,3] ?_;push_cast [O,U,  hlt];refine ⟨?_,?_⟩;(focus (exact z1));(focus (refine pah 5 ?_;push_cast [O,U,  hlt];refine pah 6 ?_;push_cast [O,U,  hlt];exact z2));refine pas [3] ?_;push_cast [O,U,  hlt];(focus (refine pah 5 ?_;push_cast [O,U,  hlt];refine pah 6 ?_;push_cast [O,U,  hlt];exact z3));refine pas [1,7] ?_;push_cast [O,U,  hlt];refine ⟨?_,?_⟩;(focus (refine paw z3 ?_;refine weak_fg ?_;push_cast [O,U,  hlt]));(focus (refine pah 8 ?_;push_cast [O,U,  hlt];exact z4));refine pas [7] ?_;push_cast [O,U,  hlt];(focus (refine pah 8 ?_;push_cast [O,U,  hlt];refine pah 9 ?_;push_cast [O,U,  hlt];refine pah 10 ?_;push_cast [O,U,  hlt];exact z5));refine pas [1] ?_;push_cast [O,U,  hlt];(focus (refine pah 9 ?_;push_cast [O,U,  hlt];refine pah 10 ?_;push_cast [O,U,  hlt];refine paw z5 ?_;refine weak_fg ?_;push_cast [O,U,  hlt]));refine pas [11] ?_;push_cast [O,U,  hlt];refine paw z6 (ao 8 [61] _);push_cast [O,U,  hlt];refine pad ?_;push_cast [O,U,  hlt]);repeat' ((first|refine ae ?_|refine pif ?_ ?_<;>intro h<;>try exact pN h)<;>push_cast [O,U])
  exact ⟨(j+1,if ix < (l.getD j default).index+1 then (l.getD j default).index+1 else ix),⟨by simp only;omega,by simp only;split<;>omega,by simp only;split<;>omega⟩,aA,by simp only;omega⟩
 have hjl:j=l.length:=ac;subst hjl;have hlen:¬ l.length < l.length:=ac;have fits:l.length≤1000:=hl;have n2:=cP L q 4 ac af af hL hLl;by_cases k4:kd=4
 ·subst k4;have o4_0:=c9 L (q) [⟨#[101,116,104,48]⟩,⟨#[101,116,104,49]⟩,⟨#[119,108,97,110,48]⟩] ac af af hL hLl;have o5_0:∀ o,ah prog 15 [.c (.ptr 0 0),.c (.sl 1 ([o,o,⟨#[108,97,110,48]⟩,⟨#[101,116,104,49]⟩].map aU))] [tape L (q+1)] _:=fun o=>c9 L (q+1) [o,o,⟨#[108,97,110,48]⟩,⟨#[101,116,104,49]⟩] ac (by simp) (by simp) hL hLl
  have o4_1:=c9 L (q+1) [⟨#[101,116,104,48]⟩,⟨#[101,116,104,49]⟩,⟨#[119,108,97,110,48]⟩] ac af af hL hLl;have o5_1:∀ o,ah prog 15 [.c (.ptr 0 0),.c (.sl 1 ([o,o,⟨#[108,97,110,48]⟩,⟨#[101,116,104,49]⟩].map aU))] [tape L (q+1+1)] _:=fun o=>c9 L (q+1+1) [o,o,⟨#[108,97,110,48]⟩,⟨#[101,116,104,49]⟩] ac (by simp) (by simp) hL hLl
  have o4_2:=c9 L (q+1+1) [⟨#[101,116,104,48]⟩,⟨#[101,116,104,49]⟩,⟨#[119,108,97,110,48]⟩] ac af af hL hLl;have o5_2:∀ o,ah prog 15 [.c (.ptr 0 0),.c (.sl 1 ([o,o,⟨#[108,97,110,48]⟩,⟨#[101,116,104,49]⟩].map aU))] [tape L (q+1+1+1)] _:=fun o=>c9 L (q+1+1+1) [o,o,⟨#[108,97,110,48]⟩,⟨#[101,116,104,49]⟩] ac (by simp) (by simp) hL hLl
  by_cases h0:0 < l.length
  case neg =>
   have h0':¬ (0:Int) < (l.length:Int):=ac;repeat' ((first|(refine plc [0] (o4_0) ?_ ?_;push_cast [O,U,h0'];rintro r os ⟨o,om,rfl,rfl⟩)|(refine plc [0] (o5_0 o) ?_ ?_;push_cast [O,U,h0'];rintro r os ⟨nm,nmm,rfl,rfl⟩)|refine ae ?_|refine pif ?_ ?_<;>intro h<;>try exact pN h)<;>push_cast [O,U,h0'])
   all_goals (refine K9 [0] ?_;push_cast [O,U])
   all_goals have zn:nm.size≤100:=by (simp only [List.mem_cons,List.not_mem_nil,or_false] at nmm;rcases nmm with rfl|rfl|rfl|rfl;exact cJ af om;exact cJ af om;decide;decide)
   all_goals exact ⟨_,_,aE _,aB _,⟨ix,0,nm,o,⟨#[110,101,116]⟩,s2,s3,4,0,at_⟩,q+1+1,⟨mC.mk' zn (dA af om) af z2 z3 ⟨af,af⟩ ac has,g2,g3⟩,ac,rfl,rfl⟩
  have h0':(0:Int) < (l.length:Int):=ac;repeat' ((first|(refine plc [0] (n2) ?_ ?_;push_cast [O,U,h0'];rintro r os ⟨v2,⟨v2a,v2b⟩,rfl,rfl⟩)|(refine eQ 8 ?_)|(refine plc [0] (o4_1) ?_ ?_;push_cast [O,U,h0'];rintro r os ⟨o,om,rfl,rfl⟩)|(refine plc [0] (o5_1 o) ?_ ?_;push_cast [O,U,h0'];rintro r os ⟨nm,nmm,rfl,rfl⟩)|refine ae ?_|refine pif ?_ ?_<;>intro h<;>try exact pN h)<;>push_cast [O,U,h0'])
  ·obtain ⟨f,hf⟩:∃ f,kf (dN L (q+1)) l.length=f:=⟨_,rfl⟩
   have hfb:=fy (dN L (q+1)) l.length h0';rw [hf] at hfb;obtain ⟨g,rfl⟩:∃ g:Nat,f=(g:Int):=⟨f.toNat,ac⟩
   have hgl:g < l.length:=ac;have hnx:=fj L (q+1) l.length ac ac hL hLl;rw [hf] at hnx;refine dd ?_;(refine aO aj ?_;try simp only [aP,rA];repeat' first|((refine plE [0] hnx ?_ ?_;(focus (push_cast [O,U,  hgl];done));push_cast [O,U,  hgl]))|((refine plc [0] (o4_2) ?_ ?_;push_cast [O,U,  hgl];rintro r os ⟨o,om,rfl,rfl⟩;push_cast [O,U,  hgl]))|((refine plc [0] (o5_2 o) ?_ ?_;push_cast [O,U,  hgl];rintro r os ⟨nm,nmm,rfl,rfl⟩;push_cast [O,U,  hgl]))|((first|refine pah 0 ?_|refine pah 2 ?_|refine pah 3 ?_|refine pah 5 ?_|refine pah 6 ?_|refine pah 8 ?_);push_cast [O,U,  hgl])|(refine pad ?_;try push_cast [O,U,  hgl])|((first|refine pas [1] ?_|refine pas [4] ?_|refine pas [7] ?_|refine pas [9] ?_);push_cast [O,U,  hgl])|((first|refine pas [1,4] ?_|refine pas [1,7] ?_|refine pas [1,9] ?_|refine pas [4,7] ?_|refine pas [4,9] ?_|refine pas [7,9] ?_);push_cast [O,U,  hgl];refine ⟨?_,?_⟩)|((first|refine pas [1,4,7] ?_|refine pas [1,4,9] ?_|refine pas [1,7,9] ?_|refine pas [4,7,9] ?_);push_cast [O,U,  hgl];refine ⟨?_,?_,?_⟩));all_goals (refine K9 [0] ?_;push_cast [O,U])
   all_goals have zn:nm.size≤100:=by (simp only [List.mem_cons,List.not_mem_nil,or_false] at nmm;rcases nmm with rfl|rfl|rfl|rfl;exact cJ af om;exact cJ af om;decide;decide)
   all_goals exact ⟨_,_,aE _,aB _,⟨ix,(l.getD g default).index,nm,o,⟨#[110,101,116]⟩,s2,s3,4,0,at_⟩,q+1+1+1+1,⟨mC.mk' zn (dA af om) af z2 z3 ⟨af,af⟩ ac has,g2,g3⟩,ac,rfl,rfl⟩
  ·all_goals (refine K9 [0] ?_;push_cast [O,U])
   all_goals have zn:nm.size≤100:=by (simp only [List.mem_cons,List.not_mem_nil,or_false] at nmm;rcases nmm with rfl|rfl|rfl|rfl;exact cJ af om;exact cJ af om;decide;decide)
   all_goals exact ⟨_,_,aE _,aB _,⟨ix,0,nm,o,⟨#[110,101,116]⟩,s2,s3,4,0,at_⟩,q+1+1+1,⟨mC.mk' zn (dA af om) af z2 z3 ⟨af,af⟩ ac has,g2,g3⟩,ac,rfl,rfl⟩
 by_cases k2:kd=2
 ·subst k2;have o4_0:=c9 L (q) [⟨#[115,100,97]⟩,⟨#[115,100,98]⟩,⟨#[115,100,97,49]⟩,⟨#[115,100,97,50]⟩,⟨#[99,33,100,48]⟩] ac af af hL hLl;have n4_0:=cP L (q+1) 9 ac af af hL hLl;have o4_1:=c9 L (q+1) [⟨#[115,100,97]⟩,⟨#[115,100,98]⟩,⟨#[115,100,97,49]⟩,⟨#[115,100,97,50]⟩,⟨#[99,33,100,48]⟩] ac af af hL hLl;have n4_1:=cP L (q+1+1) 9 ac af af hL hLl;have o4_2:=c9 L (q+1+1) [⟨#[115,100,97]⟩,⟨#[115,100,98]⟩,⟨#[115,100,97,49]⟩,⟨#[115,100,97,50]⟩,⟨#[99,33,100,48]⟩] ac af af hL hLl;have n4_2:=cP L (q+1+1+1) 9 ac af af hL hLl;have wc:=lc;by_cases h0:0 < l.length
  case neg =>
   have h0':¬ (0:Int) < (l.length:Int):=ac;repeat' ((first|(refine plc [0] (o4_0) ?_ ?_;push_cast [O,U,h0'];rintro r os ⟨o,om,rfl,rfl⟩)|(refine plc [0] (n4_0) ?_ ?_;push_cast [O,U,h0'];rintro r os ⟨nu,⟨nua,nub⟩,rfl,rfl⟩)|(refine eQ 20 ?_)|refine ae ?_|refine pif ?_ ?_<;>intro h<;>try exact pN h)<;>push_cast [O,U,h0'])
   all_goals refine dd ?_
   all_goals (refine aO aj ?_;try simp only [aP,rA];repeat' first|((refine plc [] (wc) ?_ ?_;push_cast [O,U];rintro r os ⟨⟨cl,hcl,hcs,rfl⟩,rfl⟩;push_cast [O,U]))|((refine plc [0] (c9 L (q+1+1) cl ac ac ac hL hLl) ?_ ?_;push_cast [O,U];rintro r os ⟨c,cm,rfl,rfl⟩;push_cast [O,U]))|((refine plc [] (qq at_ ⟨#[99,111,110,116,101,110,116]⟩ c ac) ?_ ?_;push_cast [O,U];rintro r os ⟨at2,⟨s4,s5⟩,rfl,rfl⟩;push_cast [O,U]))|((first|refine pah 0 ?_|refine pah 2 ?_|refine pah 6 ?_);push_cast [O,U])|(refine pad ?_;try push_cast [O,U])|((first|refine pas [1] ?_|refine pas [3] ?_|refine pas [4] ?_|refine pas [5] ?_|refine pas [7] ?_);push_cast [O,U])|((first|refine pas [1,3] ?_|refine pas [1,4] ?_|refine pas [1,5] ?_|refine pas [1,7] ?_|refine pas [3,4] ?_|refine pas [3,5] ?_|refine pas [3,7] ?_|refine pas [4,5] ?_|refine pas [4,7] ?_|refine pas [5,7] ?_);push_cast [O,U];refine ⟨?_,?_⟩)|((first|refine pas [1,3,4] ?_|refine pas [1,3,5] ?_|refine pas [1,3,7] ?_|refine pas [1,4,5] ?_|refine pas [1,4,7] ?_|refine pas [1,5,7] ?_|refine pas [3,4,5] ?_|refine pas [3,4,7] ?_|refine pas [3,5,7] ?_|refine pas [4,5,7] ?_);push_cast [O,U];refine ⟨?_,?_,?_⟩))
   all_goals repeat' ((first|refine ae ?_|refine pif ?_ ?_<;>intro h<;>try exact pN h)<;>push_cast [O,U])
   all_goals (refine K9 [0] ?_;push_cast [O,U])
   all_goals exact ⟨_,_,aE _,aB _,⟨ix,0,o,o,⟨#[98,108,111,99,107]⟩,s2,s3,2,1+nu,at2⟩,q+1+1+1,⟨mC.mk' (cJ af om) (dA af om) af z2 z3 ⟨ac,ac⟩ ac (has.set s5 af (hcs _ cm)),g2,g3⟩,ac,rfl,rfl⟩
  have h0':(0:Int) < (l.length:Int):=ac;repeat' ((first|(refine plc [0] (n2) ?_ ?_;push_cast [O,U,h0'];rintro r os ⟨v2,⟨v2a,v2b⟩,rfl,rfl⟩)|(refine eQ 8 ?_)|(refine plc [0] (o4_1) ?_ ?_;push_cast [O,U,h0'];rintro r os ⟨o,om,rfl,rfl⟩)|(refine plc [0] (n4_1) ?_ ?_;push_cast [O,U,h0'];rintro r os ⟨nu,⟨nua,nub⟩,rfl,rfl⟩)|(refine eQ 20 ?_)|refine ae ?_|refine pif ?_ ?_<;>intro h<;>try exact pN h)<;>push_cast [O,U,h0'])
  ·obtain ⟨f,hf⟩:∃ f,kf (dN L (q+1)) l.length=f:=⟨_,rfl⟩
   have hfb:=fy (dN L (q+1)) l.length h0';rw [hf] at hfb;obtain ⟨g,rfl⟩:∃ g:Nat,f=(g:Int):=⟨f.toNat,ac⟩
   have hgl:g < l.length:=ac;have hnx:=fj L (q+1) l.length ac ac hL hLl;rw [hf] at hnx;refine dd ?_;(refine aO aj ?_;try simp only [aP,rA];repeat' first|((refine plE [0] hnx ?_ ?_;(focus (push_cast [O,U,  hgl];done));push_cast [O,U,  hgl]))|((refine plc [0] (o4_2) ?_ ?_;push_cast [O,U,  hgl];rintro r os ⟨o,om,rfl,rfl⟩;push_cast [O,U,  hgl]))|((refine plc [0] (n4_2) ?_ ?_;push_cast [O,U,  hgl];rintro r os ⟨nu,⟨nua,nub⟩,rfl,rfl⟩;push_cast [O,U,  hgl]))|(refine eQ 20 ?_)|((first|refine pah 0 ?_|refine pah 2 ?_|refine pah 3 ?_|refine pah 5 ?_|refine pah 6 ?_|refine pah 8 ?_);push_cast [O,U,  hgl])|(refine pad ?_;try push_cast [O,U,  hgl])|((first|refine pas [1] ?_|refine pas [4] ?_|refine pas [7] ?_|refine pas [9] ?_);push_cast [O,U,  hgl])|((first|refine pas [1,4] ?_|refine pas [1,7] ?_|refine pas [1,9] ?_|refine pas [4,7] ?_|refine pas [4,9] ?_|refine pas [7,9] ?_);push_cast [O,U,  hgl];refine ⟨?_,?_⟩)|((first|refine pas [1,4,7] ?_|refine pas [1,4,9] ?_|refine pas [1,7,9] ?_|refine pas [4,7,9] ?_);push_cast [O,U,  hgl];refine ⟨?_,?_,?_⟩));all_goals refine dd ?_
   all_goals (refine aO aj ?_;try simp only [aP,rA];repeat' first|((refine plc [] (wc) ?_ ?_;push_cast [O,U];rintro r os ⟨⟨cl,hcl,hcs,rfl⟩,rfl⟩;push_cast [O,U]))|((refine plc [0] (c9 L (q+1+1+1+1) cl ac ac ac hL hLl) ?_ ?_;push_cast [O,U];rintro r os ⟨c,cm,rfl,rfl⟩;push_cast [O,U]))|((refine plc [] (qq at_ ⟨#[99,111,110,116,101,110,116]⟩ c ac) ?_ ?_;push_cast [O,U];rintro r os ⟨at2,⟨s4,s5⟩,rfl,rfl⟩;push_cast [O,U]))|((first|refine pah 0 ?_|refine pah 2 ?_|refine pah 6 ?_);push_cast [O,U])|(refine pad ?_;try push_cast [O,U])|((first|refine pas [1] ?_|refine pas [3] ?_|refine pas [4] ?_|refine pas [5] ?_|refine pas [7] ?_);push_cast [O,U])|((first|refine pas [1,3] ?_|refine pas [1,4] ?_|refine pas [1,5] ?_|refine pas [1,7] ?_|refine pas [3,4] ?_|refine pas [3,5] ?_|refine pas [3,7] ?_|refine pas [4,5] ?_|refine pas [4,7] ?_|refine pas [5,7] ?_);push_cast [O,U];refine ⟨?_,?_⟩)|((first|refine pas [1,3,4] ?_|refine pas [1,3,5] ?_|refine pas [1,3,7] ?_|refine pas [1,4,5] ?_|refine pas [1,4,7] ?_|refine pas [1,5,7] ?_|refine pas [3,4,5] ?_|refine pas [3,4,7] ?_|refine pas [3,5,7] ?_|refine pas [4,5,7] ?_);push_cast [O,U];refine ⟨?_,?_,?_⟩))
   all_goals repeat' ((first|refine ae ?_|refine pif ?_ ?_<;>intro h<;>try exact pN h)<;>push_cast [O,U])
   all_goals (refine K9 [0] ?_;push_cast [O,U])
   all_goals exact ⟨_,_,aE _,aB _,⟨ix,(l.getD g default).index,o,o,⟨#[98,108,111,99,107]⟩,s2,s3,2,1+nu,at2⟩,q+1+1+1+1+1,⟨mC.mk' (cJ af om) (dA af om) af z2 z3 ⟨ac,ac⟩ ac (has.set s5 af (hcs _ cm)),g2,g3⟩,ac,rfl,rfl⟩
  ·all_goals refine dd ?_
   all_goals (refine aO aj ?_;try simp only [aP,rA];repeat' first|((refine plc [] (wc) ?_ ?_;push_cast [O,U];rintro r os ⟨⟨cl,hcl,hcs,rfl⟩,rfl⟩;push_cast [O,U]))|((refine plc [0] (c9 L (q+1+1+1) cl ac ac ac hL hLl) ?_ ?_;push_cast [O,U];rintro r os ⟨c,cm,rfl,rfl⟩;push_cast [O,U]))|((refine plc [] (qq at_ ⟨#[99,111,110,116,101,110,116]⟩ c ac) ?_ ?_;push_cast [O,U];rintro r os ⟨at2,⟨s4,s5⟩,rfl,rfl⟩;push_cast [O,U]))|((first|refine pah 0 ?_|refine pah 2 ?_|refine pah 6 ?_);push_cast [O,U])|(refine pad ?_;try push_cast [O,U])|((first|refine pas [1] ?_|refine pas [3] ?_|refine pas [4] ?_|refine pas [5] ?_|refine pas [7] ?_);push_cast [O,U])|((first|refine pas [1,3] ?_|refine pas [1,4] ?_|refine pas [1,5] ?_|refine pas [1,7] ?_|refine pas [3,4] ?_|refine pas [3,5] ?_|refine pas [3,7] ?_|refine pas [4,5] ?_|refine pas [4,7] ?_|refine pas [5,7] ?_);push_cast [O,U];refine ⟨?_,?_⟩)|((first|refine pas [1,3,4] ?_|refine pas [1,3,5] ?_|refine pas [1,3,7] ?_|refine pas [1,4,5] ?_|refine pas [1,4,7] ?_|refine pas [1,5,7] ?_|refine pas [3,4,5] ?_|refine pas [3,4,7] ?_|refine pas [3,5,7] ?_|refine pas [4,5,7] ?_);push_cast [O,U];refine ⟨?_,?_,?_⟩))
   all_goals repeat' ((first|refine ae ?_|refine pif ?_ ?_<;>intro h<;>try exact pN h)<;>push_cast [O,U])
   all_goals (refine K9 [0] ?_;push_cast [O,U])
   all_goals exact ⟨_,_,aE _,aB _,⟨ix,0,o,o,⟨#[98,108,111,99,107]⟩,s2,s3,2,1+nu,at2⟩,q+1+1+1+1,⟨mC.mk' (cJ af om) (dA af om) af z2 z3 ⟨ac,ac⟩ ac (has.set s5 af (hcs _ cm)),g2,g3⟩,ac,rfl,rfl⟩
 by_cases k3:kd=3
 ·subst k3;have o4_0:=c9 L (q) [⟨#[116,116,121,48]⟩,⟨#[116,116,121,49]⟩,⟨#[105,110,112,117,116,33,101,118,48]⟩] ac af af hL hLl;have n4_0:=cP L (q+1) 9 ac af af hL hLl;have o4_1:=c9 L (q+1) [⟨#[116,116,121,48]⟩,⟨#[116,116,121,49]⟩,⟨#[105,110,112,117,116,33,101,118,48]⟩] ac af af hL hLl;have n4_1:=cP L (q+1+1) 9 ac af af hL hLl;have o4_2:=c9 L (q+1+1) [⟨#[116,116,121,48]⟩,⟨#[116,116,121,49]⟩,⟨#[105,110,112,117,116,33,101,118,48]⟩] ac af af hL hLl;have n4_2:=cP L (q+1+1+1) 9 ac af af hL hLl;by_cases h0:0 < l.length
  case neg =>
   have h0':¬ (0:Int) < (l.length:Int):=ac;repeat' ((first|(refine plc [0] (o4_0) ?_ ?_;push_cast [O,U,h0'];rintro r os ⟨o,om,rfl,rfl⟩)|(refine plc [0] (n4_0) ?_ ?_;push_cast [O,U,h0'];rintro r os ⟨nu,⟨nua,nub⟩,rfl,rfl⟩)|refine ae ?_|refine pif ?_ ?_<;>intro h<;>try exact pN h)<;>push_cast [O,U,h0'])
   all_goals (refine K9 [0] ?_;push_cast [O,U])
   all_goals exact ⟨_,_,aE _,aB _,⟨ix,0,o,o,s1,s2,s3,3,1+nu,at_⟩,q+1+1,⟨mC.mk' (cJ af om) (dA af om) z1 z2 z3 ⟨ac,ac⟩ ac has,g2,g3⟩,ac,rfl,rfl⟩
  have h0':(0:Int) < (l.length:Int):=ac;repeat' ((first|(refine plc [0] (n2) ?_ ?_;push_cast [O,U,h0'];rintro r os ⟨v2,⟨v2a,v2b⟩,rfl,rfl⟩)|(refine eQ 8 ?_)|(refine plc [0] (o4_1) ?_ ?_;push_cast [O,U,h0'];rintro r os ⟨o,om,rfl,rfl⟩)|(refine plc [0] (n4_1) ?_ ?_;push_cast [O,U,h0'];rintro r os ⟨nu,⟨nua,nub⟩,rfl,rfl⟩)|refine ae ?_|refine pif ?_ ?_<;>intro h<;>try exact pN h)<;>push_cast [O,U,h0'])
  ·obtain ⟨f,hf⟩:∃ f,kf (dN L (q+1)) l.length=f:=⟨_,rfl⟩
   have hfb:=fy (dN L (q+1)) l.length h0';rw [hf] at hfb;obtain ⟨g,rfl⟩:∃ g:Nat,f=(g:Int):=⟨f.toNat,ac⟩
   have hgl:g < l.length:=ac;have hnx:=fj L (q+1) l.length ac ac hL hLl;rw [hf] at hnx;refine dd ?_;(refine aO aj ?_;try simp only [aP,rA];repeat' first|((refine plE [0] hnx ?_ ?_;(focus (push_cast [O,U,  hgl];done));push_cast [O,U,  hgl]))|((refine plc [0] (o4_2) ?_ ?_;push_cast [O,U,  hgl];rintro r os ⟨o,om,rfl,rfl⟩;push_cast [O,U,  hgl]))|((refine plc [0] (n4_2) ?_ ?_;push_cast [O,U,  hgl];rintro r os ⟨nu,⟨nua,nub⟩,rfl,rfl⟩;push_cast [O,U,  hgl]))|((first|refine pah 0 ?_|refine pah 2 ?_|refine pah 3 ?_|refine pah 5 ?_|refine pah 6 ?_|refine pah 8 ?_);push_cast [O,U,  hgl])|(refine pad ?_;try push_cast [O,U,  hgl])|((first|refine pas [1] ?_|refine pas [4] ?_|refine pas [7] ?_|refine pas [9] ?_);push_cast [O,U,  hgl])|((first|refine pas [1,4] ?_|refine pas [1,7] ?_|refine pas [1,9] ?_|refine pas [4,7] ?_|refine pas [4,9] ?_|refine pas [7,9] ?_);push_cast [O,U,  hgl];refine ⟨?_,?_⟩)|((first|refine pas [1,4,7] ?_|refine pas [1,4,9] ?_|refine pas [1,7,9] ?_|refine pas [4,7,9] ?_);push_cast [O,U,  hgl];refine ⟨?_,?_,?_⟩));all_goals (refine K9 [0] ?_;push_cast [O,U])
   all_goals exact ⟨_,_,aE _,aB _,⟨ix,(l.getD g default).index,o,o,s1,s2,s3,3,1+nu,at_⟩,q+1+1+1+1,⟨mC.mk' (cJ af om) (dA af om) z1 z2 z3 ⟨ac,ac⟩ ac has,g2,g3⟩,ac,rfl,rfl⟩
  ·all_goals (refine K9 [0] ?_;push_cast [O,U])
   all_goals exact ⟨_,_,aE _,aB _,⟨ix,0,o,o,s1,s2,s3,3,1+nu,at_⟩,q+1+1+1,⟨mC.mk' (cJ af om) (dA af om) z1 z2 z3 ⟨ac,ac⟩ ac has,g2,g3⟩,ac,rfl,rfl⟩
 have o4_0:=c9 L (q) [⟨#[112,99,105,48]⟩,⟨#[117,115,98,49]⟩,⟨#[49,45,49]⟩,⟨#[112,111,114,116]⟩] ac af af hL hLl;have o4_1:=c9 L (q+1) [⟨#[112,99,105,48]⟩,⟨#[117,115,98,49]⟩,⟨#[49,45,49]⟩,⟨#[112,111,114,116]⟩] ac af af hL hLl;have o4_2:=c9 L (q+1+1) [⟨#[112,99,105,48]⟩,⟨#[117,115,98,49]⟩,⟨#[49,45,49]⟩,⟨#[112,111,114,116]⟩] ac af af hL hLl;by_cases h0:0 < l.length
 case neg =>
  have h0':¬ (0:Int) < (l.length:Int):=ac;repeat' ((first|(refine plc [0] (o4_0) ?_ ?_;push_cast [O,U,k4,k2,k3,h0'];rintro r os ⟨o,om,rfl,rfl⟩)|refine ae ?_|refine pif ?_ ?_<;>intro h<;>try exact pN h)<;>push_cast [O,U,k4,k2,k3,h0'])
  all_goals (refine K9 [0] ?_;push_cast [O,U])
  all_goals exact ⟨_,_,aE _,aB _,⟨ix,0,o,o,s1,s2,s3,kd,0,at_⟩,q+1,⟨mC.mk' (cJ af om) (dA af om) z1 z2 z3 ⟨af,af⟩ ac has,g2,g3⟩,ac,rfl,rfl⟩
 have h0':(0:Int) < (l.length:Int):=ac;repeat' ((first|(refine plc [0] (n2) ?_ ?_;push_cast [O,U,k4,k2,k3,h0'];rintro r os ⟨v2,⟨v2a,v2b⟩,rfl,rfl⟩)|(refine eQ 8 ?_)|(refine plc [0] (o4_1) ?_ ?_;push_cast [O,U,k4,k2,k3,h0'];rintro r os ⟨o,om,rfl,rfl⟩)|refine ae ?_|refine pif ?_ ?_<;>intro h<;>try exact pN h)<;>push_cast [O,U,k4,k2,k3,h0'])
 ·obtain ⟨f,hf⟩:∃ f,kf (dN L (q+1)) l.length=f:=⟨_,rfl⟩
  have hfb:=fy (dN L (q+1)) l.length h0';rw [hf] at hfb;obtain ⟨g,rfl⟩:∃ g:Nat,f=(g:Int):=⟨f.toNat,ac⟩
  have hgl:g < l.length:=ac;have hnx:=fj L (q+1) l.length ac ac hL hLl;rw [hf] at hnx;refine dd ?_;(refine aO aj ?_;try simp only [aP,rA];repeat' first|((refine plE [0] hnx ?_ ?_;(focus (push_cast [O,U,  k4,k2,k3,hgl];done));push_cast [O,U,  k4,k2,k3,hgl]))|((refine plc [0] (o4_2) ?_ ?_;push_cast [O,U,  k4,k2,k3,hgl];rintro r os ⟨o,om,rfl,rfl⟩;push_cast [O,U,  k4,k2,k3,hgl]))|((first|refine pah 0 ?_|refine pah 2 ?_|refine pah 3 ?_|refine pah 5 ?_|refine pah 6 ?_|refine pah 8 ?_);push_cast [O,U,  k4,k2,k3,hgl])|(refine pad ?_;try push_cast [O,U,  k4,k2,k3,hgl])|((first|refine pas [1] ?_|refine pas [4] ?_|refine pas [7] ?_|refine pas [9] ?_);push_cast [O,U,  k4,k2,k3,hgl])|((first|refine pas [1,4] ?_|refine pas [1,7] ?_|refine pas [1,9] ?_|refine pas [4,7] ?_|refine pas [4,9] ?_|refine pas [7,9] ?_);push_cast [O,U,  k4,k2,k3,hgl];refine ⟨?_,?_⟩)|((first|refine pas [1,4,7] ?_|refine pas [1,4,9] ?_|refine pas [1,7,9] ?_|refine pas [4,7,9] ?_);push_cast [O,U,  k4,k2,k3,hgl];refine ⟨?_,?_,?_⟩));all_goals (refine K9 [0] ?_;push_cast [O,U])
  all_goals exact ⟨_,_,aE _,aB _,⟨ix,(l.getD g default).index,o,o,s1,s2,s3,kd,0,at_⟩,q+1+1+1,⟨mC.mk' (cJ af om) (dA af om) z1 z2 z3 ⟨af,af⟩ ac has,g2,g3⟩,ac,rfl,rfl⟩
 ·all_goals (refine K9 [0] ?_;push_cast [O,U])
  all_goals exact ⟨_,_,aE _,aB _,⟨ix,0,o,o,s1,s2,s3,kd,0,at_⟩,q+1+1,⟨mC.mk' (cJ af om) (dA af om) z1 z2 z3 ⟨af,af⟩ ac has,g2,g3⟩,ac,rfl,rfl⟩
set_option maxRecDepth 20000
def fK (n v:ByteArray) (s:List Atr × Bool) (x:Atr):List Atr × Bool :=
 let s1:=if !s.2 && !bh x.name n then (s.1++[⟨n,v⟩],true) else s
 if x.name=n then s1 else (s1.1++[x],s1.2)
def toA (n v:ByteArray) (l:List Atr):List Atr × Bool:=l.foldl (fK n v) ([],decide (v=⟨#[]⟩))
def zj (l:List Atr) (n v:ByteArray):List Atr:=if (toA n v l).2 then (toA n v l).1 else (toA n v l).1++[⟨n,v⟩]
theorem FA (n v:ByteArray) (l:List Atr) (x:Atr):toA n v (l++[x])=fK n v (toA n v l) x:=by simp [toA]
theorem lg {n v:ByteArray} {l:List Atr} {k:Nat} (hk:k < l.length) {s s2:List Atr × Bool} (h:toA n v (l.take k)=s) (hs:fK n v s (l.getD k default)=s2):toA n v (l.take (k+1))=s2:=by
 rw [List.take_succ_eq_append_getElem hk,FA,h,← ai l hk,hs]
set_option maxHeartbeats 2000000 in
theorem Ci (l:List Atr) (n v:ByteArray) (hb:l.length≤1000000) :
  ah prog 85 [.c (.sl 2 (l.map Atr.d)),.c (.v (.string n)),.c (.v (.string v))] [] fun r os=>r = .c (.sl 2 ((zj l n v).map Atr.d))∧os=[]:=by
 refine aw func85 ntmps85 results85 ?_;push_cast [O,U];have cB:aH 10 []:=trivial;repeat' ((first|refine ae ?_|refine pif ?_ ?_<;>intro h<;>try exact pN h)<;>push_cast [O,U])
 refine aF (dm 7 97 2 ac (by push_cast [O,U])) ?_;push_cast [O,U];(apply ap (α:=Nat × List Atr × Bool) 10 [] (fun x=>[(9,.c (.v (.int .i64 x.1))),(8,.c (.v (.bool x.2.2))),(7,.c (.own 0 x.2.1.length))]) (fun x=>[(0,.arr 97 2 (x.2.1.map Atr.d))]) (fun x=>x.1≤l.length∧toA n v (l.take x.1)=x.2∧x.2.1.length≤2 * x.1) (fun x=>l.length - x.1) ((0,[],decide (v=⟨#[]⟩)));(focus ((try push_cast [O,U]);rfl));(focus exact ⟨Nat.zero_le _,rfl,Nat.zero_le _⟩);(focus ((refine weak_fg ?_;try push_cast [O,U]))));rintro ⟨k,o,done⟩ ⟨hk,h1,h2⟩;simp only at hk h1 h2 ⊢;push_cast [O,U];by_cases hlt:k < l.length
 ·cases done
  ·cases hc:bh (l.getD k default).name n
   ·by_cases hn:(l.getD k default).name=n
    ·have ht:=lg hlt h1 (s2:=(o++[⟨n,v⟩],true)) (by simp only [fK];rw [if_pos hn,hc];rfl);rw [hn] at hc;repeat' ((first|refine ae ?_|refine pif ?_ ?_<;>intro h<;>try exact pN h)<;>push_cast [O,U,hc,hn])
     exact ⟨(k+1,o++[⟨n,v⟩],true),⟨by simp only;omega,ht,by simp only [List.length_append,List.length_singleton];omega⟩,aA,by simp only;omega⟩
    ·have ht:=lg hlt h1 (s2:=(o++[⟨n,v⟩]++[l.getD k default],true)) (by simp only [fK];rw [if_neg hn,hc];rfl);repeat' ((first|refine ae ?_|refine pif ?_ ?_<;>intro h<;>try exact pN h)<;>push_cast [O,U,hc,hn])
     exact ⟨(k+1,o++[⟨n,v⟩]++[l.getD k default],true),⟨by simp only;omega,ht,by simp only [List.length_append,List.length_singleton];omega⟩,aA,by simp only;omega⟩
   ·by_cases hn:(l.getD k default).name=n
    ·rw [hn] at hc;exact absurd (dJ hc) (fun h=>h rfl)
    ·have ht:=lg hlt h1 (s2:=(o++[l.getD k default],false)) (by simp only [fK];rw [if_neg hn,hc];rfl);repeat' ((first|refine ae ?_|refine pif ?_ ?_<;>intro h<;>try exact pN h)<;>push_cast [O,U,hc,hn])
     exact ⟨(k+1,o++[l.getD k default],false),⟨by simp only;omega,ht,by simp only [List.length_append,List.length_singleton];omega⟩,aA,by simp only;omega⟩
  ·by_cases hn:(l.getD k default).name=n
   ·have ht:=lg hlt h1 (s2:=(o,true)) (by simp only [fK];rw [if_pos hn];rfl);repeat' ((first|refine ae ?_|refine pif ?_ ?_<;>intro h<;>try exact pN h)<;>push_cast [O,U,hn])
    exact ⟨(k+1,o,true),⟨by simp only;omega,ht,by simp only;omega⟩,aA,by simp only;omega⟩
   ·have ht:=lg hlt h1 (s2:=(o++[l.getD k default],true)) (by simp only [fK];rw [if_neg hn];rfl);repeat' ((first|refine ae ?_|refine pif ?_ ?_<;>intro h<;>try exact pN h)<;>push_cast [O,U,hn])
    exact ⟨(k+1,o++[l.getD k default],true),⟨by simp only;omega,ht,by simp only [List.length_append,List.length_singleton];omega⟩,aA,by simp only;omega⟩
 ·have hk2:k=l.length:=ac;subst hk2;rw [List.take_length] at h1;cases done
  ·have hr:zj l n v=o++[⟨n,v⟩]:=by unfold zj;rw [h1];rfl
   rw [hr];repeat' ((first|refine ae ?_|refine pif ?_ ?_<;>intro h<;>try exact pN h)<;>push_cast [O,U])
   exact am []
  ·have hr:zj l n v=o:=by unfold zj;rw [h1];rfl
   rw [hr];repeat' ((first|refine ae ?_|refine pif ?_ ?_<;>intro h<;>try exact pN h)<;>push_cast [O,U])
   exact am []
end
abbrev Up (a b:Atr):Prop:=bh a.name b.name=true
instance:DecidableRel Up:=fun a b=>inferInstanceAs (Decidable (bh a.name b.name=true))
def eM (l:List Atr) (n:ByteArray):ByteArray × Bool :=
 match l.find? (fun a=>decide (a.name=n)) with
 | some a=>(a.value,true)
 | none=>(⟨#[]⟩,false)
def pos (l:List Atr) (n:ByteArray):Nat:=(l.takeWhile fun y=>bh y.name n).length
def hit (l:List Atr) (n:ByteArray):Bool:=match l[pos l n]? with
 | some y=>decide (y.name=n)
 | none=>false
def rY (l:List Atr) (n v:ByteArray):List Atr :=
 l.take (pos l n)++(if v=⟨#[]⟩ then [] else [⟨n,v⟩])++l.drop (if hit l n then pos l n+1 else pos l n)
theorem JA (l:List Atr) (n:ByteArray):pos l n≤l.length:=by
 have:=congrArg List.length (List.takeWhile_append_dropWhile (p:=fun y:Atr=>bh y.name n) (l:=l));rw [List.length_append] at this;unfold pos;omega
theorem JB {l:List Atr} {n:ByteArray}:∀ {i:Nat},i≤l.length → (∀ y ∈ l.take i,bh y.name n=true) → (∀ y ∈ l.drop i,bh y.name n=false) → pos l n=i:=by
 induction l with
 | nil=>intro i h _ _;simp at h;subst h;rfl
 | cons a l ih =>
  intro i h h1 h2;unfold pos;cases i with
  | zero=>rw [List.takeWhile_cons_of_neg (by simpa using h2 a (by simp))];rfl
  | succ i =>
   rw [List.takeWhile_cons_of_pos (by simpa using h1 a (by simp)),List.length_cons];exact congrArg (· + 1) (ih (by simpa using h) (fun y hy=>h1 y (by simp [hy])) (fun y hy=>h2 y (by simpa using hy)))
theorem rZ (c:ByteArray):eM [] c=(⟨#[]⟩,false):=rfl
theorem cj (x:Atr) (t:List Atr) (c:ByteArray):eM (x :: t) c=if x.name=c then (x.value,true) else eM t c:=by
 by_cases h:x.name=c<;>simp [eM,List.find?_cons,h]
theorem jk {l:List Atr} {c:ByteArray} (h:∀ y ∈ l,y.name≠c):eM l c=(⟨#[]⟩,false):=by
 induction l with
 | nil=>rfl
 | cons x t ih =>
  rw [cj,if_neg (h x (by simp)),ih (fun y hy=>h y (by simp [hy]))]
theorem ui {l:List Atr} {c:ByteArray} (h:(eM l c).2=true):∃ y ∈ l,y.name=c∧(eM l c)=(y.value,true):=by
 induction l with
 | nil=>cases h
 | cons x t ih =>
  rw [cj] at h ⊢;by_cases hx:x.name=c
  ·rw [if_pos hx];exact ⟨x,by simp,hx,rfl⟩
  ·rw [if_neg hx] at h ⊢;obtain ⟨y,hy,h1,h2⟩:=ih h;exact ⟨y,by simp [hy],h1,h2⟩
theorem FB:∀ {l m:List Atr},l.Pairwise Up → m.Pairwise Up → (∀ c,eM l c=eM m c) → l=m
 | [],[],_,_,_=>rfl
 | [],y :: m,_,_,h=>by
  have:=h y.name;rw [cj,if_pos rfl,rZ] at this;simp at this
 | x :: l,[],_,_,h=>by
  have:=h x.name;rw [cj,if_pos rfl,rZ] at this;simp at this
 | x :: l,y :: m,hl,hm,h=>by
  have hxy:x.name=y.name:=by
   have h1:=h x.name;have h2:=h y.name;rw [cj,if_pos rfl] at h1;rw [cj y m y.name,if_pos rfl] at h2;obtain ⟨a,ha,ha1,_⟩:=ui (l:=y :: m) (c:=x.name) (by rw [← h1]);obtain ⟨b,hb,hb1,_⟩:=ui (l:=x :: l) (c:=y.name) (by rw [h2]);rcases List.mem_cons.1 ha with rfl|ha
   ·exact ha1.symm
   ·rcases List.mem_cons.1 hb with rfl|hb
    ·exact hb1
    ·have e1:=(List.pairwise_cons.1 hm).1 a ha;have e2:=(List.pairwise_cons.1 hl).1 b hb;unfold Up at e1 e2;rw [ha1] at e1;rw [hb1] at e2;rw [kj e1] at e2;cases e2
  have hv:x.value=y.value:=by
   have h1:=h x.name;rw [cj,if_pos rfl,cj,if_pos hxy.symm] at h1;exact congrArg Prod.fst h1
  have hx:x=y:=by
   obtain ⟨a,b⟩:=x;obtain ⟨c,d⟩:=y;simp only at hxy hv;rw [hxy,hv]
  subst hx;rw [List.pairwise_cons] at hl hm;rw [FB hl.2 hm.2 fun c=>?_];by_cases hc:x.name=c
  ·subst hc;rw [jk fun y hy=>(dJ (hl.1 y hy)).symm,jk fun y hy=>(dJ (hm.1 y hy)).symm]
  ·have:=h c
   rwa [cj,if_neg hc,cj,if_neg hc] at this
def one (n v:ByteArray):List Atr:=if v=⟨#[]⟩ then [] else [⟨n,v⟩]
def cX (n v:ByteArray):List Atr → List Atr
 | []=>one n v
 | x :: t=>if bh x.name n then x :: cX n v t else one n v++(if x.name=n then t else x :: t)
theorem uj (n v:ByteArray):∀ l:List Atr,rY l n v=cX n v l
 | []=>by simp [rY,pos,hit,cX,one]
 | x :: t=>by
  have ih:=uj n v t;by_cases hb:bh x.name n=true
  ·have hp:pos (x :: t) n=pos t n+1:=by simp [pos,hb]
   have hh:hit (x :: t) n=hit t n:=by simp only [hit,hp,List.getElem?_cons_succ]
   rw [cX,if_pos hb,← ih];simp only [rY,hp,hh,List.take_succ_cons,List.cons_append];congr 2;split<;>simp
  ·have hp:pos (x :: t) n=0:=by simp [pos,hb]
   have hh:hit (x :: t) n=decide (x.name=n):=by simp [hit,hp]
   rw [cX,if_neg hb];simp only [rY,hp,hh,one,List.take_zero,List.nil_append];congr 1;by_cases hx:x.name=n<;>simp [hx]
theorem vl {n v:ByteArray} {y:Atr} (h:y ∈ one n v):y=⟨n,v⟩:=by
 unfold one at h;split at h
 ·simp at h
 ·simpa using h
theorem xx {n v:ByteArray} {y:Atr}:∀ {l:List Atr},y ∈ cX n v l → y=⟨n,v⟩∨y ∈ l
 | [],h=>.inl (vl h)
 | x :: t,h=>by
  rw [cX] at h;split at h
  ·rcases List.mem_cons.1 h with rfl|h
   ·exact .inr (by simp)
   ·rcases xx h with h|h
    ·exact .inl h
    ·exact .inr (by simp [h])
  ·rcases List.mem_append.1 h with h|h
   ·exact .inl (vl h)
   ·split at h
    ·exact .inr (by simp [h])
    ·exact .inr h
theorem FC (n v:ByteArray):(one n v).Pairwise Up:=by
 unfold one;split<;>simp
theorem AE {n v:ByteArray}:∀ {l:List Atr},l.Pairwise Up → (cX n v l).Pairwise Up
 | [],_=>FC n v
 | x :: t,h=>by
  have hc:=List.pairwise_cons.1 h;rw [cX];split
  ·rename_i hb;rw [List.pairwise_cons];refine ⟨fun y hy=>?_,AE hc.2⟩;rcases xx hy with rfl|hy
   ·exact hb
   ·exact hc.1 y hy
  ·rename_i hb;rw [List.pairwise_append];refine ⟨FC n v,?_,fun y hy z hz=>?_⟩
   ·split
    ·exact hc.2
    ·exact h
   ·rw [vl hy];show bh n z.name=true;have hb':bh x.name n=false:=by simpa using hb
    by_cases hx:x.name=n
    ·rw [if_pos hx] at hz;rw [← hx];exact hc.1 z hz
    ·rw [if_neg hx] at hz;have hnx:bh n x.name=true:=by
      rcases hq:bh n x.name with _|_
      ·exact absurd (ip hb' hq) hx
      ·rfl
     rcases List.mem_cons.1 hz with rfl|hz
     ·exact hnx
     ·exact fW hnx (hc.1 z hz)
theorem xy (n v c:ByteArray) (t:List Atr):eM (one n v++t) c=if n=c∧v≠⟨#[]⟩ then (v,true) else eM t c:=by
 unfold one;by_cases hv:v=⟨#[]⟩
 ·simp [hv]
 ·rw [if_neg hv];show eM (⟨n,v⟩ :: t) c=_;rw [cj];simp [hv]
theorem xz {n v c:ByteArray}:∀ {l:List Atr},l.Pairwise Up → eM (cX n v l) c=if c=n then (v,decide (v≠⟨#[]⟩)) else eM l c
 | [],_=>by
  have:=xy n v c [];rw [List.append_nil] at this;rw [cX,this];by_cases hv:v=⟨#[]⟩<;>by_cases hc:c=n<;>simp [hv,hc,rZ,eq_comm];intro h;exact absurd h.symm hc
 | x :: t,h=>by
  have hcs:=List.pairwise_cons.1 h;have ih:=xz (n:=n) (v:=v) (c:=c) hcs.2;rw [cX];split
  ·rename_i hb;rw [cj,cj,ih];by_cases hx:x.name=c
   ·have:c≠n:=by rw [← hx];exact dJ hb
    simp [hx,this]
   ·simp [hx]
  ·rename_i hb;have hb':bh x.name n=false:=by simpa using hb
   rw [xy];by_cases hc:c=n
   ·subst hc;by_cases hv:v=⟨#[]⟩
    ·subst hv;simp only [ne_eq,not_true_eq_false,and_false,if_false,if_true,decide_false];refine jk fun y hy=>?_
     by_cases hx:x.name=c
     ·rw [if_pos hx] at hy;have:=hcs.1 y hy;unfold Up at this;rw [hx] at this;exact (dJ this).symm
     ·rw [if_neg hx] at hy;rcases List.mem_cons.1 hy with rfl|hy
      ·exact hx
      ·intro hyc;have h1:=hcs.1 y hy;unfold Up at h1;rw [hyc,hb'] at h1;cases h1
    ·simp [hv]
   ·have hnc:¬ (n=c∧v≠⟨#[]⟩):=fun h=>hc h.1.symm
    rw [if_neg hnc,if_neg hc,cj];by_cases hx:x.name=n
    ·rw [if_pos hx,if_neg (by rw [hx];exact fun h=>hc h.symm)]
    ·rw [if_neg hx,cj]
theorem oR (n v:ByteArray):∀ (l o:List Atr),l.foldl (fK n v) (o,true)=(o++l.filter (fun x=>decide (x.name≠n)),true)
 | [],o=>by simp
 | x :: t,o=>by
  have hs:fK n v (o,true) x=(if x.name=n then o else o++[x],true):=by by_cases hx:x.name=n<;>simp [fK,hx]
  rw [List.foldl_cons,hs,oR n v t];by_cases hx:x.name=n<;>simp [hx]
theorem r4 {n:ByteArray} {t:List Atr} (h:∀ y ∈ t,y.name≠n):t.filter (fun x=>decide (x.name≠n))=t:=by
 rw [List.filter_eq_self];intro y hy;simpa using h y hy
theorem uk (n v:ByteArray) (hv:v≠⟨#[]⟩):∀ (l o:List Atr),l.Pairwise Up → (if (l.foldl (fK n v) (o,false)).2 then (l.foldl (fK n v) (o,false)).1 else (l.foldl (fK n v) (o,false)).1++[⟨n,v⟩])=o++cX n v l
 | [],o,_=>by simp [cX,one,hv]
 | x :: t,o,h=>by
  have hcs:=List.pairwise_cons.1 h;rw [List.foldl_cons,cX];by_cases hb:bh x.name n=true
  ·have hx:=dJ hb;have hs:fK n v (o,false) x=(o++[x],false):=by simp [fK,hb,hx]
   rw [hs,uk n v hv t _ hcs.2,if_pos hb];simp
  ·have hb':bh x.name n=false:=by simpa using hb
   have hs:fK n v (o,false) x=(if x.name=n then o++[⟨n,v⟩] else o++[⟨n,v⟩]++[x],true):=by by_cases hx:x.name=n<;>simp [fK,hb',hx,mI]
   have hr:t.filter (fun x=>decide (x.name≠n))=t:=r4 fun y hy=>by
    intro e;have h1:=hcs.1 y hy;unfold Up at h1;rw [e,hb'] at h1;cases h1
   rw [hs,oR,hr,if_neg hb];by_cases hx:x.name=n<;>simp [hx,one,hv]
theorem pL (n:ByteArray):∀ l:List Atr,l.Pairwise Up → l.filter (fun x=>decide (x.name≠n))=cX n ⟨#[]⟩ l
 | [],_=>by simp [cX,one]
 | x :: t,h=>by
  have hcs:=List.pairwise_cons.1 h;rw [cX];by_cases hb:bh x.name n=true
  ·rw [if_pos hb,← pL n t hcs.2];simp [dJ hb]
  ·have hb':bh x.name n=false:=by simpa using hb
   have hr:t.filter (fun x=>decide (x.name≠n))=t:=r4 fun y hy=>by
    intro e;have h1:=hcs.1 y hy;unfold Up at h1;rw [e,hb'] at h1;cases h1
   rw [if_neg hb,List.filter_cons,hr];by_cases hx:x.name=n<;>simp [hx,one]
theorem H7 {l:List Atr} (h:l.Pairwise Up) (n v:ByteArray):zj l n v=cX n v l:=by
 unfold zj toA;by_cases hv:v=⟨#[]⟩
 ·subst hv;simp only [decide_true];rw [oR];simp only [if_true,List.nil_append];exact pL n l h
 ·simp only [decide_eq_false hv];have:=uk n v hv l [] h;simpa using this
theorem r6 (n v:ByteArray):∀ l:List Atr,(cX n v l).length≤l.length+1
 | []=>by unfold cX one;split<;>simp
 | x :: t=>by
  have ih:=r6 n v t;have h1:(one n v).length≤1:=by unfold one;split<;>simp
  rw [cX];split
  ·simp;omega
  ·split<;>simp<;>omega
end Go.Proofs.YtmbbkfffcflfcaaGreatDoor
