/- What the program computes, and the plain laws of it, part 26. -/
import Derived.Test.YthconflkbeipoaaGreatDoorS25
namespace Go.Proofs.YthconflkbeipoaaGreatDoor
attribute [local irreducible] PL QL PWPr PCalls Weak RetK Kontr PA
open Go.RowKit
open IntWalk renaming iteOmega → iO, toNatUp → tN
set_option linter.unusedVariables false
set_option linter.unusedSimpArgs false
set_option maxRecDepth 20000
structure WDev (d:Dev):Prop where
 ok:d.ok
 orig:d.original.size≤20
 att:d.attrs.length≤10
 num:0≤d.number∧d.number≤9
theorem mem_fit20 {l:List ByteArray} {s:ByteArray} (h:l.all (fun s=>decide (s.size≤20))=true) (hm:s ∈ l):s.size≤20:=by
 have:=List.all_eq_true.1 h s hm
 simpa using this
theorem WDev.mk' {i p:Int} {nm o s dr al:ByteArray} {kd n:Int} {at_:List Atr} (h1:nm.size≤100) (h2:o.size≤20) (h3:s.size≤100) (h4:dr.size≤100) (h5:al.size≤100) (h6:0≤n∧n≤9) (h7:at_.length≤10) (h8:ShortA at_):WDev ⟨i,p,nm,o,s,dr,al,kd,n,at_⟩ :=
 ⟨⟨fit_of h1 (by decide),fit_of h2 (by decide),fit_of h3 (by decide),fit_of h4 (by decide),fit_of h5 (by decide),fun a ha=>⟨fit_of (h8 a ha).1 (by decide),fit_of (h8 a ha).2 (by decide)⟩,by show at_.length≤_;omega,by show o.size≤_;omega⟩,h2,h7,h6⟩
set_option maxHeartbeats 8000000 in
theorem wdev_ex (L:List Int) (k:Nat) (l:List Dev) (B:Nat) (hk:k < 90000) (hl:l.length≤1000) (hB:B≤100000) (hi:∀ d ∈ l,d.index≤B) (hi0:∀ d ∈ l,0≤d.index) (hL:∀ x ∈ L,-9223372036854775808≤x∧x≤9223372036854775807) (hLl:L.length≤9223372036854775807) :
  PCalls Tryz.prog 43 [.c (.ptr 0 0),.agg (trE l)] [tape L k] fun r os=>∃ (d:Dev) (k':Nat),(WDev d∧1≤d.index∧d.index≤B+1)∧k'≤k+20∧r = .agg d.e∧os=[tape L k']:=by
 refine pcalls_of Tryz.func43 rfl (by simp [Tryz.ntmps43]) ?_
 rw [Tryz.ntmps43,Tryz.results43]
 push_cast [iO,tN]
 have cB:CutB 8 [61]:=trivial
 have n1:=next_ex L (k+1) 4 (by omega) (by decide) (by decide) hL hLl
 have o1:=one_ex L k [⟨#[98,108,111,99,107]⟩,⟨#[117,115,98]⟩,⟨#[110,101,116]⟩,⟨#[112,99,105]⟩] (by omega) (by decide) (by decide) hL hLl
 have o2:=one_ex L (k+1+1) [⟨#[]⟩,⟨#[]⟩,⟨#[104,105,100]⟩,⟨#[110,105,99]⟩] (by omega) (by decide) (by decide) hL hLl
 have o3:=one_ex L (k+1+1+1) [⟨#[]⟩,⟨#[117,115,98,58,118,49]⟩,⟨#[112,99,105,58,100,50]⟩,⟨#[117,115,98,58,118,50]⟩] (by omega) (by decide) (by decide) hL hLl
 have a1:=wattrs_ex L (k+1+1+1+1) (by omega) hL hLl
 repeat' (first |  ((refine plc [0] (o1) ?_ ?_;push_cast [iO,tN];rintro r os ⟨s1,m1,rfl,rfl⟩;push_cast [iO,tN]))|((refine plc [0] (n1) ?_ ?_;push_cast [iO,tN];rintro r os ⟨v1,⟨va,vb⟩,rfl,rfl⟩;push_cast [iO,tN]))|((refine plc [0] (o2) ?_ ?_;push_cast [iO,tN];rintro r os ⟨s2,m2,rfl,rfl⟩;push_cast [iO,tN]))|((refine plc [0] (o3) ?_ ?_;push_cast [iO,tN];rintro r os ⟨s3,m3,rfl,rfl⟩;push_cast [iO,tN]))|((refine plc [0] (a1) ?_ ?_;push_cast [iO,tN];rintro r os ⟨at_,q,⟨hal,has⟩,hq,rfl,rfl⟩;push_cast [iO,tN]))  | ((first|refine pC ?_|refine pQC ?_|refine pU ?_);push_cast [iO,tN])|(refine pif (fun h=>?_) (fun h=>?_)<;>first|exact pN h|push_cast [iO,tN]))
 have z1:s1.size≤100:=mem_fit (by decide) m1
 have z2:s2.size≤100:=mem_fit (by decide) m2
 have z3:s3.size≤100:=mem_fit (by decide) m3
 have hv1:1≤1+v1∧1+v1≤4:=by omega
 generalize 1+v1=kd at hv1 ⊢
 (apply pwp_loop3 (α:=Nat × Int) 8 [61] (fun x=>[(6,.c (.v (.int .i64 x.1)))]) (fun x=>[(3,.box 49 (Dev.e ⟨x.2,0,⟨#[]⟩,⟨#[]⟩,s1,s2,s3,kd,0,at_⟩))]) (fun x=>x.1≤l.length∧1≤x.2∧x.2≤B+1) (fun x=>l.length - x.1) ((0,1));(focus ((try push_cast [iO,tN]);rfl));(focus exact ⟨Nat.zero_le _,by simp,by simp only;omega⟩);(focus ((refine weak_fg ?_;try push_cast [iO,tN]))))
 rintro ⟨j,ix⟩ ⟨g1,g2,g3⟩
 simp only at g1 g2 g3
 push_cast [iO,tN]
 by_cases hlt:j < l.length
 ·have hij:=hi _ (getD_mem hlt)
  have hij0:=hi0 _ (getD_mem hlt)
  repeat' (first |  (refine hidR 5 ?_)  | ((first|refine pC ?_|refine pQC ?_|refine pU ?_);push_cast [iO,tN])|(refine pif (fun h=>?_) (fun h=>?_)<;>first|exact pN h|push_cast [iO,tN]))
  refine unhid ?_
  (refine pwp_cut 8 [61] ?_;refine pwp_drawn (by kernel_rfl) ?_;simp only [List.length_cons,List.length_nil,Nat.reduceAdd];refine pah 0 ?_;push_cast [iO,tN,  hlt];refine pah 2 ?_;push_cast [iO,tN,  hlt];refine pah 4 ?_;push_cast [iO,tN,  hlt];apply pa_hav;intro z6;apply pa_hav;intro z5;apply pa_hav;intro z4;apply pa_hav;intro z3;apply pa_hav;intro z2;apply pa_hav;intro z1;refine pas [1,3] ?_;push_cast [iO,tN,  hlt];refine ⟨?_,?_⟩;(focus (exact z1));(focus (refine pah 5 ?_;push_cast [iO,tN,  hlt];refine pah 6 ?_;push_cast [iO,tN,  hlt];exact z2));refine pas [3] ?_;push_cast [iO,tN,  hlt];(focus (refine pah 5 ?_;push_cast [iO,tN,  hlt];refine pah 6 ?_;push_cast [iO,tN,  hlt];exact z3));refine pas [1,7] ?_;push_cast [iO,tN,  hlt];refine ⟨?_,?_⟩;(focus (refine paw z3 ?_;refine weak_fg ?_;push_cast [iO,tN,  hlt]));(focus (refine pah 8 ?_;push_cast [iO,tN,  hlt];exact z4));refine pas [7] ?_;push_cast [iO,tN,  hlt];(focus (refine pah 8 ?_;push_cast [iO,tN,  hlt];refine pah 9 ?_;push_cast [iO,tN,  hlt];refine pah 10 ?_;push_cast [iO,tN,  hlt];exact z5));refine pas [1] ?_;push_cast [iO,tN,  hlt];(focus (refine pah 9 ?_;push_cast [iO,tN,  hlt];refine pah 10 ?_;push_cast [iO,tN,  hlt];refine paw z5 ?_;refine weak_fg ?_;push_cast [iO,tN,  hlt]));refine pas [11] ?_;push_cast [iO,tN,  hlt];refine paw z6 (weak_cutS 8 [61] _);push_cast [iO,tN,  hlt];refine pad ?_;push_cast [iO,tN,  hlt])
  repeat' (first|((first|refine pC ?_|refine pQC ?_|refine pU ?_);push_cast [iO,tN])|(refine pif (fun h=>?_) (fun h=>?_)<;>first|exact pN h|push_cast [iO,tN]))
  exact ⟨(j+1,if ix < (l.getD j default).index+1 then (l.getD j default).index+1 else ix),⟨by simp only;omega,by simp only;split<;>omega,by simp only;split<;>omega⟩,by (refine weak_fg ?_;push_cast [iO,tN]),by simp only;omega⟩
 have hjl:j=l.length:=by omega
 subst hjl
 have hlen:¬ l.length < l.length:=by omega
 have fits:l.length≤1000:=hl
 have n2:=next_ex L q 4 (by omega) (by decide) (by decide) hL hLl
 by_cases k4:kd=4
 ·subst k4
  have o4_0:=one_ex L (q) [⟨#[101,116,104,48]⟩,⟨#[101,116,104,49]⟩,⟨#[119,108,97,110,48]⟩] (by omega) (by decide) (by decide) hL hLl
  have o5_0:∀ o,PCalls Tryz.prog 14 [.c (.ptr 0 0),.c (.sl 1 ([o,o,⟨#[108,97,110,48]⟩,⟨#[101,116,104,49]⟩].map strD))] [tape L (q+1)] _:=fun o=>one_ex L (q+1) [o,o,⟨#[108,97,110,48]⟩,⟨#[101,116,104,49]⟩] (by omega) (by simp) (by simp) hL hLl
  have o4_1:=one_ex L (q+1) [⟨#[101,116,104,48]⟩,⟨#[101,116,104,49]⟩,⟨#[119,108,97,110,48]⟩] (by omega) (by decide) (by decide) hL hLl
  have o5_1:∀ o,PCalls Tryz.prog 14 [.c (.ptr 0 0),.c (.sl 1 ([o,o,⟨#[108,97,110,48]⟩,⟨#[101,116,104,49]⟩].map strD))] [tape L (q+1+1)] _:=fun o=>one_ex L (q+1+1) [o,o,⟨#[108,97,110,48]⟩,⟨#[101,116,104,49]⟩] (by omega) (by simp) (by simp) hL hLl
  have o4_2:=one_ex L (q+1+1) [⟨#[101,116,104,48]⟩,⟨#[101,116,104,49]⟩,⟨#[119,108,97,110,48]⟩] (by omega) (by decide) (by decide) hL hLl
  have o5_2:∀ o,PCalls Tryz.prog 14 [.c (.ptr 0 0),.c (.sl 1 ([o,o,⟨#[108,97,110,48]⟩,⟨#[101,116,104,49]⟩].map strD))] [tape L (q+1+1+1)] _:=fun o=>one_ex L (q+1+1+1) [o,o,⟨#[108,97,110,48]⟩,⟨#[101,116,104,49]⟩] (by omega) (by simp) (by simp) hL hLl
  by_cases h0:0 < l.length
  case neg =>
   have h0':¬ (0:Int) < (l.length:Int):=by omega
   repeat' (first|((refine plc [0] (o4_0) ?_ ?_;push_cast [iO,tN,h0'];rintro r os ⟨o,om,rfl,rfl⟩;push_cast [iO,tN,h0']))|((refine plc [0] (o5_0 o) ?_ ?_;push_cast [iO,tN,h0'];rintro r os ⟨nm,nmm,rfl,rfl⟩;push_cast [iO,tN,h0']))|((first|refine pC ?_|refine pQC ?_|refine pU ?_);push_cast [iO,tN,h0'])|(refine pif (fun h=>?_) (fun h=>?_)<;>first|exact pN h|push_cast [iO,tN,h0']))
   all_goals (refine retK_of [0] ?_;push_cast [iO,tN])
   all_goals have zn:nm.size≤100:=by (simp only [List.mem_cons,List.not_mem_nil,or_false] at nmm;rcases nmm with rfl|rfl|rfl|rfl;exact mem_fit (by decide) om;exact mem_fit (by decide) om;decide;decide)
   all_goals exact ⟨_,_,leP_refl _,leOs_refl _,⟨ix,0,nm,o,⟨#[110,101,116]⟩,s2,s3,4,0,at_⟩,q+1+1,⟨WDev.mk' zn (mem_fit20 (by decide) om) (by decide) z2 z3 ⟨by decide,by decide⟩ (by omega) has,g2,g3⟩,by omega,rfl,rfl⟩
  have h0':(0:Int) < (l.length:Int):=by omega
  repeat' (first|((refine plc [0] (n2) ?_ ?_;push_cast [iO,tN,h0'];rintro r os ⟨v2,⟨v2a,v2b⟩,rfl,rfl⟩;push_cast [iO,tN,h0']))|(refine hidR 8 ?_)|((refine plc [0] (o4_1) ?_ ?_;push_cast [iO,tN,h0'];rintro r os ⟨o,om,rfl,rfl⟩;push_cast [iO,tN,h0']))|((refine plc [0] (o5_1 o) ?_ ?_;push_cast [iO,tN,h0'];rintro r os ⟨nm,nmm,rfl,rfl⟩;push_cast [iO,tN,h0']))|((first|refine pC ?_|refine pQC ?_|refine pU ?_);push_cast [iO,tN,h0'])|(refine pif (fun h=>?_) (fun h=>?_)<;>first|exact pN h|push_cast [iO,tN,h0']))
  ·obtain ⟨f,hf⟩:∃ f,fold (tapeAt L (q+1)) l.length=f:=⟨_,rfl⟩
   have hfb:=fold_bds (tapeAt L (q+1)) l.length h0'
   rw [hf] at hfb
   obtain ⟨g,rfl⟩:∃ g:Nat,f=(g:Int):=⟨f.toNat,by omega⟩
   have hgl:g < l.length:=by omega
   have hnx:=next_pure L (q+1) l.length (by omega) (by omega) hL hLl
   rw [hf] at hnx
   refine unhid ?_
   (refine pwp_drawn (by kernel_rfl) ?_;try simp only [List.length_cons,List.length_nil,Nat.reduceAdd];repeat' first|((refine plc [0] (hnx) ?_ ?_;push_cast [iO,tN,  hgl];rintro r os ⟨rfl,rfl⟩;push_cast [iO,tN,  hgl]))|((refine plc [0] (o4_2) ?_ ?_;push_cast [iO,tN,  hgl];rintro r os ⟨o,om,rfl,rfl⟩;push_cast [iO,tN,  hgl]))|((refine plc [0] (o5_2 o) ?_ ?_;push_cast [iO,tN,  hgl];rintro r os ⟨nm,nmm,rfl,rfl⟩;push_cast [iO,tN,  hgl]))|((first|refine pah 0 ?_|refine pah 2 ?_|refine pah 3 ?_|refine pah 5 ?_|refine pah 6 ?_|refine pah 8 ?_);push_cast [iO,tN,  hgl])|(refine pad ?_;try push_cast [iO,tN,  hgl])|((first|refine pas [1] ?_|refine pas [4] ?_|refine pas [7] ?_|refine pas [9] ?_);push_cast [iO,tN,  hgl])|((first|refine pas [1,4] ?_|refine pas [1,7] ?_|refine pas [1,9] ?_|refine pas [4,7] ?_|refine pas [4,9] ?_|refine pas [7,9] ?_);push_cast [iO,tN,  hgl];refine ⟨?_,?_⟩)|((first|refine pas [1,4,7] ?_|refine pas [1,4,9] ?_|refine pas [1,7,9] ?_|refine pas [4,7,9] ?_);push_cast [iO,tN,  hgl];refine ⟨?_,?_,?_⟩))
   all_goals (refine retK_of [0] ?_;push_cast [iO,tN])
   all_goals have zn:nm.size≤100:=by (simp only [List.mem_cons,List.not_mem_nil,or_false] at nmm;rcases nmm with rfl|rfl|rfl|rfl;exact mem_fit (by decide) om;exact mem_fit (by decide) om;decide;decide)
   all_goals exact ⟨_,_,leP_refl _,leOs_refl _,⟨ix,(l.getD g default).index,nm,o,⟨#[110,101,116]⟩,s2,s3,4,0,at_⟩,q+1+1+1+1,⟨WDev.mk' zn (mem_fit20 (by decide) om) (by decide) z2 z3 ⟨by decide,by decide⟩ (by omega) has,g2,g3⟩,by omega,rfl,rfl⟩
  ·all_goals (refine retK_of [0] ?_;push_cast [iO,tN])
   all_goals have zn:nm.size≤100:=by (simp only [List.mem_cons,List.not_mem_nil,or_false] at nmm;rcases nmm with rfl|rfl|rfl|rfl;exact mem_fit (by decide) om;exact mem_fit (by decide) om;decide;decide)
   all_goals exact ⟨_,_,leP_refl _,leOs_refl _,⟨ix,0,nm,o,⟨#[110,101,116]⟩,s2,s3,4,0,at_⟩,q+1+1+1,⟨WDev.mk' zn (mem_fit20 (by decide) om) (by decide) z2 z3 ⟨by decide,by decide⟩ (by omega) has,g2,g3⟩,by omega,rfl,rfl⟩
 by_cases k2:kd=2
 ·subst k2
  have o4_0:=one_ex L (q) [⟨#[115,100,97]⟩,⟨#[115,100,98]⟩,⟨#[115,100,97,49]⟩,⟨#[115,100,97,50]⟩,⟨#[99,33,100,48]⟩] (by omega) (by decide) (by decide) hL hLl
  have n4_0:=next_ex L (q+1) 9 (by omega) (by decide) (by decide) hL hLl
  have o4_1:=one_ex L (q+1) [⟨#[115,100,97]⟩,⟨#[115,100,98]⟩,⟨#[115,100,97,49]⟩,⟨#[115,100,97,50]⟩,⟨#[99,33,100,48]⟩] (by omega) (by decide) (by decide) hL hLl
  have n4_1:=next_ex L (q+1+1) 9 (by omega) (by decide) (by decide) hL hLl
  have o4_2:=one_ex L (q+1+1) [⟨#[115,100,97]⟩,⟨#[115,100,98]⟩,⟨#[115,100,97,49]⟩,⟨#[115,100,97,50]⟩,⟨#[99,33,100,48]⟩] (by omega) (by decide) (by decide) hL hLl
  have n4_2:=next_ex L (q+1+1+1) 9 (by omega) (by decide) (by decide) hL hLl
  have wc:=wcontents_pure
  by_cases h0:0 < l.length
  case neg =>
   have h0':¬ (0:Int) < (l.length:Int):=by omega
   repeat' (first|((refine plc [0] (o4_0) ?_ ?_;push_cast [iO,tN,h0'];rintro r os ⟨o,om,rfl,rfl⟩;push_cast [iO,tN,h0']))|((refine plc [0] (n4_0) ?_ ?_;push_cast [iO,tN,h0'];rintro r os ⟨nu,⟨nua,nub⟩,rfl,rfl⟩;push_cast [iO,tN,h0']))|(refine hidR 20 ?_)|((first|refine pC ?_|refine pQC ?_|refine pU ?_);push_cast [iO,tN,h0'])|(refine pif (fun h=>?_) (fun h=>?_)<;>first|exact pN h|push_cast [iO,tN,h0']))
   all_goals refine unhid ?_
   all_goals (refine pwp_drawn (by kernel_rfl) ?_;try simp only [List.length_cons,List.length_nil,Nat.reduceAdd];repeat' first|((refine plc [] (wc) ?_ ?_;push_cast [iO,tN];rintro r os ⟨⟨cl,hcl,hcs,rfl⟩,rfl⟩;push_cast [iO,tN]))|((refine plc [0] (one_ex L (q+1+1) cl (by omega) (by omega) (by omega) hL hLl) ?_ ?_;push_cast [iO,tN];rintro r os ⟨c,cm,rfl,rfl⟩;push_cast [iO,tN]))|((refine plc [] (rset_ex at_ ⟨#[99,111,110,116,101,110,116]⟩ c (by omega)) ?_ ?_;push_cast [iO,tN];rintro r os ⟨at2,⟨s4,s5⟩,rfl,rfl⟩;push_cast [iO,tN]))|((first|refine pah 0 ?_|refine pah 2 ?_|refine pah 6 ?_);push_cast [iO,tN])|(refine pad ?_;try push_cast [iO,tN])|((first|refine pas [1] ?_|refine pas [3] ?_|refine pas [4] ?_|refine pas [5] ?_|refine pas [7] ?_);push_cast [iO,tN])|((first|refine pas [1,3] ?_|refine pas [1,4] ?_|refine pas [1,5] ?_|refine pas [1,7] ?_|refine pas [3,4] ?_|refine pas [3,5] ?_|refine pas [3,7] ?_|refine pas [4,5] ?_|refine pas [4,7] ?_|refine pas [5,7] ?_);push_cast [iO,tN];refine ⟨?_,?_⟩)|((first|refine pas [1,3,4] ?_|refine pas [1,3,5] ?_|refine pas [1,3,7] ?_|refine pas [1,4,5] ?_|refine pas [1,4,7] ?_|refine pas [1,5,7] ?_|refine pas [3,4,5] ?_|refine pas [3,4,7] ?_|refine pas [3,5,7] ?_|refine pas [4,5,7] ?_);push_cast [iO,tN];refine ⟨?_,?_,?_⟩))
   all_goals repeat' (first|((first|refine pC ?_|refine pQC ?_|refine pU ?_);push_cast [iO,tN])|(refine pif (fun h=>?_) (fun h=>?_)<;>first|exact pN h|push_cast [iO,tN]))
   all_goals (refine retK_of [0] ?_;push_cast [iO,tN])
   all_goals exact ⟨_,_,leP_refl _,leOs_refl _,⟨ix,0,o,o,⟨#[98,108,111,99,107]⟩,s2,s3,2,1+nu,at2⟩,q+1+1+1,⟨WDev.mk' (mem_fit (by decide) om) (mem_fit20 (by decide) om) (by decide) z2 z3 ⟨by omega,by omega⟩ (by omega) (has.set s5 (by decide) (hcs _ cm)),g2,g3⟩,by omega,rfl,rfl⟩
  have h0':(0:Int) < (l.length:Int):=by omega
  repeat' (first|((refine plc [0] (n2) ?_ ?_;push_cast [iO,tN,h0'];rintro r os ⟨v2,⟨v2a,v2b⟩,rfl,rfl⟩;push_cast [iO,tN,h0']))|(refine hidR 8 ?_)|((refine plc [0] (o4_1) ?_ ?_;push_cast [iO,tN,h0'];rintro r os ⟨o,om,rfl,rfl⟩;push_cast [iO,tN,h0']))|((refine plc [0] (n4_1) ?_ ?_;push_cast [iO,tN,h0'];rintro r os ⟨nu,⟨nua,nub⟩,rfl,rfl⟩;push_cast [iO,tN,h0']))|(refine hidR 20 ?_)|((first|refine pC ?_|refine pQC ?_|refine pU ?_);push_cast [iO,tN,h0'])|(refine pif (fun h=>?_) (fun h=>?_)<;>first|exact pN h|push_cast [iO,tN,h0']))
  ·obtain ⟨f,hf⟩:∃ f,fold (tapeAt L (q+1)) l.length=f:=⟨_,rfl⟩
   have hfb:=fold_bds (tapeAt L (q+1)) l.length h0'
   rw [hf] at hfb
   obtain ⟨g,rfl⟩:∃ g:Nat,f=(g:Int):=⟨f.toNat,by omega⟩
   have hgl:g < l.length:=by omega
   have hnx:=next_pure L (q+1) l.length (by omega) (by omega) hL hLl
   rw [hf] at hnx
   refine unhid ?_
   (refine pwp_drawn (by kernel_rfl) ?_;try simp only [List.length_cons,List.length_nil,Nat.reduceAdd];repeat' first|((refine plc [0] (hnx) ?_ ?_;push_cast [iO,tN,  hgl];rintro r os ⟨rfl,rfl⟩;push_cast [iO,tN,  hgl]))|((refine plc [0] (o4_2) ?_ ?_;push_cast [iO,tN,  hgl];rintro r os ⟨o,om,rfl,rfl⟩;push_cast [iO,tN,  hgl]))|((refine plc [0] (n4_2) ?_ ?_;push_cast [iO,tN,  hgl];rintro r os ⟨nu,⟨nua,nub⟩,rfl,rfl⟩;push_cast [iO,tN,  hgl]))|(refine hidR 20 ?_)|((first|refine pah 0 ?_|refine pah 2 ?_|refine pah 3 ?_|refine pah 5 ?_|refine pah 6 ?_|refine pah 8 ?_);push_cast [iO,tN,  hgl])|(refine pad ?_;try push_cast [iO,tN,  hgl])|((first|refine pas [1] ?_|refine pas [4] ?_|refine pas [7] ?_|refine pas [9] ?_);push_cast [iO,tN,  hgl])|((first|refine pas [1,4] ?_|refine pas [1,7] ?_|refine pas [1,9] ?_|refine pas [4,7] ?_|refine pas [4,9] ?_|refine pas [7,9] ?_);push_cast [iO,tN,  hgl];refine ⟨?_,?_⟩)|((first|refine pas [1,4,7] ?_|refine pas [1,4,9] ?_|refine pas [1,7,9] ?_|refine pas [4,7,9] ?_);push_cast [iO,tN,  hgl];refine ⟨?_,?_,?_⟩))
   all_goals refine unhid ?_
   all_goals (refine pwp_drawn (by kernel_rfl) ?_;try simp only [List.length_cons,List.length_nil,Nat.reduceAdd];repeat' first|((refine plc [] (wc) ?_ ?_;push_cast [iO,tN];rintro r os ⟨⟨cl,hcl,hcs,rfl⟩,rfl⟩;push_cast [iO,tN]))|((refine plc [0] (one_ex L (q+1+1+1+1) cl (by omega) (by omega) (by omega) hL hLl) ?_ ?_;push_cast [iO,tN];rintro r os ⟨c,cm,rfl,rfl⟩;push_cast [iO,tN]))|((refine plc [] (rset_ex at_ ⟨#[99,111,110,116,101,110,116]⟩ c (by omega)) ?_ ?_;push_cast [iO,tN];rintro r os ⟨at2,⟨s4,s5⟩,rfl,rfl⟩;push_cast [iO,tN]))|((first|refine pah 0 ?_|refine pah 2 ?_|refine pah 6 ?_);push_cast [iO,tN])|(refine pad ?_;try push_cast [iO,tN])|((first|refine pas [1] ?_|refine pas [3] ?_|refine pas [4] ?_|refine pas [5] ?_|refine pas [7] ?_);push_cast [iO,tN])|((first|refine pas [1,3] ?_|refine pas [1,4] ?_|refine pas [1,5] ?_|refine pas [1,7] ?_|refine pas [3,4] ?_|refine pas [3,5] ?_|refine pas [3,7] ?_|refine pas [4,5] ?_|refine pas [4,7] ?_|refine pas [5,7] ?_);push_cast [iO,tN];refine ⟨?_,?_⟩)|((first|refine pas [1,3,4] ?_|refine pas [1,3,5] ?_|refine pas [1,3,7] ?_|refine pas [1,4,5] ?_|refine pas [1,4,7] ?_|refine pas [1,5,7] ?_|refine pas [3,4,5] ?_|refine pas [3,4,7] ?_|refine pas [3,5,7] ?_|refine pas [4,5,7] ?_);push_cast [iO,tN];refine ⟨?_,?_,?_⟩))
   all_goals repeat' (first|((first|refine pC ?_|refine pQC ?_|refine pU ?_);push_cast [iO,tN])|(refine pif (fun h=>?_) (fun h=>?_)<;>first|exact pN h|push_cast [iO,tN]))
   all_goals (refine retK_of [0] ?_;push_cast [iO,tN])
   all_goals exact ⟨_,_,leP_refl _,leOs_refl _,⟨ix,(l.getD g default).index,o,o,⟨#[98,108,111,99,107]⟩,s2,s3,2,1+nu,at2⟩,q+1+1+1+1+1,⟨WDev.mk' (mem_fit (by decide) om) (mem_fit20 (by decide) om) (by decide) z2 z3 ⟨by omega,by omega⟩ (by omega) (has.set s5 (by decide) (hcs _ cm)),g2,g3⟩,by omega,rfl,rfl⟩
  ·all_goals refine unhid ?_
   all_goals (refine pwp_drawn (by kernel_rfl) ?_;try simp only [List.length_cons,List.length_nil,Nat.reduceAdd];repeat' first|((refine plc [] (wc) ?_ ?_;push_cast [iO,tN];rintro r os ⟨⟨cl,hcl,hcs,rfl⟩,rfl⟩;push_cast [iO,tN]))|((refine plc [0] (one_ex L (q+1+1+1) cl (by omega) (by omega) (by omega) hL hLl) ?_ ?_;push_cast [iO,tN];rintro r os ⟨c,cm,rfl,rfl⟩;push_cast [iO,tN]))|((refine plc [] (rset_ex at_ ⟨#[99,111,110,116,101,110,116]⟩ c (by omega)) ?_ ?_;push_cast [iO,tN];rintro r os ⟨at2,⟨s4,s5⟩,rfl,rfl⟩;push_cast [iO,tN]))|((first|refine pah 0 ?_|refine pah 2 ?_|refine pah 6 ?_);push_cast [iO,tN])|(refine pad ?_;try push_cast [iO,tN])|((first|refine pas [1] ?_|refine pas [3] ?_|refine pas [4] ?_|refine pas [5] ?_|refine pas [7] ?_);push_cast [iO,tN])|((first|refine pas [1,3] ?_|refine pas [1,4] ?_|refine pas [1,5] ?_|refine pas [1,7] ?_|refine pas [3,4] ?_|refine pas [3,5] ?_|refine pas [3,7] ?_|refine pas [4,5] ?_|refine pas [4,7] ?_|refine pas [5,7] ?_);push_cast [iO,tN];refine ⟨?_,?_⟩)|((first|refine pas [1,3,4] ?_|refine pas [1,3,5] ?_|refine pas [1,3,7] ?_|refine pas [1,4,5] ?_|refine pas [1,4,7] ?_|refine pas [1,5,7] ?_|refine pas [3,4,5] ?_|refine pas [3,4,7] ?_|refine pas [3,5,7] ?_|refine pas [4,5,7] ?_);push_cast [iO,tN];refine ⟨?_,?_,?_⟩))
   all_goals repeat' (first|((first|refine pC ?_|refine pQC ?_|refine pU ?_);push_cast [iO,tN])|(refine pif (fun h=>?_) (fun h=>?_)<;>first|exact pN h|push_cast [iO,tN]))
   all_goals (refine retK_of [0] ?_;push_cast [iO,tN])
   all_goals exact ⟨_,_,leP_refl _,leOs_refl _,⟨ix,0,o,o,⟨#[98,108,111,99,107]⟩,s2,s3,2,1+nu,at2⟩,q+1+1+1+1,⟨WDev.mk' (mem_fit (by decide) om) (mem_fit20 (by decide) om) (by decide) z2 z3 ⟨by omega,by omega⟩ (by omega) (has.set s5 (by decide) (hcs _ cm)),g2,g3⟩,by omega,rfl,rfl⟩
 by_cases k3:kd=3
 ·subst k3
  have o4_0:=one_ex L (q) [⟨#[116,116,121,48]⟩,⟨#[116,116,121,49]⟩,⟨#[105,110,112,117,116,33,101,118,48]⟩] (by omega) (by decide) (by decide) hL hLl
  have n4_0:=next_ex L (q+1) 9 (by omega) (by decide) (by decide) hL hLl
  have o4_1:=one_ex L (q+1) [⟨#[116,116,121,48]⟩,⟨#[116,116,121,49]⟩,⟨#[105,110,112,117,116,33,101,118,48]⟩] (by omega) (by decide) (by decide) hL hLl
  have n4_1:=next_ex L (q+1+1) 9 (by omega) (by decide) (by decide) hL hLl
  have o4_2:=one_ex L (q+1+1) [⟨#[116,116,121,48]⟩,⟨#[116,116,121,49]⟩,⟨#[105,110,112,117,116,33,101,118,48]⟩] (by omega) (by decide) (by decide) hL hLl
  have n4_2:=next_ex L (q+1+1+1) 9 (by omega) (by decide) (by decide) hL hLl
  by_cases h0:0 < l.length
  case neg =>
   have h0':¬ (0:Int) < (l.length:Int):=by omega
   repeat' (first|((refine plc [0] (o4_0) ?_ ?_;push_cast [iO,tN,h0'];rintro r os ⟨o,om,rfl,rfl⟩;push_cast [iO,tN,h0']))|((refine plc [0] (n4_0) ?_ ?_;push_cast [iO,tN,h0'];rintro r os ⟨nu,⟨nua,nub⟩,rfl,rfl⟩;push_cast [iO,tN,h0']))|((first|refine pC ?_|refine pQC ?_|refine pU ?_);push_cast [iO,tN,h0'])|(refine pif (fun h=>?_) (fun h=>?_)<;>first|exact pN h|push_cast [iO,tN,h0']))
   all_goals (refine retK_of [0] ?_;push_cast [iO,tN])
   all_goals exact ⟨_,_,leP_refl _,leOs_refl _,⟨ix,0,o,o,s1,s2,s3,3,1+nu,at_⟩,q+1+1,⟨WDev.mk' (mem_fit (by decide) om) (mem_fit20 (by decide) om) z1 z2 z3 ⟨by omega,by omega⟩ (by omega) has,g2,g3⟩,by omega,rfl,rfl⟩
  have h0':(0:Int) < (l.length:Int):=by omega
  repeat' (first|((refine plc [0] (n2) ?_ ?_;push_cast [iO,tN,h0'];rintro r os ⟨v2,⟨v2a,v2b⟩,rfl,rfl⟩;push_cast [iO,tN,h0']))|(refine hidR 8 ?_)|((refine plc [0] (o4_1) ?_ ?_;push_cast [iO,tN,h0'];rintro r os ⟨o,om,rfl,rfl⟩;push_cast [iO,tN,h0']))|((refine plc [0] (n4_1) ?_ ?_;push_cast [iO,tN,h0'];rintro r os ⟨nu,⟨nua,nub⟩,rfl,rfl⟩;push_cast [iO,tN,h0']))|((first|refine pC ?_|refine pQC ?_|refine pU ?_);push_cast [iO,tN,h0'])|(refine pif (fun h=>?_) (fun h=>?_)<;>first|exact pN h|push_cast [iO,tN,h0']))
  ·obtain ⟨f,hf⟩:∃ f,fold (tapeAt L (q+1)) l.length=f:=⟨_,rfl⟩
   have hfb:=fold_bds (tapeAt L (q+1)) l.length h0'
   rw [hf] at hfb
   obtain ⟨g,rfl⟩:∃ g:Nat,f=(g:Int):=⟨f.toNat,by omega⟩
   have hgl:g < l.length:=by omega
   have hnx:=next_pure L (q+1) l.length (by omega) (by omega) hL hLl
   rw [hf] at hnx
   refine unhid ?_
   (refine pwp_drawn (by kernel_rfl) ?_;try simp only [List.length_cons,List.length_nil,Nat.reduceAdd];repeat' first|((refine plc [0] (hnx) ?_ ?_;push_cast [iO,tN,  hgl];rintro r os ⟨rfl,rfl⟩;push_cast [iO,tN,  hgl]))|((refine plc [0] (o4_2) ?_ ?_;push_cast [iO,tN,  hgl];rintro r os ⟨o,om,rfl,rfl⟩;push_cast [iO,tN,  hgl]))|((refine plc [0] (n4_2) ?_ ?_;push_cast [iO,tN,  hgl];rintro r os ⟨nu,⟨nua,nub⟩,rfl,rfl⟩;push_cast [iO,tN,  hgl]))|((first|refine pah 0 ?_|refine pah 2 ?_|refine pah 3 ?_|refine pah 5 ?_|refine pah 6 ?_|refine pah 8 ?_);push_cast [iO,tN,  hgl])|(refine pad ?_;try push_cast [iO,tN,  hgl])|((first|refine pas [1] ?_|refine pas [4] ?_|refine pas [7] ?_|refine pas [9] ?_);push_cast [iO,tN,  hgl])|((first|refine pas [1,4] ?_|refine pas [1,7] ?_|refine pas [1,9] ?_|refine pas [4,7] ?_|refine pas [4,9] ?_|refine pas [7,9] ?_);push_cast [iO,tN,  hgl];refine ⟨?_,?_⟩)|((first|refine pas [1,4,7] ?_|refine pas [1,4,9] ?_|refine pas [1,7,9] ?_|refine pas [4,7,9] ?_);push_cast [iO,tN,  hgl];refine ⟨?_,?_,?_⟩))
   all_goals (refine retK_of [0] ?_;push_cast [iO,tN])
   all_goals exact ⟨_,_,leP_refl _,leOs_refl _,⟨ix,(l.getD g default).index,o,o,s1,s2,s3,3,1+nu,at_⟩,q+1+1+1+1,⟨WDev.mk' (mem_fit (by decide) om) (mem_fit20 (by decide) om) z1 z2 z3 ⟨by omega,by omega⟩ (by omega) has,g2,g3⟩,by omega,rfl,rfl⟩
  ·all_goals (refine retK_of [0] ?_;push_cast [iO,tN])
   all_goals exact ⟨_,_,leP_refl _,leOs_refl _,⟨ix,0,o,o,s1,s2,s3,3,1+nu,at_⟩,q+1+1+1,⟨WDev.mk' (mem_fit (by decide) om) (mem_fit20 (by decide) om) z1 z2 z3 ⟨by omega,by omega⟩ (by omega) has,g2,g3⟩,by omega,rfl,rfl⟩
 have o4_0:=one_ex L (q) [⟨#[112,99,105,48]⟩,⟨#[117,115,98,49]⟩,⟨#[49,45,49]⟩,⟨#[112,111,114,116]⟩] (by omega) (by decide) (by decide) hL hLl
 have o4_1:=one_ex L (q+1) [⟨#[112,99,105,48]⟩,⟨#[117,115,98,49]⟩,⟨#[49,45,49]⟩,⟨#[112,111,114,116]⟩] (by omega) (by decide) (by decide) hL hLl
 have o4_2:=one_ex L (q+1+1) [⟨#[112,99,105,48]⟩,⟨#[117,115,98,49]⟩,⟨#[49,45,49]⟩,⟨#[112,111,114,116]⟩] (by omega) (by decide) (by decide) hL hLl
 by_cases h0:0 < l.length
 case neg =>
  have h0':¬ (0:Int) < (l.length:Int):=by omega
  repeat' (first|((refine plc [0] (o4_0) ?_ ?_;push_cast [iO,tN,k4,k2,k3,h0'];rintro r os ⟨o,om,rfl,rfl⟩;push_cast [iO,tN,k4,k2,k3,h0']))|((first|refine pC ?_|refine pQC ?_|refine pU ?_);push_cast [iO,tN,k4,k2,k3,h0'])|(refine pif (fun h=>?_) (fun h=>?_)<;>first|exact pN h|push_cast [iO,tN,k4,k2,k3,h0']))
  all_goals (refine retK_of [0] ?_;push_cast [iO,tN])
  all_goals exact ⟨_,_,leP_refl _,leOs_refl _,⟨ix,0,o,o,s1,s2,s3,kd,0,at_⟩,q+1,⟨WDev.mk' (mem_fit (by decide) om) (mem_fit20 (by decide) om) z1 z2 z3 ⟨by decide,by decide⟩ (by omega) has,g2,g3⟩,by omega,rfl,rfl⟩
 have h0':(0:Int) < (l.length:Int):=by omega
 repeat' (first|((refine plc [0] (n2) ?_ ?_;push_cast [iO,tN,k4,k2,k3,h0'];rintro r os ⟨v2,⟨v2a,v2b⟩,rfl,rfl⟩;push_cast [iO,tN,k4,k2,k3,h0']))|(refine hidR 8 ?_)|((refine plc [0] (o4_1) ?_ ?_;push_cast [iO,tN,k4,k2,k3,h0'];rintro r os ⟨o,om,rfl,rfl⟩;push_cast [iO,tN,k4,k2,k3,h0']))|((first|refine pC ?_|refine pQC ?_|refine pU ?_);push_cast [iO,tN,k4,k2,k3,h0'])|(refine pif (fun h=>?_) (fun h=>?_)<;>first|exact pN h|push_cast [iO,tN,k4,k2,k3,h0']))
 ·obtain ⟨f,hf⟩:∃ f,fold (tapeAt L (q+1)) l.length=f:=⟨_,rfl⟩
  have hfb:=fold_bds (tapeAt L (q+1)) l.length h0'
  rw [hf] at hfb
  obtain ⟨g,rfl⟩:∃ g:Nat,f=(g:Int):=⟨f.toNat,by omega⟩
  have hgl:g < l.length:=by omega
  have hnx:=next_pure L (q+1) l.length (by omega) (by omega) hL hLl
  rw [hf] at hnx
  refine unhid ?_
  (refine pwp_drawn (by kernel_rfl) ?_;try simp only [List.length_cons,List.length_nil,Nat.reduceAdd];repeat' first|((refine plc [0] (hnx) ?_ ?_;push_cast [iO,tN,  k4,k2,k3,hgl];rintro r os ⟨rfl,rfl⟩;push_cast [iO,tN,  k4,k2,k3,hgl]))|((refine plc [0] (o4_2) ?_ ?_;push_cast [iO,tN,  k4,k2,k3,hgl];rintro r os ⟨o,om,rfl,rfl⟩;push_cast [iO,tN,  k4,k2,k3,hgl]))|((first|refine pah 0 ?_|refine pah 2 ?_|refine pah 3 ?_|refine pah 5 ?_|refine pah 6 ?_|refine pah 8 ?_);push_cast [iO,tN,  k4,k2,k3,hgl])|(refine pad ?_;try push_cast [iO,tN,  k4,k2,k3,hgl])|((first|refine pas [1] ?_|refine pas [4] ?_|refine pas [7] ?_|refine pas [9] ?_);push_cast [iO,tN,  k4,k2,k3,hgl])|((first|refine pas [1,4] ?_|refine pas [1,7] ?_|refine pas [1,9] ?_|refine pas [4,7] ?_|refine pas [4,9] ?_|refine pas [7,9] ?_);push_cast [iO,tN,  k4,k2,k3,hgl];refine ⟨?_,?_⟩)|((first|refine pas [1,4,7] ?_|refine pas [1,4,9] ?_|refine pas [1,7,9] ?_|refine pas [4,7,9] ?_);push_cast [iO,tN,  k4,k2,k3,hgl];refine ⟨?_,?_,?_⟩))
  all_goals (refine retK_of [0] ?_;push_cast [iO,tN])
  all_goals exact ⟨_,_,leP_refl _,leOs_refl _,⟨ix,(l.getD g default).index,o,o,s1,s2,s3,kd,0,at_⟩,q+1+1+1,⟨WDev.mk' (mem_fit (by decide) om) (mem_fit20 (by decide) om) z1 z2 z3 ⟨by decide,by decide⟩ (by omega) has,g2,g3⟩,by omega,rfl,rfl⟩
 ·all_goals (refine retK_of [0] ?_;push_cast [iO,tN])
  all_goals exact ⟨_,_,leP_refl _,leOs_refl _,⟨ix,0,o,o,s1,s2,s3,kd,0,at_⟩,q+1+1,⟨WDev.mk' (mem_fit (by decide) om) (mem_fit20 (by decide) om) z1 z2 z3 ⟨by decide,by decide⟩ (by omega) has,g2,g3⟩,by omega,rfl,rfl⟩
set_option maxRecDepth 20000
abbrev viewO (l:List Dev) (p:ByteArray):List Ob:=[.box 108 [.sl 10 (l.map Dev.d),.mp 2,.mp 3],.box 9 [.v (.string p)],.map (some .i64) false (placeE l l.length),.map (some .i64) false (origE l l.length)]
end Go.Proofs.YthconflkbeipoaaGreatDoor
namespace Go.Proofs.YthconflkbeipoaaGreatDoor
open Go.RowKit
open IntWalk renaming iteOmega → iO, toNatUp → tN
set_option linter.unusedVariables false
set_option linter.unusedSimpArgs false
section
variable {P:Program} {N p:Nat} {ops:Array Oper} {rest:List Oper} {o:Oper} {s:S} {K:S → Prop}
theorem pl_same {q:PV} (hg:gd ops s o.guard=some true) (h:∀ Γ a w,Inv N Γ s a w → ∃ y,RP w Γ q y∧∀ w',Same w w' → (execOp a.eval o).run P w' = .ok (.value y) w') (hd:dstOk N o.dst) (hr:PL P N p ops rest (s.put o.dst q) K):PL P N p ops (o :: rest) s K:=by
 intro Γ a w Q hA hK
 obtain ⟨y,h1,h2⟩:=h Γ a w hA.inv
 unfold wpListIn
 rw [if_pos (gd_ok hg hA.inv)]
 exact wpIn_run (h2 w (Same.refl w)) (hr Γ _ w Q ⟨hA.inv.put (dst_lt hd) h1,hA.le⟩ fun s' Γ'' a' w'' hk ha hg' hd'=>hK s' Γ'' a' w'' hk ha hg' (hd'.trans (put_defers _ _ _)))
end
end Go.Proofs.YthconflkbeipoaaGreatDoor
namespace Go.Proofs.YthconflkbeipoaaGreatDoor
attribute [local irreducible] PL QL PWPr PCalls Weak RetK Kontr PA
open Go.RowKit
open IntWalk renaming iteOmega → iO, toNatUp → tN
set_option linter.unusedVariables false
set_option linter.unusedSimpArgs false
set_option maxRecDepth 20000
structure DelI {α:Type} [Inhabited α] (l:List α) (q:α → Bool) (j i:Nat) (m:List α):Prop where
 len:m.length=l.length
 ij:i < j
 jl:j≤l.length
 pre:m.take i=(l.take j).filter fun x=>!q x
 post:m.drop j=l.drop j
theorem DelI.start {α:Type} [Inhabited α] {l:List α} {q:α → Bool} {i:Nat} (h1:i < l.length) (h2:q (l.getD i default)=true) (h3:∀ x ∈ l.take i,q x=false):DelI l q (i+1) i l:=by
 refine ⟨rfl,by omega,by omega,?_,rfl⟩
 rw [List.take_succ_eq_append_getElem h1,List.filter_append]
 rw [getD_lt l h1] at h2
 rw [List.filter_eq_self.2 fun x hx=>by simp [h3 x hx]]
 simp [h2]
theorem DelI.get {α:Type} [Inhabited α] {l m:List α} {q:α → Bool} {j i:Nat} (h:DelI l q j i m) (hj:j < l.length):m.getD j default=l.getD j default:=by
 have:=congrArg (fun x=>x[0]?) h.post
 simp only [List.getElem?_drop,Nat.add_zero] at this
 simp [List.getD,this]
theorem DelI.drop {α:Type} [Inhabited α] {l m:List α} {q:α → Bool} {j i:Nat} (h:DelI l q j i m) (hj:j < l.length) (hq:q (l.getD j default)=true):DelI l q (j+1) i m:=by
 refine ⟨h.len,by have:=h.ij;omega,by omega,?_,?_⟩
 ·rw [List.take_succ_eq_append_getElem hj,List.filter_append,h.pre]
  rw [getD_lt l hj] at hq
  simp [hq]
 ·have:=congrArg (List.drop 1) h.post
  simpa [List.drop_drop] using this
theorem DelI.keep {α:Type} [Inhabited α] {l m:List α} {q:α → Bool} {j i:Nat} (h:DelI l q j i m) (hj:j < l.length) (hq:q (l.getD j default)=false):DelI l q (j+1) (i+1) (m.set i (l.getD j default)):=by
 have hij:=h.ij
 have hl:=h.len
 refine ⟨by simpa using hl,by omega,by omega,?_,?_⟩
 ·have hi:i < (m.set i (l.getD j default)).length:=by rw [List.length_set];omega
  rw [List.take_succ_eq_append_getElem hi,List.take_set_of_le (Nat.le_refl _),h.pre,List.getElem_set_self,List.take_succ_eq_append_getElem hj,List.filter_append]
  rw [getD_lt l hj] at hq ⊢
  simp [hq]
 ·rw [List.drop_set_of_lt (by omega)]
  have:=congrArg (List.drop 1) h.post
  simpa [List.drop_drop] using this
theorem DelI.done {α:Type} [Inhabited α] {l m:List α} {q:α → Bool} {j i:Nat} (h:DelI l q j i m) (hj:¬ j < l.length):m.take i=(l.filter fun x=>!q x)∧i=(l.filter fun x=>!q x).length:=by
 have:=h.pre
 have e:l.take j=l:=List.take_of_length_le (by omega)
 rw [e] at this
 refine ⟨this,?_⟩
 rw [← this,List.length_take]
 have:=h.ij;have:=h.jl;have:=h.len
 omega
theorem copies_pure (l:List Dev) (hl:l.length≤1000000) (ha:∀ d ∈ l,d.attrs.length≤1000000000) :
  PCalls Tryz.prog 63 [.c (.sl 10 (l.map Dev.d))] [] fun r os=>r = .c (.own 0 l.length)∧os=[.arr 49 10 (l.map Dev.d)]:=by
 refine pcalls_of Tryz.func63 rfl (by simp [Tryz.ntmps63]) ?_
 rw [Tryz.ntmps63,Tryz.results63]
 push_cast [iO,tN]
 have cB:CutB 6 [6,7,8]:=trivial
 repeat' (first|((first|refine pC ?_|refine pQC ?_|refine pU ?_);push_cast [iO,tN])|(refine pif (fun h=>?_) (fun h=>?_)<;>first|exact pN h|push_cast [iO,tN]))
 refine pwp_weak (weak_adopt 3 49 10 (by omega) (by push_cast [iO,tN])) ?_
 push_cast [iO,tN]
 (apply pwp_loop3 (α:=Nat) 6 [6,7,8] (fun k=>[(8,.c (.v (.int .i64 k))),(3,.c (.own 0 k))]) (fun k=>[(0,.arr 49 10 ((l.take k).map Dev.d))]) (fun k=>k≤l.length) (fun k=>l.length - k) (0);(focus ((try push_cast [iO,tN]);rfl));(focus exact (Nat.zero_le _));(focus ((refine weak_fg ?_;try push_cast [iO,tN]);(try (exact ⟨rfl,rfl⟩)))))
 intro k hk
 push_cast [iO,tN]
 by_cases hlt:k < l.length
 ·have hm:l.getD k default ∈ l:=by rw [getD_lt l hlt];exact List.getElem_mem _
  have hc:=copied_pure (l.getD k default) (ha _ hm)
  have hmem:(0 ∈ ([]:List Nat))=False:=eq_false (by simp)
  have htk:l.take (k+1)=l.take k++[l.getD k default]:=by rw [List.take_succ_eq_append_getElem hlt,getD_lt l hlt]
  have htl:(l.take k).length=k:=by rw [List.length_take];omega
  obtain ⟨u,hu⟩:∃ u,l.take k=u:=⟨_,rfl⟩
  rw [hu] at htk htl ⊢
  repeat' (first|(refine plc [] (hc) ?_ ?_;push_cast [iO,tN,htl];rintro r os ⟨rfl,rfl⟩;push_cast [iO,tN,htl])|((first|refine pC ?_|refine pQC ?_|refine pU ?_);push_cast [iO,tN,htl])|(refine pif (fun h=>?_) (fun h=>?_)<;>first|exact pN h|push_cast [iO,tN,htl]))
  exact ⟨k+1,by omega,by (refine weak_fg ?_;push_cast [iO,tN,htk,hmem]),by omega⟩
 ·have hk2:k=l.length:=by omega
  have hk3:l.take k=l:=List.take_of_length_le (by omega)
  rw [hk3,hk2]
  repeat' (first|((first|refine pC ?_|refine pQC ?_|refine pU ?_);push_cast [iO,tN])|(refine pif (fun h=>?_) (fun h=>?_)<;>first|exact pN h|push_cast [iO,tN]))
  (refine retK_of [0] ?_;push_cast [iO,tN])
set_option maxRecDepth 20000
theorem numbered_pure (k:Int):PCalls Tryz.prog 136 [.c (.v (.int .i64 k))] [] fun r os=>r = .c (.v (.bool (decide (k=2) || decide (k=3))))∧os=[]:=by
 refine pcalls_of Tryz.func136 rfl (by simp [Tryz.ntmps136]) ?_
 rw [Tryz.ntmps136,Tryz.results136]
 by_cases h:k=2
 ·have h':=eq_true h
  push_cast [iO,tN]
  repeat' (first|((first|refine pG ?_|refine pQ ?_|refine pU ?_);push_cast [iO,tN,h'])|(refine pif (fun h=>?_) (fun h=>?_)<;>first|exact pN h|push_cast [iO,tN,h']))
  (refine retK_of [] ?_;push_cast [iO,tN])
  all_goals simp [h]
 ·push_cast [iO,tN]
  repeat' (first|((first|refine pG ?_|refine pQ ?_|refine pU ?_);push_cast [iO,tN,h])|(refine pif (fun h=>?_) (fun h=>?_)<;>first|exact pN h|push_cast [iO,tN,h]))
  (refine retK_of [] ?_;push_cast [iO,tN])
  all_goals simp [h]
theorem node_pure (d:Dev) (hd:d.original.size≤1048576):PCalls Tryz.prog 108 [.agg d.e] [] fun r os=>r = .two (.c (.v (.string (nodeM d)))) (.c (.v (.bool (hasN d))))∧os=[]:=by
 have hn:=numbered_pure d.kind
 have hr:=repl_pure d.original (by omega)
 unfold nodeM
 have e:hasN d=(decide (d.kind=2) || decide (d.kind=3)):=rfl
 obtain ⟨b,hb⟩:∃ b,(decide (d.kind=2) || decide (d.kind=3))=b:=⟨_,rfl⟩
 rw [e,hb]
 rw [hb] at hn
 refine pcalls_of Tryz.func108 rfl (by simp [Tryz.ntmps108]) ?_
 rw [Tryz.ntmps108,Tryz.results108]
 cases b
 ·push_cast [iO,tN]
  repeat' (first |  (refine plc [] (hn) ?_ ?_;push_cast [iO,tN];rintro r os ⟨rfl,rfl⟩;push_cast [iO,tN])  | ((first|refine pG ?_|refine pQ ?_|refine pU ?_);push_cast [iO,tN])|(refine pif (fun h=>?_) (fun h=>?_)<;>first|exact pN h|push_cast [iO,tN]))
  (refine retK_of [] ?_;push_cast [iO,tN])
 ·push_cast [iO,tN]
  repeat' (first |  (refine plc [] (hn) ?_ ?_;push_cast [iO,tN];rintro r os ⟨rfl,rfl⟩;push_cast [iO,tN])|(refine plc [] (hr) ?_ ?_;push_cast [iO,tN];rintro r os ⟨rfl,rfl⟩;push_cast [iO,tN])  | ((first|refine pG ?_|refine pQ ?_|refine pU ?_);push_cast [iO,tN])|(refine pif (fun h=>?_) (fun h=>?_)<;>first|exact pN h|push_cast [iO,tN]))
  (refine retK_of [] ?_;push_cast [iO,tN])
end Go.Proofs.YthconflkbeipoaaGreatDoor
namespace Go.Proofs.YthconflkbeipoaaGreatDoor
open Go.RowKit
open IntWalk renaming iteOmega → iO, toNatUp → tN
set_option linter.unusedVariables false
set_option linter.unusedSimpArgs false
theorem rest_trim (s:ByteArray):(⟨(Lib.trimPrefix s.data.toList [47]).toArray⟩:ByteArray)=restS s:=by
 unfold restS slashS Lib.trimPrefix
 split
 ·have e:=Lib.extract_to_end s 1
  generalize s.extract 1 s.size=t at e
  cases t
  simp only at e
  congr
  rw [show ([47]:List UInt8).length=1 from rfl,← e]
 ·rfl
theorem cutp_pure (s:ByteArray):PCalls Tryz.prog 114 [.c (.v (.string s)),.c (.v (.string ⟨#[47]⟩))] [] fun r os=>r = .two (.c (.v (.string (restS s)))) (.c (.v (.bool (slashS s))))∧os=[] :=
 pcalls_plain2 [.string s,.string ⟨#[47]⟩] _ _ rfl rfl fun w _=>(strings_CutPrefix s ⟨#[47]⟩ w).mono fun e w' ⟨he,hw⟩=>by
  rw [he,hw]
  refine ⟨?_,Below.refl _ _⟩
  show Ending.returned (.tuple #[.string ⟨(Lib.trimPrefix s.data.toList [47]).toArray⟩,.bool (Lib.hasPrefix s.data.toList [47])])=_
  rw [rest_trim];rfl
end Go.Proofs.YthconflkbeipoaaGreatDoor
