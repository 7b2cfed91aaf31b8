/- What the program computes, and the plain laws of it, part 17. -/
import Derived.Lib.SplitLaws
import Derived.Lib.IndexBytes
import Derived.Test.YthconflkbeipoaaGreatDoorR16
namespace Go.Proofs.YthconflkbeipoaaGreatDoor
attribute [local irreducible] PL QL PWPr PCalls Weak RetK Kontr PA
open Go.RowKit
open IntWalk renaming iteOmega → iO, toNatUp → tN
set_option linter.unusedVariables false
set_option linter.unusedSimpArgs false
set_option maxRecDepth 20000
structure WDev (d:Dev):Prop where
 ok:d.ok
 orig:d.original.size≤20
 att:d.attrs.length≤10
 num:0≤d.number∧d.number≤9
theorem mem_fit20 {l:List ByteArray} {s:ByteArray} (h:l.all (fun s=>decide (s.size≤20))=true) (hm:s ∈ l):s.size≤20:=by
 have:=List.all_eq_true.1 h s hm
 simpa using this
theorem WDev.mk' {i p:Int} {nm o s dr al:ByteArray} {kd n:Int} {at_:List Atr} (h1:nm.size≤100) (h2:o.size≤20) (h3:s.size≤100) (h4:dr.size≤100) (h5:al.size≤100) (h6:0≤n∧n≤9) (h7:at_.length≤10) (h8:ShortA at_):WDev ⟨i,p,nm,o,s,dr,al,kd,n,at_⟩ :=
 ⟨⟨fit_of h1 (by decide),fit_of h2 (by decide),fit_of h3 (by decide),fit_of h4 (by decide),fit_of h5 (by decide),fun a ha=>⟨fit_of (h8 a ha).1 (by decide),fit_of (h8 a ha).2 (by decide)⟩,by show at_.length≤_;omega,by show o.size≤_;omega⟩,h2,h7,h6⟩
set_option maxHeartbeats 8000000 in
theorem wdev_ex (L:List Int) (k:Nat) (l:List Dev) (B:Nat) (hk:k < 90000) (hl:l.length≤1000) (hB:B≤100000) (hi:∀ d ∈ l,d.index≤B) (hi0:∀ d ∈ l,0≤d.index) (hL:∀ x ∈ L,-9223372036854775808≤x∧x≤9223372036854775807) (hLl:L.length≤9223372036854775807) :
  PCalls Tryz.prog 43 [.c (.ptr 0 0),.agg (trE l)] [tape L k] fun r os=>∃ (d:Dev) (k':Nat),(WDev d∧1≤d.index∧d.index≤B+1)∧k'≤k+20∧r = .agg d.e∧os=[tape L k']:=by
 refine pcalls_of Tryz.func43 rfl (by simp [Tryz.ntmps43]) ?_
 rw [Tryz.ntmps43,Tryz.results43]
 push_cast [iO,tN]
 have cB:CutB 8 [61]:=trivial
 have n1:=next_ex L (k+1) 4 (by omega) (by decide) (by decide) hL hLl
 have o1:=one_ex L k [⟨#[98,108,111,99,107]⟩,⟨#[117,115,98]⟩,⟨#[110,101,116]⟩,⟨#[112,99,105]⟩] (by omega) (by decide) (by decide) hL hLl
 have o2:=one_ex L (k+1+1) [⟨#[]⟩,⟨#[]⟩,⟨#[104,105,100]⟩,⟨#[110,105,99]⟩] (by omega) (by decide) (by decide) hL hLl
 have o3:=one_ex L (k+1+1+1) [⟨#[]⟩,⟨#[117,115,98,58,118,49]⟩,⟨#[112,99,105,58,100,50]⟩,⟨#[117,115,98,58,118,50]⟩] (by omega) (by decide) (by decide) hL hLl
 have a1:=wattrs_ex L (k+1+1+1+1) (by omega) hL hLl
 repeat' (first |  ((refine plc [0] (o1) ?_ ?_;push_cast [iO,tN];rintro r os ⟨s1,m1,rfl,rfl⟩;push_cast [iO,tN]))|((refine plc [0] (n1) ?_ ?_;push_cast [iO,tN];rintro r os ⟨v1,⟨va,vb⟩,rfl,rfl⟩;push_cast [iO,tN]))|((refine plc [0] (o2) ?_ ?_;push_cast [iO,tN];rintro r os ⟨s2,m2,rfl,rfl⟩;push_cast [iO,tN]))|((refine plc [0] (o3) ?_ ?_;push_cast [iO,tN];rintro r os ⟨s3,m3,rfl,rfl⟩;push_cast [iO,tN]))|((refine plc [0] (a1) ?_ ?_;push_cast [iO,tN];rintro r os ⟨at_,q,⟨hal,has⟩,hq,rfl,rfl⟩;push_cast [iO,tN]))  | ((first|refine pC ?_|refine pQC ?_|refine pU ?_);push_cast [iO,tN])|(refine pif (fun h=>?_) (fun h=>?_)<;>first|exact pN h|push_cast [iO,tN]))
 have z1:s1.size≤100:=mem_fit (by decide) m1
 have z2:s2.size≤100:=mem_fit (by decide) m2
 have z3:s3.size≤100:=mem_fit (by decide) m3
 have hv1:1≤1+v1∧1+v1≤4:=by omega
 generalize 1+v1=kd at hv1 ⊢
 (apply pwp_loop3 (α:=Nat × Int) 8 [61] (fun x=>[(6,.c (.v (.int .i64 x.1)))]) (fun x=>[(3,.box 49 (Dev.e ⟨x.2,0,⟨#[]⟩,⟨#[]⟩,s1,s2,s3,kd,0,at_⟩))]) (fun x=>x.1≤l.length∧1≤x.2∧x.2≤B+1) (fun x=>l.length - x.1) ((0,1));(focus ((try push_cast [iO,tN]);rfl));(focus exact ⟨Nat.zero_le _,by simp,by simp only;omega⟩);(focus ((refine weak_fg ?_;try push_cast [iO,tN]))))
 rintro ⟨j,ix⟩ ⟨g1,g2,g3⟩
 simp only at g1 g2 g3
 push_cast [iO,tN]
 by_cases hlt:j < l.length
 ·have hij:=hi _ (getD_mem hlt)
  have hij0:=hi0 _ (getD_mem hlt)
  repeat' (first |  (refine hidR 5 ?_)  | ((first|refine pC ?_|refine pQC ?_|refine pU ?_);push_cast [iO,tN])|(refine pif (fun h=>?_) (fun h=>?_)<;>first|exact pN h|push_cast [iO,tN]))
  refine unhid ?_
  (refine pwp_cut 8 [61] ?_;refine pwp_drawn (by kernel_rfl) ?_;simp only [List.length_cons,List.length_nil,Nat.reduceAdd];refine pah 0 ?_;push_cast [iO,tN,  hlt];refine pah 2 ?_;push_cast [iO,tN,  hlt];refine pah 4 ?_;push_cast [iO,tN,  hlt];apply pa_hav;intro z6;apply pa_hav;intro z5;apply pa_hav;intro z4;apply pa_hav;intro z3;apply pa_hav;intro z2;apply pa_hav;intro z1;refine pas [1,3] ?_;push_cast [iO,tN,  hlt];refine ⟨?_,?_⟩;(focus (exact z1));(focus (refine pah 5 ?_;push_cast [iO,tN,  hlt];refine pah 6 ?_;push_cast [iO,tN,  hlt];exact z2));refine pas [3] ?_;push_cast [iO,tN,  hlt];(focus (refine pah 5 ?_;push_cast [iO,tN,  hlt];refine pah 6 ?_;push_cast [iO,tN,  hlt];exact z3));refine pas [1,7] ?_;push_cast [iO,tN,  hlt];refine ⟨?_,?_⟩;(focus (refine paw z3 ?_;refine weak_fg ?_;push_cast [iO,tN,  hlt]));(focus (refine pah 8 ?_;push_cast [iO,tN,  hlt];exact z4));refine pas [7] ?_;push_cast [iO,tN,  hlt];(focus (refine pah 8 ?_;push_cast [iO,tN,  hlt];refine pah 9 ?_;push_cast [iO,tN,  hlt];refine pah 10 ?_;push_cast [iO,tN,  hlt];exact z5));refine pas [1] ?_;push_cast [iO,tN,  hlt];(focus (refine pah 9 ?_;push_cast [iO,tN,  hlt];refine pah 10 ?_;push_cast [iO,tN,  hlt];refine paw z5 ?_;refine weak_fg ?_;push_cast [iO,tN,  hlt]));refine pas [11] ?_;push_cast [iO,tN,  hlt];refine paw z6 (weak_cutS 8 [61] _);push_cast [iO,tN,  hlt];refine pad ?_;push_cast [iO,tN,  hlt])
  repeat' (first|((first|refine pC ?_|refine pQC ?_|refine pU ?_);push_cast [iO,tN])|(refine pif (fun h=>?_) (fun h=>?_)<;>first|exact pN h|push_cast [iO,tN]))
  exact ⟨(j+1,if ix < (l.getD j default).index+1 then (l.getD j default).index+1 else ix),⟨by simp only;omega,by simp only;split<;>omega,by simp only;split<;>omega⟩,by (refine weak_fg ?_;push_cast [iO,tN]),by simp only;omega⟩
 have hjl:j=l.length:=by omega
 subst hjl
 have hlen:¬ l.length < l.length:=by omega
 have fits:l.length≤1000:=hl
 have n2:=next_ex L q 4 (by omega) (by decide) (by decide) hL hLl
 by_cases k4:kd=4
 ·subst k4
  have o4_0:=one_ex L (q) [⟨#[101,116,104,48]⟩,⟨#[101,116,104,49]⟩,⟨#[119,108,97,110,48]⟩] (by omega) (by decide) (by decide) hL hLl
  have o5_0:∀ o,PCalls Tryz.prog 14 [.c (.ptr 0 0),.c (.sl 1 ([o,o,⟨#[108,97,110,48]⟩,⟨#[101,116,104,49]⟩].map strD))] [tape L (q+1)] _:=fun o=>one_ex L (q+1) [o,o,⟨#[108,97,110,48]⟩,⟨#[101,116,104,49]⟩] (by omega) (by simp) (by simp) hL hLl
  have o4_1:=one_ex L (q+1) [⟨#[101,116,104,48]⟩,⟨#[101,116,104,49]⟩,⟨#[119,108,97,110,48]⟩] (by omega) (by decide) (by decide) hL hLl
  have o5_1:∀ o,PCalls Tryz.prog 14 [.c (.ptr 0 0),.c (.sl 1 ([o,o,⟨#[108,97,110,48]⟩,⟨#[101,116,104,49]⟩].map strD))] [tape L (q+1+1)] _:=fun o=>one_ex L (q+1+1) [o,o,⟨#[108,97,110,48]⟩,⟨#[101,116,104,49]⟩] (by omega) (by simp) (by simp) hL hLl
  have o4_2:=one_ex L (q+1+1) [⟨#[101,116,104,48]⟩,⟨#[101,116,104,49]⟩,⟨#[119,108,97,110,48]⟩] (by omega) (by decide) (by decide) hL hLl
  have o5_2:∀ o,PCalls Tryz.prog 14 [.c (.ptr 0 0),.c (.sl 1 ([o,o,⟨#[108,97,110,48]⟩,⟨#[101,116,104,49]⟩].map strD))] [tape L (q+1+1+1)] _:=fun o=>one_ex L (q+1+1+1) [o,o,⟨#[108,97,110,48]⟩,⟨#[101,116,104,49]⟩] (by omega) (by simp) (by simp) hL hLl
  by_cases h0:0 < l.length
  case neg =>
   have h0':¬ (0:Int) < (l.length:Int):=by omega
   repeat' (first|((refine plc [0] (o4_0) ?_ ?_;push_cast [iO,tN,h0'];rintro r os ⟨o,om,rfl,rfl⟩;push_cast [iO,tN,h0']))|((refine plc [0] (o5_0 o) ?_ ?_;push_cast [iO,tN,h0'];rintro r os ⟨nm,nmm,rfl,rfl⟩;push_cast [iO,tN,h0']))|((first|refine pC ?_|refine pQC ?_|refine pU ?_);push_cast [iO,tN,h0'])|(refine pif (fun h=>?_) (fun h=>?_)<;>first|exact pN h|push_cast [iO,tN,h0']))
   all_goals (refine retK_of [0] ?_;push_cast [iO,tN])
   all_goals have zn:nm.size≤100:=by (simp only [List.mem_cons,List.not_mem_nil,or_false] at nmm;rcases nmm with rfl|rfl|rfl|rfl;exact mem_fit (by decide) om;exact mem_fit (by decide) om;decide;decide)
   all_goals exact ⟨_,_,leP_refl _,leOs_refl _,⟨ix,0,nm,o,⟨#[110,101,116]⟩,s2,s3,4,0,at_⟩,q+1+1,⟨WDev.mk' zn (mem_fit20 (by decide) om) (by decide) z2 z3 ⟨by decide,by decide⟩ (by omega) has,g2,g3⟩,by omega,rfl,rfl⟩
  have h0':(0:Int) < (l.length:Int):=by omega
  repeat' (first|((refine plc [0] (n2) ?_ ?_;push_cast [iO,tN,h0'];rintro r os ⟨v2,⟨v2a,v2b⟩,rfl,rfl⟩;push_cast [iO,tN,h0']))|(refine hidR 8 ?_)|((refine plc [0] (o4_1) ?_ ?_;push_cast [iO,tN,h0'];rintro r os ⟨o,om,rfl,rfl⟩;push_cast [iO,tN,h0']))|((refine plc [0] (o5_1 o) ?_ ?_;push_cast [iO,tN,h0'];rintro r os ⟨nm,nmm,rfl,rfl⟩;push_cast [iO,tN,h0']))|((first|refine pC ?_|refine pQC ?_|refine pU ?_);push_cast [iO,tN,h0'])|(refine pif (fun h=>?_) (fun h=>?_)<;>first|exact pN h|push_cast [iO,tN,h0']))
  ·obtain ⟨f,hf⟩:∃ f,fold (tapeAt L (q+1)) l.length=f:=⟨_,rfl⟩
   have hfb:=fold_bds (tapeAt L (q+1)) l.length h0'
   rw [hf] at hfb
   obtain ⟨g,rfl⟩:∃ g:Nat,f=(g:Int):=⟨f.toNat,by omega⟩
   have hgl:g < l.length:=by omega
   have hnx:=next_pure L (q+1) l.length (by omega) (by omega) hL hLl
   rw [hf] at hnx
   refine unhid ?_
   (refine pwp_drawn (by kernel_rfl) ?_;try simp only [List.length_cons,List.length_nil,Nat.reduceAdd];repeat' first|((refine plc [0] (hnx) ?_ ?_;push_cast [iO,tN,  hgl];rintro r os ⟨rfl,rfl⟩;push_cast [iO,tN,  hgl]))|((refine plc [0] (o4_2) ?_ ?_;push_cast [iO,tN,  hgl];rintro r os ⟨o,om,rfl,rfl⟩;push_cast [iO,tN,  hgl]))|((refine plc [0] (o5_2 o) ?_ ?_;push_cast [iO,tN,  hgl];rintro r os ⟨nm,nmm,rfl,rfl⟩;push_cast [iO,tN,  hgl]))|((first|refine pah 0 ?_|refine pah 2 ?_|refine pah 3 ?_|refine pah 5 ?_|refine pah 6 ?_|refine pah 8 ?_);push_cast [iO,tN,  hgl])|(refine pad ?_;try push_cast [iO,tN,  hgl])|((first|refine pas [1] ?_|refine pas [4] ?_|refine pas [7] ?_|refine pas [9] ?_);push_cast [iO,tN,  hgl])|((first|refine pas [1,4] ?_|refine pas [1,7] ?_|refine pas [1,9] ?_|refine pas [4,7] ?_|refine pas [4,9] ?_|refine pas [7,9] ?_);push_cast [iO,tN,  hgl];refine ⟨?_,?_⟩)|((first|refine pas [1,4,7] ?_|refine pas [1,4,9] ?_|refine pas [1,7,9] ?_|refine pas [4,7,9] ?_);push_cast [iO,tN,  hgl];refine ⟨?_,?_,?_⟩))
   all_goals (refine retK_of [0] ?_;push_cast [iO,tN])
   all_goals have zn:nm.size≤100:=by (simp only [List.mem_cons,List.not_mem_nil,or_false] at nmm;rcases nmm with rfl|rfl|rfl|rfl;exact mem_fit (by decide) om;exact mem_fit (by decide) om;decide;decide)
   all_goals exact ⟨_,_,leP_refl _,leOs_refl _,⟨ix,(l.getD g default).index,nm,o,⟨#[110,101,116]⟩,s2,s3,4,0,at_⟩,q+1+1+1+1,⟨WDev.mk' zn (mem_fit20 (by decide) om) (by decide) z2 z3 ⟨by decide,by decide⟩ (by omega) has,g2,g3⟩,by omega,rfl,rfl⟩
  ·all_goals (refine retK_of [0] ?_;push_cast [iO,tN])
   all_goals have zn:nm.size≤100:=by (simp only [List.mem_cons,List.not_mem_nil,or_false] at nmm;rcases nmm with rfl|rfl|rfl|rfl;exact mem_fit (by decide) om;exact mem_fit (by decide) om;decide;decide)
   all_goals exact ⟨_,_,leP_refl _,leOs_refl _,⟨ix,0,nm,o,⟨#[110,101,116]⟩,s2,s3,4,0,at_⟩,q+1+1+1,⟨WDev.mk' zn (mem_fit20 (by decide) om) (by decide) z2 z3 ⟨by decide,by decide⟩ (by omega) has,g2,g3⟩,by omega,rfl,rfl⟩
 by_cases k2:kd=2
 ·subst k2
  have o4_0:=one_ex L (q) [⟨#[115,100,97]⟩,⟨#[115,100,98]⟩,⟨#[115,100,97,49]⟩,⟨#[115,100,97,50]⟩,⟨#[99,33,100,48]⟩] (by omega) (by decide) (by decide) hL hLl
  have n4_0:=next_ex L (q+1) 9 (by omega) (by decide) (by decide) hL hLl
  have o4_1:=one_ex L (q+1) [⟨#[115,100,97]⟩,⟨#[115,100,98]⟩,⟨#[115,100,97,49]⟩,⟨#[115,100,97,50]⟩,⟨#[99,33,100,48]⟩] (by omega) (by decide) (by decide) hL hLl
  have n4_1:=next_ex L (q+1+1) 9 (by omega) (by decide) (by decide) hL hLl
  have o4_2:=one_ex L (q+1+1) [⟨#[115,100,97]⟩,⟨#[115,100,98]⟩,⟨#[115,100,97,49]⟩,⟨#[115,100,97,50]⟩,⟨#[99,33,100,48]⟩] (by omega) (by decide) (by decide) hL hLl
  have n4_2:=next_ex L (q+1+1+1) 9 (by omega) (by decide) (by decide) hL hLl
  have wc:=wcontents_pure
  by_cases h0:0 < l.length
  case neg =>
   have h0':¬ (0:Int) < (l.length:Int):=by omega
   repeat' (first|((refine plc [0] (o4_0) ?_ ?_;push_cast [iO,tN,h0'];rintro r os ⟨o,om,rfl,rfl⟩;push_cast [iO,tN,h0']))|((refine plc [0] (n4_0) ?_ ?_;push_cast [iO,tN,h0'];rintro r os ⟨nu,⟨nua,nub⟩,rfl,rfl⟩;push_cast [iO,tN,h0']))|(refine hidR 20 ?_)|((first|refine pC ?_|refine pQC ?_|refine pU ?_);push_cast [iO,tN,h0'])|(refine pif (fun h=>?_) (fun h=>?_)<;>first|exact pN h|push_cast [iO,tN,h0']))
   all_goals refine unhid ?_
   all_goals (refine pwp_drawn (by kernel_rfl) ?_;try simp only [List.length_cons,List.length_nil,Nat.reduceAdd];repeat' first|((refine plc [] (wc) ?_ ?_;push_cast [iO,tN];rintro r os ⟨⟨cl,hcl,hcs,rfl⟩,rfl⟩;push_cast [iO,tN]))|((refine plc [0] (one_ex L (q+1+1) cl (by omega) (by omega) (by omega) hL hLl) ?_ ?_;push_cast [iO,tN];rintro r os ⟨c,cm,rfl,rfl⟩;push_cast [iO,tN]))|((refine plc [] (rset_ex at_ ⟨#[99,111,110,116,101,110,116]⟩ c (by omega)) ?_ ?_;push_cast [iO,tN];rintro r os ⟨at2,⟨s4,s5⟩,rfl,rfl⟩;push_cast [iO,tN]))|((first|refine pah 0 ?_|refine pah 2 ?_|refine pah 6 ?_);push_cast [iO,tN])|(refine pad ?_;try push_cast [iO,tN])|((first|refine pas [1] ?_|refine pas [3] ?_|refine pas [4] ?_|refine pas [5] ?_|refine pas [7] ?_);push_cast [iO,tN])|((first|refine pas [1,3] ?_|refine pas [1,4] ?_|refine pas [1,5] ?_|refine pas [1,7] ?_|refine pas [3,4] ?_|refine pas [3,5] ?_|refine pas [3,7] ?_|refine pas [4,5] ?_|refine pas [4,7] ?_|refine pas [5,7] ?_);push_cast [iO,tN];refine ⟨?_,?_⟩)|((first|refine pas [1,3,4] ?_|refine pas [1,3,5] ?_|refine pas [1,3,7] ?_|refine pas [1,4,5] ?_|refine pas [1,4,7] ?_|refine pas [1,5,7] ?_|refine pas [3,4,5] ?_|refine pas [3,4,7] ?_|refine pas [3,5,7] ?_|refine pas [4,5,7] ?_);push_cast [iO,tN];refine ⟨?_,?_,?_⟩))
   all_goals repeat' (first|((first|refine pC ?_|refine pQC ?_|refine pU ?_);push_cast [iO,tN])|(refine pif (fun h=>?_) (fun h=>?_)<;>first|exact pN h|push_cast [iO,tN]))
   all_goals (refine retK_of [0] ?_;push_cast [iO,tN])
   all_goals exact ⟨_,_,leP_refl _,leOs_refl _,⟨ix,0,o,o,⟨#[98,108,111,99,107]⟩,s2,s3,2,1+nu,at2⟩,q+1+1+1,⟨WDev.mk' (mem_fit (by decide) om) (mem_fit20 (by decide) om) (by decide) z2 z3 ⟨by omega,by omega⟩ (by omega) (has.set s5 (by decide) (hcs _ cm)),g2,g3⟩,by omega,rfl,rfl⟩
  have h0':(0:Int) < (l.length:Int):=by omega
  repeat' (first|((refine plc [0] (n2) ?_ ?_;push_cast [iO,tN,h0'];rintro r os ⟨v2,⟨v2a,v2b⟩,rfl,rfl⟩;push_cast [iO,tN,h0']))|(refine hidR 8 ?_)|((refine plc [0] (o4_1) ?_ ?_;push_cast [iO,tN,h0'];rintro r os ⟨o,om,rfl,rfl⟩;push_cast [iO,tN,h0']))|((refine plc [0] (n4_1) ?_ ?_;push_cast [iO,tN,h0'];rintro r os ⟨nu,⟨nua,nub⟩,rfl,rfl⟩;push_cast [iO,tN,h0']))|(refine hidR 20 ?_)|((first|refine pC ?_|refine pQC ?_|refine pU ?_);push_cast [iO,tN,h0'])|(refine pif (fun h=>?_) (fun h=>?_)<;>first|exact pN h|push_cast [iO,tN,h0']))
  ·obtain ⟨f,hf⟩:∃ f,fold (tapeAt L (q+1)) l.length=f:=⟨_,rfl⟩
   have hfb:=fold_bds (tapeAt L (q+1)) l.length h0'
   rw [hf] at hfb
   obtain ⟨g,rfl⟩:∃ g:Nat,f=(g:Int):=⟨f.toNat,by omega⟩
   have hgl:g < l.length:=by omega
   have hnx:=next_pure L (q+1) l.length (by omega) (by omega) hL hLl
   rw [hf] at hnx
   refine unhid ?_
   (refine pwp_drawn (by kernel_rfl) ?_;try simp only [List.length_cons,List.length_nil,Nat.reduceAdd];repeat' first|((refine plc [0] (hnx) ?_ ?_;push_cast [iO,tN,  hgl];rintro r os ⟨rfl,rfl⟩;push_cast [iO,tN,  hgl]))|((refine plc [0] (o4_2) ?_ ?_;push_cast [iO,tN,  hgl];rintro r os ⟨o,om,rfl,rfl⟩;push_cast [iO,tN,  hgl]))|((refine plc [0] (n4_2) ?_ ?_;push_cast [iO,tN,  hgl];rintro r os ⟨nu,⟨nua,nub⟩,rfl,rfl⟩;push_cast [iO,tN,  hgl]))|(refine hidR 20 ?_)|((first|refine pah 0 ?_|refine pah 2 ?_|refine pah 3 ?_|refine pah 5 ?_|refine pah 6 ?_|refine pah 8 ?_);push_cast [iO,tN,  hgl])|(refine pad ?_;try push_cast [iO,tN,  hgl])|((first|refine pas [1] ?_|refine pas [4] ?_|refine pas [7] ?_|refine pas [9] ?_);push_cast [iO,tN,  hgl])|((first|refine pas [1,4] ?_|refine pas [1,7] ?_|refine pas [1,9] ?_|refine pas [4,7] ?_|refine pas [4,9] ?_|refine pas [7,9] ?_);push_cast [iO,tN,  hgl];refine ⟨?_,?_⟩)|((first|refine pas [1,4,7] ?_|refine pas [1,4,9] ?_|refine pas [1,7,9] ?_|refine pas [4,7,9] ?_);push_cast [iO,tN,  hgl];refine ⟨?_,?_,?_⟩))
   all_goals refine unhid ?_
   all_goals (refine pwp_drawn (by kernel_rfl) ?_;try simp only [List.length_cons,List.length_nil,Nat.reduceAdd];repeat' first|((refine plc [] (wc) ?_ ?_;push_cast [iO,tN];rintro r os ⟨⟨cl,hcl,hcs,rfl⟩,rfl⟩;push_cast [iO,tN]))|((refine plc [0] (one_ex L (q+1+1+1+1) cl (by omega) (by omega) (by omega) hL hLl) ?_ ?_;push_cast [iO,tN];rintro r os ⟨c,cm,rfl,rfl⟩;push_cast [iO,tN]))|((refine plc [] (rset_ex at_ ⟨#[99,111,110,116,101,110,116]⟩ c (by omega)) ?_ ?_;push_cast [iO,tN];rintro r os ⟨at2,⟨s4,s5⟩,rfl,rfl⟩;push_cast [iO,tN]))|((first|refine pah 0 ?_|refine pah 2 ?_|refine pah 6 ?_);push_cast [iO,tN])|(refine pad ?_;try push_cast [iO,tN])|((first|refine pas [1] ?_|refine pas [3] ?_|refine pas [4] ?_|refine pas [5] ?_|refine pas [7] ?_);push_cast [iO,tN])|((first|refine pas [1,3] ?_|refine pas [1,4] ?_|refine pas [1,5] ?_|refine pas [1,7] ?_|refine pas [3,4] ?_|refine pas [3,5] ?_|refine pas [3,7] ?_|refine pas [4,5] ?_|refine pas [4,7] ?_|refine pas [5,7] ?_);push_cast [iO,tN];refine ⟨?_,?_⟩)|((first|refine pas [1,3,4] ?_|refine pas [1,3,5] ?_|refine pas [1,3,7] ?_|refine pas [1,4,5] ?_|refine pas [1,4,7] ?_|refine pas [1,5,7] ?_|refine pas [3,4,5] ?_|refine pas [3,4,7] ?_|refine pas [3,5,7] ?_|refine pas [4,5,7] ?_);push_cast [iO,tN];refine ⟨?_,?_,?_⟩))
   all_goals repeat' (first|((first|refine pC ?_|refine pQC ?_|refine pU ?_);push_cast [iO,tN])|(refine pif (fun h=>?_) (fun h=>?_)<;>first|exact pN h|push_cast [iO,tN]))
   all_goals (refine retK_of [0] ?_;push_cast [iO,tN])
   all_goals exact ⟨_,_,leP_refl _,leOs_refl _,⟨ix,(l.getD g default).index,o,o,⟨#[98,108,111,99,107]⟩,s2,s3,2,1+nu,at2⟩,q+1+1+1+1+1,⟨WDev.mk' (mem_fit (by decide) om) (mem_fit20 (by decide) om) (by decide) z2 z3 ⟨by omega,by omega⟩ (by omega) (has.set s5 (by decide) (hcs _ cm)),g2,g3⟩,by omega,rfl,rfl⟩
  ·all_goals refine unhid ?_
   all_goals (refine pwp_drawn (by kernel_rfl) ?_;try simp only [List.length_cons,List.length_nil,Nat.reduceAdd];repeat' first|((refine plc [] (wc) ?_ ?_;push_cast [iO,tN];rintro r os ⟨⟨cl,hcl,hcs,rfl⟩,rfl⟩;push_cast [iO,tN]))|((refine plc [0] (one_ex L (q+1+1+1) cl (by omega) (by omega) (by omega) hL hLl) ?_ ?_;push_cast [iO,tN];rintro r os ⟨c,cm,rfl,rfl⟩;push_cast [iO,tN]))|((refine plc [] (rset_ex at_ ⟨#[99,111,110,116,101,110,116]⟩ c (by omega)) ?_ ?_;push_cast [iO,tN];rintro r os ⟨at2,⟨s4,s5⟩,rfl,rfl⟩;push_cast [iO,tN]))|((first|refine pah 0 ?_|refine pah 2 ?_|refine pah 6 ?_);push_cast [iO,tN])|(refine pad ?_;try push_cast [iO,tN])|((first|refine pas [1] ?_|refine pas [3] ?_|refine pas [4] ?_|refine pas [5] ?_|refine pas [7] ?_);push_cast [iO,tN])|((first|refine pas [1,3] ?_|refine pas [1,4] ?_|refine pas [1,5] ?_|refine pas [1,7] ?_|refine pas [3,4] ?_|refine pas [3,5] ?_|refine pas [3,7] ?_|refine pas [4,5] ?_|refine pas [4,7] ?_|refine pas [5,7] ?_);push_cast [iO,tN];refine ⟨?_,?_⟩)|((first|refine pas [1,3,4] ?_|refine pas [1,3,5] ?_|refine pas [1,3,7] ?_|refine pas [1,4,5] ?_|refine pas [1,4,7] ?_|refine pas [1,5,7] ?_|refine pas [3,4,5] ?_|refine pas [3,4,7] ?_|refine pas [3,5,7] ?_|refine pas [4,5,7] ?_);push_cast [iO,tN];refine ⟨?_,?_,?_⟩))
   all_goals repeat' (first|((first|refine pC ?_|refine pQC ?_|refine pU ?_);push_cast [iO,tN])|(refine pif (fun h=>?_) (fun h=>?_)<;>first|exact pN h|push_cast [iO,tN]))
   all_goals (refine retK_of [0] ?_;push_cast [iO,tN])
   all_goals exact ⟨_,_,leP_refl _,leOs_refl _,⟨ix,0,o,o,⟨#[98,108,111,99,107]⟩,s2,s3,2,1+nu,at2⟩,q+1+1+1+1,⟨WDev.mk' (mem_fit (by decide) om) (mem_fit20 (by decide) om) (by decide) z2 z3 ⟨by omega,by omega⟩ (by omega) (has.set s5 (by decide) (hcs _ cm)),g2,g3⟩,by omega,rfl,rfl⟩
 by_cases k3:kd=3
 ·subst k3
  have o4_0:=one_ex L (q) [⟨#[116,116,121,48]⟩,⟨#[116,116,121,49]⟩,⟨#[105,110,112,117,116,33,101,118,48]⟩] (by omega) (by decide) (by decide) hL hLl
  have n4_0:=next_ex L (q+1) 9 (by omega) (by decide) (by decide) hL hLl
  have o4_1:=one_ex L (q+1) [⟨#[116,116,121,48]⟩,⟨#[116,116,121,49]⟩,⟨#[105,110,112,117,116,33,101,118,48]⟩] (by omega) (by decide) (by decide) hL hLl
  have n4_1:=next_ex L (q+1+1) 9 (by omega) (by decide) (by decide) hL hLl
  have o4_2:=one_ex L (q+1+1) [⟨#[116,116,121,48]⟩,⟨#[116,116,121,49]⟩,⟨#[105,110,112,117,116,33,101,118,48]⟩] (by omega) (by decide) (by decide) hL hLl
  have n4_2:=next_ex L (q+1+1+1) 9 (by omega) (by decide) (by decide) hL hLl
  by_cases h0:0 < l.length
  case neg =>
   have h0':¬ (0:Int) < (l.length:Int):=by omega
   repeat' (first|((refine plc [0] (o4_0) ?_ ?_;push_cast [iO,tN,h0'];rintro r os ⟨o,om,rfl,rfl⟩;push_cast [iO,tN,h0']))|((refine plc [0] (n4_0) ?_ ?_;push_cast [iO,tN,h0'];rintro r os ⟨nu,⟨nua,nub⟩,rfl,rfl⟩;push_cast [iO,tN,h0']))|((first|refine pC ?_|refine pQC ?_|refine pU ?_);push_cast [iO,tN,h0'])|(refine pif (fun h=>?_) (fun h=>?_)<;>first|exact pN h|push_cast [iO,tN,h0']))
   all_goals (refine retK_of [0] ?_;push_cast [iO,tN])
   all_goals exact ⟨_,_,leP_refl _,leOs_refl _,⟨ix,0,o,o,s1,s2,s3,3,1+nu,at_⟩,q+1+1,⟨WDev.mk' (mem_fit (by decide) om) (mem_fit20 (by decide) om) z1 z2 z3 ⟨by omega,by omega⟩ (by omega) has,g2,g3⟩,by omega,rfl,rfl⟩
  have h0':(0:Int) < (l.length:Int):=by omega
  repeat' (first|((refine plc [0] (n2) ?_ ?_;push_cast [iO,tN,h0'];rintro r os ⟨v2,⟨v2a,v2b⟩,rfl,rfl⟩;push_cast [iO,tN,h0']))|(refine hidR 8 ?_)|((refine plc [0] (o4_1) ?_ ?_;push_cast [iO,tN,h0'];rintro r os ⟨o,om,rfl,rfl⟩;push_cast [iO,tN,h0']))|((refine plc [0] (n4_1) ?_ ?_;push_cast [iO,tN,h0'];rintro r os ⟨nu,⟨nua,nub⟩,rfl,rfl⟩;push_cast [iO,tN,h0']))|((first|refine pC ?_|refine pQC ?_|refine pU ?_);push_cast [iO,tN,h0'])|(refine pif (fun h=>?_) (fun h=>?_)<;>first|exact pN h|push_cast [iO,tN,h0']))
  ·obtain ⟨f,hf⟩:∃ f,fold (tapeAt L (q+1)) l.length=f:=⟨_,rfl⟩
   have hfb:=fold_bds (tapeAt L (q+1)) l.length h0'
   rw [hf] at hfb
   obtain ⟨g,rfl⟩:∃ g:Nat,f=(g:Int):=⟨f.toNat,by omega⟩
   have hgl:g < l.length:=by omega
   have hnx:=next_pure L (q+1) l.length (by omega) (by omega) hL hLl
   rw [hf] at hnx
   refine unhid ?_
   (refine pwp_drawn (by kernel_rfl) ?_;try simp only [List.length_cons,List.length_nil,Nat.reduceAdd];repeat' first|((refine plc [0] (hnx) ?_ ?_;push_cast [iO,tN,  hgl];rintro r os ⟨rfl,rfl⟩;push_cast [iO,tN,  hgl]))|((refine plc [0] (o4_2) ?_ ?_;push_cast [iO,tN,  hgl];rintro r os ⟨o,om,rfl,rfl⟩;push_cast [iO,tN,  hgl]))|((refine plc [0] (n4_2) ?_ ?_;push_cast [iO,tN,  hgl];rintro r os ⟨nu,⟨nua,nub⟩,rfl,rfl⟩;push_cast [iO,tN,  hgl]))|((first|refine pah 0 ?_|refine pah 2 ?_|refine pah 3 ?_|refine pah 5 ?_|refine pah 6 ?_|refine pah 8 ?_);push_cast [iO,tN,  hgl])|(refine pad ?_;try push_cast [iO,tN,  hgl])|((first|refine pas [1] ?_|refine pas [4] ?_|refine pas [7] ?_|refine pas [9] ?_);push_cast [iO,tN,  hgl])|((first|refine pas [1,4] ?_|refine pas [1,7] ?_|refine pas [1,9] ?_|refine pas [4,7] ?_|refine pas [4,9] ?_|refine pas [7,9] ?_);push_cast [iO,tN,  hgl];refine ⟨?_,?_⟩)|((first|refine pas [1,4,7] ?_|refine pas [1,4,9] ?_|refine pas [1,7,9] ?_|refine pas [4,7,9] ?_);push_cast [iO,tN,  hgl];refine ⟨?_,?_,?_⟩))
   all_goals (refine retK_of [0] ?_;push_cast [iO,tN])
   all_goals exact ⟨_,_,leP_refl _,leOs_refl _,⟨ix,(l.getD g default).index,o,o,s1,s2,s3,3,1+nu,at_⟩,q+1+1+1+1,⟨WDev.mk' (mem_fit (by decide) om) (mem_fit20 (by decide) om) z1 z2 z3 ⟨by omega,by omega⟩ (by omega) has,g2,g3⟩,by omega,rfl,rfl⟩
  ·all_goals (refine retK_of [0] ?_;push_cast [iO,tN])
   all_goals exact ⟨_,_,leP_refl _,leOs_refl _,⟨ix,0,o,o,s1,s2,s3,3,1+nu,at_⟩,q+1+1+1,⟨WDev.mk' (mem_fit (by decide) om) (mem_fit20 (by decide) om) z1 z2 z3 ⟨by omega,by omega⟩ (by omega) has,g2,g3⟩,by omega,rfl,rfl⟩
 have o4_0:=one_ex L (q) [⟨#[112,99,105,48]⟩,⟨#[117,115,98,49]⟩,⟨#[49,45,49]⟩,⟨#[112,111,114,116]⟩] (by omega) (by decide) (by decide) hL hLl
 have o4_1:=one_ex L (q+1) [⟨#[112,99,105,48]⟩,⟨#[117,115,98,49]⟩,⟨#[49,45,49]⟩,⟨#[112,111,114,116]⟩] (by omega) (by decide) (by decide) hL hLl
 have o4_2:=one_ex L (q+1+1) [⟨#[112,99,105,48]⟩,⟨#[117,115,98,49]⟩,⟨#[49,45,49]⟩,⟨#[112,111,114,116]⟩] (by omega) (by decide) (by decide) hL hLl
 by_cases h0:0 < l.length
 case neg =>
  have h0':¬ (0:Int) < (l.length:Int):=by omega
  repeat' (first|((refine plc [0] (o4_0) ?_ ?_;push_cast [iO,tN,k4,k2,k3,h0'];rintro r os ⟨o,om,rfl,rfl⟩;push_cast [iO,tN,k4,k2,k3,h0']))|((first|refine pC ?_|refine pQC ?_|refine pU ?_);push_cast [iO,tN,k4,k2,k3,h0'])|(refine pif (fun h=>?_) (fun h=>?_)<;>first|exact pN h|push_cast [iO,tN,k4,k2,k3,h0']))
  all_goals (refine retK_of [0] ?_;push_cast [iO,tN])
  all_goals exact ⟨_,_,leP_refl _,leOs_refl _,⟨ix,0,o,o,s1,s2,s3,kd,0,at_⟩,q+1,⟨WDev.mk' (mem_fit (by decide) om) (mem_fit20 (by decide) om) z1 z2 z3 ⟨by decide,by decide⟩ (by omega) has,g2,g3⟩,by omega,rfl,rfl⟩
 have h0':(0:Int) < (l.length:Int):=by omega
 repeat' (first|((refine plc [0] (n2) ?_ ?_;push_cast [iO,tN,k4,k2,k3,h0'];rintro r os ⟨v2,⟨v2a,v2b⟩,rfl,rfl⟩;push_cast [iO,tN,k4,k2,k3,h0']))|(refine hidR 8 ?_)|((refine plc [0] (o4_1) ?_ ?_;push_cast [iO,tN,k4,k2,k3,h0'];rintro r os ⟨o,om,rfl,rfl⟩;push_cast [iO,tN,k4,k2,k3,h0']))|((first|refine pC ?_|refine pQC ?_|refine pU ?_);push_cast [iO,tN,k4,k2,k3,h0'])|(refine pif (fun h=>?_) (fun h=>?_)<;>first|exact pN h|push_cast [iO,tN,k4,k2,k3,h0']))
 ·obtain ⟨f,hf⟩:∃ f,fold (tapeAt L (q+1)) l.length=f:=⟨_,rfl⟩
  have hfb:=fold_bds (tapeAt L (q+1)) l.length h0'
  rw [hf] at hfb
  obtain ⟨g,rfl⟩:∃ g:Nat,f=(g:Int):=⟨f.toNat,by omega⟩
  have hgl:g < l.length:=by omega
  have hnx:=next_pure L (q+1) l.length (by omega) (by omega) hL hLl
  rw [hf] at hnx
  refine unhid ?_
  (refine pwp_drawn (by kernel_rfl) ?_;try simp only [List.length_cons,List.length_nil,Nat.reduceAdd];repeat' first|((refine plc [0] (hnx) ?_ ?_;push_cast [iO,tN,  k4,k2,k3,hgl];rintro r os ⟨rfl,rfl⟩;push_cast [iO,tN,  k4,k2,k3,hgl]))|((refine plc [0] (o4_2) ?_ ?_;push_cast [iO,tN,  k4,k2,k3,hgl];rintro r os ⟨o,om,rfl,rfl⟩;push_cast [iO,tN,  k4,k2,k3,hgl]))|((first|refine pah 0 ?_|refine pah 2 ?_|refine pah 3 ?_|refine pah 5 ?_|refine pah 6 ?_|refine pah 8 ?_);push_cast [iO,tN,  k4,k2,k3,hgl])|(refine pad ?_;try push_cast [iO,tN,  k4,k2,k3,hgl])|((first|refine pas [1] ?_|refine pas [4] ?_|refine pas [7] ?_|refine pas [9] ?_);push_cast [iO,tN,  k4,k2,k3,hgl])|((first|refine pas [1,4] ?_|refine pas [1,7] ?_|refine pas [1,9] ?_|refine pas [4,7] ?_|refine pas [4,9] ?_|refine pas [7,9] ?_);push_cast [iO,tN,  k4,k2,k3,hgl];refine ⟨?_,?_⟩)|((first|refine pas [1,4,7] ?_|refine pas [1,4,9] ?_|refine pas [1,7,9] ?_|refine pas [4,7,9] ?_);push_cast [iO,tN,  k4,k2,k3,hgl];refine ⟨?_,?_,?_⟩))
  all_goals (refine retK_of [0] ?_;push_cast [iO,tN])
  all_goals exact ⟨_,_,leP_refl _,leOs_refl _,⟨ix,(l.getD g default).index,o,o,s1,s2,s3,kd,0,at_⟩,q+1+1+1,⟨WDev.mk' (mem_fit (by decide) om) (mem_fit20 (by decide) om) z1 z2 z3 ⟨by decide,by decide⟩ (by omega) has,g2,g3⟩,by omega,rfl,rfl⟩
 ·all_goals (refine retK_of [0] ?_;push_cast [iO,tN])
  all_goals exact ⟨_,_,leP_refl _,leOs_refl _,⟨ix,0,o,o,s1,s2,s3,kd,0,at_⟩,q+1+1,⟨WDev.mk' (mem_fit (by decide) om) (mem_fit20 (by decide) om) z1 z2 z3 ⟨by decide,by decide⟩ (by omega) has,g2,g3⟩,by omega,rfl,rfl⟩
end Go.Proofs.YthconflkbeipoaaGreatDoor
namespace Go.Proofs.YthconflkbeipoaaGreatDoor
open Go.RowKit
open IntWalk renaming iteOmega → iO, toNatUp → tN
set_option linter.unusedVariables false
set_option linter.unusedSimpArgs false
def plusL (cs:List Bool) (t:List UInt8):List Bool:=t.foldl (fun cs b=>cs.set b.toNat true) cs
theorem plusL_len:∀ (t:List UInt8) (cs:List Bool),(plusL cs t).length=cs.length
 | [],_=>rfl
 | b :: t,cs=>by have:=plusL_len t (cs.set b.toNat true);rw [List.length_set] at this;exact this
theorem plusL_get:∀ (t:List UInt8) (cs:List Bool) (b:UInt8),cs.length=256 → (plusL cs t).getD b.toNat false=(cs.getD b.toNat false || t.contains b)
 | [],cs,b,_=>by simp [plusL]
 | a :: t,cs,b,h=>by
  have hb:=b.toNat_lt
  have:=plusL_get t (cs.set a.toNat true) b (by rw [List.length_set];exact h)
  rw [show plusL cs (a :: t)=plusL (cs.set a.toNat true) t from rfl,this,List.contains_cons]
  by_cases e:b=a
  ·subst e
   have:(cs.set b.toNat true).getD b.toNat false=true:=by rw [List.getD_eq_getElem?_getD,List.getElem?_set_self (by omega)];rfl
   rw [this];simp
  ·have hne:a.toNat≠b.toNat:=fun h=>e (UInt8.toNat_inj.1 h.symm)
   have:(cs.set a.toNat true).getD b.toNat false=cs.getD b.toNat false:=by rw [List.getD_eq_getElem?_getD,List.getElem?_set_ne hne,← List.getD_eq_getElem?_getD]
   rw [this,show (b == a)=false by simpa using e,Bool.false_or]
theorem plusL_snoc (cs:List Bool) (t:List UInt8) (b:UInt8):plusL cs (t++[b])=(plusL cs t).set b.toNat true:=by simp [plusL]
def upperT:List UInt8:=[65,66,67,68,69,70,71,72,73,74,75,76,77,78,79,80,81,82,83,84,85,86,87,88,89,90]
def lowerT:List UInt8:=[97,98,99,100,101,102,103,104,105,106,107,108,109,110,111,112,113,114,115,116,117,118,119,120,121,122]
def digitT:List UInt8:=[48,49,50,51,52,53,54,55,56,57]
def moreT:List UInt8:=[95,46,58,43,45]
def noneL:List Bool:=List.replicate 256 false
def commonL:List Bool:=plusL (plusL (plusL (plusL noneL upperT) lowerT) digitT) moreT
theorem noneL_len:noneL.length=256:=List.length_replicate
theorem commonL_len:commonL.length=256:=by rw [commonL,plusL_len,plusL_len,plusL_len,plusL_len,noneL_len]
def nameT:List UInt8:=upperT++lowerT++digitT++moreT++[33]
def nameB (b:UInt8):Bool:=nameT.contains b
theorem nameL_get (b:UInt8):(plusL commonL [33]).getD b.toNat false=nameB b:=by
 have h0:noneL.getD b.toNat false=false:=by unfold noneL;rw [List.getD_eq_getElem?_getD,List.getElem?_replicate];split<;>rfl
 rw [plusL_get _ _ _ commonL_len,commonL,plusL_get _ _ _ (by rw [plusL_len,plusL_len,plusL_len,noneL_len]),plusL_get _ _ _ (by rw [plusL_len,plusL_len,noneL_len]),plusL_get _ _ _ (by rw [plusL_len,noneL_len]),plusL_get _ _ _ noneL_len,h0]
 rw [Bool.eq_iff_iff]
 simp only [nameB,nameT,Bool.or_eq_true,List.contains_iff_mem,List.mem_append,Bool.false_eq_true,false_or]
def hasL (cs:List Bool) (s:ByteArray):Bool:=s.data.toList.all fun b=>cs.getD b.toNat false
def dotsS (s:ByteArray):Bool:=decide (s=⟨#[46]⟩) || decide (s=⟨#[46,46]⟩)
def validS (s:ByteArray):Bool:=(((decide (s≠⟨#[]⟩) && decide (s.size≤32)) && !dotsS s) && s.data.toList.all nameB)
theorem has_name (s:ByteArray):hasL (plusL commonL [33]) s=s.data.toList.all nameB:=by unfold hasL;simp only [nameL_get]
def spl:List UInt8 → List (List UInt8)
 | []=>[[]]
 | b :: l=>if b=47 then [] :: spl l else match spl l with
  | []=>[[b]]
  | h :: t=>(b :: h) :: t
theorem spl_ne (l:List UInt8):spl l≠[]:=by
 cases l with
 | nil=>simp [spl]
 | cons b l=>rw [spl];split;simp;split<;>simp
theorem spl_none:∀ {l:List UInt8},(47:UInt8) ∉ l → spl l=[l]
 | [],_=>rfl
 | b :: l,h=>by
  simp only [List.mem_cons,not_or] at h
  rw [spl,if_neg (fun e=>h.1 e.symm),spl_none h.2]
theorem spl_app:∀ {a:List UInt8} (r:List UInt8),(47:UInt8) ∉ a → spl (a++47 :: r)=a :: spl r
 | [],r,_=>by rw [List.nil_append,spl,if_pos rfl]
 | b :: a,r,h=>by
  simp only [List.mem_cons,not_or] at h
  rw [List.cons_append,spl,if_neg (fun e=>h.1 e.symm),spl_app r h.2]
theorem splitK_spl:∀ (k:Nat) (s:List UInt8),s.count 47=k → Lib.splitK [47] 0 k s=spl s
 | 0,s,h=>by rw [spl_none (List.count_eq_zero.1 h)];rfl
 | k+1,s,h=>by
  have hmem:(47:UInt8) ∈ s:=List.count_pos_iff.1 (by omega)
  obtain ⟨a,r,rfl,ha⟩:∃ a r,s=a++47 :: r∧(47:UInt8) ∉ a:=by
   clear h
   induction s with
   | nil=>simp at hmem
   | cons b s ih =>
    by_cases e:b=47
    ·subst e;exact ⟨[],s,rfl,by simp⟩
    ·obtain ⟨a,r,rfl,ha⟩:=ih (by simpa [Ne.symm e] using hmem)
     exact ⟨b :: a,r,rfl,by simp [ha,Ne.symm e]⟩
  have hi:Lib.index (a++47 :: r) [47]=(a.length:Int):=by
   rw [Lib.index_one]
   clear h
   induction a with
   | nil=>simp [Lib.indexByte]
   | cons b a ih =>
    simp only [List.mem_cons,not_or] at ha
    have:=ih ha.2 (by simp)
    rw [List.cons_append,Lib.indexByte,if_neg (by simpa using Ne.symm ha.1),this,if_neg (by simp)]
    simp
  have hc:r.count 47=k:=by
   rw [List.count_append,List.count_cons_self,List.count_eq_zero.2 ha] at h
   omega
  rw [Lib.splitK,hi,if_neg (by simp),spl_app r ha]
  simp only [Int.toNat_natCast,Nat.add_zero,List.length_cons,List.length_nil,Nat.zero_add]
  rw [List.take_left,List.drop_append,List.drop_eq_nil_of_le (by omega),List.nil_append,show a.length+1 - a.length=1 by omega]
  simp only [List.drop_succ_cons,List.drop_zero]
  rw [splitK_spl k r hc]
def unT (l:List UInt8):ByteArray:=⟨l.toArray⟩
theorem unT_data (s:ByteArray):unT s.data.toList=s:=rfl
def parts (s:ByteArray):List ByteArray:=(spl s.data.toList).map unT
theorem parts_ne (s:ByteArray):0 < (parts s).length:=by
 unfold parts;rw [List.length_map];exact List.length_pos_iff.2 (spl_ne _)
theorem splitB_parts (s:ByteArray):Lib.splitB ⟨#[47]⟩ 0 (Lib.countB s ⟨#[47]⟩) s=parts s:=by
 have h:=Lib.splitB_data ⟨#[47]⟩ 0 (Lib.countB s ⟨#[47]⟩) s
 have hc:Lib.countB s ⟨#[47]⟩=s.data.toList.count 47:=Lib.count_one 47 s.data.toList
 have h2:=splitK_spl _ s.data.toList hc.symm
 have e:(⟨#[47]⟩:ByteArray).data.toList=[47]:=rfl
 rw [e,h2] at h
 unfold parts
 rw [← h,List.map_map]
 conv=>lhs;rw [← List.map_id (Lib.splitB _ _ _ _)]
 exact List.map_congr_left fun x _=>rfl
def slashS (s:ByteArray):Bool:=Lib.hasPrefix s.data.toList [47]
def restS (s:ByteArray):ByteArray:=if slashS s=true then s.extract 1 s.size else s
def splitP (s:ByteArray):Option (List ByteArray):=if slashS s=true∧(parts (restS s)).all validS=true then some (parts (restS s)) else none
theorem parts_size:∀ {s:ByteArray},(parts s).length≤s.size+1:=by
 intro s
 unfold parts
 rw [List.length_map]
 have:∀ l:List UInt8,(spl l).length≤l.length+1:=by
  intro l
  induction l with
  | nil=>simp [spl]
  | cons b l ih =>
   rw [spl]
   split
   ·simp only [List.length_cons];omega
   ·split
    ·simp
    ·rename_i h t e;rw [e] at ih;simp only [List.length_cons] at ih ⊢;omega
 have h:=this s.data.toList
 rwa [show s.data.toList.length=s.size from rfl] at h
def cmpS (a b:ByteArray):Int:=if bless a b=true then -1 else if bless b a=true then 1 else 0
def cmpL:List ByteArray → List ByteArray → Int
 | [],[]=>0
 | [],_ :: _ => -1
 | _ :: _,[]=>1
 | a :: l,b :: m=>if a=b then cmpL l m else cmpS a b
theorem cmpS_eq {a b:ByteArray}:cmpS a b=0 ↔ a=b:=by
 unfold cmpS
 constructor
 ·intro h
  split at h
  ·omega
  ·split at h
   ·omega
   ·rename_i h1 h2;exact bless_total (by simpa using h1) (by simpa using h2)
 ·rintro rfl;rw [if_neg (fun h=>bless_ne h rfl),if_neg (fun h=>bless_ne h rfl)]
theorem cmpS_anti (a b:ByteArray):cmpS b a = -cmpS a b:=by
 unfold cmpS
 by_cases h1:bless a b=true
 ·have:=bless_asymm h1;rw [if_pos h1,this];simp [h1]
 ·by_cases h2:bless b a=true
  ·rw [if_pos h2,if_neg h1,if_pos h2]
  ·rw [if_neg h2,if_neg h1,if_neg h1,if_neg h2];rfl
theorem cmpL_eq:∀ {l m:List ByteArray},cmpL l m=0 ↔ l=m
 | [],[]=>by simp [cmpL]
 | [],_ :: _=>by simp [cmpL]
 | _ :: _,[]=>by simp [cmpL]
 | a :: l,b :: m=>by
  rw [cmpL]
  split
  ·rename_i e;subst e;rw [cmpL_eq];simp
  ·rename_i e;rw [cmpS_eq];simp [e]
theorem cmpL_anti:∀ (l m:List ByteArray),cmpL m l = -cmpL l m
 | [],[]=>rfl
 | [],_ :: _=>rfl
 | _ :: _,[]=>rfl
 | a :: l,b :: m=>by
  rw [cmpL,cmpL]
  by_cases e:a=b
  ·subst e;rw [if_pos rfl,if_pos rfl];exact cmpL_anti l m
  ·rw [if_neg e,if_neg (Ne.symm e)];exact cmpS_anti a b
theorem cmpS_lt {a b:ByteArray}:cmpS a b < 0 ↔ bless a b=true:=by
 unfold cmpS
 split
 ·rename_i h;simp [h]
 ·rename_i h;split<;>simp [h]
theorem cmpL_trans:∀ {l m n:List ByteArray},cmpL l m < 0 → cmpL m n < 0 → cmpL l n < 0
 | [],[],_,h,_=>by simp [cmpL] at h
 | _ :: _,[],_,h,_=>by simp [cmpL] at h
 | _,_ :: _,[],_,h=>by simp [cmpL] at h
 | [],_ :: _,_ :: _,_,_=>by simp [cmpL]
 | a :: l,b :: m,c :: n,h1,h2=>by
  rw [cmpL] at h1 h2 ⊢
  by_cases e1:a=b
  ·subst e1
   rw [if_pos rfl] at h1
   by_cases e2:a=c
   ·subst e2;rw [if_pos rfl] at h2 ⊢;exact cmpL_trans h1 h2
   ·rw [if_neg e2] at h2 ⊢;exact h2
  ·rw [if_neg e1] at h1
   by_cases e2:b=c
   ·subst e2;rw [if_neg e1];exact h1
   ·rw [if_neg e2] at h2
    have h3:=bless_trans (cmpS_lt.1 h1) (cmpS_lt.1 h2)
    rw [if_neg (bless_ne h3)]
    exact cmpS_lt.2 h3
end Go.Proofs.YthconflkbeipoaaGreatDoor
