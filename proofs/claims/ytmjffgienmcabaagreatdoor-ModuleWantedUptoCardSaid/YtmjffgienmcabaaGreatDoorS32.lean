/- What the program computes, and the plain laws of it, part 32. -/
import Derived.Test.YtmjffgienmcabaaGreatDoorS29
import Derived.Test.YtmjffgienmcabaaGreatDoorS31
namespace Go.Proofs.YtmjffgienmcabaaGreatDoor
attribute [local irreducible] PL QL PWPr PCalls Weak RetK Kontr PA
open Go.RowKit
open IntWalk renaming iteOmega → iO, toNatUp → tN
set_option linter.unusedVariables false
set_option linter.unusedSimpArgs false
set_option maxRecDepth 20000
structure WDev (d:Dev):Prop where
 ok:d.ok
 orig:d.original.size≤20
 att:d.attrs.length≤10
 num:0≤d.number∧d.number≤9
 al:d.alias_.size≤100
theorem mem_fit20 {l:List ByteArray} {s:ByteArray} (h:l.all (fun s=>decide (s.size≤20))=true) (hm:s ∈ l):s.size≤20:=by
 have:=List.all_eq_true.1 h s hm
 simpa using this
theorem WDev.mk' {i p:Int} {nm o s dr al:ByteArray} {kd n:Int} {at_:List Atr} (h1:nm.size≤100) (h2:o.size≤20) (h3:s.size≤100) (h4:dr.size≤100) (h5:al.size≤100) (h6:0≤n∧n≤9) (h7:at_.length≤10) (h8:ShortA at_):WDev ⟨i,p,nm,o,s,dr,al,kd,n,at_⟩ :=
 ⟨⟨fit_of h1 (by decide),fit_of h2 (by decide),fit_of h3 (by decide),fit_of h4 (by decide),fit_of h5 (by decide),fun a ha=>⟨fit_of (h8 a ha).1 (by decide),fit_of (h8 a ha).2 (by decide)⟩,by show at_.length≤_;omega,by show o.size≤_;omega⟩,h2,h7,h6,h5⟩
set_option maxHeartbeats 8000000 in
theorem wdev_ex (L:List Int) (k:Nat) (l:List Dev) (B:Nat) (hk:k < 90000) (hl:l.length≤1000) (hB:B≤100000) (hi:∀ d ∈ l,d.index≤B) (hi0:∀ d ∈ l,0≤d.index) (hL:∀ x ∈ L,-9223372036854775808≤x∧x≤9223372036854775807) (hLl:L.length≤9223372036854775807) :
  PCalls Tryz.prog 21 [.c (.ptr 0 0),.agg (trE l)] [tape L k] fun r os=>∃ (d:Dev) (k':Nat),(WDev d∧1≤d.index∧d.index≤B+1)∧k'≤k+20∧r = .agg d.e∧os=[tape L k']:=by
 refine pcalls_of Tryz.func21 rfl (by simp [Tryz.ntmps21]) ?_
 rw [Tryz.ntmps21,Tryz.results21]
 push_cast [iO,tN]
 have cB:CutB 8 [61]:=trivial
 have n1:=next_ex L (k+1) 4 (by omega) (by decide) (by decide) hL hLl
 have o1:=one_ex L k [⟨#[98,108,111,99,107]⟩,⟨#[117,115,98]⟩,⟨#[110,101,116]⟩,⟨#[112,99,105]⟩] (by omega) (by decide) (by decide) hL hLl
 have o2:=one_ex L (k+1+1) [⟨#[]⟩,⟨#[]⟩,⟨#[104,105,100]⟩,⟨#[110,105,99]⟩] (by omega) (by decide) (by decide) hL hLl
 have o3:=one_ex L (k+1+1+1) [⟨#[]⟩,⟨#[117,115,98,58,118,49]⟩,⟨#[112,99,105,58,100,50]⟩,⟨#[117,115,98,58,118,50]⟩] (by omega) (by decide) (by decide) hL hLl
 have a1:=wattrs_ex L (k+1+1+1+1) (by omega) hL hLl
 repeat' (first |  ((refine plc [0] (o1) ?_ ?_;push_cast [iO,tN];rintro r os ⟨s1,m1,rfl,rfl⟩;push_cast [iO,tN]))|((refine plc [0] (n1) ?_ ?_;push_cast [iO,tN];rintro r os ⟨v1,⟨va,vb⟩,rfl,rfl⟩;push_cast [iO,tN]))|((refine plc [0] (o2) ?_ ?_;push_cast [iO,tN];rintro r os ⟨s2,m2,rfl,rfl⟩;push_cast [iO,tN]))|((refine plc [0] (o3) ?_ ?_;push_cast [iO,tN];rintro r os ⟨s3,m3,rfl,rfl⟩;push_cast [iO,tN]))|((refine plc [0] (a1) ?_ ?_;push_cast [iO,tN];rintro r os ⟨at_,q,⟨hal,has⟩,hq,rfl,rfl⟩;push_cast [iO,tN]))  | ((first|refine pC ?_|refine pQC ?_|refine pU ?_);push_cast [iO,tN])|(refine pif (fun h=>?_) (fun h=>?_)<;>first|exact pN h|push_cast [iO,tN]))
 have z1:s1.size≤100:=mem_fit (by decide) m1
 have z2:s2.size≤100:=mem_fit (by decide) m2
 have z3:s3.size≤100:=mem_fit (by decide) m3
 have hv1:1≤1+v1∧1+v1≤4:=by omega
 generalize 1+v1=kd at hv1 ⊢
 (apply pwp_loop3 (α:=Nat × Int) 8 [61] (fun x=>[(6,.c (.v (.int .i64 x.1)))]) (fun x=>[(3,.box 48 (Dev.e ⟨x.2,0,⟨#[]⟩,⟨#[]⟩,s1,s2,s3,kd,0,at_⟩))]) (fun x=>x.1≤l.length∧1≤x.2∧x.2≤B+1) (fun x=>l.length - x.1) ((0,1));(focus ((try push_cast [iO,tN]);rfl));(focus exact ⟨Nat.zero_le _,by simp,by simp only;omega⟩);(focus ((refine weak_fg ?_;try push_cast [iO,tN]))))
 rintro ⟨j,ix⟩ ⟨g1,g2,g3⟩
 simp only at g1 g2 g3
 push_cast [iO,tN]
 by_cases hlt:j < l.length
 ·have hij:=hi _ (getD_mem hlt)
  have hij0:=hi0 _ (getD_mem hlt)
  repeat' (first |  (refine hidR 5 ?_)  | ((first|refine pC ?_|refine pQC ?_|refine pU ?_);push_cast [iO,tN])|(refine pif (fun h=>?_) (fun h=>?_)<;>first|exact pN h|push_cast [iO,tN]))
  refine unhid ?_
  (refine pwp_cut 8 [61] ?_;refine pwp_drawn (by kernel_rfl) ?_;simp only [List.length_cons,List.length_nil,Nat.reduceAdd];refine pah 0 ?_;push_cast [iO,tN,  hlt];refine pah 2 ?_;push_cast [iO,tN,  hlt];refine pah 4 ?_;push_cast [iO,tN,  hlt];apply pa_hav;intro z6;apply pa_hav;intro z5;apply pa_hav;intro z4;apply pa_hav;intro z3;apply pa_hav;intro z2;apply pa_hav;intro z1;refine pas [1,3] ?_;push_cast [iO,tN,  hlt];refine ⟨?_,?_⟩;(focus (exact z1));(focus (refine pah 5 ?_;push_cast [iO,tN,  hlt];refine pah 6 ?_;push_cast [iO,tN,  hlt];exact z2));refine pas [3] ?_;push_cast [iO,tN,  hlt];(focus (refine pah 5 ?_;push_cast [iO,tN,  hlt];refine pah 6 ?_;push_cast [iO,tN,  hlt];exact z3));refine pas [1,7] ?_;push_cast [iO,tN,  hlt];refine ⟨?_,?_⟩;(focus (refine paw z3 ?_;refine weak_fg ?_;push_cast [iO,tN,  hlt]));(focus (refine pah 8 ?_;push_cast [iO,tN,  hlt];exact z4));refine pas [7] ?_;push_cast [iO,tN,  hlt];(focus (refine pah 8 ?_;push_cast [iO,tN,  hlt];refine pah 9 ?_;push_cast [iO,tN,  hlt];refine pah 10 ?_;push_cast [iO,tN,  hlt];exact z5));refine pas [1] ?_;push_cast [iO,tN,  hlt];(focus (refine pah 9 ?_;push_cast [iO,tN,  hlt];refine pah 10 ?_;push_cast [iO,tN,  hlt];refine paw z5 ?_;refine weak_fg ?_;push_cast [iO,tN,  hlt]));refine pas [11] ?_;push_cast [iO,tN,  hlt];refine paw z6 (weak_cutS 8 [61] _);push_cast [iO,tN,  hlt];refine pad ?_;push_cast [iO,tN,  hlt])
  repeat' (first|((first|refine pC ?_|refine pQC ?_|refine pU ?_);push_cast [iO,tN])|(refine pif (fun h=>?_) (fun h=>?_)<;>first|exact pN h|push_cast [iO,tN]))
  exact ⟨(j+1,if ix < (l.getD j default).index+1 then (l.getD j default).index+1 else ix),⟨by simp only;omega,by simp only;split<;>omega,by simp only;split<;>omega⟩,by (refine weak_fg ?_;push_cast [iO,tN]),by simp only;omega⟩
 have hjl:j=l.length:=by omega
 subst hjl
 have hlen:¬ l.length < l.length:=by omega
 have fits:l.length≤1000:=hl
 have n2:=next_ex L q 4 (by omega) (by decide) (by decide) hL hLl
 by_cases k4:kd=4
 ·subst k4
  have o4_0:=one_ex L (q) [⟨#[101,116,104,48]⟩,⟨#[101,116,104,49]⟩,⟨#[119,108,97,110,48]⟩] (by omega) (by decide) (by decide) hL hLl
  have o5_0:∀ o,PCalls Tryz.prog 19 [.c (.ptr 0 0),.c (.sl 1 ([o,o,⟨#[108,97,110,48]⟩,⟨#[101,116,104,49]⟩].map strD))] [tape L (q+1)] _:=fun o=>one_ex L (q+1) [o,o,⟨#[108,97,110,48]⟩,⟨#[101,116,104,49]⟩] (by omega) (by simp) (by simp) hL hLl
  have o4_1:=one_ex L (q+1) [⟨#[101,116,104,48]⟩,⟨#[101,116,104,49]⟩,⟨#[119,108,97,110,48]⟩] (by omega) (by decide) (by decide) hL hLl
  have o5_1:∀ o,PCalls Tryz.prog 19 [.c (.ptr 0 0),.c (.sl 1 ([o,o,⟨#[108,97,110,48]⟩,⟨#[101,116,104,49]⟩].map strD))] [tape L (q+1+1)] _:=fun o=>one_ex L (q+1+1) [o,o,⟨#[108,97,110,48]⟩,⟨#[101,116,104,49]⟩] (by omega) (by simp) (by simp) hL hLl
  have o4_2:=one_ex L (q+1+1) [⟨#[101,116,104,48]⟩,⟨#[101,116,104,49]⟩,⟨#[119,108,97,110,48]⟩] (by omega) (by decide) (by decide) hL hLl
  have o5_2:∀ o,PCalls Tryz.prog 19 [.c (.ptr 0 0),.c (.sl 1 ([o,o,⟨#[108,97,110,48]⟩,⟨#[101,116,104,49]⟩].map strD))] [tape L (q+1+1+1)] _:=fun o=>one_ex L (q+1+1+1) [o,o,⟨#[108,97,110,48]⟩,⟨#[101,116,104,49]⟩] (by omega) (by simp) (by simp) hL hLl
  by_cases h0:0 < l.length
  case neg =>
   have h0':¬ (0:Int) < (l.length:Int):=by omega
   repeat' (first|((refine plc [0] (o4_0) ?_ ?_;push_cast [iO,tN,h0'];rintro r os ⟨o,om,rfl,rfl⟩;push_cast [iO,tN,h0']))|((refine plc [0] (o5_0 o) ?_ ?_;push_cast [iO,tN,h0'];rintro r os ⟨nm,nmm,rfl,rfl⟩;push_cast [iO,tN,h0']))|((first|refine pC ?_|refine pQC ?_|refine pU ?_);push_cast [iO,tN,h0'])|(refine pif (fun h=>?_) (fun h=>?_)<;>first|exact pN h|push_cast [iO,tN,h0']))
   all_goals (refine retK_of [0] ?_;push_cast [iO,tN])
   all_goals have zn:nm.size≤100:=by (simp only [List.mem_cons,List.not_mem_nil,or_false] at nmm;rcases nmm with rfl|rfl|rfl|rfl;exact mem_fit (by decide) om;exact mem_fit (by decide) om;decide;decide)
   all_goals exact ⟨_,_,leP_refl _,leOs_refl _,⟨ix,0,nm,o,⟨#[110,101,116]⟩,s2,s3,4,0,at_⟩,q+1+1,⟨WDev.mk' zn (mem_fit20 (by decide) om) (by decide) z2 z3 ⟨by decide,by decide⟩ (by omega) has,g2,g3⟩,by omega,rfl,rfl⟩
  have h0':(0:Int) < (l.length:Int):=by omega
  repeat' (first|((refine plc [0] (n2) ?_ ?_;push_cast [iO,tN,h0'];rintro r os ⟨v2,⟨v2a,v2b⟩,rfl,rfl⟩;push_cast [iO,tN,h0']))|(refine hidR 8 ?_)|((refine plc [0] (o4_1) ?_ ?_;push_cast [iO,tN,h0'];rintro r os ⟨o,om,rfl,rfl⟩;push_cast [iO,tN,h0']))|((refine plc [0] (o5_1 o) ?_ ?_;push_cast [iO,tN,h0'];rintro r os ⟨nm,nmm,rfl,rfl⟩;push_cast [iO,tN,h0']))|((first|refine pC ?_|refine pQC ?_|refine pU ?_);push_cast [iO,tN,h0'])|(refine pif (fun h=>?_) (fun h=>?_)<;>first|exact pN h|push_cast [iO,tN,h0']))
  ·obtain ⟨f,hf⟩:∃ f,fold (tapeAt L (q+1)) l.length=f:=⟨_,rfl⟩
   have hfb:=fold_bds (tapeAt L (q+1)) l.length h0'
   rw [hf] at hfb
   obtain ⟨g,rfl⟩:∃ g:Nat,f=(g:Int):=⟨f.toNat,by omega⟩
   have hgl:g < l.length:=by omega
   have hnx:=next_pure L (q+1) l.length (by omega) (by omega) hL hLl
   rw [hf] at hnx
   refine unhid ?_
   (refine pwp_drawn (by kernel_rfl) ?_;try simp only [List.length_cons,List.length_nil,Nat.reduceAdd];repeat' first|((refine plc [0] (hnx) ?_ ?_;push_cast [iO,tN,  hgl];rintro r os ⟨rfl,rfl⟩;push_cast [iO,tN,  hgl]))|((refine plc [0] (o4_2) ?_ ?_;push_cast [iO,tN,  hgl];rintro r os ⟨o,om,rfl,rfl⟩;push_cast [iO,tN,  hgl]))|((refine plc [0] (o5_2 o) ?_ ?_;push_cast [iO,tN,  hgl];rintro r os ⟨nm,nmm,rfl,rfl⟩;push_cast [iO,tN,  hgl]))|((first|refine pah 0 ?_|refine pah 2 ?_|refine pah 3 ?_|refine pah 5 ?_|refine pah 6 ?_|refine pah 8 ?_);push_cast [iO,tN,  hgl])|(refine pad ?_;try push_cast [iO,tN,  hgl])|((first|refine pas [1] ?_|refine pas [4] ?_|refine pas [7] ?_|refine pas [9] ?_);push_cast [iO,tN,  hgl])|((first|refine pas [1,4] ?_|refine pas [1,7] ?_|refine pas [1,9] ?_|refine pas [4,7] ?_|refine pas [4,9] ?_|refine pas [7,9] ?_);push_cast [iO,tN,  hgl];refine ⟨?_,?_⟩)|((first|refine pas [1,4,7] ?_|refine pas [1,4,9] ?_|refine pas [1,7,9] ?_|refine pas [4,7,9] ?_);push_cast [iO,tN,  hgl];refine ⟨?_,?_,?_⟩))
   all_goals (refine retK_of [0] ?_;push_cast [iO,tN])
   all_goals have zn:nm.size≤100:=by (simp only [List.mem_cons,List.not_mem_nil,or_false] at nmm;rcases nmm with rfl|rfl|rfl|rfl;exact mem_fit (by decide) om;exact mem_fit (by decide) om;decide;decide)
   all_goals exact ⟨_,_,leP_refl _,leOs_refl _,⟨ix,(l.getD g default).index,nm,o,⟨#[110,101,116]⟩,s2,s3,4,0,at_⟩,q+1+1+1+1,⟨WDev.mk' zn (mem_fit20 (by decide) om) (by decide) z2 z3 ⟨by decide,by decide⟩ (by omega) has,g2,g3⟩,by omega,rfl,rfl⟩
  ·all_goals (refine retK_of [0] ?_;push_cast [iO,tN])
   all_goals have zn:nm.size≤100:=by (simp only [List.mem_cons,List.not_mem_nil,or_false] at nmm;rcases nmm with rfl|rfl|rfl|rfl;exact mem_fit (by decide) om;exact mem_fit (by decide) om;decide;decide)
   all_goals exact ⟨_,_,leP_refl _,leOs_refl _,⟨ix,0,nm,o,⟨#[110,101,116]⟩,s2,s3,4,0,at_⟩,q+1+1+1,⟨WDev.mk' zn (mem_fit20 (by decide) om) (by decide) z2 z3 ⟨by decide,by decide⟩ (by omega) has,g2,g3⟩,by omega,rfl,rfl⟩
 by_cases k2:kd=2
 ·subst k2
  have o4_0:=one_ex L (q) [⟨#[115,100,97]⟩,⟨#[115,100,98]⟩,⟨#[115,100,97,49]⟩,⟨#[115,100,97,50]⟩,⟨#[99,33,100,48]⟩] (by omega) (by decide) (by decide) hL hLl
  have n4_0:=next_ex L (q+1) 9 (by omega) (by decide) (by decide) hL hLl
  have o4_1:=one_ex L (q+1) [⟨#[115,100,97]⟩,⟨#[115,100,98]⟩,⟨#[115,100,97,49]⟩,⟨#[115,100,97,50]⟩,⟨#[99,33,100,48]⟩] (by omega) (by decide) (by decide) hL hLl
  have n4_1:=next_ex L (q+1+1) 9 (by omega) (by decide) (by decide) hL hLl
  have o4_2:=one_ex L (q+1+1) [⟨#[115,100,97]⟩,⟨#[115,100,98]⟩,⟨#[115,100,97,49]⟩,⟨#[115,100,97,50]⟩,⟨#[99,33,100,48]⟩] (by omega) (by decide) (by decide) hL hLl
  have n4_2:=next_ex L (q+1+1+1) 9 (by omega) (by decide) (by decide) hL hLl
  have wc:=wcontents_pure
  by_cases h0:0 < l.length
  case neg =>
   have h0':¬ (0:Int) < (l.length:Int):=by omega
   repeat' (first|((refine plc [0] (o4_0) ?_ ?_;push_cast [iO,tN,h0'];rintro r os ⟨o,om,rfl,rfl⟩;push_cast [iO,tN,h0']))|((refine plc [0] (n4_0) ?_ ?_;push_cast [iO,tN,h0'];rintro r os ⟨nu,⟨nua,nub⟩,rfl,rfl⟩;push_cast [iO,tN,h0']))|(refine hidR 20 ?_)|((first|refine pC ?_|refine pQC ?_|refine pU ?_);push_cast [iO,tN,h0'])|(refine pif (fun h=>?_) (fun h=>?_)<;>first|exact pN h|push_cast [iO,tN,h0']))
   all_goals refine unhid ?_
   all_goals (refine pwp_drawn (by kernel_rfl) ?_;try simp only [List.length_cons,List.length_nil,Nat.reduceAdd];repeat' first|((refine plc [] (wc) ?_ ?_;push_cast [iO,tN];rintro r os ⟨⟨cl,hcl,hcs,rfl⟩,rfl⟩;push_cast [iO,tN]))|((refine plc [0] (one_ex L (q+1+1) cl (by omega) (by omega) (by omega) hL hLl) ?_ ?_;push_cast [iO,tN];rintro r os ⟨c,cm,rfl,rfl⟩;push_cast [iO,tN]))|((refine plc [] (rset_ex at_ ⟨#[99,111,110,116,101,110,116]⟩ c (by omega)) ?_ ?_;push_cast [iO,tN];rintro r os ⟨at2,⟨s4,s5⟩,rfl,rfl⟩;push_cast [iO,tN]))|((first|refine pah 0 ?_|refine pah 2 ?_|refine pah 6 ?_);push_cast [iO,tN])|(refine pad ?_;try push_cast [iO,tN])|((first|refine pas [1] ?_|refine pas [3] ?_|refine pas [4] ?_|refine pas [5] ?_|refine pas [7] ?_);push_cast [iO,tN])|((first|refine pas [1,3] ?_|refine pas [1,4] ?_|refine pas [1,5] ?_|refine pas [1,7] ?_|refine pas [3,4] ?_|refine pas [3,5] ?_|refine pas [3,7] ?_|refine pas [4,5] ?_|refine pas [4,7] ?_|refine pas [5,7] ?_);push_cast [iO,tN];refine ⟨?_,?_⟩)|((first|refine pas [1,3,4] ?_|refine pas [1,3,5] ?_|refine pas [1,3,7] ?_|refine pas [1,4,5] ?_|refine pas [1,4,7] ?_|refine pas [1,5,7] ?_|refine pas [3,4,5] ?_|refine pas [3,4,7] ?_|refine pas [3,5,7] ?_|refine pas [4,5,7] ?_);push_cast [iO,tN];refine ⟨?_,?_,?_⟩))
   all_goals repeat' (first|((first|refine pC ?_|refine pQC ?_|refine pU ?_);push_cast [iO,tN])|(refine pif (fun h=>?_) (fun h=>?_)<;>first|exact pN h|push_cast [iO,tN]))
   all_goals (refine retK_of [0] ?_;push_cast [iO,tN])
   all_goals exact ⟨_,_,leP_refl _,leOs_refl _,⟨ix,0,o,o,⟨#[98,108,111,99,107]⟩,s2,s3,2,1+nu,at2⟩,q+1+1+1,⟨WDev.mk' (mem_fit (by decide) om) (mem_fit20 (by decide) om) (by decide) z2 z3 ⟨by omega,by omega⟩ (by omega) (has.set s5 (by decide) (hcs _ cm)),g2,g3⟩,by omega,rfl,rfl⟩
  have h0':(0:Int) < (l.length:Int):=by omega
  repeat' (first|((refine plc [0] (n2) ?_ ?_;push_cast [iO,tN,h0'];rintro r os ⟨v2,⟨v2a,v2b⟩,rfl,rfl⟩;push_cast [iO,tN,h0']))|(refine hidR 8 ?_)|((refine plc [0] (o4_1) ?_ ?_;push_cast [iO,tN,h0'];rintro r os ⟨o,om,rfl,rfl⟩;push_cast [iO,tN,h0']))|((refine plc [0] (n4_1) ?_ ?_;push_cast [iO,tN,h0'];rintro r os ⟨nu,⟨nua,nub⟩,rfl,rfl⟩;push_cast [iO,tN,h0']))|(refine hidR 20 ?_)|((first|refine pC ?_|refine pQC ?_|refine pU ?_);push_cast [iO,tN,h0'])|(refine pif (fun h=>?_) (fun h=>?_)<;>first|exact pN h|push_cast [iO,tN,h0']))
  ·obtain ⟨f,hf⟩:∃ f,fold (tapeAt L (q+1)) l.length=f:=⟨_,rfl⟩
   have hfb:=fold_bds (tapeAt L (q+1)) l.length h0'
   rw [hf] at hfb
   obtain ⟨g,rfl⟩:∃ g:Nat,f=(g:Int):=⟨f.toNat,by omega⟩
   have hgl:g < l.length:=by omega
   have hnx:=next_pure L (q+1) l.length (by omega) (by omega) hL hLl
   rw [hf] at hnx
   refine unhid ?_
   (refine pwp_drawn (by kernel_rfl) ?_;try simp only [List.length_cons,List.length_nil,Nat.reduceAdd];repeat' first|((refine plc [0] (hnx) ?_ ?_;push_cast [iO,tN,  hgl];rintro r os ⟨rfl,rfl⟩;push_cast [iO,tN,  hgl]))|((refine plc [0] (o4_2) ?_ ?_;push_cast [iO,tN,  hgl];rintro r os ⟨o,om,rfl,rfl⟩;push_cast [iO,tN,  hgl]))|((refine plc [0] (n4_2) ?_ ?_;push_cast [iO,tN,  hgl];rintro r os ⟨nu,⟨nua,nub⟩,rfl,rfl⟩;push_cast [iO,tN,  hgl]))|(refine hidR 20 ?_)|((first|refine pah 0 ?_|refine pah 2 ?_|refine pah 3 ?_|refine pah 5 ?_|refine pah 6 ?_|refine pah 8 ?_);push_cast [iO,tN,  hgl])|(refine pad ?_;try push_cast [iO,tN,  hgl])|((first|refine pas [1] ?_|refine pas [4] ?_|refine pas [7] ?_|refine pas [9] ?_);push_cast [iO,tN,  hgl])|((first|refine pas [1,4] ?_|refine pas [1,7] ?_|refine pas [1,9] ?_|refine pas [4,7] ?_|refine pas [4,9] ?_|refine pas [7,9] ?_);push_cast [iO,tN,  hgl];refine ⟨?_,?_⟩)|((first|refine pas [1,4,7] ?_|refine pas [1,4,9] ?_|refine pas [1,7,9] ?_|refine pas [4,7,9] ?_);push_cast [iO,tN,  hgl];refine ⟨?_,?_,?_⟩))
   all_goals refine unhid ?_
   all_goals (refine pwp_drawn (by kernel_rfl) ?_;try simp only [List.length_cons,List.length_nil,Nat.reduceAdd];repeat' first|((refine plc [] (wc) ?_ ?_;push_cast [iO,tN];rintro r os ⟨⟨cl,hcl,hcs,rfl⟩,rfl⟩;push_cast [iO,tN]))|((refine plc [0] (one_ex L (q+1+1+1+1) cl (by omega) (by omega) (by omega) hL hLl) ?_ ?_;push_cast [iO,tN];rintro r os ⟨c,cm,rfl,rfl⟩;push_cast [iO,tN]))|((refine plc [] (rset_ex at_ ⟨#[99,111,110,116,101,110,116]⟩ c (by omega)) ?_ ?_;push_cast [iO,tN];rintro r os ⟨at2,⟨s4,s5⟩,rfl,rfl⟩;push_cast [iO,tN]))|((first|refine pah 0 ?_|refine pah 2 ?_|refine pah 6 ?_);push_cast [iO,tN])|(refine pad ?_;try push_cast [iO,tN])|((first|refine pas [1] ?_|refine pas [3] ?_|refine pas [4] ?_|refine pas [5] ?_|refine pas [7] ?_);push_cast [iO,tN])|((first|refine pas [1,3] ?_|refine pas [1,4] ?_|refine pas [1,5] ?_|refine pas [1,7] ?_|refine pas [3,4] ?_|refine pas [3,5] ?_|refine pas [3,7] ?_|refine pas [4,5] ?_|refine pas [4,7] ?_|refine pas [5,7] ?_);push_cast [iO,tN];refine ⟨?_,?_⟩)|((first|refine pas [1,3,4] ?_|refine pas [1,3,5] ?_|refine pas [1,3,7] ?_|refine pas [1,4,5] ?_|refine pas [1,4,7] ?_|refine pas [1,5,7] ?_|refine pas [3,4,5] ?_|refine pas [3,4,7] ?_|refine pas [3,5,7] ?_|refine pas [4,5,7] ?_);push_cast [iO,tN];refine ⟨?_,?_,?_⟩))
   all_goals repeat' (first|((first|refine pC ?_|refine pQC ?_|refine pU ?_);push_cast [iO,tN])|(refine pif (fun h=>?_) (fun h=>?_)<;>first|exact pN h|push_cast [iO,tN]))
   all_goals (refine retK_of [0] ?_;push_cast [iO,tN])
   all_goals exact ⟨_,_,leP_refl _,leOs_refl _,⟨ix,(l.getD g default).index,o,o,⟨#[98,108,111,99,107]⟩,s2,s3,2,1+nu,at2⟩,q+1+1+1+1+1,⟨WDev.mk' (mem_fit (by decide) om) (mem_fit20 (by decide) om) (by decide) z2 z3 ⟨by omega,by omega⟩ (by omega) (has.set s5 (by decide) (hcs _ cm)),g2,g3⟩,by omega,rfl,rfl⟩
  ·all_goals refine unhid ?_
   all_goals (refine pwp_drawn (by kernel_rfl) ?_;try simp only [List.length_cons,List.length_nil,Nat.reduceAdd];repeat' first|((refine plc [] (wc) ?_ ?_;push_cast [iO,tN];rintro r os ⟨⟨cl,hcl,hcs,rfl⟩,rfl⟩;push_cast [iO,tN]))|((refine plc [0] (one_ex L (q+1+1+1) cl (by omega) (by omega) (by omega) hL hLl) ?_ ?_;push_cast [iO,tN];rintro r os ⟨c,cm,rfl,rfl⟩;push_cast [iO,tN]))|((refine plc [] (rset_ex at_ ⟨#[99,111,110,116,101,110,116]⟩ c (by omega)) ?_ ?_;push_cast [iO,tN];rintro r os ⟨at2,⟨s4,s5⟩,rfl,rfl⟩;push_cast [iO,tN]))|((first|refine pah 0 ?_|refine pah 2 ?_|refine pah 6 ?_);push_cast [iO,tN])|(refine pad ?_;try push_cast [iO,tN])|((first|refine pas [1] ?_|refine pas [3] ?_|refine pas [4] ?_|refine pas [5] ?_|refine pas [7] ?_);push_cast [iO,tN])|((first|refine pas [1,3] ?_|refine pas [1,4] ?_|refine pas [1,5] ?_|refine pas [1,7] ?_|refine pas [3,4] ?_|refine pas [3,5] ?_|refine pas [3,7] ?_|refine pas [4,5] ?_|refine pas [4,7] ?_|refine pas [5,7] ?_);push_cast [iO,tN];refine ⟨?_,?_⟩)|((first|refine pas [1,3,4] ?_|refine pas [1,3,5] ?_|refine pas [1,3,7] ?_|refine pas [1,4,5] ?_|refine pas [1,4,7] ?_|refine pas [1,5,7] ?_|refine pas [3,4,5] ?_|refine pas [3,4,7] ?_|refine pas [3,5,7] ?_|refine pas [4,5,7] ?_);push_cast [iO,tN];refine ⟨?_,?_,?_⟩))
   all_goals repeat' (first|((first|refine pC ?_|refine pQC ?_|refine pU ?_);push_cast [iO,tN])|(refine pif (fun h=>?_) (fun h=>?_)<;>first|exact pN h|push_cast [iO,tN]))
   all_goals (refine retK_of [0] ?_;push_cast [iO,tN])
   all_goals exact ⟨_,_,leP_refl _,leOs_refl _,⟨ix,0,o,o,⟨#[98,108,111,99,107]⟩,s2,s3,2,1+nu,at2⟩,q+1+1+1+1,⟨WDev.mk' (mem_fit (by decide) om) (mem_fit20 (by decide) om) (by decide) z2 z3 ⟨by omega,by omega⟩ (by omega) (has.set s5 (by decide) (hcs _ cm)),g2,g3⟩,by omega,rfl,rfl⟩
 by_cases k3:kd=3
 ·subst k3
  have o4_0:=one_ex L (q) [⟨#[116,116,121,48]⟩,⟨#[116,116,121,49]⟩,⟨#[105,110,112,117,116,33,101,118,48]⟩] (by omega) (by decide) (by decide) hL hLl
  have n4_0:=next_ex L (q+1) 9 (by omega) (by decide) (by decide) hL hLl
  have o4_1:=one_ex L (q+1) [⟨#[116,116,121,48]⟩,⟨#[116,116,121,49]⟩,⟨#[105,110,112,117,116,33,101,118,48]⟩] (by omega) (by decide) (by decide) hL hLl
  have n4_1:=next_ex L (q+1+1) 9 (by omega) (by decide) (by decide) hL hLl
  have o4_2:=one_ex L (q+1+1) [⟨#[116,116,121,48]⟩,⟨#[116,116,121,49]⟩,⟨#[105,110,112,117,116,33,101,118,48]⟩] (by omega) (by decide) (by decide) hL hLl
  have n4_2:=next_ex L (q+1+1+1) 9 (by omega) (by decide) (by decide) hL hLl
  by_cases h0:0 < l.length
  case neg =>
   have h0':¬ (0:Int) < (l.length:Int):=by omega
   repeat' (first|((refine plc [0] (o4_0) ?_ ?_;push_cast [iO,tN,h0'];rintro r os ⟨o,om,rfl,rfl⟩;push_cast [iO,tN,h0']))|((refine plc [0] (n4_0) ?_ ?_;push_cast [iO,tN,h0'];rintro r os ⟨nu,⟨nua,nub⟩,rfl,rfl⟩;push_cast [iO,tN,h0']))|((first|refine pC ?_|refine pQC ?_|refine pU ?_);push_cast [iO,tN,h0'])|(refine pif (fun h=>?_) (fun h=>?_)<;>first|exact pN h|push_cast [iO,tN,h0']))
   all_goals (refine retK_of [0] ?_;push_cast [iO,tN])
   all_goals exact ⟨_,_,leP_refl _,leOs_refl _,⟨ix,0,o,o,s1,s2,s3,3,1+nu,at_⟩,q+1+1,⟨WDev.mk' (mem_fit (by decide) om) (mem_fit20 (by decide) om) z1 z2 z3 ⟨by omega,by omega⟩ (by omega) has,g2,g3⟩,by omega,rfl,rfl⟩
  have h0':(0:Int) < (l.length:Int):=by omega
  repeat' (first|((refine plc [0] (n2) ?_ ?_;push_cast [iO,tN,h0'];rintro r os ⟨v2,⟨v2a,v2b⟩,rfl,rfl⟩;push_cast [iO,tN,h0']))|(refine hidR 8 ?_)|((refine plc [0] (o4_1) ?_ ?_;push_cast [iO,tN,h0'];rintro r os ⟨o,om,rfl,rfl⟩;push_cast [iO,tN,h0']))|((refine plc [0] (n4_1) ?_ ?_;push_cast [iO,tN,h0'];rintro r os ⟨nu,⟨nua,nub⟩,rfl,rfl⟩;push_cast [iO,tN,h0']))|((first|refine pC ?_|refine pQC ?_|refine pU ?_);push_cast [iO,tN,h0'])|(refine pif (fun h=>?_) (fun h=>?_)<;>first|exact pN h|push_cast [iO,tN,h0']))
  ·obtain ⟨f,hf⟩:∃ f,fold (tapeAt L (q+1)) l.length=f:=⟨_,rfl⟩
   have hfb:=fold_bds (tapeAt L (q+1)) l.length h0'
   rw [hf] at hfb
   obtain ⟨g,rfl⟩:∃ g:Nat,f=(g:Int):=⟨f.toNat,by omega⟩
   have hgl:g < l.length:=by omega
   have hnx:=next_pure L (q+1) l.length (by omega) (by omega) hL hLl
   rw [hf] at hnx
   refine unhid ?_
   (refine pwp_drawn (by kernel_rfl) ?_;try simp only [List.length_cons,List.length_nil,Nat.reduceAdd];repeat' first|((refine plc [0] (hnx) ?_ ?_;push_cast [iO,tN,  hgl];rintro r os ⟨rfl,rfl⟩;push_cast [iO,tN,  hgl]))|((refine plc [0] (o4_2) ?_ ?_;push_cast [iO,tN,  hgl];rintro r os ⟨o,om,rfl,rfl⟩;push_cast [iO,tN,  hgl]))|((refine plc [0] (n4_2) ?_ ?_;push_cast [iO,tN,  hgl];rintro r os ⟨nu,⟨nua,nub⟩,rfl,rfl⟩;push_cast [iO,tN,  hgl]))|((first|refine pah 0 ?_|refine pah 2 ?_|refine pah 3 ?_|refine pah 5 ?_|refine pah 6 ?_|refine pah 8 ?_);push_cast [iO,tN,  hgl])|(refine pad ?_;try push_cast [iO,tN,  hgl])|((first|refine pas [1] ?_|refine pas [4] ?_|refine pas [7] ?_|refine pas [9] ?_);push_cast [iO,tN,  hgl])|((first|refine pas [1,4] ?_|refine pas [1,7] ?_|refine pas [1,9] ?_|refine pas [4,7] ?_|refine pas [4,9] ?_|refine pas [7,9] ?_);push_cast [iO,tN,  hgl];refine ⟨?_,?_⟩)|((first|refine pas [1,4,7] ?_|refine pas [1,4,9] ?_|refine pas [1,7,9] ?_|refine pas [4,7,9] ?_);push_cast [iO,tN,  hgl];refine ⟨?_,?_,?_⟩))
   all_goals (refine retK_of [0] ?_;push_cast [iO,tN])
   all_goals exact ⟨_,_,leP_refl _,leOs_refl _,⟨ix,(l.getD g default).index,o,o,s1,s2,s3,3,1+nu,at_⟩,q+1+1+1+1,⟨WDev.mk' (mem_fit (by decide) om) (mem_fit20 (by decide) om) z1 z2 z3 ⟨by omega,by omega⟩ (by omega) has,g2,g3⟩,by omega,rfl,rfl⟩
  ·all_goals (refine retK_of [0] ?_;push_cast [iO,tN])
   all_goals exact ⟨_,_,leP_refl _,leOs_refl _,⟨ix,0,o,o,s1,s2,s3,3,1+nu,at_⟩,q+1+1+1,⟨WDev.mk' (mem_fit (by decide) om) (mem_fit20 (by decide) om) z1 z2 z3 ⟨by omega,by omega⟩ (by omega) has,g2,g3⟩,by omega,rfl,rfl⟩
 have o4_0:=one_ex L (q) [⟨#[112,99,105,48]⟩,⟨#[117,115,98,49]⟩,⟨#[49,45,49]⟩,⟨#[112,111,114,116]⟩] (by omega) (by decide) (by decide) hL hLl
 have o4_1:=one_ex L (q+1) [⟨#[112,99,105,48]⟩,⟨#[117,115,98,49]⟩,⟨#[49,45,49]⟩,⟨#[112,111,114,116]⟩] (by omega) (by decide) (by decide) hL hLl
 have o4_2:=one_ex L (q+1+1) [⟨#[112,99,105,48]⟩,⟨#[117,115,98,49]⟩,⟨#[49,45,49]⟩,⟨#[112,111,114,116]⟩] (by omega) (by decide) (by decide) hL hLl
 by_cases h0:0 < l.length
 case neg =>
  have h0':¬ (0:Int) < (l.length:Int):=by omega
  repeat' (first|((refine plc [0] (o4_0) ?_ ?_;push_cast [iO,tN,k4,k2,k3,h0'];rintro r os ⟨o,om,rfl,rfl⟩;push_cast [iO,tN,k4,k2,k3,h0']))|((first|refine pC ?_|refine pQC ?_|refine pU ?_);push_cast [iO,tN,k4,k2,k3,h0'])|(refine pif (fun h=>?_) (fun h=>?_)<;>first|exact pN h|push_cast [iO,tN,k4,k2,k3,h0']))
  all_goals (refine retK_of [0] ?_;push_cast [iO,tN])
  all_goals exact ⟨_,_,leP_refl _,leOs_refl _,⟨ix,0,o,o,s1,s2,s3,kd,0,at_⟩,q+1,⟨WDev.mk' (mem_fit (by decide) om) (mem_fit20 (by decide) om) z1 z2 z3 ⟨by decide,by decide⟩ (by omega) has,g2,g3⟩,by omega,rfl,rfl⟩
 have h0':(0:Int) < (l.length:Int):=by omega
 repeat' (first|((refine plc [0] (n2) ?_ ?_;push_cast [iO,tN,k4,k2,k3,h0'];rintro r os ⟨v2,⟨v2a,v2b⟩,rfl,rfl⟩;push_cast [iO,tN,k4,k2,k3,h0']))|(refine hidR 8 ?_)|((refine plc [0] (o4_1) ?_ ?_;push_cast [iO,tN,k4,k2,k3,h0'];rintro r os ⟨o,om,rfl,rfl⟩;push_cast [iO,tN,k4,k2,k3,h0']))|((first|refine pC ?_|refine pQC ?_|refine pU ?_);push_cast [iO,tN,k4,k2,k3,h0'])|(refine pif (fun h=>?_) (fun h=>?_)<;>first|exact pN h|push_cast [iO,tN,k4,k2,k3,h0']))
 ·obtain ⟨f,hf⟩:∃ f,fold (tapeAt L (q+1)) l.length=f:=⟨_,rfl⟩
  have hfb:=fold_bds (tapeAt L (q+1)) l.length h0'
  rw [hf] at hfb
  obtain ⟨g,rfl⟩:∃ g:Nat,f=(g:Int):=⟨f.toNat,by omega⟩
  have hgl:g < l.length:=by omega
  have hnx:=next_pure L (q+1) l.length (by omega) (by omega) hL hLl
  rw [hf] at hnx
  refine unhid ?_
  (refine pwp_drawn (by kernel_rfl) ?_;try simp only [List.length_cons,List.length_nil,Nat.reduceAdd];repeat' first|((refine plc [0] (hnx) ?_ ?_;push_cast [iO,tN,  k4,k2,k3,hgl];rintro r os ⟨rfl,rfl⟩;push_cast [iO,tN,  k4,k2,k3,hgl]))|((refine plc [0] (o4_2) ?_ ?_;push_cast [iO,tN,  k4,k2,k3,hgl];rintro r os ⟨o,om,rfl,rfl⟩;push_cast [iO,tN,  k4,k2,k3,hgl]))|((first|refine pah 0 ?_|refine pah 2 ?_|refine pah 3 ?_|refine pah 5 ?_|refine pah 6 ?_|refine pah 8 ?_);push_cast [iO,tN,  k4,k2,k3,hgl])|(refine pad ?_;try push_cast [iO,tN,  k4,k2,k3,hgl])|((first|refine pas [1] ?_|refine pas [4] ?_|refine pas [7] ?_|refine pas [9] ?_);push_cast [iO,tN,  k4,k2,k3,hgl])|((first|refine pas [1,4] ?_|refine pas [1,7] ?_|refine pas [1,9] ?_|refine pas [4,7] ?_|refine pas [4,9] ?_|refine pas [7,9] ?_);push_cast [iO,tN,  k4,k2,k3,hgl];refine ⟨?_,?_⟩)|((first|refine pas [1,4,7] ?_|refine pas [1,4,9] ?_|refine pas [1,7,9] ?_|refine pas [4,7,9] ?_);push_cast [iO,tN,  k4,k2,k3,hgl];refine ⟨?_,?_,?_⟩))
  all_goals (refine retK_of [0] ?_;push_cast [iO,tN])
  all_goals exact ⟨_,_,leP_refl _,leOs_refl _,⟨ix,(l.getD g default).index,o,o,s1,s2,s3,kd,0,at_⟩,q+1+1+1,⟨WDev.mk' (mem_fit (by decide) om) (mem_fit20 (by decide) om) z1 z2 z3 ⟨by decide,by decide⟩ (by omega) has,g2,g3⟩,by omega,rfl,rfl⟩
 ·all_goals (refine retK_of [0] ?_;push_cast [iO,tN])
  all_goals exact ⟨_,_,leP_refl _,leOs_refl _,⟨ix,0,o,o,s1,s2,s3,kd,0,at_⟩,q+1+1,⟨WDev.mk' (mem_fit (by decide) om) (mem_fit20 (by decide) om) z1 z2 z3 ⟨by decide,by decide⟩ (by omega) has,g2,g3⟩,by omega,rfl,rfl⟩
end Go.Proofs.YtmjffgienmcabaaGreatDoor
namespace Go.Proofs.YtmjffgienmcabaaGreatDoor
open Go.RowKit
open IntWalk renaming iteOmega → iO, toNatUp → tN
set_option linter.unusedVariables false
set_option linter.unusedSimpArgs false
def hasN (d:Dev):Bool:=decide (d.kind=2) || decide (d.kind=3)
def numsM (d:Dev):Bool:=((decide (1≤d.index) && decide (d.index≤1073741824)) && (decide (0≤d.parent) && decide (d.parent≤1073741824))) && !decide (d.parent=d.index)
def namedM (d:Dev):Bool:=(((validS d.name && validS d.original) && validS d.subsystem) && (decide (d.driver=⟨#[]⟩) || validS d.driver)) && textS d.alias_
def kindM (d:Dev):Bool:=if d.kind=4 then ifaceS d.name && ifaceS d.original else (decide (1≤d.kind) && decide (d.kind≤3)) && decide (d.name=d.original)
def numberM (d:Dev):Bool:=if hasN d then decide (1≤d.number) && decide (d.number≤1073741824) else decide (d.number=0)
def attrB (a:Atr):Bool:=(validS a.name && decide (a.value≠⟨#[]⟩)) && textS a.value
def sortedM (l:List Atr):Bool:=(List.range (l.length - 1)).all fun j=>bless (l.getD j default).name (l.getD (j+1) default).name
def attrsB (l:List Atr):Bool:=sortedM l && l.all attrB
def checkM (d:Dev):Int:=if !numsM d then 32 else if !namedM d then 30 else if !kindM d then 31 else if !numberM d then 32 else if 24 < d.attrs.length then 34 else if !attrsB d.attrs then 33 else if hasN d && !linkS (nodeS d.original) then 30 else 0
def nodeM (d:Dev):ByteArray:=if hasN d then nodeS d.original else ⟨#[]⟩
theorem sorted_next {l:List Atr} {k:Nat} (h:∀ j,j < k → bless (l.getD j default).name (l.getD (j+1) default).name=true) (hn:bless (l.getD k default).name (l.getD (k+1) default).name=true):∀ j,j < k+1 → bless (l.getD j default).name (l.getD (j+1) default).name=true:=fun j hj=>by
 by_cases e:j=k
 ·rw [e];exact hn
 ·exact h j (by omega)
theorem sorted_t {l:List Atr} {k:Nat} (hk:l.length≤k+1) (h:∀ j,j < k → bless (l.getD j default).name (l.getD (j+1) default).name=true):sortedM l=true:=List.all_eq_true.2 fun j hj=>h j (by have:=List.mem_range.1 hj;omega)
theorem sorted_f {l:List Atr} {k:Nat} (hk:k+1 < l.length) (h:bless (l.getD k default).name (l.getD (k+1) default).name=false):sortedM l=false:=List.all_eq_false.2 ⟨k,List.mem_range.2 (by omega),by rw [h];decide⟩
theorem nodeS_fit {s:ByteArray}:(nodeS s).size=s.size:=by
 have key:∀ (k:Nat) (l:List UInt8),(Lib.replaceK [33] [47] k l).length=l.length:=by
  intro k
  induction k with
  | zero=>intro l;rfl
  | succ k ih =>
   intro l
   rw [Lib.replaceK]
   split
   ·rfl
   ·rename_i h
    have hg:=Lib.index_ge l [33]
    have hl:(Lib.index l [33]).toNat < l.length:=by
     have h':Lib.index l [33] ≠ -1:=by simpa using h
     have lt:∀ l:List UInt8,Lib.index l [33] < l.length∨Lib.index l [33] = -1:=by
      intro l
      induction l with
      | nil=>exact .inr rfl
      | cons b l ih =>
       rw [Lib.index]
       split
       ·exact .inl (by simp only [List.length_cons];omega)
       ·split
        ·exact .inr rfl
        ·rename_i h2
         rcases ih with ih|ih
         ·exact .inl (by simp only [List.length_cons];omega)
         ·rw [ih] at h2;simp at h2
     rcases lt l with h2|h2
     ·omega
     ·exact absurd h2 h'
    simp only [List.length_append,List.length_take,ih,List.length_drop,List.length_cons,List.length_nil]
    omega
 show (Lib.replaceAll s.data.toList [33] [47]).length=_
 unfold Lib.replaceAll Lib.replace
 rw [if_neg (by decide),key]
 rfl
end Go.Proofs.YtmjffgienmcabaaGreatDoor
