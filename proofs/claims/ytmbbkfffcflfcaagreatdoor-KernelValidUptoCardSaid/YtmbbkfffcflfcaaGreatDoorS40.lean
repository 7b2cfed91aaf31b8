/- What the program computes, and the plain laws of it, part 40. -/
import Derived.WideKeyEntry
import Derived.Lib.AppendZerosOnto
import Derived.Test.YtmbbkfffcflfcaaGreatDoorS39
namespace Go.Proofs.YtmbbkfffcflfcaaGreatDoor
attribute [local irreducible] PL QL PWPr PCalls Weak RetK Kontr PA
open Go.RowKit
open IntWalk renaming iteOmega → O, toNatUp → U
set_option linter.unusedVariables false
set_option linter.unusedSimpArgs false
set_option maxRecDepth 20000
structure WDev (d:Dev):Prop where
 ok:d.ok
 orig:d.original.size≤20
 att:d.attrs.length≤10
 num:0≤d.number∧d.number≤9
 al:d.alias_.size≤100
theorem mem_fit20 {l:List ByteArray} {s:ByteArray} (h:l.all (fun s=>decide (s.size≤20))=true) (hm:s ∈ l):s.size≤20:=by
 have:=List.all_eq_true.1 h s hm
 simpa using this
theorem WDev.mk' {i p:Int} {nm o s dr al:ByteArray} {kd n:Int} {at_:List Atr} (h1:nm.size≤100) (h2:o.size≤20) (h3:s.size≤100) (h4:dr.size≤100) (h5:al.size≤100) (h6:0≤n∧n≤9) (h7:at_.length≤10) (h8:ShortA at_):WDev ⟨i,p,nm,o,s,dr,al,kd,n,at_⟩ :=
 ⟨⟨fit_of h1 (by decide),fit_of h2 (by decide),fit_of h3 (by decide),fit_of h4 (by decide),fit_of h5 (by decide),fun a ha=>⟨fit_of (h8 a ha).1 (by decide),fit_of (h8 a ha).2 (by decide)⟩,by show at_.length≤_;omega,by show o.size≤_;omega⟩,h2,h7,h6,h5⟩
set_option maxHeartbeats 8000000 in
theorem wdev_ex (L:List Int) (k:Nat) (l:List Dev) (B:Nat) (hk:k < 90000) (hl:l.length≤1000) (hB:B≤100000) (hi:∀ d ∈ l,d.index≤B) (hi0:∀ d ∈ l,0≤d.index) (hL:∀ x ∈ L,-9223372036854775808≤x∧x≤9223372036854775807) (hLl:L.length≤9223372036854775807) :
  PCalls Tryz.prog 50 [.c (.ptr 0 0),.agg (trE l)] [tape L k] fun r os=>∃ (d:Dev) (k':Nat),(WDev d∧1≤d.index∧d.index≤B+1)∧k'≤k+20∧r = .agg d.e∧os=[tape L k']:=by
 refine pcalls_of Tryz.func50 rfl (by simp [Tryz.ntmps50]) ?_
 rw [Tryz.ntmps50,Tryz.results50]
 push_cast [O,U]
 have cB:CutB 8 [61]:=trivial
 have n1:=next_ex L (k+1) 4 (by omega) (by decide) (by decide) hL hLl
 have o1:=one_ex L k [⟨#[98,108,111,99,107]⟩,⟨#[117,115,98]⟩,⟨#[110,101,116]⟩,⟨#[112,99,105]⟩] (by omega) (by decide) (by decide) hL hLl
 have o2:=one_ex L (k+1+1) [⟨#[]⟩,⟨#[]⟩,⟨#[104,105,100]⟩,⟨#[110,105,99]⟩] (by omega) (by decide) (by decide) hL hLl
 have o3:=one_ex L (k+1+1+1) [⟨#[]⟩,⟨#[117,115,98,58,118,49]⟩,⟨#[112,99,105,58,100,50]⟩,⟨#[117,115,98,58,118,50]⟩] (by omega) (by decide) (by decide) hL hLl
 have a1:=wattrs_ex L (k+1+1+1+1) (by omega) hL hLl
 repeat' ((first|(refine plc [0] (o1) ?_ ?_;push_cast [O,U];rintro r os ⟨s1,m1,rfl,rfl⟩)|(refine plc [0] (n1) ?_ ?_;push_cast [O,U];rintro r os ⟨v1,⟨va,vb⟩,rfl,rfl⟩)|(refine plc [0] (o2) ?_ ?_;push_cast [O,U];rintro r os ⟨s2,m2,rfl,rfl⟩)|(refine plc [0] (o3) ?_ ?_;push_cast [O,U];rintro r os ⟨s3,m3,rfl,rfl⟩)|(refine plc [0] (a1) ?_ ?_;push_cast [O,U];rintro r os ⟨at_,q,⟨hal,has⟩,hq,rfl,rfl⟩)|refine pC ?_|refine pQC ?_|refine pU ?_|refine pif ?_ ?_<;>intro h<;>try exact pN h)<;>push_cast [O,U])
 have z1:s1.size≤100:=mem_fit (by decide) m1
 have z2:s2.size≤100:=mem_fit (by decide) m2
 have z3:s3.size≤100:=mem_fit (by decide) m3
 have hv1:1≤1+v1∧1+v1≤4:=by omega
 generalize 1+v1=kd at hv1 ⊢
 (apply pwp_loop3 (α:=Nat × Int) 8 [61] (fun x=>[(6,.c (.v (.int .i64 x.1)))]) (fun x=>[(3,.box 53 (Dev.e ⟨x.2,0,⟨#[]⟩,⟨#[]⟩,s1,s2,s3,kd,0,at_⟩))]) (fun x=>x.1≤l.length∧1≤x.2∧x.2≤B+1) (fun x=>l.length - x.1) ((0,1));(focus ((try push_cast [O,U]);rfl));(focus exact ⟨Nat.zero_le _,by simp,by simp only;omega⟩);(focus ((refine weak_fg ?_;try push_cast [O,U]))))
 rintro ⟨j,ix⟩ ⟨g1,g2,g3⟩
 simp only at g1 g2 g3
 push_cast [O,U]
 by_cases hlt:j < l.length
 ·have hij:=hi _ (getD_mem hlt)
  have hij0:=hi0 _ (getD_mem hlt)
  repeat' ((first|(refine hidR 5 ?_)|refine pC ?_|refine pQC ?_|refine pU ?_|refine pif ?_ ?_<;>intro h<;>try exact pN h)<;>push_cast [O,U])
  refine unhid ?_
  (refine pwp_cut 8 [61] ?_;refine pwp_drawn (by kernel_rfl) ?_;simp only [List.length_cons,List.length_nil,Nat.reduceAdd];refine pah 0 ?_;push_cast [O,U,  hlt];refine pah 2 ?_;push_cast [O,U,  hlt];refine pah 4 ?_;push_cast [O,U,  hlt];apply pa_hav;intro z6;apply pa_hav;intro z5;apply pa_hav;intro z4;apply pa_hav;intro z3;apply pa_hav;intro z2;apply pa_hav;intro z1;refine pas [1,3] ?_;push_cast [O,U,  hlt];refine ⟨?_,?_⟩;(focus (exact z1));(focus (refine pah 5 ?_;push_cast [O,U,  hlt];refine pah 6 ?_;push_cast [O,U,  hlt];exact z2));refine pas [3] ?_;push_cast [O,U,  hlt];(focus (refine pah 5 ?_;push_cast [O,U,  hlt];refine pah 6 ?_;push_cast [O,U,  hlt];exact z3));refine pas [1,7] ?_;push_cast [O,U,  hlt];refine ⟨?_,?_⟩;(focus (refine paw z3 ?_;refine weak_fg ?_;push_cast [O,U,  hlt]));(focus (refine pah 8 ?_;push_cast [O,U,  hlt];exact z4));refine pas [7] ?_;push_cast [O,U,  hlt];(focus (refine pah 8 ?_;push_cast [O,U,  hlt];refine pah 9 ?_;push_cast [O,U,  hlt];refine pah 10 ?_;push_cast [O,U,  hlt];exact z5));refine pas [1] ?_;push_cast [O,U,  hlt];(focus (refine pah 9 ?_;push_cast [O,U,  hlt];refine pah 10 ?_;push_cast [O,U,  hlt];refine paw z5 ?_;refine weak_fg ?_;push_cast [O,U,  hlt]));refine pas [11] ?_;push_cast [O,U,  hlt];refine paw z6 (weak_cutS 8 [61] _);push_cast [O,U,  hlt];refine pad ?_;push_cast [O,U,  hlt])
  repeat' ((first|refine pC ?_|refine pQC ?_|refine pU ?_|refine pif ?_ ?_<;>intro h<;>try exact pN h)<;>push_cast [O,U])
  exact ⟨(j+1,if ix < (l.getD j default).index+1 then (l.getD j default).index+1 else ix),⟨by simp only;omega,by simp only;split<;>omega,by simp only;split<;>omega⟩,by (refine weak_fg ?_;push_cast [O,U]),by simp only;omega⟩
 have hjl:j=l.length:=by omega
 subst hjl
 have hlen:¬ l.length < l.length:=by omega
 have fits:l.length≤1000:=hl
 have n2:=next_ex L q 4 (by omega) (by decide) (by decide) hL hLl
 by_cases k4:kd=4
 ·subst k4
  have o4_0:=one_ex L (q) [⟨#[101,116,104,48]⟩,⟨#[101,116,104,49]⟩,⟨#[119,108,97,110,48]⟩] (by omega) (by decide) (by decide) hL hLl
  have o5_0:∀ o,PCalls Tryz.prog 15 [.c (.ptr 0 0),.c (.sl 1 ([o,o,⟨#[108,97,110,48]⟩,⟨#[101,116,104,49]⟩].map strD))] [tape L (q+1)] _:=fun o=>one_ex L (q+1) [o,o,⟨#[108,97,110,48]⟩,⟨#[101,116,104,49]⟩] (by omega) (by simp) (by simp) hL hLl
  have o4_1:=one_ex L (q+1) [⟨#[101,116,104,48]⟩,⟨#[101,116,104,49]⟩,⟨#[119,108,97,110,48]⟩] (by omega) (by decide) (by decide) hL hLl
  have o5_1:∀ o,PCalls Tryz.prog 15 [.c (.ptr 0 0),.c (.sl 1 ([o,o,⟨#[108,97,110,48]⟩,⟨#[101,116,104,49]⟩].map strD))] [tape L (q+1+1)] _:=fun o=>one_ex L (q+1+1) [o,o,⟨#[108,97,110,48]⟩,⟨#[101,116,104,49]⟩] (by omega) (by simp) (by simp) hL hLl
  have o4_2:=one_ex L (q+1+1) [⟨#[101,116,104,48]⟩,⟨#[101,116,104,49]⟩,⟨#[119,108,97,110,48]⟩] (by omega) (by decide) (by decide) hL hLl
  have o5_2:∀ o,PCalls Tryz.prog 15 [.c (.ptr 0 0),.c (.sl 1 ([o,o,⟨#[108,97,110,48]⟩,⟨#[101,116,104,49]⟩].map strD))] [tape L (q+1+1+1)] _:=fun o=>one_ex L (q+1+1+1) [o,o,⟨#[108,97,110,48]⟩,⟨#[101,116,104,49]⟩] (by omega) (by simp) (by simp) hL hLl
  by_cases h0:0 < l.length
  case neg =>
   have h0':¬ (0:Int) < (l.length:Int):=by omega
   repeat' ((first|(refine plc [0] (o4_0) ?_ ?_;push_cast [O,U,h0'];rintro r os ⟨o,om,rfl,rfl⟩)|(refine plc [0] (o5_0 o) ?_ ?_;push_cast [O,U,h0'];rintro r os ⟨nm,nmm,rfl,rfl⟩)|refine pC ?_|refine pQC ?_|refine pU ?_|refine pif ?_ ?_<;>intro h<;>try exact pN h)<;>push_cast [O,U,h0'])
   all_goals (refine retK_of [0] ?_;push_cast [O,U])
   all_goals have zn:nm.size≤100:=by (simp only [List.mem_cons,List.not_mem_nil,or_false] at nmm;rcases nmm with rfl|rfl|rfl|rfl;exact mem_fit (by decide) om;exact mem_fit (by decide) om;decide;decide)
   all_goals exact ⟨_,_,leP_refl _,leOs_refl _,⟨ix,0,nm,o,⟨#[110,101,116]⟩,s2,s3,4,0,at_⟩,q+1+1,⟨WDev.mk' zn (mem_fit20 (by decide) om) (by decide) z2 z3 ⟨by decide,by decide⟩ (by omega) has,g2,g3⟩,by omega,rfl,rfl⟩
  have h0':(0:Int) < (l.length:Int):=by omega
  repeat' ((first|(refine plc [0] (n2) ?_ ?_;push_cast [O,U,h0'];rintro r os ⟨v2,⟨v2a,v2b⟩,rfl,rfl⟩)|(refine hidR 8 ?_)|(refine plc [0] (o4_1) ?_ ?_;push_cast [O,U,h0'];rintro r os ⟨o,om,rfl,rfl⟩)|(refine plc [0] (o5_1 o) ?_ ?_;push_cast [O,U,h0'];rintro r os ⟨nm,nmm,rfl,rfl⟩)|refine pC ?_|refine pQC ?_|refine pU ?_|refine pif ?_ ?_<;>intro h<;>try exact pN h)<;>push_cast [O,U,h0'])
  ·obtain ⟨f,hf⟩:∃ f,fold (tapeAt L (q+1)) l.length=f:=⟨_,rfl⟩
   have hfb:=fold_bds (tapeAt L (q+1)) l.length h0'
   rw [hf] at hfb
   obtain ⟨g,rfl⟩:∃ g:Nat,f=(g:Int):=⟨f.toNat,by omega⟩
   have hgl:g < l.length:=by omega
   have hnx:=next_pure L (q+1) l.length (by omega) (by omega) hL hLl
   rw [hf] at hnx
   refine unhid ?_
   (refine pwp_drawn (by kernel_rfl) ?_;try simp only [List.length_cons,List.length_nil,Nat.reduceAdd];repeat' first|((refine plE [0] hnx ?_ ?_;(focus (push_cast [O,U,  hgl];done));push_cast [O,U,  hgl]))|((refine plc [0] (o4_2) ?_ ?_;push_cast [O,U,  hgl];rintro r os ⟨o,om,rfl,rfl⟩;push_cast [O,U,  hgl]))|((refine plc [0] (o5_2 o) ?_ ?_;push_cast [O,U,  hgl];rintro r os ⟨nm,nmm,rfl,rfl⟩;push_cast [O,U,  hgl]))|((first|refine pah 0 ?_|refine pah 2 ?_|refine pah 3 ?_|refine pah 5 ?_|refine pah 6 ?_|refine pah 8 ?_);push_cast [O,U,  hgl])|(refine pad ?_;try push_cast [O,U,  hgl])|((first|refine pas [1] ?_|refine pas [4] ?_|refine pas [7] ?_|refine pas [9] ?_);push_cast [O,U,  hgl])|((first|refine pas [1,4] ?_|refine pas [1,7] ?_|refine pas [1,9] ?_|refine pas [4,7] ?_|refine pas [4,9] ?_|refine pas [7,9] ?_);push_cast [O,U,  hgl];refine ⟨?_,?_⟩)|((first|refine pas [1,4,7] ?_|refine pas [1,4,9] ?_|refine pas [1,7,9] ?_|refine pas [4,7,9] ?_);push_cast [O,U,  hgl];refine ⟨?_,?_,?_⟩))
   all_goals (refine retK_of [0] ?_;push_cast [O,U])
   all_goals have zn:nm.size≤100:=by (simp only [List.mem_cons,List.not_mem_nil,or_false] at nmm;rcases nmm with rfl|rfl|rfl|rfl;exact mem_fit (by decide) om;exact mem_fit (by decide) om;decide;decide)
   all_goals exact ⟨_,_,leP_refl _,leOs_refl _,⟨ix,(l.getD g default).index,nm,o,⟨#[110,101,116]⟩,s2,s3,4,0,at_⟩,q+1+1+1+1,⟨WDev.mk' zn (mem_fit20 (by decide) om) (by decide) z2 z3 ⟨by decide,by decide⟩ (by omega) has,g2,g3⟩,by omega,rfl,rfl⟩
  ·all_goals (refine retK_of [0] ?_;push_cast [O,U])
   all_goals have zn:nm.size≤100:=by (simp only [List.mem_cons,List.not_mem_nil,or_false] at nmm;rcases nmm with rfl|rfl|rfl|rfl;exact mem_fit (by decide) om;exact mem_fit (by decide) om;decide;decide)
   all_goals exact ⟨_,_,leP_refl _,leOs_refl _,⟨ix,0,nm,o,⟨#[110,101,116]⟩,s2,s3,4,0,at_⟩,q+1+1+1,⟨WDev.mk' zn (mem_fit20 (by decide) om) (by decide) z2 z3 ⟨by decide,by decide⟩ (by omega) has,g2,g3⟩,by omega,rfl,rfl⟩
 by_cases k2:kd=2
 ·subst k2
  have o4_0:=one_ex L (q) [⟨#[115,100,97]⟩,⟨#[115,100,98]⟩,⟨#[115,100,97,49]⟩,⟨#[115,100,97,50]⟩,⟨#[99,33,100,48]⟩] (by omega) (by decide) (by decide) hL hLl
  have n4_0:=next_ex L (q+1) 9 (by omega) (by decide) (by decide) hL hLl
  have o4_1:=one_ex L (q+1) [⟨#[115,100,97]⟩,⟨#[115,100,98]⟩,⟨#[115,100,97,49]⟩,⟨#[115,100,97,50]⟩,⟨#[99,33,100,48]⟩] (by omega) (by decide) (by decide) hL hLl
  have n4_1:=next_ex L (q+1+1) 9 (by omega) (by decide) (by decide) hL hLl
  have o4_2:=one_ex L (q+1+1) [⟨#[115,100,97]⟩,⟨#[115,100,98]⟩,⟨#[115,100,97,49]⟩,⟨#[115,100,97,50]⟩,⟨#[99,33,100,48]⟩] (by omega) (by decide) (by decide) hL hLl
  have n4_2:=next_ex L (q+1+1+1) 9 (by omega) (by decide) (by decide) hL hLl
  have wc:=wcontents_pure
  by_cases h0:0 < l.length
  case neg =>
   have h0':¬ (0:Int) < (l.length:Int):=by omega
   repeat' ((first|(refine plc [0] (o4_0) ?_ ?_;push_cast [O,U,h0'];rintro r os ⟨o,om,rfl,rfl⟩)|(refine plc [0] (n4_0) ?_ ?_;push_cast [O,U,h0'];rintro r os ⟨nu,⟨nua,nub⟩,rfl,rfl⟩)|(refine hidR 20 ?_)|refine pC ?_|refine pQC ?_|refine pU ?_|refine pif ?_ ?_<;>intro h<;>try exact pN h)<;>push_cast [O,U,h0'])
   all_goals refine unhid ?_
   all_goals (refine pwp_drawn (by kernel_rfl) ?_;try simp only [List.length_cons,List.length_nil,Nat.reduceAdd];repeat' first|((refine plc [] (wc) ?_ ?_;push_cast [O,U];rintro r os ⟨⟨cl,hcl,hcs,rfl⟩,rfl⟩;push_cast [O,U]))|((refine plc [0] (one_ex L (q+1+1) cl (by omega) (by omega) (by omega) hL hLl) ?_ ?_;push_cast [O,U];rintro r os ⟨c,cm,rfl,rfl⟩;push_cast [O,U]))|((refine plc [] (rset_ex at_ ⟨#[99,111,110,116,101,110,116]⟩ c (by omega)) ?_ ?_;push_cast [O,U];rintro r os ⟨at2,⟨s4,s5⟩,rfl,rfl⟩;push_cast [O,U]))|((first|refine pah 0 ?_|refine pah 2 ?_|refine pah 6 ?_);push_cast [O,U])|(refine pad ?_;try push_cast [O,U])|((first|refine pas [1] ?_|refine pas [3] ?_|refine pas [4] ?_|refine pas [5] ?_|refine pas [7] ?_);push_cast [O,U])|((first|refine pas [1,3] ?_|refine pas [1,4] ?_|refine pas [1,5] ?_|refine pas [1,7] ?_|refine pas [3,4] ?_|refine pas [3,5] ?_|refine pas [3,7] ?_|refine pas [4,5] ?_|refine pas [4,7] ?_|refine pas [5,7] ?_);push_cast [O,U];refine ⟨?_,?_⟩)|((first|refine pas [1,3,4] ?_|refine pas [1,3,5] ?_|refine pas [1,3,7] ?_|refine pas [1,4,5] ?_|refine pas [1,4,7] ?_|refine pas [1,5,7] ?_|refine pas [3,4,5] ?_|refine pas [3,4,7] ?_|refine pas [3,5,7] ?_|refine pas [4,5,7] ?_);push_cast [O,U];refine ⟨?_,?_,?_⟩))
   all_goals repeat' ((first|refine pC ?_|refine pQC ?_|refine pU ?_|refine pif ?_ ?_<;>intro h<;>try exact pN h)<;>push_cast [O,U])
   all_goals (refine retK_of [0] ?_;push_cast [O,U])
   all_goals exact ⟨_,_,leP_refl _,leOs_refl _,⟨ix,0,o,o,⟨#[98,108,111,99,107]⟩,s2,s3,2,1+nu,at2⟩,q+1+1+1,⟨WDev.mk' (mem_fit (by decide) om) (mem_fit20 (by decide) om) (by decide) z2 z3 ⟨by omega,by omega⟩ (by omega) (has.set s5 (by decide) (hcs _ cm)),g2,g3⟩,by omega,rfl,rfl⟩
  have h0':(0:Int) < (l.length:Int):=by omega
  repeat' ((first|(refine plc [0] (n2) ?_ ?_;push_cast [O,U,h0'];rintro r os ⟨v2,⟨v2a,v2b⟩,rfl,rfl⟩)|(refine hidR 8 ?_)|(refine plc [0] (o4_1) ?_ ?_;push_cast [O,U,h0'];rintro r os ⟨o,om,rfl,rfl⟩)|(refine plc [0] (n4_1) ?_ ?_;push_cast [O,U,h0'];rintro r os ⟨nu,⟨nua,nub⟩,rfl,rfl⟩)|(refine hidR 20 ?_)|refine pC ?_|refine pQC ?_|refine pU ?_|refine pif ?_ ?_<;>intro h<;>try exact pN h)<;>push_cast [O,U,h0'])
  ·obtain ⟨f,hf⟩:∃ f,fold (tapeAt L (q+1)) l.length=f:=⟨_,rfl⟩
   have hfb:=fold_bds (tapeAt L (q+1)) l.length h0'
   rw [hf] at hfb
   obtain ⟨g,rfl⟩:∃ g:Nat,f=(g:Int):=⟨f.toNat,by omega⟩
   have hgl:g < l.length:=by omega
   have hnx:=next_pure L (q+1) l.length (by omega) (by omega) hL hLl
   rw [hf] at hnx
   refine unhid ?_
   (refine pwp_drawn (by kernel_rfl) ?_;try simp only [List.length_cons,List.length_nil,Nat.reduceAdd];repeat' first|((refine plE [0] hnx ?_ ?_;(focus (push_cast [O,U,  hgl];done));push_cast [O,U,  hgl]))|((refine plc [0] (o4_2) ?_ ?_;push_cast [O,U,  hgl];rintro r os ⟨o,om,rfl,rfl⟩;push_cast [O,U,  hgl]))|((refine plc [0] (n4_2) ?_ ?_;push_cast [O,U,  hgl];rintro r os ⟨nu,⟨nua,nub⟩,rfl,rfl⟩;push_cast [O,U,  hgl]))|(refine hidR 20 ?_)|((first|refine pah 0 ?_|refine pah 2 ?_|refine pah 3 ?_|refine pah 5 ?_|refine pah 6 ?_|refine pah 8 ?_);push_cast [O,U,  hgl])|(refine pad ?_;try push_cast [O,U,  hgl])|((first|refine pas [1] ?_|refine pas [4] ?_|refine pas [7] ?_|refine pas [9] ?_);push_cast [O,U,  hgl])|((first|refine pas [1,4] ?_|refine pas [1,7] ?_|refine pas [1,9] ?_|refine pas [4,7] ?_|refine pas [4,9] ?_|refine pas [7,9] ?_);push_cast [O,U,  hgl];refine ⟨?_,?_⟩)|((first|refine pas [1,4,7] ?_|refine pas [1,4,9] ?_|refine pas [1,7,9] ?_|refine pas [4,7,9] ?_);push_cast [O,U,  hgl];refine ⟨?_,?_,?_⟩))
   all_goals refine unhid ?_
   all_goals (refine pwp_drawn (by kernel_rfl) ?_;try simp only [List.length_cons,List.length_nil,Nat.reduceAdd];repeat' first|((refine plc [] (wc) ?_ ?_;push_cast [O,U];rintro r os ⟨⟨cl,hcl,hcs,rfl⟩,rfl⟩;push_cast [O,U]))|((refine plc [0] (one_ex L (q+1+1+1+1) cl (by omega) (by omega) (by omega) hL hLl) ?_ ?_;push_cast [O,U];rintro r os ⟨c,cm,rfl,rfl⟩;push_cast [O,U]))|((refine plc [] (rset_ex at_ ⟨#[99,111,110,116,101,110,116]⟩ c (by omega)) ?_ ?_;push_cast [O,U];rintro r os ⟨at2,⟨s4,s5⟩,rfl,rfl⟩;push_cast [O,U]))|((first|refine pah 0 ?_|refine pah 2 ?_|refine pah 6 ?_);push_cast [O,U])|(refine pad ?_;try push_cast [O,U])|((first|refine pas [1] ?_|refine pas [3] ?_|refine pas [4] ?_|refine pas [5] ?_|refine pas [7] ?_);push_cast [O,U])|((first|refine pas [1,3] ?_|refine pas [1,4] ?_|refine pas [1,5] ?_|refine pas [1,7] ?_|refine pas [3,4] ?_|refine pas [3,5] ?_|refine pas [3,7] ?_|refine pas [4,5] ?_|refine pas [4,7] ?_|refine pas [5,7] ?_);push_cast [O,U];refine ⟨?_,?_⟩)|((first|refine pas [1,3,4] ?_|refine pas [1,3,5] ?_|refine pas [1,3,7] ?_|refine pas [1,4,5] ?_|refine pas [1,4,7] ?_|refine pas [1,5,7] ?_|refine pas [3,4,5] ?_|refine pas [3,4,7] ?_|refine pas [3,5,7] ?_|refine pas [4,5,7] ?_);push_cast [O,U];refine ⟨?_,?_,?_⟩))
   all_goals repeat' ((first|refine pC ?_|refine pQC ?_|refine pU ?_|refine pif ?_ ?_<;>intro h<;>try exact pN h)<;>push_cast [O,U])
   all_goals (refine retK_of [0] ?_;push_cast [O,U])
   all_goals exact ⟨_,_,leP_refl _,leOs_refl _,⟨ix,(l.getD g default).index,o,o,⟨#[98,108,111,99,107]⟩,s2,s3,2,1+nu,at2⟩,q+1+1+1+1+1,⟨WDev.mk' (mem_fit (by decide) om) (mem_fit20 (by decide) om) (by decide) z2 z3 ⟨by omega,by omega⟩ (by omega) (has.set s5 (by decide) (hcs _ cm)),g2,g3⟩,by omega,rfl,rfl⟩
  ·all_goals refine unhid ?_
   all_goals (refine pwp_drawn (by kernel_rfl) ?_;try simp only [List.length_cons,List.length_nil,Nat.reduceAdd];repeat' first|((refine plc [] (wc) ?_ ?_;push_cast [O,U];rintro r os ⟨⟨cl,hcl,hcs,rfl⟩,rfl⟩;push_cast [O,U]))|((refine plc [0] (one_ex L (q+1+1+1) cl (by omega) (by omega) (by omega) hL hLl) ?_ ?_;push_cast [O,U];rintro r os ⟨c,cm,rfl,rfl⟩;push_cast [O,U]))|((refine plc [] (rset_ex at_ ⟨#[99,111,110,116,101,110,116]⟩ c (by omega)) ?_ ?_;push_cast [O,U];rintro r os ⟨at2,⟨s4,s5⟩,rfl,rfl⟩;push_cast [O,U]))|((first|refine pah 0 ?_|refine pah 2 ?_|refine pah 6 ?_);push_cast [O,U])|(refine pad ?_;try push_cast [O,U])|((first|refine pas [1] ?_|refine pas [3] ?_|refine pas [4] ?_|refine pas [5] ?_|refine pas [7] ?_);push_cast [O,U])|((first|refine pas [1,3] ?_|refine pas [1,4] ?_|refine pas [1,5] ?_|refine pas [1,7] ?_|refine pas [3,4] ?_|refine pas [3,5] ?_|refine pas [3,7] ?_|refine pas [4,5] ?_|refine pas [4,7] ?_|refine pas [5,7] ?_);push_cast [O,U];refine ⟨?_,?_⟩)|((first|refine pas [1,3,4] ?_|refine pas [1,3,5] ?_|refine pas [1,3,7] ?_|refine pas [1,4,5] ?_|refine pas [1,4,7] ?_|refine pas [1,5,7] ?_|refine pas [3,4,5] ?_|refine pas [3,4,7] ?_|refine pas [3,5,7] ?_|refine pas [4,5,7] ?_);push_cast [O,U];refine ⟨?_,?_,?_⟩))
   all_goals repeat' ((first|refine pC ?_|refine pQC ?_|refine pU ?_|refine pif ?_ ?_<;>intro h<;>try exact pN h)<;>push_cast [O,U])
   all_goals (refine retK_of [0] ?_;push_cast [O,U])
   all_goals exact ⟨_,_,leP_refl _,leOs_refl _,⟨ix,0,o,o,⟨#[98,108,111,99,107]⟩,s2,s3,2,1+nu,at2⟩,q+1+1+1+1,⟨WDev.mk' (mem_fit (by decide) om) (mem_fit20 (by decide) om) (by decide) z2 z3 ⟨by omega,by omega⟩ (by omega) (has.set s5 (by decide) (hcs _ cm)),g2,g3⟩,by omega,rfl,rfl⟩
 by_cases k3:kd=3
 ·subst k3
  have o4_0:=one_ex L (q) [⟨#[116,116,121,48]⟩,⟨#[116,116,121,49]⟩,⟨#[105,110,112,117,116,33,101,118,48]⟩] (by omega) (by decide) (by decide) hL hLl
  have n4_0:=next_ex L (q+1) 9 (by omega) (by decide) (by decide) hL hLl
  have o4_1:=one_ex L (q+1) [⟨#[116,116,121,48]⟩,⟨#[116,116,121,49]⟩,⟨#[105,110,112,117,116,33,101,118,48]⟩] (by omega) (by decide) (by decide) hL hLl
  have n4_1:=next_ex L (q+1+1) 9 (by omega) (by decide) (by decide) hL hLl
  have o4_2:=one_ex L (q+1+1) [⟨#[116,116,121,48]⟩,⟨#[116,116,121,49]⟩,⟨#[105,110,112,117,116,33,101,118,48]⟩] (by omega) (by decide) (by decide) hL hLl
  have n4_2:=next_ex L (q+1+1+1) 9 (by omega) (by decide) (by decide) hL hLl
  by_cases h0:0 < l.length
  case neg =>
   have h0':¬ (0:Int) < (l.length:Int):=by omega
   repeat' ((first|(refine plc [0] (o4_0) ?_ ?_;push_cast [O,U,h0'];rintro r os ⟨o,om,rfl,rfl⟩)|(refine plc [0] (n4_0) ?_ ?_;push_cast [O,U,h0'];rintro r os ⟨nu,⟨nua,nub⟩,rfl,rfl⟩)|refine pC ?_|refine pQC ?_|refine pU ?_|refine pif ?_ ?_<;>intro h<;>try exact pN h)<;>push_cast [O,U,h0'])
   all_goals (refine retK_of [0] ?_;push_cast [O,U])
   all_goals exact ⟨_,_,leP_refl _,leOs_refl _,⟨ix,0,o,o,s1,s2,s3,3,1+nu,at_⟩,q+1+1,⟨WDev.mk' (mem_fit (by decide) om) (mem_fit20 (by decide) om) z1 z2 z3 ⟨by omega,by omega⟩ (by omega) has,g2,g3⟩,by omega,rfl,rfl⟩
  have h0':(0:Int) < (l.length:Int):=by omega
  repeat' ((first|(refine plc [0] (n2) ?_ ?_;push_cast [O,U,h0'];rintro r os ⟨v2,⟨v2a,v2b⟩,rfl,rfl⟩)|(refine hidR 8 ?_)|(refine plc [0] (o4_1) ?_ ?_;push_cast [O,U,h0'];rintro r os ⟨o,om,rfl,rfl⟩)|(refine plc [0] (n4_1) ?_ ?_;push_cast [O,U,h0'];rintro r os ⟨nu,⟨nua,nub⟩,rfl,rfl⟩)|refine pC ?_|refine pQC ?_|refine pU ?_|refine pif ?_ ?_<;>intro h<;>try exact pN h)<;>push_cast [O,U,h0'])
  ·obtain ⟨f,hf⟩:∃ f,fold (tapeAt L (q+1)) l.length=f:=⟨_,rfl⟩
   have hfb:=fold_bds (tapeAt L (q+1)) l.length h0'
   rw [hf] at hfb
   obtain ⟨g,rfl⟩:∃ g:Nat,f=(g:Int):=⟨f.toNat,by omega⟩
   have hgl:g < l.length:=by omega
   have hnx:=next_pure L (q+1) l.length (by omega) (by omega) hL hLl
   rw [hf] at hnx
   refine unhid ?_
   (refine pwp_drawn (by kernel_rfl) ?_;try simp only [List.length_cons,List.length_nil,Nat.reduceAdd];repeat' first|((refine plE [0] hnx ?_ ?_;(focus (push_cast [O,U,  hgl];done));push_cast [O,U,  hgl]))|((refine plc [0] (o4_2) ?_ ?_;push_cast [O,U,  hgl];rintro r os ⟨o,om,rfl,rfl⟩;push_cast [O,U,  hgl]))|((refine plc [0] (n4_2) ?_ ?_;push_cast [O,U,  hgl];rintro r os ⟨nu,⟨nua,nub⟩,rfl,rfl⟩;push_cast [O,U,  hgl]))|((first|refine pah 0 ?_|refine pah 2 ?_|refine pah 3 ?_|refine pah 5 ?_|refine pah 6 ?_|refine pah 8 ?_);push_cast [O,U,  hgl])|(refine pad ?_;try push_cast [O,U,  hgl])|((first|refine pas [1] ?_|refine pas [4] ?_|refine pas [7] ?_|refine pas [9] ?_);push_cast [O,U,  hgl])|((first|refine pas [1,4] ?_|refine pas [1,7] ?_|refine pas [1,9] ?_|refine pas [4,7] ?_|refine pas [4,9] ?_|refine pas [7,9] ?_);push_cast [O,U,  hgl];refine ⟨?_,?_⟩)|((first|refine pas [1,4,7] ?_|refine pas [1,4,9] ?_|refine pas [1,7,9] ?_|refine pas [4,7,9] ?_);push_cast [O,U,  hgl];refine ⟨?_,?_,?_⟩))
   all_goals (refine retK_of [0] ?_;push_cast [O,U])
   all_goals exact ⟨_,_,leP_refl _,leOs_refl _,⟨ix,(l.getD g default).index,o,o,s1,s2,s3,3,1+nu,at_⟩,q+1+1+1+1,⟨WDev.mk' (mem_fit (by decide) om) (mem_fit20 (by decide) om) z1 z2 z3 ⟨by omega,by omega⟩ (by omega) has,g2,g3⟩,by omega,rfl,rfl⟩
  ·all_goals (refine retK_of [0] ?_;push_cast [O,U])
   all_goals exact ⟨_,_,leP_refl _,leOs_refl _,⟨ix,0,o,o,s1,s2,s3,3,1+nu,at_⟩,q+1+1+1,⟨WDev.mk' (mem_fit (by decide) om) (mem_fit20 (by decide) om) z1 z2 z3 ⟨by omega,by omega⟩ (by omega) has,g2,g3⟩,by omega,rfl,rfl⟩
 have o4_0:=one_ex L (q) [⟨#[112,99,105,48]⟩,⟨#[117,115,98,49]⟩,⟨#[49,45,49]⟩,⟨#[112,111,114,116]⟩] (by omega) (by decide) (by decide) hL hLl
 have o4_1:=one_ex L (q+1) [⟨#[112,99,105,48]⟩,⟨#[117,115,98,49]⟩,⟨#[49,45,49]⟩,⟨#[112,111,114,116]⟩] (by omega) (by decide) (by decide) hL hLl
 have o4_2:=one_ex L (q+1+1) [⟨#[112,99,105,48]⟩,⟨#[117,115,98,49]⟩,⟨#[49,45,49]⟩,⟨#[112,111,114,116]⟩] (by omega) (by decide) (by decide) hL hLl
 by_cases h0:0 < l.length
 case neg =>
  have h0':¬ (0:Int) < (l.length:Int):=by omega
  repeat' ((first|(refine plc [0] (o4_0) ?_ ?_;push_cast [O,U,k4,k2,k3,h0'];rintro r os ⟨o,om,rfl,rfl⟩)|refine pC ?_|refine pQC ?_|refine pU ?_|refine pif ?_ ?_<;>intro h<;>try exact pN h)<;>push_cast [O,U,k4,k2,k3,h0'])
  all_goals (refine retK_of [0] ?_;push_cast [O,U])
  all_goals exact ⟨_,_,leP_refl _,leOs_refl _,⟨ix,0,o,o,s1,s2,s3,kd,0,at_⟩,q+1,⟨WDev.mk' (mem_fit (by decide) om) (mem_fit20 (by decide) om) z1 z2 z3 ⟨by decide,by decide⟩ (by omega) has,g2,g3⟩,by omega,rfl,rfl⟩
 have h0':(0:Int) < (l.length:Int):=by omega
 repeat' ((first|(refine plc [0] (n2) ?_ ?_;push_cast [O,U,k4,k2,k3,h0'];rintro r os ⟨v2,⟨v2a,v2b⟩,rfl,rfl⟩)|(refine hidR 8 ?_)|(refine plc [0] (o4_1) ?_ ?_;push_cast [O,U,k4,k2,k3,h0'];rintro r os ⟨o,om,rfl,rfl⟩)|refine pC ?_|refine pQC ?_|refine pU ?_|refine pif ?_ ?_<;>intro h<;>try exact pN h)<;>push_cast [O,U,k4,k2,k3,h0'])
 ·obtain ⟨f,hf⟩:∃ f,fold (tapeAt L (q+1)) l.length=f:=⟨_,rfl⟩
  have hfb:=fold_bds (tapeAt L (q+1)) l.length h0'
  rw [hf] at hfb
  obtain ⟨g,rfl⟩:∃ g:Nat,f=(g:Int):=⟨f.toNat,by omega⟩
  have hgl:g < l.length:=by omega
  have hnx:=next_pure L (q+1) l.length (by omega) (by omega) hL hLl
  rw [hf] at hnx
  refine unhid ?_
  (refine pwp_drawn (by kernel_rfl) ?_;try simp only [List.length_cons,List.length_nil,Nat.reduceAdd];repeat' first|((refine plE [0] hnx ?_ ?_;(focus (push_cast [O,U,  k4,k2,k3,hgl];done));push_cast [O,U,  k4,k2,k3,hgl]))|((refine plc [0] (o4_2) ?_ ?_;push_cast [O,U,  k4,k2,k3,hgl];rintro r os ⟨o,om,rfl,rfl⟩;push_cast [O,U,  k4,k2,k3,hgl]))|((first|refine pah 0 ?_|refine pah 2 ?_|refine pah 3 ?_|refine pah 5 ?_|refine pah 6 ?_|refine pah 8 ?_);push_cast [O,U,  k4,k2,k3,hgl])|(refine pad ?_;try push_cast [O,U,  k4,k2,k3,hgl])|((first|refine pas [1] ?_|refine pas [4] ?_|refine pas [7] ?_|refine pas [9] ?_);push_cast [O,U,  k4,k2,k3,hgl])|((first|refine pas [1,4] ?_|refine pas [1,7] ?_|refine pas [1,9] ?_|refine pas [4,7] ?_|refine pas [4,9] ?_|refine pas [7,9] ?_);push_cast [O,U,  k4,k2,k3,hgl];refine ⟨?_,?_⟩)|((first|refine pas [1,4,7] ?_|refine pas [1,4,9] ?_|refine pas [1,7,9] ?_|refine pas [4,7,9] ?_);push_cast [O,U,  k4,k2,k3,hgl];refine ⟨?_,?_,?_⟩))
  all_goals (refine retK_of [0] ?_;push_cast [O,U])
  all_goals exact ⟨_,_,leP_refl _,leOs_refl _,⟨ix,(l.getD g default).index,o,o,s1,s2,s3,kd,0,at_⟩,q+1+1+1,⟨WDev.mk' (mem_fit (by decide) om) (mem_fit20 (by decide) om) z1 z2 z3 ⟨by decide,by decide⟩ (by omega) has,g2,g3⟩,by omega,rfl,rfl⟩
 ·all_goals (refine retK_of [0] ?_;push_cast [O,U])
  all_goals exact ⟨_,_,leP_refl _,leOs_refl _,⟨ix,0,o,o,s1,s2,s3,kd,0,at_⟩,q+1+1,⟨WDev.mk' (mem_fit (by decide) om) (mem_fit20 (by decide) om) z1 z2 z3 ⟨by decide,by decide⟩ (by omega) has,g2,g3⟩,by omega,rfl,rfl⟩
set_option maxRecDepth 20000
end Go.Proofs.YtmbbkfffcflfcaaGreatDoor
namespace Go.Proofs.YtmbbkfffcflfcaaGreatDoor
open Go.RowKit
open IntWalk renaming iteOmega → O, toNatUp → U
set_option linter.unusedVariables false
set_option linter.unusedSimpArgs false
abbrev Up (a b:Atr):Prop:=bless a.name b.name=true
instance:DecidableRel Up:=fun a b=>inferInstanceAs (Decidable (bless a.name b.name=true))
def getM (l:List Atr) (n:ByteArray):ByteArray × Bool :=
 match l.find? (fun a=>decide (a.name=n)) with
 | some a=>(a.value,true)
 | none=>(⟨#[]⟩,false)
def pos (l:List Atr) (n:ByteArray):Nat:=(l.takeWhile fun y=>bless y.name n).length
def hit (l:List Atr) (n:ByteArray):Bool:=match l[pos l n]? with
 | some y=>decide (y.name=n)
 | none=>false
def devSet (l:List Atr) (n v:ByteArray):List Atr :=
 l.take (pos l n)++(if v=⟨#[]⟩ then [] else [⟨n,v⟩])++l.drop (if hit l n then pos l n+1 else pos l n)
theorem pos_le (l:List Atr) (n:ByteArray):pos l n≤l.length:=by
 have:=congrArg List.length (List.takeWhile_append_dropWhile (p:=fun y:Atr=>bless y.name n) (l:=l))
 rw [List.length_append] at this
 unfold pos
 omega
theorem pos_up {l:List Atr} {n:ByteArray}:∀ {i:Nat},i≤l.length → (∀ y ∈ l.take i,bless y.name n=true) → (∀ y ∈ l.drop i,bless y.name n=false) → pos l n=i:=by
 induction l with
 | nil=>intro i h _ _;simp at h;subst h;rfl
 | cons a l ih =>
  intro i h h1 h2
  unfold pos
  cases i with
  | zero=>rw [List.takeWhile_cons_of_neg (by simpa using h2 a (by simp))];rfl
  | succ i =>
   rw [List.takeWhile_cons_of_pos (by simpa using h1 a (by simp)),List.length_cons]
   exact congrArg (· + 1) (ih (by simpa using h) (fun y hy=>h1 y (by simp [hy])) (fun y hy=>h2 y (by simpa using hy)))
theorem getM_cons (x:Atr) (t:List Atr) (c:ByteArray):getM (x :: t) c=if x.name=c then (x.value,true) else getM t c:=by
 by_cases h:x.name=c<;>simp [getM,List.find?_cons,h]
theorem getM_none {l:List Atr} {c:ByteArray} (h:∀ y ∈ l,y.name≠c):getM l c=(⟨#[]⟩,false):=by
 induction l with
 | nil=>rfl
 | cons x t ih =>
  rw [getM_cons,if_neg (h x (by simp)),ih (fun y hy=>h y (by simp [hy]))]
def one (n v:ByteArray):List Atr:=if v=⟨#[]⟩ then [] else [⟨n,v⟩]
def insM (n v:ByteArray):List Atr → List Atr
 | []=>one n v
 | x :: t=>if bless x.name n then x :: insM n v t else one n v++(if x.name=n then t else x :: t)
theorem devSet_eq (n v:ByteArray):∀ l:List Atr,devSet l n v=insM n v l
 | []=>by simp [devSet,pos,hit,insM,one]
 | x :: t=>by
  have ih:=devSet_eq n v t
  by_cases hb:bless x.name n=true
  ·have hp:pos (x :: t) n=pos t n+1:=by simp [pos,hb]
   have hh:hit (x :: t) n=hit t n:=by simp only [hit,hp,List.getElem?_cons_succ]
   rw [insM,if_pos hb,← ih]
   simp only [devSet,hp,hh,List.take_succ_cons,List.cons_append]
   congr 2
   split<;>simp
  ·have hp:pos (x :: t) n=0:=by simp [pos,hb]
   have hh:hit (x :: t) n=decide (x.name=n):=by simp [hit,hp]
   rw [insM,if_neg hb]
   simp only [devSet,hp,hh,one,List.take_zero,List.nil_append]
   congr 1
   by_cases hx:x.name=n<;>simp [hx]
theorem insM_len (n v:ByteArray):∀ l:List Atr,(insM n v l).length≤l.length+1
 | []=>by unfold insM one;split<;>simp
 | x :: t=>by
  have ih:=insM_len n v t
  have h1:(one n v).length≤1:=by unfold one;split<;>simp
  rw [insM]
  split
  ·simp;omega
  ·split<;>simp<;>omega
theorem infoGr:(Tryz.prog.info? 97).map (fun i=>(i.zero,i.size,i.bytes))=some (some (Value.agg #[.string ByteArray.empty,.string ByteArray.empty]),2,32):=by kernel_rfl
set_option maxRecDepth 1000000 in
theorem grow_walk (n:Nat) (w:World) (hn:n≤1099511627776) :
  Calls Tryz.prog 216 #[.slice none 0 0,.int .i64 (n:Int)] w fun e w'=>∃ vs,e = .returned vs∧w'.ownsRow w.heap.size 97 2 vs 0 []∧Ext No w w':=by
 by_cases h0:n=0
 ·subst h0
  go_enter Tryz.func216,Tryz.ntmps216
  go_wp2
  go_ret
  exact ⟨_,rfl,own_nil _ _ _ _,Ext.refl _ _⟩
 ·obtain ⟨i,hi,hz,hs,hb⟩:=info_parts infoGr
  have hrun:=Lib.run_append_nil_zeros (P:=Tryz.prog) w 51 3 51 97 i _ .i64 .i64 Tryz.underlying51 Tryz.underlying3 hi hz n (by omega) (by rw [hs];decide) (by omega) (by rw [hb];omega)
  have hown:(w.drew.alloc (.cells (Builtin.zeroCells (Value.agg #[.string ByteArray.empty,.string ByteArray.empty]).cells n++Builtin.zeroCells (Value.agg #[.string ByteArray.empty,.string ByteArray.empty]).cells (grownCap w n 0 97 - n)) 97)).ownsRow w.heap.size 97 2 (.slice (some ⟨w.heap.size,0,none⟩) 0 (grownCap w n 0 97)) 0 []:=by
   have hge:=grownCap_ge w n 0 97
   have hcm:grownCap w n 0 97≤maxLen:=grownCap_le_maxLen w n 0 97 (by simp only [maxLen];omega)
   refine ⟨rfl,.inr ⟨w.heap.size,_,_,rfl,Nat.le_refl _,heap_alloc_new w.drew _,Nat.zero_le _,hcm,?_,by simp⟩⟩
   simp only [Array.size_append,size_zeroCells]
   show n * 2+(grownCap w n 0 97 - n) * 2=_
   omega
  have hE:Ext No w (w.drew.alloc (.cells (Builtin.zeroCells (Value.agg #[.string ByteArray.empty,.string ByteArray.empty]).cells n++Builtin.zeroCells (Value.agg #[.string ByteArray.empty,.string ByteArray.empty]).cells (grownCap w n 0 97 - n)) 97)):=(Ext.refl No w).drew.alloc _
  generalize w.drew.alloc (.cells (Builtin.zeroCells (Value.agg #[.string ByteArray.empty,.string ByteArray.empty]).cells n++Builtin.zeroCells (Value.agg #[.string ByteArray.empty,.string ByteArray.empty]).cells (grownCap w n 0 97 - n)) 97)=W1 at hrun hown hE
  have hcap:=grownCap_ge w n 0 97
  generalize grownCap w n 0 97=cap at hrun hown hcap
  have HR:=Lib.hid hrun
  have HO:=Lib.hid hown
  have HE:=Lib.hid hE
  clear hrun hown hE hi hz hs hb
  go_enter Tryz.func216,Tryz.ntmps216
  go_wp2_with (at_builtin;refine Lib.wpList_append_run _ rfl (.tmp 20) (.tmp 21) 51 3 rfl (.slice none 0 0) (.int .i64 (n:Int)) rfl rfl _ W1 HR.out ?_)
  go_ret
  exact ⟨_,rfl,HO.out,HE.out⟩
theorem grow_pure (n:Nat) (hn:n≤1000000000) :
  PCalls Tryz.prog 216 [.c (.v (.slice none 0 0)),.c (.v (.int .i64 n))] [] fun r os=>r = .c (.own 0 0)∧os=[.arr 97 2 []]:=fun Γ w xs hm hx=>by
 have hxs:=rp_vals (vs:=[.slice none 0 0,.int .i64 (n:Int)]) hx
 rw [hxs]
 refine (grow_walk n w (by omega)).mono ?_
 rintro e w' ⟨v,rfl,hrow,hE⟩
 have hS:=Same.of_ext hE
 have hn0:Γ.n=0:=hm.n
 obtain ⟨_,h2⟩:=hrow
 have fin:∀ (b c:Nat) (v:Value),RO w' (Γ.push b c) Γ.n (.arr 97 2 []) → (0 < c → w.heap.size≤b) → OwnRep (Γ.push b c) Γ.n 0 v →
   ∃ r os' Γ' y,Ending.returned v = .returned y∧(r = .c (.own 0 0)∧os'=[.arr 97 2 []])∧RP w' Γ' r y∧([]:List Ob).length≤os'.length∧MemOk Γ' os' w'∧Grow ([]:List Ob).length Γ w Γ' w':=by
  intro b c v hro hb hrep
  rw [hn0] at hrep
  exact ⟨_,_,Γ.push b c,v,rfl,⟨rfl,rfl⟩,⟨by simp [G.push,hn0],hrep⟩,by simp,hm.push hS _ b c hro hb,grow_push hm hE b c hb (Nat.zero_le _)⟩
 rcases h2 with ⟨rfl,_⟩|⟨g,cap,cur,rfl,hb,hg,_,hcm,hsz,_⟩
 ·exact fin 0 0 _ ⟨by simp,by omega,fun _=>rfl,fun h=>absurd h (by simp [G.push,upd_same])⟩ (fun h=>absurd h (by omega)) (.inl ⟨by simp [G.push,upd_same],⟨none,rfl⟩,rfl⟩)
 ·rcases Nat.eq_zero_or_pos cap with h0|h0
  ·subst h0
   exact fin 0 0 _ ⟨by simp,by omega,fun _=>rfl,fun h=>absurd h (by simp [G.push,upd_same])⟩ (fun h=>absurd h (by omega)) (.inl ⟨by simp [G.push,upd_same],⟨_,rfl⟩,rfl⟩)
  ·refine fin g cap _ ⟨by simp,by omega,fun _=>rfl,fun _=>⟨cur,by simp only [G.push,upd_same];exact hg,by simp only [G.push,upd_same];exact hsz,by simp,by simp only [G.push,upd_same];exact hcm,by simp [All2]⟩⟩ (fun _=>hb) (.inr ⟨by simp [G.push,upd_same,h0],by simp [G.push,upd_same],by simp⟩)
end Go.Proofs.YtmbbkfffcflfcaaGreatDoor
