/- What the program computes, and the plain laws of it, part 45. -/
import Derived.Test.YthconflkbeipoaaGreatDoorS44
namespace Go.Proofs.YthconflkbeipoaaGreatDoor
attribute [local irreducible] PL QL PWPr PCalls Weak RetK Kontr PA
open Go.RowKit
open IntWalk renaming iteOmega → iO, toNatUp → tN
set_option linter.unusedVariables false
set_option linter.unusedSimpArgs false
set_option maxRecDepth 20000
set_option maxHeartbeats 4000000 in
theorem rpresentO_pure (l:List Dev) (hl:l.length≤1000) (hz:∀ d ∈ l,d.original.size≤1000) :
  PCalls Tryz.prog 29 [.agg (trE l)] [] fun r os=>r = .c (.own 0 (nowP l).length)∧os=[.arr 33 2 ((nowP l).map Atr.d)]:=by
 refine pcalls_of Tryz.func29 rfl (by simp [Tryz.ntmps29]) ?_
 rw [Tryz.ntmps29,Tryz.results29]
 push_cast [iO,tN]
 have cB:CutB 6 []:=trivial
 repeat' (first|((first|refine pC ?_|refine pQC ?_|refine pU ?_);push_cast [iO,tN])|(refine pif (fun h=>?_) (fun h=>?_)<;>first|exact pN h|push_cast [iO,tN]))
 refine pwp_weak (weak_adopt 3 33 2 (by omega) (by push_cast [iO,tN])) ?_
 push_cast [iO,tN]
 (apply pwp_loop3 (α:=Nat) 6 [] (fun k=>[(4,.c (.v (.int .i64 k))),(3,.c (.own 1 (nowK l k).length))]) (fun k=>[(1,.arr 33 2 ((nowK l k).map Atr.d))]) (fun k=>k≤l.length) (fun k=>l.length - k) (0);(focus ((try push_cast [iO,tN]);rfl));(focus exact (Nat.zero_le _));(focus ((refine weak_fg ?_;try push_cast [iO,tN]);(try (exact ⟨rfl,rfl⟩)))))
 intro k hk
 push_cast [iO,tN]
 by_cases hlt:k < l.length
 case neg =>
  have hk2:k=l.length:=by omega
  subst hk2
  repeat' (first|((first|refine pC ?_|refine pQC ?_|refine pU ?_);push_cast [iO,tN])|(refine pif (fun h=>?_) (fun h=>?_)<;>first|exact pN h|push_cast [iO,tN]))
  (refine retK_of [1] ?_;push_cast [iO,tN])
  all_goals trivial
 obtain ⟨d,hd⟩:∃ d,l.getD k default=d:=⟨_,rfl⟩
 have hnl:=nowK_len l k
 by_cases hkind:d.kind=4
 case neg =>
  have hsk:=nowK_f hlt (by rw [hd];exact hkind)
  repeat' (first|((first|refine pC ?_|refine pQC ?_|refine pU ?_);push_cast [iO,tN,hd,hkind])|(refine pif (fun h=>?_) (fun h=>?_)<;>first|exact pN h|push_cast [iO,tN,hd,hkind]))
  exact ⟨k+1,by omega,by (refine weak_fg ?_;push_cast [iO,tN,hsk]),by omega⟩
 have hpl:=rplace_pure l d.index hl hz
 have hst:=nowK_t hlt (by rw [hd];exact hkind)
 rw [hd] at hst
 replace hst:nowK l (k+1)=nowK l k++[⟨placeM l d.index,d.name⟩]:=hst
 have hsl:(nowK l (k+1)).length=(nowK l k).length+1:=by rw [hst,List.length_append,List.length_singleton]
 obtain ⟨u,hu⟩:∃ u,nowK l k=u:=⟨_,rfl⟩
 rw [hu] at hst hnl hsl ⊢
 repeat' (first|(refine hidR 7 ?_)|((first|refine pC ?_|refine pQC ?_|refine pU ?_);push_cast [iO,tN,hd,hkind])|(refine pif (fun h=>?_) (fun h=>?_)<;>first|exact pN h|push_cast [iO,tN,hd,hkind]))
 refine unhid ?_
 (refine pwp_drawn (by kernel_rfl) ?_;try simp only [List.length_cons,List.length_nil,Nat.reduceAdd];repeat' first|((refine plc [] (hpl) ?_ ?_;push_cast [iO,tN,  hd,hkind];rintro r os ⟨rfl,rfl⟩;push_cast [iO,tN,  hd,hkind]))|(refine pl_app2 (e:=33) (sz:=2) (by':=32) (rows:=u.map Atr.d) (ys:=[[.v (.string (placeM l d.index)),.v (.string d.name)]]) 1 rfl (by push_cast [iO,tN,  hd,hkind]) (by push_cast [iO,tN,  hd,hkind]) (by push_cast [iO,tN,  hd,hkind]) (by push_cast [iO,tN,  hd,hkind]) (by omega) (by push_cast [iO,tN,  hd,hkind]) (by push_cast [iO,tN,  hd,hkind]) (by push_cast [iO,tN,  hd,hkind]) (by push_cast [iO,tN,  hd,hkind]) (by simp) (by push_cast [iO,tN,  hd,hkind];omega) (by push_cast [iO,tN,  hd,hkind];omega) ?_ ?_<;>(refine pl_of_pops ?_;push_cast [iO,tN,  hd,hkind]))|((first|refine pah 0 ?_|refine pah 2 ?_|refine pah 5 ?_|refine pah 7 ?_);push_cast [iO,tN,  hd,hkind])|(refine pad ?_;try push_cast [iO,tN,  hd,hkind])|((first|refine pas [1] ?_|refine pas [3] ?_|refine pas [4] ?_|refine pas [6] ?_|refine pas [8] ?_|refine pas [9] ?_|refine pas [10] ?_);push_cast [iO,tN,  hd,hkind])|((first|refine pas [1,3] ?_|refine pas [1,4] ?_|refine pas [1,6] ?_|refine pas [1,8] ?_|refine pas [1,9] ?_|refine pas [1,10] ?_|refine pas [3,4] ?_|refine pas [3,6] ?_|refine pas [3,8] ?_|refine pas [3,9] ?_|refine pas [3,10] ?_|refine pas [4,6] ?_|refine pas [4,8] ?_|refine pas [4,9] ?_|refine pas [4,10] ?_|refine pas [6,8] ?_|refine pas [6,9] ?_|refine pas [6,10] ?_|refine pas [8,9] ?_|refine pas [8,10] ?_|refine pas [9,10] ?_);push_cast [iO,tN,  hd,hkind];refine ⟨?_,?_⟩)|((first|refine pas [1,3,4] ?_|refine pas [1,3,6] ?_|refine pas [1,3,8] ?_|refine pas [1,3,9] ?_|refine pas [1,3,10] ?_|refine pas [1,4,6] ?_|refine pas [1,4,8] ?_|refine pas [1,4,9] ?_|refine pas [1,4,10] ?_|refine pas [1,6,8] ?_|refine pas [1,6,9] ?_|refine pas [1,6,10] ?_|refine pas [1,8,9] ?_|refine pas [1,8,10] ?_|refine pas [1,9,10] ?_|refine pas [3,4,6] ?_|refine pas [3,4,8] ?_|refine pas [3,4,9] ?_|refine pas [3,4,10] ?_|refine pas [3,6,8] ?_|refine pas [3,6,9] ?_|refine pas [3,6,10] ?_|refine pas [3,8,9] ?_|refine pas [3,8,10] ?_|refine pas [3,9,10] ?_|refine pas [4,6,8] ?_|refine pas [4,6,9] ?_|refine pas [4,6,10] ?_|refine pas [4,8,9] ?_|refine pas [4,8,10] ?_|refine pas [4,9,10] ?_|refine pas [6,8,9] ?_|refine pas [6,8,10] ?_|refine pas [6,9,10] ?_|refine pas [8,9,10] ?_);push_cast [iO,tN,  hd,hkind];refine ⟨?_,?_,?_⟩))
 all_goals first|exact ⟨k+1,by omega,by ((refine weak_fg ?_;push_cast [iO,tN,hst,hsl]);done),by omega⟩|exact ⟨k+1,by omega,by (refine Weak.trans (weak_sw 2 (by omega)) ?_;push_cast [iO,tN];refine Weak.trans (weak_sw 1 (by omega)) ?_;push_cast [iO,tN];(refine weak_fg ?_;push_cast [iO,tN,hst,hsl]);done),by omega⟩
def isF (q:Atr → Bool) (l:List Atr) (m:Nat) (z:Int):Prop:=(z = -1∧∀ j,m≤j → j < l.length → q (l.getD j default)=false)∨∃ a:Nat,z=a∧(m≤a∧a < l.length)∧q (l.getD a default)=true∧∀ j,m≤j → j < a → q (l.getD j default)=false
theorem isF.nil (q:Atr → Bool) (l:List Atr):isF q l l.length (-1):=.inl ⟨rfl,fun j h1 h2=>by omega⟩
theorem isF.yes {q:Atr → Bool} {l:List Atr} {m:Nat} (hm:m < l.length) (h:q (l.getD m default)=true):isF q l m m:=.inr ⟨m,rfl,⟨Nat.le_refl _,hm⟩,h,fun j h1 h2=>by omega⟩
theorem isF.no {q:Atr → Bool} {l:List Atr} {m:Nat} {z:Int} (h:isF q l (m+1) z) (hq:q (l.getD m default)=false):isF q l m z:=by
 rcases h with ⟨rfl,h⟩|⟨a,rfl,⟨h1,h2⟩,h3,h4⟩
 ·refine .inl ⟨rfl,fun j hj hjl=>?_⟩
  by_cases e:j=m
  ·rw [e];exact hq
  ·exact h j (by omega) hjl
 ·refine .inr ⟨a,rfl,⟨by omega,h2⟩,h3,fun j hj hja=>?_⟩
  by_cases e:j=m
  ·rw [e];exact hq
  ·exact h4 j (by omega) hja
theorem isF.fin {q:Atr → Bool} {l:List Atr} {z:Int} (h:isF q l 0 z):z=firstZ (firstI l q):=by
 rcases h with ⟨rfl,h⟩|⟨a,rfl,⟨h1,h2⟩,h3,h4⟩
 ·rw [firstI_no fun i hi=>h i (Nat.zero_le _) hi];rfl
 ·rw [firstI_of h2 h3 fun j hj=>h4 j (Nat.zero_le _) hj];rfl
theorem rplan_no (l:List Dev) (names:List Atr) (hl:l.length≤1000) (hz:∀ d ∈ l,d.original.size≤1000) (hm:names.length≤1000000) (hv:∀ x ∈ names,x.value.size≤9223372036854775807) (hf:fitsB (nowP l) names=false) :
  PCalls Tryz.prog 23 [.agg (trE l),.c (.sl 2 (names.map Atr.d))] [] fun r os=>r = .two (.c (.v (.slice none 0 0))) (.c (.v (.int .i64 231)))∧os=[]:=by
 have hp:=rpresent_pure l hl hz
 have hns:=nowP_size l
 have hfi:=rfits_pure (nowP l) names (by omega) hm hv
 rw [hf] at hfi
 refine pcalls_of Tryz.func23 rfl (by simp [Tryz.ntmps23]) ?_
 rw [Tryz.ntmps23,Tryz.results23]
 push_cast [iO,tN]
 have cB:CutB 16 []:=trivial
 repeat' (first |  ((refine plc [] (hp) ?_ ?_;push_cast [iO,tN];rintro r os ⟨rfl,rfl⟩;push_cast [iO,tN]))|((refine plc [] (hfi) ?_ ?_;push_cast [iO,tN];rintro r os ⟨rfl,rfl⟩;push_cast [iO,tN]))  | ((first|refine pC ?_|refine pQC ?_|refine pU ?_);push_cast [iO,tN])|(refine pif (fun h=>?_) (fun h=>?_)<;>first|exact pN h|push_cast [iO,tN]))
 (refine retK_of [] ?_;push_cast [iO,tN])
set_option maxHeartbeats 16000000 in
theorem rplan_ok (l:List Dev) (names:List Atr) (hl:l.length≤1000) (hz:∀ d ∈ l,d.original.size≤1000) (hv:∀ x ∈ names,x.value.size≤9223372036854775807) (hf:fitsB (nowP l) names=true) (hP:PlanOk names (nowP l)) (hfew:names.length+(nowP l).length≤90) :
  PCalls Tryz.prog 23 [.agg (trE l),.c (.sl 2 (names.map Atr.d))] [] fun r os=>r = .two (.c (.sl 3 ((planOf names (nowP l)).map Ren.d))) (.c (.v (.int .i64 0)))∧os=[]:=by
 have hp:=rpresentO_pure l hl hz
 have hns:=nowP_size l
 have hfi:=rfits_pure (nowP l) names (by omega) (by omega) hv
 rw [hf] at hfi
 have hpl:=planOf_len hP
 obtain ⟨now,hnow⟩:∃ now,nowP l=now:=⟨_,rfl⟩
 rw [hnow] at hp hns hfi hP hfew hpl ⊢
 refine pcalls_of Tryz.func23 rfl (by simp [Tryz.ntmps23]) ?_
 rw [Tryz.ntmps23,Tryz.results23]
 push_cast [iO,tN]
 have cB:CutB 16 []:=trivial
 repeat' (first |  ((refine plc [] (hp) ?_ ?_;push_cast [iO,tN];rintro r os ⟨rfl,rfl⟩;push_cast [iO,tN]))|((refine pl_call2 true [] rfl rfl (by kernel_rfl) (hfi) ?_ ?_ ?_;push_cast [iO,tN];(intro _ r os;rintro ⟨rfl,rfl⟩;push_cast [iO,tN]);rintro r os ⟨rfl,rfl⟩;refine pl_of_pops ?_;push_cast [iO,tN]))  | ((first|refine pC ?_|refine pQC ?_|refine pU ?_);push_cast [iO,tN])|(refine pif (fun h=>?_) (fun h=>?_)<;>first|exact pN h|push_cast [iO,tN]))
 refine pwp_weak (weak_adopt 7 62 3 (by omega) (by push_cast [iO,tN])) ?_
 push_cast [iO,tN]
 (apply pwp_loop3 (α:=List Ren × List Atr) 16 [] (fun x=>[(7,.c (.own 2 x.1.length))]) (fun x=>[(1,.arr 33 2 (x.2.map Atr.d)),(2,.arr 62 3 (x.1.map Ren.d))]) (fun x=>PlanOk names x.2∧x.2.length=now.length∧planOf names now=x.1++planOf names x.2) (fun x=>muP names x.2) (([],now));(focus ((try push_cast [iO,tN]);rfl));(focus exact ⟨hP,rfl,rfl⟩);(focus ((refine weak_fg ?_;try push_cast [iO,tN]);(try (skip)))))
 rintro ⟨out,cur⟩ ⟨hpk,hcl,hpo⟩
 simp only at hpk hcl hpo
 push_cast [iO,tN]
 have hol:out.length≤180:=by
  have:=congrArg List.length hpo
  rw [List.length_append] at this
  omega
 repeat' (first|((first|refine pC ?_|refine pQC ?_|refine pU ?_);push_cast [iO,tN,hcl])|(refine pif (fun h=>?_) (fun h=>?_)<;>first|exact pN h|push_cast [iO,tN,hcl]))
 (apply pwp_loop3 (α:=Nat × Int × Int) 16 [] (fun x=>[(10,.c (.v (.int .i64 ((x.1:Int) - 1)))),(8,.c (.v (.int .i64 x.2.1))),(9,.c (.v (.int .i64 x.2.2)))]) (fun x=>[]) (fun x=>x.1≤cur.length∧isF (wrongP names) cur x.1 x.2.1∧isF (freeP names cur) cur x.1 x.2.2) (fun x=>x.1) ((now.length,-1,-1));(focus ((try push_cast [iO,tN]);rfl));(focus exact ⟨by simp only;omega,by simp only;rw [← hcl];exact isF.nil _ _,by simp only;rw [← hcl];exact isF.nil _ _⟩);(focus ((refine weak_fg ?_;try push_cast [iO,tN]);(try (skip)))))
 rintro ⟨m,z1,z2⟩ ⟨hm,hz1,hz2⟩
 simp only at hm hz1 hz2
 push_cast [iO,tN]
 by_cases hm0:m=0
 case neg =>
  obtain ⟨j,rfl⟩:∃ j,m=j+1:=⟨m - 1,by omega⟩
  have hjl:j < cur.length:=by omega
  have hj1:((j+1:Nat):Int) - 1=(j:Int):=by omega
  have hj2:(j:Int)+1 - 1=(j:Int):=by omega
  obtain ⟨a,ha⟩:∃ a,cur.getD j default=a:=⟨_,rfl⟩
  have hv1:=rvalue_pure names a.name (by omega)
  have hh:=fun v=>rhas_pure cur v (by omega)
  cases hvo:valOf names a.name with
  | none =>
   have hw:wrongP names (cur.getD j default)=false:=by rw [ha];unfold wrongP;rw [hvo]
   have hfr:freeP names cur (cur.getD j default)=false:=by unfold freeP;rw [hw];rfl
   rw [hvo] at hv1
   simp only [Option.getD_none,Option.isSome_none] at hv1
   repeat' (first|((refine plc [] (hv1) ?_ ?_;push_cast [iO,tN,ha,hj1,hj2,hcl];rintro r os ⟨rfl,rfl⟩;push_cast [iO,tN,ha,hj1,hj2,hcl]))|((first|refine pC ?_|refine pQC ?_|refine pU ?_);push_cast [iO,tN,ha,hj1,hj2,hcl])|(refine pif (fun h=>?_) (fun h=>?_)<;>first|exact pN h|push_cast [iO,tN,ha,hj1,hj2,hcl]))
   exact ⟨(j,z1,z2),⟨by simp only;omega,hz1.no hw,hz2.no hfr⟩,by (refine weak_fg ?_;push_cast [iO,tN,hj1,hj2]),by simp only;omega⟩
  | some v =>
   rw [hvo] at hv1
   simp only [Option.getD_some,Option.isSome_some] at hv1
   by_cases hva:v=a.value
   ·have hw:wrongP names (cur.getD j default)=false:=by rw [ha];unfold wrongP;rw [hvo];simp [hva]
    have hfr:freeP names cur (cur.getD j default)=false:=by unfold freeP;rw [hw];rfl
    repeat' (first|((refine plc [] (hv1) ?_ ?_;push_cast [iO,tN,ha,hj1,hj2,hcl,hva];rintro r os ⟨rfl,rfl⟩;push_cast [iO,tN,ha,hj1,hj2,hcl,hva]))|((first|refine pC ?_|refine pQC ?_|refine pU ?_);push_cast [iO,tN,ha,hj1,hj2,hcl,hva])|(refine pif (fun h=>?_) (fun h=>?_)<;>first|exact pN h|push_cast [iO,tN,ha,hj1,hj2,hcl,hva]))
    exact ⟨(j,z1,z2),⟨by simp only;omega,hz1.no hw,hz2.no hfr⟩,by (refine weak_fg ?_;push_cast [iO,tN,hj1,hj2]),by simp only;omega⟩
   ·have hw:wrongP names (cur.getD j default)=true:=by rw [ha];unfold wrongP;rw [hvo];simp [hva]
    have hgo:goalP names (cur.getD j default)=v:=by rw [ha];exact goalP_some hvo
    have hhv:=hh v
    cases hin:inM v (vals cur) with
    | true =>
     have hfr:freeP names cur (cur.getD j default)=false:=by unfold freeP;rw [hw,hgo,hin];rfl
     rw [hin] at hhv
     repeat' (first|((refine plc [] (hv1) ?_ ?_;push_cast [iO,tN,ha,hj1,hj2,hcl,hva];rintro r os ⟨rfl,rfl⟩;push_cast [iO,tN,ha,hj1,hj2,hcl,hva]))|((refine pl_call2 true [] rfl rfl (by kernel_rfl) (hhv) ?_ ?_ ?_;push_cast [iO,tN,ha,hj1,hj2,hcl,hva];(intro _ r os;rintro ⟨rfl,rfl⟩;push_cast [iO,tN,ha,hj1,hj2,hcl,hva]);rintro r os ⟨rfl,rfl⟩;refine pl_of_pops ?_;push_cast [iO,tN,ha,hj1,hj2,hcl,hva]))|((first|refine pC ?_|refine pQC ?_|refine pU ?_);push_cast [iO,tN,ha,hj1,hj2,hcl,hva])|(refine pif (fun h=>?_) (fun h=>?_)<;>first|exact pN h|push_cast [iO,tN,ha,hj1,hj2,hcl,hva]))
     exact ⟨(j,(j:Int),z2),⟨by simp only;omega,isF.yes hjl hw,hz2.no hfr⟩,by (refine weak_fg ?_;push_cast [iO,tN,hj1,hj2]),by simp only;omega⟩
    | false =>
     have hfr:freeP names cur (cur.getD j default)=true:=by unfold freeP;rw [hw,hgo,hin];rfl
     rw [hin] at hhv
     repeat' (first|((refine plc [] (hv1) ?_ ?_;push_cast [iO,tN,ha,hj1,hj2,hcl,hva];rintro r os ⟨rfl,rfl⟩;push_cast [iO,tN,ha,hj1,hj2,hcl,hva]))|((refine pl_call2 true [] rfl rfl (by kernel_rfl) (hhv) ?_ ?_ ?_;push_cast [iO,tN,ha,hj1,hj2,hcl,hva];(intro _ r os;rintro ⟨rfl,rfl⟩;push_cast [iO,tN,ha,hj1,hj2,hcl,hva]);rintro r os ⟨rfl,rfl⟩;refine pl_of_pops ?_;push_cast [iO,tN,ha,hj1,hj2,hcl,hva]))|((first|refine pC ?_|refine pQC ?_|refine pU ?_);push_cast [iO,tN,ha,hj1,hj2,hcl,hva])|(refine pif (fun h=>?_) (fun h=>?_)<;>first|exact pN h|push_cast [iO,tN,ha,hj1,hj2,hcl,hva]))
     exact ⟨(j,(j:Int),(j:Int)),⟨by simp only;omega,isF.yes hjl hw,isF.yes hjl hfr⟩,by (refine weak_fg ?_;push_cast [iO,tN,hj1,hj2]),by simp only;omega⟩
 subst hm0
 have hz1:=hz1.fin
 have hz2:=hz2.fin
 cases e2:firstI cur (wrongP names) with
 | none =>
  have e1:firstI cur (freeP names cur)=none:=firstI_no fun i hi=>by unfold freeP;rw [firstI_none e2 i hi];rfl
  have hnp:nextP names cur=none:=by unfold nextP;rw [e1,e2]
  rw [(planOf_none hnp).1,List.append_nil] at hpo
  rw [e2] at hz1
  simp only [firstZ] at hz1
  subst hz1
  refine pwp_weak (weak_frz 2 (by omega)) ?_
  push_cast [iO,tN]
  repeat' (first|((first|refine pC ?_|refine pQC ?_|refine pU ?_);push_cast [iO,tN])|(refine pif (fun h=>?_) (fun h=>?_)<;>first|exact pN h|push_cast [iO,tN]))
  (refine retK_of [] ?_;push_cast [iO,tN,hpo])
 | some i0 =>
  rw [e2] at hz1
  simp only [firstZ] at hz1
  subst hz1
  cases e1:firstI cur (freeP names cur) with
  | some i =>
   obtain ⟨g1,g2,_⟩:=firstI_some e1
   have hnp:nextP names cur=some (i,goalP names (cur.getD i default)):=by unfold nextP;rw [e1]
   rw [e1] at hz2
   simp only [firstZ] at hz2
   subst hz2
   obtain ⟨a,ha⟩:∃ a,cur.getD i default=a:=⟨_,rfl⟩
   have hw:wrongP names a=true:=by
    unfold freeP at g2
    rw [Bool.and_eq_true,ha] at g2
    exact g2.1
   obtain ⟨v,hv,hvn⟩:=wrongP_iff.1 hw
   have hv1:=rvalue_pure names a.name (by omega)
   rw [hv] at hv1
   simp only [Option.getD_some,Option.isSome_some] at hv1
   have hu:goalP names (cur.getD i default)=v:=by rw [ha];exact goalP_some hv
   rw [hu] at hnp
   have hne:v≠⟨#[]⟩:=hpk.ne v (List.mem_map.2 ⟨_,valOf_mem hv,rfl⟩)
   repeat' (first|((refine plc [] (hv1) ?_ ?_;push_cast [iO,tN,ha,hcl];rintro r os ⟨rfl,rfl⟩;push_cast [iO,tN,ha,hcl]))|((first|refine pC ?_|refine pQC ?_|refine pU ?_);push_cast [iO,tN,ha,hcl])|(refine pif (fun h=>?_) (fun h=>?_)<;>first|exact pN h|push_cast [iO,tN,ha,hcl]))
   (apply pwp_loop3 (α:=Nat) 16 [] (fun k=>[]) (fun k=>[]) (fun k=>k=0) (fun k=>0) (0);(focus ((try push_cast [iO,tN]);rfl));(focus exact rfl);(focus ((refine weak_fg ?_;try push_cast [iO,tN]);(try (skip)))))
   rintro k rfl
   push_cast [iO,tN]
   have hs:=nextP_spec hpk hnp
   have hset:(List.map Atr.d cur).set i [D.v (.string a.name),D.v (.string v)]=(renP cur i v).map Atr.d:=by unfold renP;rw [ha,List.map_set];rfl
   have hrl:=len_renP cur i v
   repeat' (first|(refine hidR 26 ?_)|((first|refine pC ?_|refine pQC ?_|refine pU ?_);push_cast [iO,tN,ha,hcl,hne])|(refine pif (fun h=>?_) (fun h=>?_)<;>first|exact pN h|push_cast [iO,tN,ha,hcl,hne]))
   refine unhid ?_
   (refine pwp_cut 16 [] ?_;apply pwp_drawn_to;(focus kernel_rfl);(focus (simp only [List.length_cons,List.length_nil,Nat.reduceAdd];(repeat' first|((first|refine pah 0 ?_|refine pah 1 ?_|refine pah 2 ?_|refine pah 3 ?_|refine pah 4 ?_|refine pah 6 ?_|refine pah 7 ?_|refine pah 8 ?_|refine pah 9 ?_|refine pah 11 ?_|refine pah 12 ?_|refine pah 15 ?_);push_cast [iO,tN,  ha,hcl])|(refine pad ?_;first|with_reducible exact weak_cutS 16 [] _|(refine weak_fg ?_;push_cast [iO,tN,  ha,hcl]))|((first|refine pas [5] ?_|refine pas [10] ?_|refine pas [13] ?_|refine pas [14] ?_);push_cast [iO,tN,  ha,hcl])|((first|refine pas [5,10] ?_|refine pas [5,13] ?_|refine pas [5,14] ?_|refine pas [10,13] ?_|refine pas [10,14] ?_|refine pas [13,14] ?_);push_cast [iO,tN,  ha,hcl];refine ⟨?_,?_⟩)|((first|refine pas [5,10,13] ?_|refine pas [5,10,14] ?_|refine pas [5,13,14] ?_|refine pas [10,13,14] ?_);push_cast [iO,tN,  ha,hcl];refine ⟨?_,?_,?_⟩)|((first|refine pas [5,10,13,14] ?_);push_cast [iO,tN,  ha,hcl];refine ⟨?_,?_,?_,?_⟩));done));push_cast [iO,tN,  ha,hcl])
   repeat' (first|((first|refine pC ?_|refine pQC ?_|refine pU ?_);push_cast [iO,tN,ha,hcl])|(refine pif (fun h=>?_) (fun h=>?_)<;>first|exact pN h|push_cast [iO,tN,ha,hcl]))
   exact ⟨(out++[⟨a.name,a.value,v⟩],renP cur i v),⟨hs.ok,by simp only;rw [hrl];exact hcl,by simp only;rw [hpo,(planOf_some hpk hnp).1,ha];simp⟩,by (refine weak_fg ?_;push_cast [iO,tN,hset]),by simp only;exact hs.mu⟩
  | none =>
   have hnp:nextP names cur=some (i0,tempS names cur):=by unfold nextP;rw [e1,e2]
   rw [e1] at hz2
   simp only [firstZ] at hz2
   subst hz2
   obtain ⟨g1,g2,_⟩:=firstI_some e2
   obtain ⟨a,ha⟩:∃ a,cur.getD i0 default=a:=⟨_,rfl⟩
   have hT:=temp_le (vals names++vals cur)
   have hTl:tempN (vals names++vals cur)≤91:=by
    have:(vals names++vals cur).length=names.length+cur.length:=by unfold vals;rw [List.length_append,List.length_map,List.length_map]
    omega
   have hTS:tempS names cur=renN (tempN (vals names++vals cur)):=rfl
   obtain ⟨tn,htn⟩:∃ tn,tempN (vals names++vals cur)=tn:=⟨_,rfl⟩
   rw [htn] at hT hTl hTS
   obtain ⟨v,hv⟩:∃ v,tempS names cur=v:=⟨_,rfl⟩
   rw [hv] at hnp hTS
   have hvs:6≤v.size:=by
    rw [hTS]
    unfold renN
    rw [ByteArray.size_append]
    have:(⟨#[114,101,110,97,109,101]⟩:ByteArray).size=6:=rfl
    omega
   have hne:v≠⟨#[]⟩:=fun e=>by
    subst e
    have:(⟨#[]⟩:ByteArray).size=0:=rfl
    omega
   repeat' (first|((first|refine pC ?_|refine pQC ?_|refine pU ?_);push_cast [iO,tN,hcl])|(refine pif (fun h=>?_) (fun h=>?_)<;>first|exact pN h|push_cast [iO,tN,hcl]))
   (apply pwp_loop3 (α:=Nat × Bool) 16 [] (fun x=>[(14,.c (.v (.int .i64 x.1))),(13,.c (.v (.string (if x.2=true then v else ⟨#[]⟩))))]) (fun x=>[]) (fun x=>x.1≤tn+1∧(x.2=false → x.1≤tn)) (fun x=>tn+2 - x.1) ((0,false));(focus ((try push_cast [iO,tN]);rfl));(focus exact ⟨Nat.zero_le _,fun _=>Nat.zero_le _⟩);(focus ((refine weak_fg ?_;try push_cast [iO,tN]);(try (skip)))))
   rintro ⟨n,b⟩ ⟨hn1,hn2⟩
   simp only at hn1 hn2
   cases b with
   | true =>
    push_cast [iO,tN]
    obtain ⟨i,hi0⟩:∃ i,i=i0:=⟨_,rfl⟩
    subst hi0
    have hs:=nextP_spec hpk hnp
    have hset:(List.map Atr.d cur).set i [D.v (.string a.name),D.v (.string v)]=(renP cur i v).map Atr.d:=by unfold renP;rw [ha,List.map_set];rfl
    have hrl:=len_renP cur i v
    repeat' (first|(refine hidR 26 ?_)|((first|refine pC ?_|refine pQC ?_|refine pU ?_);push_cast [iO,tN,ha,hcl,hne])|(refine pif (fun h=>?_) (fun h=>?_)<;>first|exact pN h|push_cast [iO,tN,ha,hcl,hne]))
    refine unhid ?_
    (refine pwp_cut 16 [] ?_;apply pwp_drawn_to;(focus kernel_rfl);(focus (simp only [List.length_cons,List.length_nil,Nat.reduceAdd];(repeat' first|((first|refine pah 0 ?_|refine pah 1 ?_|refine pah 2 ?_|refine pah 3 ?_|refine pah 4 ?_|refine pah 6 ?_|refine pah 7 ?_|refine pah 8 ?_|refine pah 9 ?_|refine pah 11 ?_|refine pah 12 ?_|refine pah 15 ?_);push_cast [iO,tN,  ha,hcl])|(refine pad ?_;first|with_reducible exact weak_cutS 16 [] _|(refine weak_fg ?_;push_cast [iO,tN,  ha,hcl]))|((first|refine pas [5] ?_|refine pas [10] ?_|refine pas [13] ?_|refine pas [14] ?_);push_cast [iO,tN,  ha,hcl])|((first|refine pas [5,10] ?_|refine pas [5,13] ?_|refine pas [5,14] ?_|refine pas [10,13] ?_|refine pas [10,14] ?_|refine pas [13,14] ?_);push_cast [iO,tN,  ha,hcl];refine ⟨?_,?_⟩)|((first|refine pas [5,10,13] ?_|refine pas [5,10,14] ?_|refine pas [5,13,14] ?_|refine pas [10,13,14] ?_);push_cast [iO,tN,  ha,hcl];refine ⟨?_,?_,?_⟩)|((first|refine pas [5,10,13,14] ?_);push_cast [iO,tN,  ha,hcl];refine ⟨?_,?_,?_,?_⟩));done));push_cast [iO,tN,  ha,hcl])
    repeat' (first|((first|refine pC ?_|refine pQC ?_|refine pU ?_);push_cast [iO,tN,ha,hcl])|(refine pif (fun h=>?_) (fun h=>?_)<;>first|exact pN h|push_cast [iO,tN,ha,hcl]))
    exact ⟨(out++[⟨a.name,a.value,v⟩],renP cur i v),⟨hs.ok,by simp only;rw [hrl];exact hcl,by simp only;rw [hpo,(planOf_some hpk hnp).1,ha];simp⟩,by (refine weak_fg ?_;push_cast [iO,tN,hset]),by simp only;exact hs.mu⟩
   | false =>
    have hn:=hn2 rfl
    push_cast [iO,tN]
    have hit:=itoaN_pure n (by omega)
    have hsz:(⟨#[114,101,110,97,109,101]⟩:ByteArray).size=6:=rfl
    have hren:(⟨#[114,101,110,97,109,101]⟩:ByteArray)++digN n=renN n:=rfl
    have hds:(digN n).size≤n+1:=by
     have h:(digN n).size=(Lib.decDigits n).length:=by unfold digN;simp [ByteArray.size]
     rw [h,Lib.decDigits_length]
     clear h hit hren hn1 hn2 hn
     induction n using Nat.strongRecOn with
     | ind n ih =>
      by_cases h10:n < 10
      ·rw [Lib.nDigits_small h10];omega
      ·rw [Lib.nDigits_big h10]
       have:=ih (n / 10) (by omega)
       omega
    have hc1:=rhas_pure cur (renN n) (by omega)
    have hc2:=rhas_pure names (renN n) (by omega)
    have happ:inM (renN n) (vals names++vals cur)=(inM (renN n) (vals names) || inM (renN n) (vals cur)):=by
     rw [Bool.eq_iff_iff,inM_iff,List.mem_append,Bool.or_eq_true,inM_iff,inM_iff]
    have hno:=temp_not (vals names++vals cur)
    rw [htn] at hno
    cases h2:inM (renN n) (vals cur) with
    | true =>
     rw [h2,Bool.or_true] at happ
     rw [h2] at hc1
     have hnt:n≠tn:=fun e=>by rw [← e,happ] at hno;cases hno
     repeat' (first|((refine plc [] (hit) ?_ ?_;push_cast [iO,tN,hcl,hsz,hren];rintro r os ⟨rfl,rfl⟩;push_cast [iO,tN,hcl,hsz,hren]))|((refine pl_call2 true [] rfl rfl (by kernel_rfl) (hc1) ?_ ?_ ?_;push_cast [iO,tN,hcl,hsz,hren];(intro _ r os;rintro ⟨rfl,rfl⟩;push_cast [iO,tN,hcl,hsz,hren]);rintro r os ⟨rfl,rfl⟩;refine pl_of_pops ?_;push_cast [iO,tN,hcl,hsz,hren]))|((refine plc [] (hc2) ?_ ?_;push_cast [iO,tN,hcl,hsz,hren];rintro r os ⟨rfl,rfl⟩;push_cast [iO,tN,hcl,hsz,hren]))|((first|refine pC ?_|refine pQC ?_|refine pU ?_);push_cast [iO,tN,hcl,hsz,hren])|(refine pif (fun h=>?_) (fun h=>?_)<;>first|exact pN h|push_cast [iO,tN,hcl,hsz,hren]))
     exact ⟨(n+1,false),⟨by simp only;omega,fun _=>by simp only;omega⟩,by (refine weak_fg ?_;push_cast [iO,tN]),by simp only;omega⟩
    | false =>
     rw [h2,Bool.or_false] at happ
     rw [h2] at hc1
     cases h1:inM (renN n) (vals names) with
     | true =>
      rw [h1] at happ hc2
      have hnt:n≠tn:=fun e=>by rw [← e,happ] at hno;cases hno
      repeat' (first|((refine plc [] (hit) ?_ ?_;push_cast [iO,tN,hcl,hsz,hren];rintro r os ⟨rfl,rfl⟩;push_cast [iO,tN,hcl,hsz,hren]))|((refine pl_call2 true [] rfl rfl (by kernel_rfl) (hc1) ?_ ?_ ?_;push_cast [iO,tN,hcl,hsz,hren];(intro _ r os;rintro ⟨rfl,rfl⟩;push_cast [iO,tN,hcl,hsz,hren]);rintro r os ⟨rfl,rfl⟩;refine pl_of_pops ?_;push_cast [iO,tN,hcl,hsz,hren]))|((refine plc [] (hc2) ?_ ?_;push_cast [iO,tN,hcl,hsz,hren];rintro r os ⟨rfl,rfl⟩;push_cast [iO,tN,hcl,hsz,hren]))|((first|refine pC ?_|refine pQC ?_|refine pU ?_);push_cast [iO,tN,hcl,hsz,hren])|(refine pif (fun h=>?_) (fun h=>?_)<;>first|exact pN h|push_cast [iO,tN,hcl,hsz,hren]))
      exact ⟨(n+1,false),⟨by simp only;omega,fun _=>by simp only;omega⟩,by (refine weak_fg ?_;push_cast [iO,tN]),by simp only;omega⟩
     | false =>
      rw [h1] at happ hc2
      have he:n=tn:=by
       rcases Nat.lt_or_ge n tn with hl2|hl2
       ·have:=temp_mid _ (show n < tempN (vals names++vals cur) by omega)
        rw [happ] at this;cases this
       ·omega
      have hvn:renN n=v:=by rw [hTS,he]
      repeat' (first|((refine plc [] (hit) ?_ ?_;push_cast [iO,tN,hcl,hsz,hren];rintro r os ⟨rfl,rfl⟩;push_cast [iO,tN,hcl,hsz,hren]))|((refine pl_call2 true [] rfl rfl (by kernel_rfl) (hc1) ?_ ?_ ?_;push_cast [iO,tN,hcl,hsz,hren];(intro _ r os;rintro ⟨rfl,rfl⟩;push_cast [iO,tN,hcl,hsz,hren]);rintro r os ⟨rfl,rfl⟩;refine pl_of_pops ?_;push_cast [iO,tN,hcl,hsz,hren]))|((refine plc [] (hc2) ?_ ?_;push_cast [iO,tN,hcl,hsz,hren];rintro r os ⟨rfl,rfl⟩;push_cast [iO,tN,hcl,hsz,hren]))|((first|refine pC ?_|refine pQC ?_|refine pU ?_);push_cast [iO,tN,hcl,hsz,hren])|(refine pif (fun h=>?_) (fun h=>?_)<;>first|exact pN h|push_cast [iO,tN,hcl,hsz,hren]))
      exact ⟨(n+1,true),⟨by simp only;omega,(fun h=>by cases h)⟩,by (refine weak_fg ?_;push_cast [iO,tN,hvn]),by simp only;omega⟩
end Go.Proofs.YthconflkbeipoaaGreatDoor
