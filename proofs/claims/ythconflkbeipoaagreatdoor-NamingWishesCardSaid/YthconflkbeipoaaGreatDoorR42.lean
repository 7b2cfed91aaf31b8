/- What the program computes, and the plain laws of it, part 42. -/
import Derived.Test.YthconflkbeipoaaGreatDoorR41
namespace Go.Proofs.YthconflkbeipoaaGreatDoor
attribute [local irreducible] PL QL PWPr PCalls Weak RetK Kontr PA
open Go.RowKit
open IntWalk renaming iteOmega → iO, toNatUp → tN
set_option linter.unusedVariables false
set_option linter.unusedSimpArgs false
set_option maxRecDepth 20000
theorem nowP_size (l:List Dev):(nowP l).length≤l.length:=nowK_len l l.length
theorem not_key {names:List Atr} (h:(keys names).Nodup) {k:Nat} (hk:k < names.length):(names.getD k default).name ∉ keys (names.take k):=fun hm=>by
 obtain ⟨x,hx,he⟩:=List.mem_map.1 hm
 obtain ⟨j,hj,rfl⟩:=List.mem_take_iff_getElem.1 hx
 have:=key_inj (f:=Atr.name) h (i:=j) (j:=k) (by omega) hk (by rw [getD_lt names (by omega)];exact he)
 omega
theorem not_val {now:List Atr} (h:(vals now).Nodup) {k:Nat} (hk:k < now.length):(now.getD k default).value ∉ vals (now.take k):=fun hm=>by
 obtain ⟨x,hx,he⟩:=List.mem_map.1 hm
 obtain ⟨j,hj,rfl⟩:=List.mem_take_iff_getElem.1 hx
 have:=key_inj (f:=Atr.value) h (i:=j) (j:=k) (by omega) hk (by rw [getD_lt now (by omega)];exact he)
 omega
structure StepQ (names now:List Atr) (ok:Bool) (rn:Ren) (cur:List Atr):Prop where
 pok:PlanOk names cur
 len:cur.length=now.length
 yes:ok=true → planOf names now=rn :: planOf names cur∧muP names cur < muP names now
 no:ok=false → planOf names now=[]∧muP names cur=muP names now
theorem stepx_pure (names now:List Atr) (tk:List ByteArray) (h:PlanOk names now) (ht:TakOk now tk) (hfew:names.length+now.length≤90) :
  PCalls Tryz.prog 41 [.c (.ptr 0 0)] (plO names now tk) fun r os=>∃ (ok:Bool) (rn:Ren) (cur:List Atr) (tk':List ByteArray),StepQ names now ok rn cur∧TakOk cur tk'∧r = .two (.agg (Ren.e rn)) (.c (.v (.bool ok)))∧os=plO names cur tk':=by
 refine (step_pure names now tk h ht hfew).mono ?_
 rintro r os (⟨hn,hr,ho⟩|⟨i,u,tk',hn,htk,hr,ho⟩)
 ·exact ⟨false,⟨⟨#[]⟩,⟨#[]⟩,⟨#[]⟩⟩,now,tk,⟨h,rfl,(fun h=>by cases h),fun _=>⟨(planOf_none hn).1,rfl⟩⟩,ht,hr,ho⟩
 ·have hs:=nextP_spec h hn
  exact ⟨true,⟨(now.getD i default).name,(now.getD i default).value,u⟩,renP now i u,tk',⟨hs.ok,len_renP now i u,(fun _=>⟨(planOf_some h hn).1,hs.mu⟩),(fun h=>by cases h)⟩,htk,hr,ho⟩
set_option maxHeartbeats 8000000 in
theorem plan_ok (l:List Dev) (names:List Atr) (h:Okp l) (hl:l.length≤1000) (hz:∀ d ∈ l,d.original.size≤1000) (hv:∀ x ∈ names,x.value.size≤9223372036854775807) (hf:fitsB (nowP l) names=true) (hP:PlanOk names (nowP l)) (hfew:names.length+(nowP l).length≤90) :
  PCalls Tryz.prog 18 [.agg (trE l),.c (.sl 2 (names.map Atr.d))] [] fun r os=>r = .two (.c (.sl 3 ((planOf names (nowP l)).map Ren.d))) (.c (.v (.int .i64 0)))∧os=[]:=by
 have hp:=present_pure l h hl hz
 have hns:=nowP_size l
 have hfi:=fits_pure (nowP l) names (by omega) (by omega) hv
 rw [hf] at hfi
 have hpl:=planOf_len hP
 obtain ⟨now,hnow⟩:∃ now,nowP l=now:=⟨_,rfl⟩
 rw [hnow] at hp hns hfi hP hfew hpl ⊢
 refine pcalls_of Tryz.func18 rfl (by simp [Tryz.ntmps18]) ?_
 rw [Tryz.ntmps18,Tryz.results18]
 push_cast [iO,tN]
 have cB:CutB 14 [27,28,29,45,46,47,73]:=trivial
 repeat' (first |  ((refine plc [] (hp) ?_ ?_;push_cast [iO,tN];rintro r os ⟨rfl,rfl⟩;push_cast [iO,tN]))|((refine pl_call2 true [] rfl rfl (by kernel_rfl) (hfi) ?_ ?_ ?_;push_cast [iO,tN];(intro _ r os;rintro ⟨rfl,rfl⟩;push_cast [iO,tN]);rintro r os ⟨rfl,rfl⟩;refine pl_of_pops ?_;push_cast [iO,tN]))  | ((first|refine pC ?_|refine pQC ?_|refine pU ?_);push_cast [iO,tN])|(refine pif (fun h=>?_) (fun h=>?_)<;>first|exact pN h|push_cast [iO,tN]))
 (apply pwp_loop3 (α:=Nat) 14 [27,28,29,45,46,47,73] (fun k=>[(29,.c (.v (.int .i64 k)))]) (fun k=>[(2,.map none false (tgE (names.take k)))]) (fun k=>k≤names.length) (fun k=>names.length - k) (0);(focus ((try push_cast [iO,tN]);rfl));(focus exact (Nat.zero_le _));(focus ((refine weak_fg ?_;try push_cast [iO,tN]);(try (rfl)))))
 intro k hk
 push_cast [iO,tN]
 by_cases hlt:k < names.length
 ·have hmp:=mput_tg (v:=(names.getD k default).value) (not_key hP.nk hlt)
  have htk:names.take (k+1)=names.take k++[names.getD k default]:=by rw [List.take_succ_eq_append_getElem hlt,getD_lt names hlt]
  obtain ⟨a,ha⟩:∃ a,names.getD k default=a:=⟨_,rfl⟩
  rw [ha] at hmp htk
  have hae:(⟨a.name,a.value⟩:Atr)=a:=rfl
  rw [hae,← htk] at hmp
  repeat' (first|((refine pwp_cut 14 [27,28,29,45,46,47,73] ?_;apply pwp_drawn_to;(focus kernel_rfl);(focus (simp only [List.length_cons,List.length_nil,Nat.reduceAdd];(repeat' first|((first|refine pah 0 ?_|refine pah 1 ?_|refine pah 2 ?_|refine pah 4 ?_|refine pah 6 ?_);push_cast [iO,tN,  ha,hmp])|(refine pad ?_;first|with_reducible exact weak_cutS 14 [27,28,29,45,46,47,73] _|(refine weak_fg ?_;push_cast [iO,tN,  ha,hmp]))|((first|refine pas [3] ?_|refine pas [5] ?_|refine pas [7] ?_|refine pas [8] ?_);push_cast [iO,tN,  ha,hmp])|((first|refine pas [3,5] ?_|refine pas [3,7] ?_|refine pas [5,7] ?_);push_cast [iO,tN,  ha,hmp];refine ⟨?_,?_⟩)|((first|refine pas [3,5,7] ?_);push_cast [iO,tN,  ha,hmp];refine ⟨?_,?_,?_⟩));done));push_cast [iO,tN,  ha,hmp]))|((first|refine pC ?_|refine pQC ?_|refine pU ?_);push_cast [iO,tN,ha])|(refine pif (fun h=>?_) (fun h=>?_)<;>first|exact pN h|push_cast [iO,tN,ha]))
  exact ⟨k+1,by omega,by (refine weak_fg ?_;push_cast [iO,tN,hmp]),by omega⟩
 have hk2:k=names.length:=by omega
 subst hk2
 rw [List.take_length]
 repeat' (first|((first|refine pC ?_|refine pQC ?_|refine pU ?_);push_cast [iO,tN])|(refine pif (fun h=>?_) (fun h=>?_)<;>first|exact pN h|push_cast [iO,tN]))
 (apply pwp_loop3 (α:=Nat) 14 [27,28,29,45,46,47,73] (fun k=>[(47,.c (.v (.int .i64 k)))]) (fun k=>[(3,.map none false (setE (vals (now.take k))))]) (fun k=>k≤now.length) (fun k=>now.length - k) (0);(focus ((try push_cast [iO,tN]);rfl));(focus exact (Nat.zero_le _));(focus ((refine weak_fg ?_;try push_cast [iO,tN]);(try (rfl)))))
 intro k hk
 push_cast [iO,tN]
 by_cases hlt:k < now.length
 ·have hvs:=vals_snoc now hlt
  have hmp:=mput_set (now.getD k default).value (vals (now.take k))
  rw [addS_snoc (inM_false.2 (not_val hP.pv hlt)),← hvs] at hmp
  obtain ⟨a,ha⟩:∃ a,now.getD k default=a:=⟨_,rfl⟩
  rw [ha] at hmp
  repeat' (first|((refine pwp_cut 14 [27,28,29,45,46,47,73] ?_;apply pwp_drawn_to;(focus kernel_rfl);(focus (simp only [List.length_cons,List.length_nil,Nat.reduceAdd];(repeat' first|((first|refine pah 0 ?_|refine pah 1 ?_|refine pah 2 ?_|refine pah 4 ?_);push_cast [iO,tN,  ha,hmp])|(refine pad ?_;first|with_reducible exact weak_cutS 14 [27,28,29,45,46,47,73] _|(refine weak_fg ?_;push_cast [iO,tN,  ha,hmp]))|((first|refine pas [3] ?_|refine pas [5] ?_|refine pas [6] ?_);push_cast [iO,tN,  ha,hmp])|((first|refine pas [3,5] ?_);push_cast [iO,tN,  ha,hmp];refine ⟨?_,?_⟩));done));push_cast [iO,tN,  ha,hmp]))|((first|refine pC ?_|refine pQC ?_|refine pU ?_);push_cast [iO,tN,ha])|(refine pif (fun h=>?_) (fun h=>?_)<;>first|exact pN h|push_cast [iO,tN,ha]))
  exact ⟨k+1,by omega,by (refine weak_fg ?_;push_cast [iO,tN,hmp]),by omega⟩
 have hk2:k=now.length:=by omega
 subst hk2
 rw [List.take_length]
 have hst:=stepx_pure names now (vals now) hP ⟨hP.pv,fun s=>Iff.rfl⟩ hfew
 repeat' (first |  (refine pwp_seq fun K hK=>?_)  | ((first|refine pC ?_|refine pQC ?_|refine pU ?_);push_cast [iO,tN])|(refine pif (fun h=>?_) (fun h=>?_)<;>first|exact pN h|push_cast [iO,tN]))
 refine pl_weak (weak_adopt 11 62 3 (by omega) (by push_cast [iO,tN])) ?_
 push_cast [iO,tN]
 (refine plc [4,1,2,3] (hst) ?_ ?_;push_cast [iO,tN];rintro r os ⟨ok,rn,cur,tk,hq,htk,rfl,rfl⟩;push_cast [iO,tN])
 have hcl:=hq.len
 repeat' (first|((first|refine pC ?_|refine pQC ?_|refine pU ?_);push_cast [iO,tN,hcl])|(refine pif (fun h=>?_) (fun h=>?_)<;>first|exact pN h|push_cast [iO,tN,hcl]))
 (apply pwp_loop3 (α:=(List Ren × List Atr) × List ByteArray × Bool × Ren) 14 [27,28,29,45,46,47,73] (fun x=>[(13,.c (.v (.bool x.2.2.1))),(12,.c (.ptr 6 0)),(11,.c (.own 5 x.1.1.length))]) (fun x=>[(1,.arr 33 2 (x.1.2.map Atr.d)),(3,.map none false (setE x.2.1)),(4,.box 85 [.own 1 now.length,.mp 2,.mp 3]),(5,.arr 62 3 (x.1.1.map Ren.d)),(6,.box 62 x.2.2.2.e)]) (fun x=>(PlanOk names x.1.2∧TakOk x.1.2 x.2.1∧x.1.2.length=now.length)∧(x.2.2.1=true → planOf names now=x.1.1++x.2.2.2 :: planOf names x.1.2)∧(x.2.2.1=false → planOf names now=x.1.1)) (fun x=>muP names x.1.2+(if x.2.2.1 then 1 else 0)) ((([],cur),tk,ok,rn));(focus ((try push_cast [iO,tN]);rfl));(focus exact ⟨⟨hq.pok,htk,hq.len⟩,(fun ho=>by rw [(hq.yes ho).1];rfl),(fun ho=>(hq.no ho).1)⟩);(focus ((refine weak_fg ?_;try push_cast [iO,tN]);(try (exact hq.len)))))
 rintro ⟨⟨out,cur⟩,tk,ok,rn⟩ ⟨⟨hpk,htk,hcl⟩,hy,hno⟩
 simp only at hpk htk hcl hy hno
 push_cast [iO,tN]
 cases ok with
 | false =>
  have hfin:=hno rfl
  have hol:out.length≤180:=by rw [← hfin];omega
  refine pwp_weak (weak_frz 5 (by omega)) ?_
  push_cast [iO,tN]
  repeat' (first|((first|refine pC ?_|refine pQC ?_|refine pU ?_);push_cast [iO,tN])|(refine pif (fun h=>?_) (fun h=>?_)<;>first|exact pN h|push_cast [iO,tN]))
  (refine retK_of [] ?_;push_cast [iO,tN,hfin])
 | true =>
  have hy1:=hy rfl
  have hol:out.length≤180:=by
   have:=congrArg List.length hy1
   rw [List.length_append,List.length_cons] at this
   omega
  have hst2:=stepx_pure names cur tk hpk htk (by omega)
  simp only [plO,hcl] at hst2
  repeat' (first|((first|refine pC ?_|refine pQC ?_|refine pU ?_);push_cast [iO,tN])|(refine pif (fun h=>?_) (fun h=>?_)<;>first|exact pN h|push_cast [iO,tN]))
  refine pl_weak (weak_sw 6 (by omega)) ?_
  push_cast [iO,tN]
  (refine plc [4,1,2,3] (hst2) ?_ ?_;push_cast [iO,tN];rintro r os ⟨ok2,rn2,cur2,tk2,hq2,htk2,rfl,rfl⟩;push_cast [iO,tN])
  have hcl2:=hq2.len
  rw [hcl] at hcl2
  repeat' (first|((first|refine pC ?_|refine pQC ?_|refine pU ?_);push_cast [iO,tN,hcl2])|(refine pif (fun h=>?_) (fun h=>?_)<;>first|exact pN h|push_cast [iO,tN,hcl2]))
  refine ⟨((out++[rn],cur2),tk2,ok2,rn2),⟨⟨hq2.pok,htk2,hcl2⟩,(fun ho=>by rw [hy1,(hq2.yes ho).1];simp),(fun ho=>by rw [hy1,(hq2.no ho).1])⟩,by (refine weak_fg ?_;push_cast [iO,tN,hcl2]),?_⟩
  cases ok2 with
  | true=>have:=(hq2.yes rfl).2;simp only [if_true];omega
  | false=>have:=(hq2.no rfl).2;simp only [if_true,Bool.false_eq_true,if_false];omega
set_option maxRecDepth 20000
def nm6:List ByteArray:=[⟨#[108,97,110,48]⟩,⟨#[108,97,110,49]⟩,⟨#[101,116,104,48]⟩,⟨#[105,102,48]⟩,⟨#[105,102,49]⟩,⟨#[120]⟩]
def ph5:List ByteArray:=[⟨#[47,97]⟩,⟨#[47,97,47,98]⟩,⟨#[47,99]⟩,⟨#[47,100]⟩,⟨#[47,101,47,102]⟩]
structure WshT (w:List Wsh) (i:Nat):Prop where
 sub:(w.map Wsh.path).Sublist (ph5.take i)
 nod:∀ x ∈ w,x.names.Nodup
 six:∀ x ∈ w,∀ s ∈ x.names,s ∈ nm6
theorem take_sub {α:Type} (l:List α) (i:Nat):(l.take i).Sublist (l.take (i+1)):=by
 have h:l.take i=(l.take (i+1)).take i:=by rw [List.take_take,Nat.min_eq_left (by omega)]
 rw [h]
 exact List.take_sublist _ _
theorem WshT.skip {w:List Wsh} {i:Nat} (h:WshT w i):WshT w (i+1):=⟨h.sub.trans (take_sub _ _),h.nod,h.six⟩
theorem WshT.snoc {w:List Wsh} {i:Nat} (h:WshT w i) (hi:i < 5) {ns:List ByteArray} (hn:ns.Nodup) (hs:∀ s ∈ ns,s ∈ nm6):WshT (w++[⟨ph5.getD i default,ns⟩]) (i+1):=by
 have hl:i < ph5.length:=hi
 refine ⟨?_,fun x hx=>?_,fun x hx=>?_⟩
 ·rw [List.map_append,List.map_singleton,List.take_succ_eq_append_getElem hl,getD_lt ph5 hl]
  exact h.sub.append (List.Sublist.refl _)
 ·rcases List.mem_append.1 hx with hx|hx
  ·exact h.nod x hx
  ·rw [List.mem_singleton] at hx;rw [hx];exact hn
 ·rcases List.mem_append.1 hx with hx|hx
  ·exact h.six x hx
  ·rw [List.mem_singleton] at hx;rw [hx];exact hs
theorem ph5_ok:(ph5.all fun p=>(splitP p).isSome && decide (p.size≤100))=true:=by decide +kernel
theorem ph5_ord:ph5.Pairwise fun p q=>cmpP p q < 0:=by
 have h:((List.range 5).all fun i=>(List.range i).all fun j=>decide (cmpP (ph5.getD j default) (ph5.getD i default) < 0))=true:=by decide +kernel
 rw [List.pairwise_iff_getElem]
 intro i j hi hj hij
 have h1:=List.all_eq_true.1 (List.all_eq_true.1 h j (List.mem_range.2 hj)) i (List.mem_range.2 hij)
 rw [getD_lt ph5 hi,getD_lt ph5 hj] at h1
 exact of_decide_eq_true h1
theorem nm6_ok:(nm6.all fun s=>ifaceS s && decide (s.size≤100))=true:=by decide +kernel
theorem WshT.len {w:List Wsh} (h:WshT w 5):w.length≤5:=by
 have:=h.sub.length_le
 rw [List.length_map,List.length_take] at this
 exact Nat.le_trans this (Nat.min_le_left _ _)
theorem WshT.path {w:List Wsh} (h:WshT w 5) {x:Wsh} (hx:x ∈ w):x.path ∈ ph5:=List.mem_of_mem_take (h.sub.subset (List.mem_map.2 ⟨x,hx,rfl⟩))
theorem WshT.names {w:List Wsh} (h:WshT w 5) {x:Wsh} (hx:x ∈ w):x.names.length≤6:=nodup_sub_len (h.nod x hx) (h.six x hx)
theorem WshT.ok {w:List Wsh} (h:WshT w 5):wshOk w=true:=by
 refine List.all_eq_true.2 fun i hi=>?_
 have hi:=List.mem_range.1 hi
 have hm:w.getD i default ∈ w:=by rw [getD_lt w hi];exact List.getElem_mem _
 have hp:=List.all_eq_true.1 ph5_ok _ (h.path hm)
 rw [Bool.and_eq_true] at hp
 unfold wshAt
 rw [Bool.and_eq_true,Bool.and_eq_true,Bool.or_eq_true,decide_eq_true_eq,decide_eq_true_eq]
 refine ⟨⟨hp.1,?_⟩,List.all_eq_true.2 fun k hk=>?_⟩
 ·by_cases h0:i=0
  ·exact .inl h0
  ·refine .inr ?_
   have hs:=(ph5_ord.sublist (List.take_sublist 5 ph5)).sublist h.sub
   rw [List.pairwise_map,List.pairwise_iff_getElem] at hs
   have:=hs (i - 1) i (by omega) hi (by omega)
   rw [getD_lt w hi,getD_lt w (by omega)]
   exact this
 ·have hk:=List.mem_range.1 hk
  have hs:(w.getD i default).names.getD k default ∈ (w.getD i default).names:=by rw [getD_lt _ hk];exact List.getElem_mem _
  have h1:=List.all_eq_true.1 nm6_ok _ (h.six _ hm _ hs)
  rw [Bool.and_eq_true] at h1
  rw [Bool.and_eq_true,Bool.not_eq_true',inM_false]
  refine ⟨h1.1,fun hc=>?_⟩
  obtain ⟨j,hj,he⟩:=List.mem_take_iff_getElem.1 hc
  rw [getD_lt _ hk] at he
  have:=(List.getElem_inj (h.nod _ hm)).1 he
  omega
end Go.Proofs.YthconflkbeipoaaGreatDoor
namespace Go.Proofs.YthconflkbeipoaaGreatDoor
open Go.RowKit
open IntWalk renaming iteOmega → iO, toNatUp → tN
set_option linter.unusedVariables false
set_option linter.unusedSimpArgs false
def leD:D → D → Prop
 | .v x,.v y=>x=y
 | .v x,.sl _ l=>isEmp x=true∧l=[]
 | .sl sz l,.sl sz' l'=>sz=sz'∧l=l'
 | _,_=>False
def leDs:List D → List D → Prop
 | [],[]=>True
 | a :: l,b :: m=>leD a b∧leDs l m
 | _,_=>False
theorem leD_ok {w:World} {I:Nat → Prop} {d d':D} {y:Value} (h:leD d d') (hr:RD w I d y):RD w I d' y:=by
 cases d with
 | v x =>
  cases d' with
  | v z=>obtain rfl:x=z:=h;exact hr
  | sl sz l =>
   obtain ⟨h,rfl⟩:=h
   obtain ⟨A,c,rfl⟩:=isEmp_ok h
   rw [RD] at hr
   rw [rd_sl,hr.1]
   exact ⟨A,c,[],rfl,Nat.zero_le _,Rd.nil,by simp,trivial⟩
 | sl sz l =>
  cases d' with
  | v z=>exact h.elim
  | sl sz' l'=>obtain ⟨rfl,rfl⟩:=h;exact hr
theorem leDs_ok {w:World} {I:Nat → Prop}:∀ {r r':List D} {ys:List Value},leDs r r' → All2 (RD w I) r ys → All2 (RD w I) r' ys
 | [],[],_,_,hr=>hr
 | a :: l,b :: m,y :: ys,h,hr=>⟨leD_ok h.1 hr.1,leDs_ok h.2 hr.2⟩
 | _ :: _,_ :: _,[],_,hr=>hr.elim
 | [],_ :: _,_,h,_=>h.elim
 | _ :: _,[],_,h,_=>h.elim
theorem leDs_length:∀ {r r':List D},leDs r r' → r.length=r'.length
 | [],[],_=>rfl
 | a :: l,b :: m,h=>by simp [leDs_length h.2]
 | [],_ :: _,h=>h.elim
 | _ :: _,[],h=>h.elim
attribute [push_cast] leD leDs
def leRows:List (List D) → List (List D) → Prop
 | [],[]=>True
 | a :: l,b :: m=>leDs a b∧leRows l m
 | _,_=>False
theorem leRows_ok {w:World} {I:Nat → Prop}:∀ {r r':List (List D)} {ys:List Value},leRows r r' → All2 (RD w I) r.flatten ys → All2 (RD w I) r'.flatten ys
 | [],[],_,_,hr=>hr
 | a :: l,b :: m,ys,h,hr=>by
  simp only [List.flatten_cons] at hr ⊢
  obtain ⟨x,y,rfl,h1,h2⟩:=hr.split
  exact (leDs_ok h.1 h1).append (leRows_ok h.2 h2)
 | [],_ :: _,_,h,_=>h.elim
 | _ :: _,[],_,h,_=>h.elim
theorem leRows_length:∀ {r r':List (List D)},leRows r r' → r.length=r'.length
 | [],[],_=>rfl
 | a :: l,b :: m,h=>by simp [leRows_length h.2]
 | [],_ :: _,h=>h.elim
 | _ :: _,[],h=>h.elim
theorem leRows_mem {sz:Nat}:∀ {r r':List (List D)},leRows r r' → (∀ x ∈ r,x.length=sz) → ∀ x ∈ r',x.length=sz
 | [],[],_,_,x,hx=>by simp at hx
 | a :: l,b :: m,h,hr,x,hx=>by
  rcases List.mem_cons.1 hx with rfl|hx
  ·rw [← leDs_length h.1];exact hr a (by simp)
  ·exact leRows_mem h.2 (fun y hy=>hr y (by simp [hy])) x hx
 | [],_ :: _,h,_,_,_=>h.elim
 | _ :: _,[],h,_,_,_=>h.elim
attribute [push_cast] leRows
def leC:E → E → Prop
 | .full sz l,.sl sz' l'=>sz=sz'∧leRows l l'
 | .v x,.v y=>x=y
 | _,_=>False
def leCs:List E → List E → Prop
 | [],[]=>True
 | a :: r,b :: r'=>leC a b∧leCs r r'
 | _,_=>False
attribute [push_cast] leC leCs
theorem leC_ok {w:World} {Γ:G} {a b:E} {y:Value} (h:leC a b) (hr:RE w Γ a y):RE w Γ b y:=by
 unfold leC at h
 split at h
 ·obtain ⟨rfl,h⟩:=h
  obtain ⟨h2,_⟩:=hr
  obtain ⟨A,c,xs,h3,h4,h5,h6,h7⟩:=rd_sl.1 h2
  show RD w Γ.I (.sl _ _) _
  rw [rd_sl,h3]
  have hl:=leRows_length h
  exact ⟨A,c,xs,by rw [hl],by omega,by rw [← hl];exact h5,leRows_mem h h6,leRows_ok h h7⟩
 ·subst h;exact hr
 ·exact h.elim
theorem leCs_ok {w:World} {Γ:G}:∀ {a b:List E} {ys:List Value},leCs a b → All2 (RE w Γ) a ys → All2 (RE w Γ) b ys
 | [],[],_,_,h=>h
 | _ :: _,_ :: _,[],_,h=>h.elim
 | _ :: _,_ :: _,_ :: _,h,hr=>⟨leC_ok h.1 hr.1,leCs_ok h.2 hr.2⟩
 | [],_ :: _,_,h,_=>h.elim
 | _ :: _,[],_,h,_=>h.elim
theorem weak_aggrows {N p:Nat} {s:S} (i:Nat) {cs:List E} (cs':List E) (hi:s.get i=some (.agg cs)) (h:leCs cs cs'):Weak N p s ⟨(i,.agg cs') :: s.t,s.o⟩:=by
 intro Γ a w hA
 refine ⟨Γ,⟨⟨hA.inv.size,hA.inv.defers,fun j q hq=>?_,hA.inv.m⟩,hA.le⟩,Grow.refl _ _ _⟩
 simp only [S.get,look] at hq
 split at hq
 ·rename_i e
  subst e
  cases hq
  obtain ⟨h1,xs,h2,h3⟩:=hA.inv.t j _ hi
  exact ⟨h1,xs,h2,leCs_ok h h3⟩
 ·exact hA.inv.t j q hq
end Go.Proofs.YthconflkbeipoaaGreatDoor
namespace Go.Proofs.YthconflkbeipoaaGreatDoor
attribute [local irreducible] PL QL PWPr PCalls Weak RetK Kontr PA
open Go.RowKit
open IntWalk renaming iteOmega → iO, toNatUp → tN
set_option linter.unusedVariables false
set_option linter.unusedSimpArgs false
set_option maxRecDepth 20000
theorem ren_eq {a b:Ren} (h1:a.path=b.path) (h2:a.old=b.old) (h3:a.new=b.new):a=b:=by
 cases a;cases b
 simp only at h1 h2 h3
 rw [h1,h2,h3]
set_option maxHeartbeats 2000000 in
theorem sameren_pure (a b:List Ren) (ha:a.length≤9223372036854775807) (hb:b.length≤9223372036854775807) :
  PCalls Tryz.prog 25 [.c (.sl 3 (a.map Ren.d)),.c (.sl 3 (b.map Ren.d))] [] fun r os=>r = .c (.v (.bool (decide (a=b))))∧os=[]:=by
 refine pcalls_of Tryz.func25 rfl (by simp [Tryz.ntmps25]) ?_
 rw [Tryz.ntmps25,Tryz.results25]
 push_cast [iO,tN]
 have cB:CutB 6 []:=trivial
 by_cases hl:a.length=b.length
 case neg =>
  have hn:decide (a=b)=false:=decide_eq_false fun e=>hl (by rw [e])
  have hl2:¬ (a.length:Int)=(b.length:Int):=by omega
  repeat' (first|((first|refine pC ?_|refine pQC ?_|refine pU ?_);push_cast [iO,tN,hl,hl2])|(refine pif (fun h=>?_) (fun h=>?_)<;>first|exact pN h|push_cast [iO,tN,hl,hl2]))
  (refine retK_of [] ?_;push_cast [iO,tN,hn])
 have hl2:(a.length:Int)=(b.length:Int):=by omega
 repeat' (first|((first|refine pC ?_|refine pQC ?_|refine pU ?_);push_cast [iO,tN,hl,hl2])|(refine pif (fun h=>?_) (fun h=>?_)<;>first|exact pN h|push_cast [iO,tN,hl,hl2]))
 (apply pwp_loop3 (α:=Nat) 6 [] (fun k=>[(5,.c (.v (.int .i64 k)))]) (fun k=>[]) (fun k=>k≤a.length∧a.take k=b.take k) (fun k=>a.length - k) (0);(focus ((try push_cast [iO,tN]);rfl));(focus exact ⟨Nat.zero_le _,rfl⟩);(focus ((refine weak_fg ?_;try push_cast [iO,tN]))))
 rintro k ⟨hk,hpre⟩
 push_cast [iO,tN]
 by_cases hlt:k < a.length
 ·have hlt':k < b.length:=by omega
  by_cases h1:(a.getD k default).path=(b.getD k default).path
  ·by_cases h2:(a.getD k default).old=(b.getD k default).old
   ·by_cases h3:(a.getD k default).new=(b.getD k default).new
    ·have he:=ren_eq h1 h2 h3
     repeat' (first|((first|refine pC ?_|refine pQC ?_|refine pU ?_);push_cast [iO,tN,h1,h2,h3])|(refine pif (fun h=>?_) (fun h=>?_)<;>first|exact pN h|push_cast [iO,tN,h1,h2,h3]))
     refine ⟨k+1,⟨by omega,?_⟩,by (refine weak_fg ?_;push_cast [iO,tN]),by omega⟩
     rw [List.take_succ_eq_append_getElem hlt,List.take_succ_eq_append_getElem hlt',hpre,← getD_lt a hlt,← getD_lt b hlt',he]
    ·have hn:decide (a=b)=false:=decide_eq_false fun e=>h3 (by rw [e])
     repeat' (first|((first|refine pC ?_|refine pQC ?_|refine pU ?_);push_cast [iO,tN,h1,h2,h3])|(refine pif (fun h=>?_) (fun h=>?_)<;>first|exact pN h|push_cast [iO,tN,h1,h2,h3]))
     (refine retK_of [] ?_;push_cast [iO,tN,hn])
   ·have hn:decide (a=b)=false:=decide_eq_false fun e=>h2 (by rw [e])
    repeat' (first|((first|refine pC ?_|refine pQC ?_|refine pU ?_);push_cast [iO,tN,h1,h2])|(refine pif (fun h=>?_) (fun h=>?_)<;>first|exact pN h|push_cast [iO,tN,h1,h2]))
    (refine retK_of [] ?_;push_cast [iO,tN,hn])
  ·have hn:decide (a=b)=false:=decide_eq_false fun e=>h1 (by rw [e])
   repeat' (first|((first|refine pC ?_|refine pQC ?_|refine pU ?_);push_cast [iO,tN,h1])|(refine pif (fun h=>?_) (fun h=>?_)<;>first|exact pN h|push_cast [iO,tN,h1]))
   (refine retK_of [] ?_;push_cast [iO,tN,hn])
 ·have hn:decide (a=b)=true:=decide_eq_true (by
   have:=hpre
   rwa [List.take_of_length_le (by omega),List.take_of_length_le (by omega)] at this)
  repeat' (first|((first|refine pC ?_|refine pQC ?_|refine pU ?_);push_cast [iO,tN])|(refine pif (fun h=>?_) (fun h=>?_)<;>first|exact pN h|push_cast [iO,tN]))
  (refine retK_of [] ?_;push_cast [iO,tN,hn])
def planB (names now:List Atr):Bool:=((decide (keys names).Nodup && decide (vals names).Nodup) && (decide (keys now).Nodup && decide (vals now).Nodup)) && (((vals names).all fun v=>!decide (v=⟨#[]⟩)) && (((keys names).all fun n=>inM n (keys now)) && now.all fun x=>(valOf names x.name).isSome || !inM x.value (vals names)))
theorem planB_ok {names now:List Atr} (h:planB names now=true):PlanOk names now:=by
 unfold planB at h
 simp only [Bool.and_eq_true,decide_eq_true_eq,List.all_eq_true,Bool.or_eq_true,Bool.not_eq_true',decide_eq_false_iff_not,inM_iff] at h
 obtain ⟨⟨⟨h1,h2⟩,h3,h4⟩,h5,h6,h7⟩:=h
 refine ⟨h1,h2,h3,h4,h5,h6,fun x hx hv hm=>?_⟩
 rcases h7 x hx with h8|h8
 ·rw [hv] at h8;cases h8
 ·exact inM_false.1 h8 hm
def netD (i:Int) (nm og:ByteArray):Dev:=⟨i,0,nm,og,⟨#[110,101,116]⟩,⟨#[]⟩,⟨#[]⟩,4,0,[]⟩
def okpB (l:List Dev):Bool:=(l.all fun d=>decide (1≤d.index) && decide (d.parent=0)) && decide (l.map Dev.index).Nodup
theorem okpB_ok {l:List Dev} (h:okpB l=true):Okp l:=by
 unfold okpB at h
 simp only [Bool.and_eq_true,List.all_eq_true,decide_eq_true_eq] at h
 exact ⟨fun d hd=>(h.1 d hd).1,h.2,fun i hi=>.inl (h.1 _ (List.getElem_mem _)).2⟩
def kw3:List Wsh:=[⟨⟨#[47,97]⟩,[⟨#[108,97,110,48]⟩,⟨#[101,116,104,48]⟩]⟩,⟨⟨#[47,98]⟩,[⟨#[108,97,110,48]⟩,⟨#[101,116,104,49]⟩]⟩,⟨⟨#[47,99]⟩,[⟨#[108,97,110,48]⟩]⟩]
def kt2:List Dev:=[netD 1 ⟨#[101,116,104,48]⟩ ⟨#[97]⟩,netD 2 ⟨#[101,116,104,49]⟩ ⟨#[98]⟩]
def kn2:List Atr:=[⟨⟨#[47,97]⟩,⟨#[101,116,104,49]⟩⟩,⟨⟨#[47,98]⟩,⟨#[101,116,104,48]⟩⟩]
theorem kw3_ok:wshOk kw3=true:=by decide +kernel
theorem kw3_few:decide (kw3.length * ((wantA2 kw3).length+2)≤99)=true:=by decide +kernel
theorem kw3_as:assignA kw3=[⟨⟨#[47,97]⟩,⟨#[108,97,110,48]⟩⟩,⟨⟨#[47,98]⟩,⟨#[101,116,104,49]⟩⟩,⟨⟨#[47,99]⟩,⟨#[105,102,48]⟩⟩]:=by decide +kernel
theorem kt2_okp:okpB kt2=true:=by decide +kernel
theorem kt2_fit:fitsB (nowP kt2) kn2=true:=by decide +kernel
theorem kt2_plan:planB kn2 (nowP kt2)=true:=by decide +kernel
theorem kt2_is:planOf kn2 (nowP kt2)=[⟨⟨#[47,97]⟩,⟨#[101,116,104,48]⟩,⟨#[114,101,110,97,109,101,48]⟩⟩,⟨⟨#[47,98]⟩,⟨#[101,116,104,49]⟩,⟨#[101,116,104,48]⟩⟩,⟨⟨#[47,97]⟩,⟨#[114,101,110,97,109,101,48]⟩,⟨#[101,116,104,49]⟩⟩]:=by decide +kernel
theorem kw3_fit:WshFit kw3:=by
 have h:(kw3.all fun w=>decide (w.path.size≤100) && (decide (w.names.length≤100) && w.names.all fun s=>decide (s.size≤100)))=true:=by decide +kernel
 simp only [List.all_eq_true,Bool.and_eq_true,decide_eq_true_eq] at h
 refine ⟨by decide,fun w hw=>?_,fun w hw=>?_,fun w hw s hs=>?_⟩
 ·have:=(h w hw).1;omega
 ·have:=(h w hw).2.1;omega
 ·have:=(h w hw).2.2 s hs;omega
set_option maxHeartbeats 8000000 in
theorem known23_pure:PCalls Tryz.prog 12 [] [] fun r os=>r = .c (.v (.bool true))∧os=[]:=by
 have ha:=assign_ok kw3 kw3_fit kw3_ok (few_mul (show kw3.length * ((wantA2 kw3).length+2)≤99 from of_decide_eq_true kw3_few))
 rw [kw3_as] at ha
 unfold kw3 at ha
 have hp:=plan_ok kt2 kn2 (okpB_ok kt2_okp) (by decide) (by decide) (by decide) kt2_fit (planB_ok kt2_plan) (by decide +kernel)
 rw [kt2_is] at hp
 unfold kt2 kn2 netD at hp
 have hs:=sameren_pure [⟨⟨#[47,97]⟩,⟨#[101,116,104,48]⟩,⟨#[114,101,110,97,109,101,48]⟩⟩,⟨⟨#[47,98]⟩,⟨#[101,116,104,49]⟩,⟨#[101,116,104,48]⟩⟩,⟨⟨#[47,97]⟩,⟨#[114,101,110,97,109,101,48]⟩,⟨#[101,116,104,49]⟩⟩] [⟨⟨#[47,97]⟩,⟨#[101,116,104,48]⟩,⟨#[114,101,110,97,109,101,48]⟩⟩,⟨⟨#[47,98]⟩,⟨#[101,116,104,49]⟩,⟨#[101,116,104,48]⟩⟩,⟨⟨#[47,97]⟩,⟨#[114,101,110,97,109,101,48]⟩,⟨#[101,116,104,49]⟩⟩] (by decide) (by decide)
 rw [decide_eq_true rfl] at hs
 refine pcalls_of Tryz.func12 rfl (by simp [Tryz.ntmps12]) ?_
 rw [Tryz.ntmps12,Tryz.results12]
 push_cast [iO,tN]
 repeat' (first |  ((refine plc [] (ha) ?_ ?_;push_cast [iO,tN];rintro r os ⟨rfl,rfl⟩;push_cast [iO,tN]))  | ((first|refine pG ?_|refine pQ ?_|refine pU ?_);push_cast [iO,tN])|(refine pif (fun h=>?_) (fun h=>?_)<;>first|exact pN h|push_cast [iO,tN]))
 refine pl_weak (weak_aggrows 22 (trE kt2) rfl (by simp [kt2,netD,trE,Dev.d,D.e,leCs,leC,leRows,leDs,leD,isEmp])) ?_
 simp only [kt2,netD]
 push_cast [iO,tN]
 (refine plc [] (hp) ?_ ?_;push_cast [iO,tN];rintro r os ⟨rfl,rfl⟩;push_cast [iO,tN])
 repeat' (first |  ((refine plc [] (hs) ?_ ?_;push_cast [iO,tN];rintro r os ⟨rfl,rfl⟩;push_cast [iO,tN]))  | ((first|refine pG ?_|refine pQ ?_|refine pU ?_);push_cast [iO,tN])|(refine pif (fun h=>?_) (fun h=>?_)<;>first|exact pN h|push_cast [iO,tN]))
 (refine retK_of [] ?_;push_cast [iO,tN])
end Go.Proofs.YthconflkbeipoaaGreatDoor
namespace Go.Proofs.YthconflkbeipoaaGreatDoor
open Go.RowKit
open IntWalk renaming iteOmega → iO, toNatUp → tN
set_option linter.unusedVariables false
set_option linter.unusedSimpArgs false
def allA (l:List Wsh):List ByteArray:=l.flatMap Wsh.names
theorem allA_mem {l:List Wsh} {s:ByteArray}:s ∈ allA l ↔ s ∈ wantA2 l:=by
 rw [wantA2_mem]
 unfold allA
 rw [List.mem_flatMap]
 constructor
 ·rintro ⟨w,hw,hs⟩
  obtain ⟨i,hi,rfl⟩:=List.getElem_of_mem hw
  obtain ⟨q,hq,rfl⟩:=List.getElem_of_mem hs
  exact ⟨i,q,hi,by rw [getD_lt l hi];exact hq,by unfold nmAt;rw [getD_lt l hi,getD_lt _ hq]⟩
 ·rintro ⟨i,q,hi,hq,rfl⟩
  have hm:l.getD i default ∈ l:=by rw [getD_lt l hi];exact List.getElem_mem _
  exact ⟨_,hm,by unfold nmAt;rw [getD_lt _ hq];exact List.getElem_mem _⟩
def cntF (W:List ByteArray) (n:Nat):Nat:=((List.range n).filter fun m=>inM (ifN m) W).length
theorem cntF_succ (W:List ByteArray) (n:Nat):cntF W (n+1)=cntF W n+if inM (ifN n) W=true then 1 else 0:=by
 unfold cntF
 rw [List.range_succ,List.filter_append,List.length_append]
 by_cases h:inM (ifN n) W=true
 ·simp [List.filter_cons,h]
 ·simp [List.filter_cons,h]
theorem cntF_mid (W:List ByteArray) (n:Nat):∀ k,(∀ m,n≤m → m < n+k → inM (ifN m) W=true) → cntF W (n+k)=cntF W n+k
 | 0,_=>rfl
 | k+1,h=>by
  rw [← Nat.add_assoc,cntF_succ,if_pos (h (n+k) (by omega) (by omega)),cntF_mid W n k fun m h1 h2=>h m h1 (by omega)]
  omega
theorem cntF_le (W:List ByteArray) (n:Nat):cntF W n≤W.length:=by
 have h:(((List.range n).filter fun m=>inM (ifN m) W).map ifN).Nodup:=by
  rw [List.Nodup,List.pairwise_map]
  exact (List.nodup_range.filter _).imp fun hne e=>hne (ifN_inj e)
 have h2:=nodup_sub_len h (m:=W) fun x hx=>by
  obtain ⟨m,hm,rfl⟩:=List.mem_map.1 hx
  exact inM_iff.1 (List.mem_filter.1 hm).2
 rw [List.length_map] at h2
 exact h2
theorem cntF_fresh (W:List ByteArray) (n:Nat):cntF W (freshN W n)=cntF W n+(freshN W n - n):=by
 have hge:=fresh_ge W n
 have:=cntF_mid W n (freshN W n - n) fun m h1 h2=>fresh_mid W h1 (by omega)
 rw [show n+(freshN W n - n)=freshN W n by omega] at this
 exact this
theorem fill_cnt (W vals:List ByteArray):∀ k,(fillWK W vals k).2≤k+cntF W (fillWK W vals k).2
 | 0=>Nat.zero_le _
 | k+1=>by
  have ih:=fill_cnt W vals k
  rw [fillWK_succ]
  unfold fillW
  split
  ·have h1:=cntF_fresh W (fillWK W vals k).2
   have h2:=cntF_succ W (freshN W (fillWK W vals k).2)
   have hge:=fresh_ge W (fillWK W vals k).2
   simp only
   omega
  ·omega
theorem few_add {l:List Wsh} (h:l.length+(wantA2 l).length≤98):FewW l:=fun k hk=>by
 have h1:=fill_cnt (wantA2 l) (valsA l) k
 have h2:=cntF_fresh (wantA2 l) (fillWK (wantA2 l) (valsA l) k).2
 have h3:=cntF_le (wantA2 l) (freshN (wantA2 l) (fillWK (wantA2 l) (valsA l) k).2)
 have hge:=fresh_ge (wantA2 l) (fillWK (wantA2 l) (valsA l) k).2
 omega
theorem wantA_nodup (ps:List (Nat × ByteArray)):(wantedA ps).Nodup:=by
 unfold wantedA
 have key:∀ (ps:List (Nat × ByteArray)) (W:List ByteArray),W.Nodup → (ps.foldl (fun W p=>addS W p.2) W).Nodup:=by
  intro ps
  induction ps with
  | nil=>intro W h;exact h
  | cons p ps ih=>intro W h;exact ih _ (nodup_addS h)
 exact key ps [] List.nodup_nil
theorem wantA2_len {l:List Wsh} {n:Nat} (h:∀ w ∈ l,w.names.length≤n):(wantA2 l).length≤l.length * n:=by
 have h1:(wantA2 l).length≤(allA l).length:=nodup_sub_len (wantA_nodup _) fun x hx=>allA_mem.2 hx
 have h2:∀ l:List Wsh,(∀ w ∈ l,w.names.length≤n) → (allA l).length≤l.length * n:=by
  intro l
  induction l with
  | nil=>intro _;exact Nat.zero_le _
  | cons w l ih =>
   intro h
   unfold allA at ih ⊢
   rw [List.flatMap_cons,List.length_append,List.length_cons,Nat.succ_mul]
   have:=ih fun x hx=>h x (List.mem_cons_of_mem _ hx)
   have:=h w (List.mem_cons_self ..)
   omega
 exact Nat.le_trans h1 (h2 l h)
end Go.Proofs.YthconflkbeipoaaGreatDoor
