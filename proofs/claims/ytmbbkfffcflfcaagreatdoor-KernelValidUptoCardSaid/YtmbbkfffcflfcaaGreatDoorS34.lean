/- What the program computes, and the plain laws of it, part 34. -/
import Derived.Lib.ItoaNum
import Derived.WideKeyEntry
import Derived.Test.YtmbbkfffcflfcaaGreatDoorS33
namespace Go.Proofs.YtmbbkfffcflfcaaGreatDoor
attribute [local irreducible] PL QL PWPr PCalls Weak RetK Kontr PA
open Go.RowKit
open IntWalk renaming iteOmega → O, toNatUp → U
set_option linter.unusedVariables false
set_option linter.unusedSimpArgs false
set_option maxRecDepth 20000
set_option maxHeartbeats 1000000 in
theorem iface_pure (s:ByteArray) (hs:s.size≤9223372036854775807):PCalls Tryz.prog 153 [.c (.v (.string s))] [] fun r os=>r = .c (.v (.bool (ifaceS s)))∧os=[]:=by
 have hv:=valid_pure s hs
 have hz:=valid_size (s:=s)
 have ha:=valid_ascii (s:=s)
 unfold ifaceS
 obtain ⟨b,hb⟩:∃ b,validS s=b:=⟨_,rfl⟩
 rw [hb] at hv hz ha ⊢
 refine pcalls_of Tryz.func153 rfl (by simp [Tryz.ntmps153]) ?_
 rw [Tryz.ntmps153,Tryz.results153]
 cases b
 ·push_cast [O,U]
  repeat' ((first|refine plE [] hv ?_ ?_|refine pG ?_|refine pQ ?_|refine pU ?_|refine pif ?_ ?_<;>intro h<;>try exact pN h)<;>push_cast [O,U])
  (refine retK_of [] ?_;push_cast [O,U])
  all_goals rfl
 ·by_cases h1:s.size≤15
  ·have h1':(s.size:Int)≤15:=by omega
   have hc:=containsAny_pure s (by omega) (ha rfl)
   push_cast [O,U]
   repeat' ((first|refine plE [] hv ?_ ?_|refine plE [] hc ?_ ?_|refine pG ?_|refine pQ ?_|refine pU ?_|refine pif ?_ ?_<;>intro h<;>try exact pN h)<;>push_cast [O,U,h1'])
   (refine retK_of [] ?_;push_cast [O,U])
   all_goals simp [h1]
  ·have h1':¬ (s.size:Int)≤15:=by omega
   push_cast [O,U]
   repeat' ((first|refine plE [] hv ?_ ?_|refine pG ?_|refine pQ ?_|refine pU ?_|refine pif ?_ ?_<;>intro h<;>try exact pN h)<;>push_cast [O,U,h1'])
   (refine retK_of [] ?_;push_cast [O,U])
   all_goals simp [h1]
set_option maxRecDepth 20000 in
set_option maxHeartbeats 1000000 in
theorem lparts_pure:PCalls Tryz.prog 159 [] [] fun r os=>r = .agg (linkL.map boolE)∧os=[]:=by
 have hp:=plus_pure commonL ⟨#[64,35,61,37]⟩ commonL_len (by decide)
 simp only [List.toList_toArray] at hp
 have hl:=linkL_len
 change PCalls _ _ _ _ fun r os=>r = .agg (linkL.map boolE)∧os=[] at hp
 generalize linkL=cs at hp hl ⊢
 refine pcalls_of Tryz.func159 rfl (by simp [Tryz.ntmps159]) ?_
 rw [Tryz.ntmps159,Tryz.results159]
 push_cast [O,U]
 repeat' ((first|refine plE [] common_pure ?_ ?_;focus (push_cast [O,U];done)|refine plE [] hp ?_ ?_;focus (push_cast [O,U];done)|refine pG ?_|refine pQ ?_|refine pU ?_|refine pif ?_ ?_<;>intro h<;>try exact pN h)<;>push_cast [O,U])
 (refine retK_of [] ?_;push_cast [O,U,hl])
set_option maxRecDepth 20000 in
set_option maxHeartbeats 1000000 in
theorem linkF_pure (cs:List Bool) (hcs:cs.length=256) (x:ByteArray) (hx:x.size≤1000000) :
  PCalls Tryz.prog 162 [.c (.v (.string x)),.c (.ptr 0 0)] [.box 174 (cs.map boolE)] fun r os=>r = .c (.v (.bool ((decide (x≠⟨#[]⟩) && !dotsS x) && hasL cs x)))∧os=[.box 174 (cs.map boolE)]:=by
 have hd:=dots_pure x
 have hh:=has_pure cs x hcs (by omega)
 obtain ⟨b,hb⟩:∃ b,dotsS x=b:=⟨_,rfl⟩
 obtain ⟨c,hc⟩:∃ c,hasL cs x=c:=⟨_,rfl⟩
 rw [hb] at hd ⊢
 rw [hc] at hh ⊢
 refine pcalls_of Tryz.func162 rfl (by simp [Tryz.ntmps162]) ?_
 rw [Tryz.ntmps162,Tryz.results162]
 by_cases h1:x=⟨#[]⟩
 ·have e1:=eq_true h1
  push_cast [O,U]
  repeat' ((first|refine pG ?_|refine pQ ?_|refine pU ?_|refine pif ?_ ?_<;>intro h<;>try exact pN h)<;>push_cast [O,U,e1,ne_eq,not_true_eq_false])
  (refine retK_of [0] ?_;push_cast [O,U])
  all_goals simp [h1]
 ·cases b
  ·push_cast [O,U]
   repeat' ((first|refine plE [] hd ?_ ?_|refine plE [] hh ?_ ?_|refine pG ?_|refine pQ ?_|refine pU ?_|refine pif ?_ ?_<;>intro h<;>try exact pN h)<;>push_cast [O,U,h1,ne_eq,not_false_eq_true,hcs])
   (refine retK_of [0] ?_;push_cast [O,U])
   all_goals simp [h1]
  ·push_cast [O,U]
   repeat' ((first|refine plE [] hd ?_ ?_|refine pG ?_|refine pQ ?_|refine pU ?_|refine pif ?_ ?_<;>intro h<;>try exact pN h)<;>push_cast [O,U,h1,ne_eq,not_false_eq_true,hcs])
   (refine retK_of [0] ?_;push_cast [O,U])
   all_goals simp
set_option maxHeartbeats 1000000 in
theorem allL_pure (cs:List Bool) (hcs:cs.length=256) (x:ByteArray) (hx:x.size≤1000000) :
  PCalls Tryz.prog 200 [.c (.v (.string x)),.c (.ptr 1 0)] [.box 174 (cs.map boolE),.box 135 [.fn (.func 162) [] [0]]] fun r os=>r = .c (.v (.bool (!((decide (x≠⟨#[]⟩) && !dotsS x) && hasL cs x))))∧os=[.box 174 (cs.map boolE),.box 135 [.fn (.func 162) [] [0]]]:=by
 have hf:=linkF_pure cs hcs x hx
 obtain ⟨b,hb⟩:∃ b,((decide (x≠⟨#[]⟩) && !dotsS x) && hasL cs x)=b:=⟨_,rfl⟩
 rw [hb] at hf ⊢
 refine pcalls_of Tryz.func200 rfl (by simp [Tryz.ntmps200]) ?_
 rw [Tryz.ntmps200,Tryz.results200]
 push_cast [O,U]
 repeat' ((first|refine plE [0] hf ?_ ?_|refine pG ?_|refine pQ ?_|refine pU ?_|refine pif ?_ ?_<;>intro h<;>try exact pN h)<;>push_cast [O,U])
 (refine retK_of [0,1] ?_;push_cast [O,U])
set_option maxHeartbeats 1000000 in
theorem all2_pure (cs:List Bool) (hcs:cs.length=256) (l:List ByteArray) (hl:l.length≤1000000000) (hz:∀ x ∈ l,x.size≤1000000) :
  PCalls Tryz.prog 160 [.c (.sl 1 (l.map strD)),.c (.fn (.func 162) [] [0])] [.box 174 (cs.map boolE)] fun r os=>r = .c (.v (.bool (l.all fun x=>(decide (x≠⟨#[]⟩) && !dotsS x) && hasL cs x)))∧os=[.box 174 (cs.map boolE)]:=by
 have hc:=containsFuncS_pure l hl 200 [1] [.box 174 (cs.map boolE),.box 135 [.fn (.func 162) [] [0]]] (fun x=>!((decide (x≠⟨#[]⟩) && !dotsS x) && hasL cs x)) ⟨by kernel_rfl,fun x hx=>allL_pure cs hcs x (hz x hx)⟩
 have e:(!(l.any fun x=>!((decide (x≠⟨#[]⟩) && !dotsS x) && hasL cs x)))=l.all fun x=>(decide (x≠⟨#[]⟩) && !dotsS x) && hasL cs x:=by rw [List.all_eq_not_any_not]
 obtain ⟨b,hb⟩:∃ b,(l.any fun x=>!((decide (x≠⟨#[]⟩) && !dotsS x) && hasL cs x))=b:=⟨_,rfl⟩
 rw [hb] at hc e
 rw [← e]
 refine pcalls_of Tryz.func160 rfl (by simp [Tryz.ntmps160]) ?_
 rw [Tryz.ntmps160,Tryz.results160]
 push_cast [O,U]
 repeat' ((first|refine plE [0,1] hc ?_ ?_|refine pG ?_|refine pQ ?_|refine pU ?_|refine pif ?_ ?_<;>intro h<;>try exact pN h)<;>push_cast [O,U])
 (refine retK_of [0] ?_;push_cast [O,U])
set_option maxRecDepth 20000 in
set_option maxHeartbeats 1000000 in
theorem link_pure (s:ByteArray):PCalls Tryz.prog 116 [.c (.v (.string s))] [] fun r os=>r = .c (.v (.bool (linkS s)))∧os=[]:=by
 have hps:=parts_size (s:=s)
 have hpm:=fun x hx=>part_size (s:=s) (x:=x) hx
 have hlp:=lparts_pure
 have hlen:=linkL_len
 have e:linkS s=(decide (s.size≤256) && (parts s).all fun x=>(decide (x≠⟨#[]⟩) && !dotsS x) && hasL linkL x):=rfl
 rw [e]
 generalize linkL=cs at hlp hlen ⊢
 refine pcalls_of Tryz.func116 rfl (by simp [Tryz.ntmps116]) ?_
 rw [Tryz.ntmps116,Tryz.results116]
 by_cases h1:s.size≤256
 ·have h1':(s.size:Int)≤256:=by omega
  have hsp:=split_pure s (by omega)
  obtain ⟨l,hl⟩:∃ l,parts s=l:=⟨_,rfl⟩
  rw [hl] at hps hsp ⊢
  simp only [hl] at hpm
  have hal:=all2_pure cs hlen l (by omega) (fun x hx=>by have:=hpm x hx;omega)
  push_cast [O,U]
  repeat' ((first|refine plE [] hlp ?_ ?_;focus (push_cast [O,U,h1',hlen];done)|refine plE [] hsp ?_ ?_;focus (push_cast [O,U,h1',hlen];done)|(refine pl_call2 true [0] rfl rfl (by kernel_rfl) (hal) ?_ ?_ ?_;push_cast [O,U,h1',hlen];(intro _ r os;rintro ⟨rfl,rfl⟩;push_cast [O,U,h1',hlen]);rintro r os ⟨rfl,rfl⟩;refine pl_of_pops ?_)|refine pG ?_|refine pQ ?_|refine pU ?_|refine pif ?_ ?_<;>intro h<;>try exact pN h)<;>push_cast [O,U,h1',hlen])
  (refine retK_of [] ?_;push_cast [O,U])
  all_goals simp [h1]
 ·have h1':¬ (s.size:Int)≤256:=by omega
  push_cast [O,U]
  repeat' ((first|refine plE [] hlp ?_ ?_|refine pG ?_|refine pQ ?_|refine pU ?_|refine pif ?_ ?_<;>intro h<;>try exact pN h)<;>push_cast [O,U,h1',hlen])
  (refine retK_of [] ?_;push_cast [O,U])
  all_goals simp [h1]
end Go.Proofs.YtmbbkfffcflfcaaGreatDoor
namespace Go.Proofs.YtmbbkfffcflfcaaGreatDoor
open Go.RowKit
open IntWalk renaming iteOmega → O, toNatUp → U
set_option linter.unusedVariables false
set_option linter.unusedSimpArgs false
def bef (q j r k:Nat):Prop:=q < r∨(q=r∧j < k)
def nmAt (l:List Wsh) (i q:Nat):ByteArray:=(l.getD i default).names.getD q default
def LostTo (l:List Wsh) (v:List ByteArray) (i q:Nat):Prop:=∃ j,j≠i∧j < l.length∧(v.getD j default=nmAt l i q∧nmAt l i q≠⟨#[]⟩)∧∃ q',q' < (l.getD j default).names.length∧nmAt l j q'=nmAt l i q∧bef q' j q i
structure AsgI (l:List Wsh) (r k:Nat) (st:AsgS):Prop where
 len:st.1.length=l.length
 tk:∀ s,s ∈ st.2 → s≠⟨#[]⟩∧∃ i,i < l.length∧st.1.getD i default=s
 kt:∀ i,i < l.length → st.1.getD i default≠⟨#[]⟩ → st.1.getD i default ∈ st.2
 inj:∀ i j,i < l.length → j < l.length → st.1.getD i default=st.1.getD j default → st.1.getD i default≠⟨#[]⟩ → i=j
 src:∀ i,i < l.length → st.1.getD i default≠⟨#[]⟩ → ∃ q,bef q i r k∧q < (l.getD i default).names.length∧nmAt l i q=st.1.getD i default∧∀ p,p < q → LostTo l st.1 i p
 lost:∀ i,i < l.length → st.1.getD i default=⟨#[]⟩ → ∀ q,bef q i r k → q < (l.getD i default).names.length → LostTo l st.1 i q
theorem getD_set_eq {α:Type} [Inhabited α] {l:List α} {i:Nat} {x:α} (h:i < l.length):(l.set i x).getD i default=x:=by rw [List.getD_eq_getElem?_getD,List.getElem?_set_self h];rfl
theorem getD_set_ne {α:Type} [Inhabited α] {l:List α} {i j:Nat} {x:α} (h:i≠j):(l.set i x).getD j default=l.getD j default:=by rw [List.getD_eq_getElem?_getD,List.getElem?_set_ne h,← List.getD_eq_getElem?_getD]
theorem AsgI.start (l:List Wsh):AsgI l 0 0 (startA l):=by
 have h0:∀ i,(startA l).1.getD i default=⟨#[]⟩:=fun i=>by
  unfold startA
  rw [List.getD_eq_getElem?_getD,List.getElem?_replicate]
  split<;>rfl
 refine ⟨by unfold startA;simp,fun s hs=>(by unfold startA at hs;cases hs),fun i _ h=>absurd (h0 i) h,fun i j _ _ _ h=>absurd (h0 i) h,fun i _ h=>absurd (h0 i) h,fun i _ _ q hq _=>?_⟩
 rcases hq with h1|⟨_,h1⟩<;>omega
theorem AsgI.skip {l:List Wsh} {r k:Nat} {st:AsgS} (h:AsgI l r k st) (hk:¬ r < (l.getD k default).names.length):AsgI l r (k+1) st:=by
 refine ⟨h.len,h.tk,h.kt,h.inj,fun i hi hv=>?_,fun i hi hv q hq hql=>?_⟩
 ·obtain ⟨q,h1,h2⟩:=h.src i hi hv
  refine ⟨q,?_,h2⟩
  rcases h1 with h1|⟨h1,h3⟩
  ·exact .inl h1
  ·exact .inr ⟨h1,by omega⟩
 ·refine h.lost i hi hv q ?_ hql
  rcases hq with h1|⟨h1,h3⟩
  ·exact .inl h1
  ·by_cases e:i=k
   ·subst e;subst h1;exact absurd hql hk
   ·exact .inr ⟨h1,by omega⟩
theorem AsgI.next {l:List Wsh} {r:Nat} {st:AsgS} (h:AsgI l r l.length st):AsgI l (r+1) 0 st:=by
 refine ⟨h.len,h.tk,h.kt,h.inj,fun i hi hv=>?_,fun i hi hv q hq hql=>?_⟩
 ·obtain ⟨q,h1,h2⟩:=h.src i hi hv
  refine ⟨q,.inl ?_,h2⟩
  rcases h1 with h1|⟨h1,h3⟩<;>omega
 ·refine h.lost i hi hv q ?_ hql
  rcases hq with h1|⟨h1,h3⟩
  ·by_cases e:q=r
   ·exact .inr ⟨e,hi⟩
   ·exact .inl (by omega)
  ·omega
theorem AsgI.step {l:List Wsh} {r k:Nat} {st:AsgS} (h:AsgI l r k st) (hk:k < l.length) (hr:r < (l.getD k default).names.length) (hne:nmAt l k r≠⟨#[]⟩):AsgI l r (k+1) (stepW st (k,nmAt l k r)):=by
 have mono:∀ {q i:Nat},bef q i r k → bef q i r (k+1):=fun hq=>hq.imp id fun ⟨a,b⟩=>⟨a,by omega⟩
 by_cases hc:st.1.getD k default=⟨#[]⟩∧inM (nmAt l k r) st.2=false
 ·have hst:stepW st (k,nmAt l k r)=(st.1.set k (nmAt l k r),addS st.2 (nmAt l k r)):=by unfold stepW;rw [if_pos hc]
  rw [hst]
  obtain ⟨s,hs⟩:∃ s,nmAt l k r=s:=⟨_,rfl⟩
  rw [hs] at hne hc ⊢
  have hkl:k < st.1.length:=by rw [h.len];exact hk
  have hself:(st.1.set k s).getD k default=s:=getD_set_eq hkl
  have hoth:∀ i,i≠k → (st.1.set k s).getD i default=st.1.getD i default:=fun i hi=>getD_set_ne (Ne.symm hi)
  have hnot:∀ i,i < l.length → st.1.getD i default≠s:=fun i hi e=>by
   have:=h.kt i hi (by rw [e];exact hne)
   rw [e] at this
   have h2:=inM_false.1 hc.2
   exact h2 this
  have hlost:∀ i q,LostTo l st.1 i q → LostTo l (st.1.set k s) i q:=fun i q ⟨j,h1,h2,⟨h3,h3n⟩,q',h4,h5,h6⟩=>by
   refine ⟨j,h1,h2,⟨?_,h3n⟩,q',h4,h5,h6⟩
   by_cases e:j=k
   ·subst e
    rw [hc.1] at h3
    exact absurd h3.symm h3n
   ·rw [hoth j e];exact h3
  refine ⟨by rw [List.length_set];exact h.len,fun x hx=>?_,fun i hi hv=>?_,fun i j hi hj e hv=>?_,fun i hi hv=>?_,fun i hi hv q hq hql=>?_⟩
  ·rcases mem_addS.1 hx with hx|rfl
   ·obtain ⟨h1,i,h2,h3⟩:=h.tk x hx
    refine ⟨h1,i,h2,?_⟩
    by_cases e:i=k
    ·subst e;rw [hc.1] at h3;exact absurd h3.symm h1
    ·rw [hoth i e];exact h3
   ·exact ⟨hne,k,hk,hself⟩
  ·by_cases e:i=k
   ·subst e;simp only;rw [hself];exact mem_addS.2 (.inr rfl)
   ·simp only at hv ⊢;rw [hoth i e] at hv ⊢;exact mem_addS.2 (.inl (h.kt i hi hv))
  ·simp only at e hv
   by_cases e1:i=k<;>by_cases e2:j=k
   ·rw [e1,e2]
   ·subst e1;rw [hself,hoth j e2] at e;exact absurd e.symm (hnot j hj)
   ·subst e2;rw [hself,hoth i e1] at e;exact absurd e (hnot i hi)
   ·rw [hoth i e1] at e hv;rw [hoth j e2] at e;exact h.inj i j hi hj e hv
  ·simp only at hv ⊢
   by_cases e:i=k
   ·subst e
    rw [hself]
    exact ⟨r,.inr ⟨rfl,by omega⟩,hr,hs,fun p hp=>hlost _ _ (h.lost i hi hc.1 p (.inl hp) (by omega))⟩
   ·rw [hoth i e] at hv ⊢
    obtain ⟨q,h1,h2,h3,h4⟩:=h.src i hi hv
    exact ⟨q,mono h1,h2,h3,fun p hp=>hlost _ _ (h4 p hp)⟩
  ·simp only at hv ⊢
   by_cases e:i=k
   ·subst e;rw [hself] at hv;exact absurd hv hne
   ·rw [hoth i e] at hv
    refine hlost _ _ (h.lost i hi hv q ?_ hql)
    rcases hq with h1|⟨h1,h3⟩
    ·exact .inl h1
    ·exact .inr ⟨h1,by omega⟩
 ·have hst:stepW st (k,nmAt l k r)=st:=by unfold stepW;rw [if_neg hc]
  rw [hst]
  refine ⟨h.len,h.tk,h.kt,h.inj,fun i hi hv=>?_,fun i hi hv q hq hql=>?_⟩
  ·obtain ⟨q,h1,h2⟩:=h.src i hi hv
   exact ⟨q,mono h1,h2⟩
  ·rcases hq with h1|⟨h1,h3⟩
   ·exact h.lost i hi hv q (.inl h1) hql
   ·by_cases e:i=k
    ·subst e;subst h1
     have hm:nmAt l i q ∈ st.2:=by
      rw [← inM_iff]
      cases hx:inM (nmAt l i q) st.2 with
      | true=>rfl
      | false=>exact absurd ⟨hv,hx⟩ hc
     obtain ⟨h4,j,h5,h6⟩:=h.tk _ hm
     have hji:j≠i:=fun e=>by subst e;rw [hv] at h6;exact h4 h6.symm
     obtain ⟨q',h7,h8,h9,_⟩:=h.src j h5 (by rw [h6];exact h4)
     exact ⟨j,hji,h5,⟨h6,h4⟩,q',h8,by rw [h9,h6],h7⟩
    ·exact h.lost i hi hv q (.inr ⟨h1,by omega⟩) hql
structure FillI (W vals:List ByteArray) (k:Nat) (st:List ByteArray × Nat):Prop where
 len:st.1.length=vals.length
 own:∀ i,i < vals.length → (vals.getD i default≠⟨#[]⟩∨k≤i) → st.1.getD i default=vals.getD i default
 new:∀ i,i < vals.length → i < k → vals.getD i default=⟨#[]⟩ → ∃ m,m < st.2∧st.1.getD i default=ifN m∧inM (ifN m) W=false
 dif:∀ i j,i < j → j < k → j < vals.length → vals.getD i default=⟨#[]⟩ → vals.getD j default=⟨#[]⟩ → st.1.getD i default≠st.1.getD j default
 top:st.2≤k * (W.length+2)
theorem FillI.start (W vals:List ByteArray):FillI W vals 0 (vals,0):=⟨rfl,fun _ _ _=>rfl,fun i _ h=>by omega,fun i j _ h=>by omega,Nat.zero_le _⟩
theorem FillI.step {W vals:List ByteArray} {k:Nat} {st:List ByteArray × Nat} (h:FillI W vals k st) (hk:k < vals.length):FillI W vals (k+1) (fillW W st k):=by
 have hkl:k < st.1.length:=by rw [h.len];exact hk
 have hv:=h.own k hk (.inr (Nat.le_refl _))
 have hmul:(k+1) * (W.length+2)=k * (W.length+2)+(W.length+2):=by rw [Nat.succ_mul]
 by_cases hc:st.1.getD k default=⟨#[]⟩
 ·have hst:fillW W st k=(st.1.set k (ifN (freshN W st.2)),freshN W st.2+1):=by unfold fillW;rw [if_pos hc]
  rw [hst]
  have hge:=fresh_ge W st.2
  have hle:=fresh_le W st.2
  have hself:(st.1.set k (ifN (freshN W st.2))).getD k default=ifN (freshN W st.2):=getD_set_eq hkl
  have hoth:∀ i,i≠k → (st.1.set k (ifN (freshN W st.2))).getD i default=st.1.getD i default:=fun i hi=>getD_set_ne (Ne.symm hi)
  refine ⟨by rw [List.length_set];exact h.len,fun i hi ho=>?_,fun i hi hik h0=>?_,fun i j hij hj hjl h1 h2=>?_,?_⟩
  ·have e:i≠k:=fun e=>by
    subst e
    rcases ho with ho|ho
    ·rw [hv] at hc;exact ho hc
    ·omega
   simp only
   rw [hoth i e]
   exact h.own i hi (ho.imp id fun _=>by omega)
  ·simp only
   by_cases e:i=k
   ·subst e;rw [hself];exact ⟨_,by omega,rfl,fresh_not W _⟩
   ·rw [hoth i e]
    obtain ⟨m,h1,h2,h3⟩:=h.new i hi (by omega) h0
    exact ⟨m,by omega,h2,h3⟩
  ·simp only
   by_cases e:j=k
   ·subst e
    rw [hself,hoth i (by omega)]
    obtain ⟨m,h3,h4,_⟩:=h.new i (by omega) hij h1
    rw [h4]
    intro e2
    have:=ifN_inj e2
    omega
   ·rw [hoth j e,hoth i (by omega)]
    exact h.dif i j hij (by omega) hjl h1 h2
  ·have:=h.top
   simp only
   omega
 ·have hst:fillW W st k=st:=by unfold fillW;rw [if_neg hc]
  rw [hst]
  rw [hv] at hc
  refine ⟨h.len,fun i hi ho=>?_,fun i hi hik h0=>?_,fun i j hij hj hjl h1 h2=>?_,by have:=h.top;omega⟩
  ·by_cases e:i=k
   ·subst e;exact hv
   ·exact h.own i hi (ho.imp id fun _=>by omega)
  ·by_cases e:i=k
   ·subst e;exact absurd h0 hc
   ·exact h.new i hi (by omega) h0
  ·by_cases e:j=k
   ·subst e;exact absurd h2 hc
   ·exact h.dif i j hij (by omega) hjl h1 h2
end Go.Proofs.YtmbbkfffcflfcaaGreatDoor
namespace Go.Proofs.YtmbbkfffcflfcaaGreatDoor
attribute [local irreducible] PL QL PWPr PCalls Weak RetK Kontr PA
open Go.RowKit
open IntWalk renaming iteOmega → O, toNatUp → U
set_option linter.unusedVariables false
set_option linter.unusedSimpArgs false
set_option maxRecDepth 20000
theorem cmpR_ex (a b:ByteArray):∃ e:Int,cmpR a b = .two (.c (.v (.int .i64 (cmpP a b)))) (.c (.v (.int .i64 e))):=by
 unfold cmpR cmpP
 cases splitP a<;>cases splitP b<;>exact ⟨_,rfl⟩
end Go.Proofs.YtmbbkfffcflfcaaGreatDoor
