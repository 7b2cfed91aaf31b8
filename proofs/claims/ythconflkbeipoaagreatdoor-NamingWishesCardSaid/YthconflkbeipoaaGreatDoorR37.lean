/- What the program computes, and the plain laws of it, part 37. -/
import Derived.Test.YthconflkbeipoaaGreatDoorR36
namespace Go.Proofs.YthconflkbeipoaaGreatDoor
open Go.RowKit
open IntWalk renaming iteOmega → iO, toNatUp → tN
set_option linter.unusedVariables false
set_option linter.unusedSimpArgs false
theorem nodup_sub_back {α:Type} [DecidableEq α] {l m:List α} (hl:l.Nodup) (hs:∀ x ∈ l,x ∈ m) (hlen:m.length≤l.length):∀ x ∈ m,x ∈ l:=fun x hx=>Decidable.byContradiction fun hn=>by
 have h1:∀ y ∈ l,y ∈ m.erase x:=fun y hy=>(List.mem_erase_of_ne (show y≠x from fun e=>by subst e;exact hn hy)).2 (hs y hy)
 have h2:=nodup_sub_len hl h1
 rw [List.length_erase_of_mem hx] at h2
 have h3:=List.length_pos_of_mem hx
 omega
theorem wrongP_iff {names:List Atr} {x:Atr}:wrongP names x=true ↔ ∃ v,valOf names x.name=some v∧v≠x.value:=by
 unfold wrongP
 cases h:valOf names x.name with
 | none=>simp
 | some v=>simp
theorem goalP_some {names:List Atr} {x:Atr} {v:ByteArray} (h:valOf names x.name=some v):goalP names x=v:=by unfold goalP;rw [h];rfl
theorem nodup_set {l:List ByteArray} {u:ByteArray} (h:l.Nodup) (hu:u ∉ l) (i:Nat):(l.set i u).Nodup:=by
 rw [List.Nodup,List.pairwise_iff_getElem] at h ⊢
 intro a b ha hb hab
 rw [List.length_set] at ha hb
 rw [List.getElem_set,List.getElem_set]
 by_cases e1:i=a
 ·have e2:i≠b:=by omega
  rw [if_pos e1,if_neg e2]
  exact fun e=>hu (e ▸ List.getElem_mem _)
 ·rw [if_neg e1]
  by_cases e2:i=b
  ·rw [if_pos e2]
   exact fun e=>hu (e ▸ List.getElem_mem _)
  ·rw [if_neg e2]
   exact h a b ha hb hab
theorem keys_renP {now:List Atr} {i:Nat} (u:ByteArray) (hi:i < now.length):keys (renP now i u)=keys now:=by
 unfold keys renP
 rw [List.map_set,getD_lt now hi]
 refine List.ext_getElem (by simp) fun j h1 h2=>?_
 rw [List.getElem_set]
 split
 ·rename_i e;subst e;simp
 ·rfl
theorem vals_renP (now:List Atr) (i:Nat) (u:ByteArray):vals (renP now i u)=(vals now).set i u:=by
 unfold vals renP
 rw [List.map_set]
theorem len_renP (now:List Atr) (i:Nat) (u:ByteArray):(renP now i u).length=now.length:=by unfold renP;rw [List.length_set]
theorem planOk_ren {names now:List Atr} (h:PlanOk names now) {i:Nat} (hi:i < now.length) {u:ByteArray} (hw:wrongP names (now.getD i default)=true) (hu:u ∉ vals now):PlanOk names (renP now i u):=by
 refine ⟨h.nk,h.nv,?_,?_,h.ne,fun n hn=>?_,fun x hx hv=>?_⟩
 ·rw [keys_renP u hi];exact h.pk
 ·rw [vals_renP];exact nodup_set h.pv hu i
 ·rw [keys_renP u hi];exact h.there n hn
 ·rcases List.mem_or_eq_of_mem_set hx with hx|hx
  ·exact h.own x hx hv
  ·obtain ⟨v,h1,_⟩:=wrongP_iff.1 hw
   rw [hx] at hv
   simp only at hv
   rw [h1] at hv;cases hv
def wrs (names now:List Atr):Nat:=now.countP (wrongP names)
def badP (names:List Atr) (x:Atr):Bool:=wrongP names x && inM x.value (vals names)
def bads (names now:List Atr):Nat:=now.countP (badP names)
def muP (names now:List Atr):Nat:=wrs names now+bads names now
theorem bads_le (names now:List Atr):bads names now≤wrs names now:=by
 unfold bads wrs
 refine List.countP_mono_left fun x _ hx=>?_
 unfold badP at hx
 rw [Bool.and_eq_true] at hx
 exact hx.1
theorem same_of_key {l:List Atr} (hk:(keys l).Nodup) {x y:Atr} (hx:x ∈ l) (hy:y ∈ l) (e:x.name=y.name):x=y:=by
 have h1:=valOf_of hk hx
 have h2:=valOf_of hk hy
 rw [e,h2] at h1
 injection h1 with h1
 cases x;cases y
 simp only at e h1
 rw [e,h1]
theorem same_of_val {l:List Atr} (hv:(vals l).Nodup) {x y:Atr} (hx:x ∈ l) (hy:y ∈ l) (e:x.value=y.value):x=y:=by
 obtain ⟨i,hi,hia⟩:=List.getElem_of_mem hx
 obtain ⟨j,hj,hja⟩:=List.getElem_of_mem hy
 have:=key_inj (f:=Atr.value) hv hi hj (by rw [getD_lt l hi,getD_lt l hj,hia,hja,e])
 subst this
 rw [← hia,hja]
theorem goal_inj {names now:List Atr} (h:PlanOk names now) {x y:Atr} (hx:x ∈ now) (hy:y ∈ now) {v:ByteArray} (h1:valOf names x.name=some v) (h2:valOf names y.name=some v):x=y:=by
 have:=same_of_val h.nv (valOf_mem h1) (valOf_mem h2) rfl
 injection this with this _
 exact same_of_key h.pk hx hy this
theorem all_bad {names now:List Atr} (h:PlanOk names now) (hf:∀ x ∈ now,freeP names now x=false) {x:Atr} (hx:x ∈ now) (hw:wrongP names x=true):x.value ∈ vals names:=by
 have hG:((now.filter (wrongP names)).map (goalP names)).Nodup:=by
  have h1:now.Pairwise fun x y=>x.name≠y.name:=List.pairwise_map.1 h.pk
  rw [List.Nodup,List.pairwise_map]
  refine (h1.filter (wrongP names)).imp_of_mem fun {a b} ha hb hne e=>?_
  obtain ⟨ha1,ha2⟩:=List.mem_filter.1 ha
  obtain ⟨hb1,hb2⟩:=List.mem_filter.1 hb
  obtain ⟨v,h2,_⟩:=wrongP_iff.1 ha2
  obtain ⟨w,h3,_⟩:=wrongP_iff.1 hb2
  rw [goalP_some h2,goalP_some h3] at e
  subst e
  exact hne (by rw [goal_inj h ha1 hb1 h2 h3])
 have hsub:∀ g ∈ (now.filter (wrongP names)).map (goalP names),g ∈ (now.filter (wrongP names)).map Atr.value:=fun g hg=>by
  obtain ⟨a,ha,rfl⟩:=List.mem_map.1 hg
  obtain ⟨ha1,ha2⟩:=List.mem_filter.1 ha
  obtain ⟨v,h2,h2n⟩:=wrongP_iff.1 ha2
  have hfa:=hf a ha1
  unfold freeP at hfa
  rw [ha2,Bool.true_and,Bool.not_eq_false',inM_iff] at hfa
  rw [goalP_some h2] at hfa ⊢
  obtain ⟨b,hb,hbv⟩:=List.mem_map.1 hfa
  refine List.mem_map.2 ⟨b,List.mem_filter.2 ⟨hb,?_⟩,hbv⟩
  rw [wrongP_iff]
  cases h3:valOf names b.name with
  | none =>
   exfalso
   refine h.own b hb h3 ?_
   rw [hbv]
   exact List.mem_map.2 ⟨_,valOf_mem h2,rfl⟩
  | some w =>
   refine ⟨w,rfl,fun e=>?_⟩
   rw [e,hbv] at h3
   have:=goal_inj h ha1 hb h2 h3
   subst this
   exact h2n hbv.symm
 have hxv:x.value ∈ (now.filter (wrongP names)).map (goalP names):=nodup_sub_back hG hsub (by rw [List.length_map,List.length_map];exact Nat.le_refl _) _ (List.mem_map.2 ⟨x,List.mem_filter.2 ⟨hx,hw⟩,rfl⟩)
 obtain ⟨a,ha,hav⟩:=List.mem_map.1 hxv
 obtain ⟨v,h2,_⟩:=wrongP_iff.1 (List.mem_filter.1 ha).2
 rw [goalP_some h2] at hav
 rw [← hav]
 exact List.mem_map.2 ⟨_,valOf_mem h2,rfl⟩
theorem countP_renP {now:List Atr} {i:Nat} (hi:i < now.length) (u:ByteArray) (q:Atr → Bool):(renP now i u).countP q=now.countP q - (if q (now.getD i default) then 1 else 0)+(if q ⟨(now.getD i default).name,u⟩ then 1 else 0):=by
 unfold renP
 rw [List.countP_set hi,getD_lt now hi]
theorem countP_pos' {now:List Atr} {i:Nat} (hi:i < now.length) {q:Atr → Bool} (h:q (now.getD i default)=true):0 < now.countP q:=List.countP_pos_iff.2 ⟨_,by rw [getD_lt now hi];exact List.getElem_mem _,h⟩
theorem tempS_names (names now:List Atr):tempS names now ∉ vals names:=fun h=>by
 have:=temp_not (vals names++vals now)
 rw [inM_false] at this
 exact this (List.mem_append_left _ h)
theorem tempS_now (names now:List Atr):tempS names now ∉ vals now:=fun h=>by
 have:=temp_not (vals names++vals now)
 rw [inM_false] at this
 exact this (List.mem_append_right _ h)
structure NextI (names now:List Atr) (i:Nat) (u:ByteArray):Prop where
 lt:i < now.length
 wr:wrongP names (now.getD i default)=true
 no:u ∉ vals now
 ok:PlanOk names (renP now i u)
 mu:muP names (renP now i u) < muP names now
theorem nextP_spec {names now:List Atr} (h:PlanOk names now) {i:Nat} {u:ByteArray} (hn:nextP names now=some (i,u)):NextI names now i u:=by
 unfold nextP at hn
 cases h1:firstI now (freeP names now) with
 | some j =>
  rw [h1] at hn
  injection hn with hn
  injection hn with hn1 hn2
  subst hn1
  obtain ⟨g1,g2,_⟩:=firstI_some h1
  unfold freeP at g2
  rw [Bool.and_eq_true,Bool.not_eq_true',inM_false] at g2
  rw [← hn2]
  have hm:now.getD j default ∈ now:=by rw [getD_lt now g1];exact List.getElem_mem _
  obtain ⟨v,h2,h2n⟩:=wrongP_iff.1 g2.1
  refine ⟨g1,g2.1,g2.2,planOk_ren h g1 g2.1 g2.2,?_⟩
  have hnw:wrongP names ⟨(now.getD j default).name,goalP names (now.getD j default)⟩=false:=by
   cases hc:wrongP names ⟨(now.getD j default).name,goalP names (now.getD j default)⟩ with
   | false=>rfl
   | true =>
    obtain ⟨w,h3,h4⟩:=wrongP_iff.1 hc
    simp only at h3 h4
    rw [goalP_some h3] at h4
    exact absurd rfl h4
  have hw1:=countP_renP g1 (goalP names (now.getD j default)) (wrongP names)
  have hw2:=countP_renP g1 (goalP names (now.getD j default)) (badP names)
  rw [g2.1,hnw] at hw1
  have hb:badP names ⟨(now.getD j default).name,goalP names (now.getD j default)⟩=false:=by unfold badP;rw [hnw,Bool.false_and]
  rw [hb] at hw2
  have hp:=countP_pos' g1 g2.1
  unfold muP wrs bads
  rw [hw1,hw2]
  simp only [if_true,Bool.false_eq_true,if_false]
  omega
 | none =>
  rw [h1] at hn
  have hf:=firstI_none h1
  cases h2:firstI now (wrongP names) with
  | none=>rw [h2] at hn;cases hn
  | some j =>
   rw [h2] at hn
   injection hn with hn
   injection hn with hn1 hn2
   subst hn1
   obtain ⟨g1,g2,_⟩:=firstI_some h2
   rw [← hn2]
   have hm:now.getD j default ∈ now:=by rw [getD_lt now g1];exact List.getElem_mem _
   refine ⟨g1,g2,tempS_now names now,planOk_ren h g1 g2 (tempS_now names now),?_⟩
   have hbad:badP names (now.getD j default)=true:=by
    unfold badP
    rw [g2,Bool.true_and,inM_iff]
    refine all_bad h (fun x hx=>?_) hm g2
    obtain ⟨a,ha,rfl⟩:=List.getElem_of_mem hx
    have:=hf a ha
    rw [getD_lt now ha] at this
    exact this
   have hnb:badP names ⟨(now.getD j default).name,tempS names now⟩=false:=by
    unfold badP
    rw [inM_false.2 (tempS_names names now),Bool.and_false]
   have hw1:=countP_renP g1 (tempS names now) (wrongP names)
   have hw2:=countP_renP g1 (tempS names now) (badP names)
   rw [hbad,hnb] at hw2
   rw [g2] at hw1
   have hp:=countP_pos' g1 hbad
   have hp2:=countP_pos' g1 g2
   unfold muP wrs bads
   rw [hw1,hw2]
   simp only [if_true,Bool.false_eq_true,if_false]
   split<;>omega
theorem nextP_none {names now:List Atr} (h:nextP names now=none):∀ x ∈ now,wrongP names x=false:=fun x hx=>by
 unfold nextP at h
 cases h1:firstI now (freeP names now) with
 | some j=>rw [h1] at h;cases h
 | none =>
  rw [h1] at h
  cases h2:firstI now (wrongP names) with
  | some j=>rw [h2] at h;cases h
  | none =>
   obtain ⟨a,ha,rfl⟩:=List.getElem_of_mem hx
   have:=firstI_none h2 a ha
   rw [getD_lt now ha] at this
   exact this
theorem nextP_of_zero {names now:List Atr} (h:PlanOk names now) (h0:muP names now=0):nextP names now=none:=by
 cases hn:nextP names now with
 | none=>rfl
 | some p=>have:=(nextP_spec h (i:=p.1) (u:=p.2) hn).mu;omega
theorem planGo_zero {names now:List Atr} (h:nextP names now=none) (k:Nat):planGo names k now=([],now):=by
 cases k with
 | zero=>rfl
 | succ k=>rw [planGo,h]
theorem planGo_succ {names now:List Atr} {i:Nat} {u:ByteArray} (h:nextP names now=some (i,u)) (k:Nat):planGo names (k+1) now=(⟨(now.getD i default).name,(now.getD i default).value,u⟩ :: (planGo names k (renP now i u)).1,(planGo names k (renP now i u)).2):=by rw [planGo,h]
theorem planGo_fuel {names:List Atr}:∀ (k k':Nat) (now:List Atr),PlanOk names now → muP names now≤k → muP names now≤k' → planGo names k now=planGo names k' now
 | 0,k',now,h,h1,h2=>by
  have hn:=nextP_of_zero h (by omega)
  rw [planGo_zero hn,planGo_zero hn]
 | k+1,k',now,h,h1,h2=>by
  cases hn:nextP names now with
  | none=>rw [planGo_zero hn,planGo_zero hn]
  | some p =>
   obtain ⟨i,u⟩:=p
   have hs:=nextP_spec h hn
   have hmu:=hs.mu
   cases k' with
   | zero=>omega
   | succ k'=>rw [planGo_succ hn,planGo_succ hn,planGo_fuel k k' _ hs.ok (by omega) (by omega)]
def planOf (names now:List Atr):List Ren:=(planGo names (muP names now) now).1
def endOf (names now:List Atr):List Atr:=(planGo names (muP names now) now).2
theorem planOf_none {names now:List Atr} (h:nextP names now=none):planOf names now=[]∧endOf names now=now:=by unfold planOf endOf;rw [planGo_zero h];exact ⟨rfl,rfl⟩
theorem planOf_some {names now:List Atr} (h:PlanOk names now) {i:Nat} {u:ByteArray} (hn:nextP names now=some (i,u)):planOf names now=⟨(now.getD i default).name,(now.getD i default).value,u⟩ :: planOf names (renP now i u)∧endOf names now=endOf names (renP now i u):=by
 have hs:=nextP_spec h hn
 have hmu:=hs.mu
 obtain ⟨k,hk⟩:∃ k,muP names now=k+1:=⟨muP names now - 1,by omega⟩
 unfold planOf endOf
 rw [hk,planGo_succ hn,planGo_fuel k (muP names (renP now i u)) _ hs.ok (by omega) (Nat.le_refl _)]
 exact ⟨rfl,rfl⟩
theorem planOf_spec {names:List Atr}:∀ (k:Nat) (now:List Atr),PlanOk names now → muP names now≤k → (planOf names now).length≤muP names now∧(∀ x ∈ endOf names now,wrongP names x=false)∧PlanOk names (endOf names now)∧keys (endOf names now)=keys now
 | 0,now,h,h1=>by
  have hn:=nextP_of_zero h (by omega)
  rw [(planOf_none hn).1,(planOf_none hn).2]
  exact ⟨Nat.zero_le _,nextP_none hn,h,rfl⟩
 | k+1,now,h,h1=>by
  cases hn:nextP names now with
  | none =>
   rw [(planOf_none hn).1,(planOf_none hn).2]
   exact ⟨Nat.zero_le _,nextP_none hn,h,rfl⟩
  | some p =>
   obtain ⟨i,u⟩:=p
   have hs:=nextP_spec h hn
   have hmu:=hs.mu
   obtain ⟨g1,g2,g3,g4⟩:=planOf_spec k (renP now i u) hs.ok (by omega)
   rw [(planOf_some h hn).1,(planOf_some h hn).2]
   refine ⟨by rw [List.length_cons];omega,g2,g3,by rw [g4,keys_renP u hs.lt]⟩
theorem wrs_le {names now:List Atr} (h:PlanOk names now):wrs names now≤names.length:=by
 have hG:((now.filter (wrongP names)).map Atr.name).Nodup:=by
  have h1:now.Pairwise fun x y=>x.name≠y.name:=List.pairwise_map.1 h.pk
  rw [List.Nodup,List.pairwise_map]
  exact h1.filter (wrongP names)
 have h2:=nodup_sub_len hG (m:=keys names) fun n hn=>by
  obtain ⟨a,ha,rfl⟩:=List.mem_map.1 hn
  obtain ⟨v,h2,_⟩:=wrongP_iff.1 (List.mem_filter.1 ha).2
  exact List.mem_map.2 ⟨_,valOf_mem h2,rfl⟩
 unfold wrs
 rw [List.countP_eq_length_filter]
 rw [List.length_map] at h2
 unfold keys at h2
 rw [List.length_map] at h2
 exact h2
theorem planOf_len {names now:List Atr} (h:PlanOk names now):(planOf names now).length≤2 * names.length:=by
 have h1:=(planOf_spec _ now h (Nat.le_refl _)).1
 have h2:=wrs_le h
 have h3:=bads_le names now
 unfold muP at h1
 omega
end Go.Proofs.YthconflkbeipoaaGreatDoor
namespace Go.Proofs.YthconflkbeipoaaGreatDoor
attribute [local irreducible] PL QL PWPr PCalls Weak RetK Kontr PA
open Go.RowKit
open IntWalk renaming iteOmega → iO, toNatUp → tN
set_option linter.unusedVariables false
set_option linter.unusedSimpArgs false
set_option maxRecDepth 20000
def fitAt (now names:List Atr) (i:Nat):Bool:=(((valOf now (names.getD i default).name).isSome && !inM (names.getD i default).name (keys (names.take i))) && !inM (names.getD i default).value (vals (names.take i))) && ifaceS (names.getD i default).value
def fitsB (now names:List Atr):Bool:=((List.range names.length).all fun i=>fitAt now names i) && !(now.any fun x=>inM x.value (vals names) && !inM x.name (keys names))
theorem keys_snoc (names:List Atr) {k:Nat} (hk:k < names.length):keys (names.take (k+1))=keys (names.take k)++[(names.getD k default).name]:=by
 unfold keys
 rw [List.take_succ_eq_append_getElem hk,List.map_append,List.map_singleton,getD_lt names hk]
theorem vals_snoc (names:List Atr) {k:Nat} (hk:k < names.length):vals (names.take (k+1))=vals (names.take k)++[(names.getD k default).value]:=by
 unfold vals
 rw [List.take_succ_eq_append_getElem hk,List.map_append,List.map_singleton,getD_lt names hk]
theorem addS_snoc {l:List ByteArray} {s:ByteArray} (h:inM s l=false):addS l s=l++[s]:=by unfold addS;rw [h];rfl
theorem fitsB_no {now names:List Atr} {i:Nat} (hi:i < names.length) (h:fitAt now names i=false):fitsB now names=false:=by
 unfold fitsB
 rw [Bool.and_eq_false_iff]
 left
 cases hc:(List.range names.length).all fun i=>fitAt now names i with
 | false=>rfl
 | true =>
  have:=List.all_eq_true.1 hc i (List.mem_range.2 hi)
  rw [h] at this;cases this
abbrev fitO (V K:List ByteArray):List Ob:=[.box 75 [.mp 2],.box 75 [.mp 3],.map none false (setE V),.map none false (setE K)]
theorem fits1_pure (V K:List ByteArray) (a:Atr):PCalls Tryz.prog 79 [.agg (a.d.map D.e),.c (.ptr 0 0),.c (.ptr 1 0)] (fitO V K) fun r os=>r = .c (.v (.bool (inM a.value V && !inM a.name K)))∧os=fitO V K:=by
 have h1:=lk_set V a.value
 have h2:=lk_set K a.name
 cases hv:inM a.value V with
 | false =>
  rw [hv] at h1
  refine pcalls_of Tryz.func79 rfl (by simp [Tryz.ntmps79]) ?_
  rw [Tryz.ntmps79,Tryz.results79]
  push_cast [iO,tN]
  repeat' (first|((first|refine pG ?_|refine pQ ?_|refine pU ?_);push_cast [iO,tN,h1])|(refine pif (fun h=>?_) (fun h=>?_)<;>first|exact pN h|push_cast [iO,tN,h1]))
  (refine retK_of [0,1,2,3] ?_;push_cast [iO,tN])
 | true =>
  rw [hv] at h1
  cases hk:inM a.name K with
  | false =>
   rw [hk] at h2
   refine pcalls_of Tryz.func79 rfl (by simp [Tryz.ntmps79]) ?_
   rw [Tryz.ntmps79,Tryz.results79]
   push_cast [iO,tN]
   repeat' (first|((first|refine pG ?_|refine pQ ?_|refine pU ?_);push_cast [iO,tN,h1,h2])|(refine pif (fun h=>?_) (fun h=>?_)<;>first|exact pN h|push_cast [iO,tN,h1,h2]))
   (refine retK_of [0,1,2,3] ?_;push_cast [iO,tN])
  | true =>
   rw [hk] at h2
   refine pcalls_of Tryz.func79 rfl (by simp [Tryz.ntmps79]) ?_
   rw [Tryz.ntmps79,Tryz.results79]
   push_cast [iO,tN]
   repeat' (first|((first|refine pG ?_|refine pQ ?_|refine pU ?_);push_cast [iO,tN,h1,h2])|(refine pif (fun h=>?_) (fun h=>?_)<;>first|exact pN h|push_cast [iO,tN,h1,h2]))
   (refine retK_of [0,1,2,3] ?_;push_cast [iO,tN])
set_option maxHeartbeats 8000000 in
theorem fits_pure (now names:List Atr) (hn:now.length≤1000000) (hm:names.length≤1000000) (hz:∀ x ∈ names,x.value.size≤9223372036854775807) :
  PCalls Tryz.prog 40 [.c (.sl 2 (now.map Atr.d)),.c (.sl 2 (names.map Atr.d))] [] fun r os=>r = .c (.v (.bool (fitsB now names)))∧os=[]:=by
 refine pcalls_of Tryz.func40 rfl (by simp [Tryz.ntmps40]) ?_
 rw [Tryz.ntmps40,Tryz.results40]
 push_cast [iO,tN]
 have cB:CutB 11 [13,14,15]:=trivial
 repeat' (first|((first|refine pC ?_|refine pQC ?_|refine pU ?_);push_cast [iO,tN])|(refine pif (fun h=>?_) (fun h=>?_)<;>first|exact pN h|push_cast [iO,tN]))
 (apply pwp_loop3 (α:=Nat) 11 [13,14,15] (fun k=>[(15,.c (.v (.int .i64 k)))]) (fun k=>[(0,.map none false (setE (keys (names.take k)))),(1,.map none false (setE (vals (names.take k))))]) (fun k=>k≤names.length∧∀ j,j < k → fitAt now names j=true) (fun k=>names.length - k) (0);(focus ((try push_cast [iO,tN]);rfl));(focus exact ⟨Nat.zero_le _,fun j hj=>by omega⟩);(focus ((refine weak_fg ?_;try push_cast [iO,tN]);(try (exact ⟨rfl,rfl⟩)))))
 rintro k ⟨hk,hpre⟩
 push_cast [iO,tN]
 by_cases hlt:k < names.length
 case neg =>
  have hk2:k=names.length:=by omega
  subst hk2
  rw [List.take_length]
  have hall:((List.range names.length).all fun i=>fitAt now names i)=true:=List.all_eq_true.2 fun j hj=>hpre j (List.mem_range.1 hj)
  have hfb:fitsB now names = !(now.any fun x=>inM x.value (vals names) && !inM x.name (keys names)):=by unfold fitsB;rw [hall,Bool.true_and]
  have hc:=containsFuncB_pure now (by omega) 79 [0,1] (fitO (vals names) (keys names)) (fun x=>inM x.value (vals names) && !inM x.name (keys names)) ⟨by kernel_rfl,fun x _=>fits1_pure (vals names) (keys names) x⟩
  repeat' (first |  ((refine plc [3,2,1,0] (hc) ?_ ?_;push_cast [iO,tN];rintro r os ⟨rfl,rfl⟩;push_cast [iO,tN]))  | ((first|refine pC ?_|refine pQC ?_|refine pU ?_);push_cast [iO,tN])|(refine pif (fun h=>?_) (fun h=>?_)<;>first|exact pN h|push_cast [iO,tN]))
  (refine retK_of [] ?_;push_cast [iO,tN,hfb])
 obtain ⟨a,ha⟩:∃ a,names.getD k default=a:=⟨_,rfl⟩
 have ham:a ∈ names:=by rw [← ha,getD_lt names hlt];exact List.getElem_mem _
 have hg:=dget_pure now a.name (by omega)
 have hif:=iface_pure a.value (hz a ham)
 have hkp:=lk_set (keys (names.take k)) a.name
 have hvp:=lk_set (vals (names.take k)) a.value
 have hks:=keys_snoc names hlt
 have hvs:=vals_snoc names hlt
 rw [ha] at hks hvs
 have hat:fitAt now names k=((((valOf now a.name).isSome && !inM a.name (keys (names.take k))) && !inM a.value (vals (names.take k))) && ifaceS a.value):=by unfold fitAt;rw [ha]
 have hmk:=mput_set a.name (keys (names.take k))
 have hmv:=mput_set a.value (vals (names.take k))
 obtain ⟨K,hK⟩:∃ K,keys (names.take k)=K:=⟨_,rfl⟩
 obtain ⟨V,hV⟩:∃ V,vals (names.take k)=V:=⟨_,rfl⟩
 rw [hK] at hkp hks hat hmk ⊢
 rw [hV] at hvp hvs hat hmv ⊢
 cases h1:(valOf now a.name).isSome with
 | false =>
  rw [h1] at hg hat
  have hno:=fitsB_no hlt (hat.trans rfl)
  repeat' (first|((refine plc [] (hg) ?_ ?_;push_cast [iO,tN,ha];rintro r os ⟨rfl,rfl⟩;push_cast [iO,tN,ha]))|((first|refine pC ?_|refine pQC ?_|refine pU ?_);push_cast [iO,tN,ha])|(refine pif (fun h=>?_) (fun h=>?_)<;>first|exact pN h|push_cast [iO,tN,ha]))
  (refine retK_of [] ?_;push_cast [iO,tN,hno])
 | true =>
  rw [h1] at hg hat
  cases h2:inM a.name K with
  | true =>
   rw [h2] at hkp hat
   have hno:=fitsB_no hlt (hat.trans rfl)
   repeat' (first|((refine plc [] (hg) ?_ ?_;push_cast [iO,tN,ha,hkp];rintro r os ⟨rfl,rfl⟩;push_cast [iO,tN,ha,hkp]))|((first|refine pC ?_|refine pQC ?_|refine pU ?_);push_cast [iO,tN,ha,hkp])|(refine pif (fun h=>?_) (fun h=>?_)<;>first|exact pN h|push_cast [iO,tN,ha,hkp]))
   (refine retK_of [] ?_;push_cast [iO,tN,hno])
  | false =>
   rw [h2] at hkp hat
   cases h3:inM a.value V with
   | true =>
    rw [h3] at hvp hat
    have hno:=fitsB_no hlt (hat.trans rfl)
    repeat' (first|((refine plc [] (hg) ?_ ?_;push_cast [iO,tN,ha,hkp,hvp];rintro r os ⟨rfl,rfl⟩;push_cast [iO,tN,ha,hkp,hvp]))|((first|refine pC ?_|refine pQC ?_|refine pU ?_);push_cast [iO,tN,ha,hkp,hvp])|(refine pif (fun h=>?_) (fun h=>?_)<;>first|exact pN h|push_cast [iO,tN,ha,hkp,hvp]))
    (refine retK_of [] ?_;push_cast [iO,tN,hno])
   | false =>
    rw [h3] at hvp hat
    cases h4:ifaceS a.value with
    | false =>
     rw [h4] at hif hat
     have hno:=fitsB_no hlt (hat.trans rfl)
     repeat' (first|((refine plc [] (hg) ?_ ?_;push_cast [iO,tN,ha,hkp,hvp];rintro r os ⟨rfl,rfl⟩;push_cast [iO,tN,ha,hkp,hvp]))|((refine plc [] (hif) ?_ ?_;push_cast [iO,tN,ha,hkp,hvp];rintro r os ⟨rfl,rfl⟩;push_cast [iO,tN,ha,hkp,hvp]))|((first|refine pC ?_|refine pQC ?_|refine pU ?_);push_cast [iO,tN,ha,hkp,hvp])|(refine pif (fun h=>?_) (fun h=>?_)<;>first|exact pN h|push_cast [iO,tN,ha,hkp,hvp]))
     (refine retK_of [] ?_;push_cast [iO,tN,hno])
    | true =>
     rw [h4] at hif hat
     rw [addS_snoc h2] at hmk
     rw [addS_snoc h3] at hmv
     repeat' (first|((refine plc [] (hg) ?_ ?_;push_cast [iO,tN,ha,hkp,hvp];rintro r os ⟨rfl,rfl⟩;push_cast [iO,tN,ha,hkp,hvp]))|((refine plc [] (hif) ?_ ?_;push_cast [iO,tN,ha,hkp,hvp];rintro r os ⟨rfl,rfl⟩;push_cast [iO,tN,ha,hkp,hvp]))|((refine pwp_cut 11 [13,14,15] ?_;apply pwp_drawn_to;(focus kernel_rfl);(focus (simp only [List.length_cons,List.length_nil,Nat.reduceAdd];(repeat' first|((first|refine pah 1 ?_|refine pah 4 ?_);push_cast [iO,tN,  ha,hmk,hmv])|(refine pad ?_;first|with_reducible exact weak_cutS 11 [13,14,15] _|(refine weak_fg ?_;push_cast [iO,tN,  ha,hmk,hmv]))|((first|refine pas [0] ?_|refine pas [2] ?_|refine pas [3] ?_|refine pas [5] ?_|refine pas [6] ?_|refine pas [7] ?_);push_cast [iO,tN,  ha,hmk,hmv])|((first|refine pas [0,2] ?_|refine pas [0,3] ?_|refine pas [0,5] ?_|refine pas [2,3] ?_|refine pas [2,5] ?_|refine pas [3,5] ?_|refine pas [3,6] ?_|refine pas [5,6] ?_);push_cast [iO,tN,  ha,hmk,hmv];refine ⟨?_,?_⟩)|((first|refine pas [0,2,3] ?_|refine pas [0,2,5] ?_|refine pas [0,3,5] ?_|refine pas [2,3,5] ?_|refine pas [3,5,6] ?_);push_cast [iO,tN,  ha,hmk,hmv];refine ⟨?_,?_,?_⟩)|((first|refine pas [0,2,3,5] ?_);push_cast [iO,tN,  ha,hmk,hmv];refine ⟨?_,?_,?_,?_⟩));done));push_cast [iO,tN,  ha,hmk,hmv]))|((first|refine pC ?_|refine pQC ?_|refine pU ?_);push_cast [iO,tN,ha,hkp,hvp])|(refine pif (fun h=>?_) (fun h=>?_)<;>first|exact pN h|push_cast [iO,tN,ha,hkp,hvp]))
     refine ⟨k+1,⟨by omega,fun j hj=>?_⟩,by (refine weak_fg ?_;push_cast [iO,tN,hks,hvs]),by omega⟩
     by_cases e:j=k
     ·rw [e,hat];rfl
     ·exact hpre j (by omega)
end Go.Proofs.YthconflkbeipoaaGreatDoor
namespace Go.Proofs.YthconflkbeipoaaGreatDoor
open Go.RowKit
open IntWalk renaming iteOmega → iO, toNatUp → tN
set_option linter.unusedVariables false
set_option linter.unusedSimpArgs false
theorem valOf_isSome (l:List Atr) (n:ByteArray):(valOf l n).isSome=inM n (keys l):=by
 cases h:valOf l n with
 | none=>rw [inM_false.2 (valOf_none h)];rfl
 | some v=>rw [inM_iff.2 (show n ∈ keys l from List.mem_map.2 ⟨_,valOf_mem h,rfl⟩)];rfl
theorem check_net {d:Dev} (h:checkM d=0) (hk:d.kind=4):ifaceS d.name=true∧ifaceS d.original=true:=by
 have hK:kindM d=true:=by
  cases hc:kindM d with
  | true=>rfl
  | false =>
   have h1:=checkM_nums h
   have h2:=checkM_named h
   unfold checkM at h
   rw [h1,h2,hc] at h
   simp at h
 unfold kindM at hK
 rw [if_pos hk,Bool.and_eq_true] at hK
 exact hK
theorem take_key {names:List Atr} {f:Atr → ByteArray} (h:∀ j,j < names.length → f (names.getD j default) ∉ (names.take j).map f):(names.map f).Nodup:=by
 rw [List.Nodup,List.pairwise_iff_getElem]
 intro i j hi hj hij e
 rw [List.length_map] at hi hj
 rw [List.getElem_map,List.getElem_map] at e
 refine h j hj ?_
 rw [getD_lt names hj,← e]
 exact List.mem_map.2 ⟨_,List.mem_take_iff_getElem.2 ⟨i,by omega,rfl⟩,rfl⟩
theorem now_mem {l:List Dev} {x:Atr}:x ∈ nowP l ↔ ∃ d ∈ l,d.kind=4∧x=nowA l d:=by
 unfold nowP nowK
 rw [List.take_length,List.mem_map]
 constructor
 ·rintro ⟨d,hd,rfl⟩
  obtain ⟨h1,h2⟩:=List.mem_filter.1 hd
  exact ⟨d,h1,by simpa using h2,rfl⟩
 ·rintro ⟨d,h1,h2,rfl⟩
  exact ⟨d,List.mem_filter.2 ⟨h1,by simpa using h2⟩,rfl⟩
theorem net_nodup {l:List Dev} (hn:(l.map Dev.index).Nodup) {f:Dev → ByteArray} (hf:∀ d ∈ l,∀ e ∈ l,d.kind=4 → e.kind=4 → f d=f e → d=e):((l.filter fun d=>decide (d.kind=4)).map f).Nodup:=by
 have h1:l.Pairwise fun a b=>a≠b:=(List.pairwise_map.1 hn).imp fun h e=>h (by rw [e])
 rw [List.Nodup,List.pairwise_map]
 refine (h1.filter _).imp_of_mem fun {a b} ha hb hne e=>?_
 obtain ⟨a1,a2⟩:=List.mem_filter.1 ha
 obtain ⟨b1,b2⟩:=List.mem_filter.1 hb
 exact hne (hf a a1 b b1 (by simpa using a2) (by simpa using b2) e)
theorem now_keys (l:List Dev):keys (nowP l)=(l.filter fun d=>decide (d.kind=4)).map fun d=>placeM l d.index:=by
 unfold keys nowP nowK
 rw [List.take_length,List.map_map]
 rfl
theorem now_vals (l:List Dev):vals (nowP l)=(l.filter fun d=>decide (d.kind=4)).map Dev.name:=by
 unfold vals nowP nowK
 rw [List.take_length,List.map_map]
 rfl
theorem now_kn {l:List Dev} (ht:Okt l):(keys (nowP l)).Nodup:=by
 rw [now_keys]
 exact net_nodup ht.nodup fun d hd e he _ _ h=>place_inj ht hd he h
theorem now_vn {l:List Dev} (ht:Okt l) (hn:NetT l):(vals (nowP l)).Nodup:=by
 rw [now_vals]
 exact net_nodup ht.nodup fun d hd e he h1 h2 h=>hn d hd e he h1 h2 h
theorem fits_planOk {l:List Dev} (ht:Okt l) (hn:NetT l) {names:List Atr} (h:fitsB (nowP l) names=true):PlanOk names (nowP l):=by
 unfold fitsB at h
 rw [Bool.and_eq_true,Bool.not_eq_true'] at h
 obtain ⟨h1,h2⟩:=h
 have hat:∀ i,i < names.length → ((((valOf (nowP l) (names.getD i default).name).isSome=true∧inM (names.getD i default).name (keys (names.take i))=false)∧inM (names.getD i default).value (vals (names.take i))=false)∧ifaceS (names.getD i default).value=true):=fun i hi=>by
  have:=List.all_eq_true.1 h1 i (List.mem_range.2 hi)
  unfold fitAt at this
  rw [Bool.and_eq_true,Bool.and_eq_true,Bool.and_eq_true,Bool.not_eq_true',Bool.not_eq_true'] at this
  exact this
 refine ⟨?_,?_,now_kn ht,now_vn ht hn,fun v hv=>?_,fun n hm=>?_,fun x hx hv hm=>?_⟩
 ·exact take_key fun j hj=>inM_false.1 (hat j hj).1.1.2
 ·exact take_key fun j hj=>inM_false.1 (hat j hj).1.2
 ·obtain ⟨a,ha,rfl⟩:=List.mem_map.1 hv
  obtain ⟨i,hi,rfl⟩:=List.getElem_of_mem ha
  have:=(hat i hi).2
  rw [getD_lt names hi] at this
  exact iface_ne this
 ·obtain ⟨a,ha,rfl⟩:=List.mem_map.1 hm
  obtain ⟨i,hi,rfl⟩:=List.getElem_of_mem ha
  have:=(hat i hi).1.1.1
  rw [getD_lt names hi,Option.isSome_iff_exists] at this
  obtain ⟨v,hv⟩:=this
  exact List.mem_map.2 ⟨_,valOf_mem hv,rfl⟩
 ·have h3:=List.any_eq_false.1 h2 x hx
  rw [inM_iff.2 hm,inM_false.2 (valOf_none hv)] at h3
  exact h3 rfl
def addI (l:List ByteArray) (s:ByteArray):List ByteArray:=if ifaceS s=true then addC l s else l
def candR (r:Rcd) (pol:List ByteArray) (o:ByteArray):List ByteArray:=((r.name :: pol.map fun k=>(valOf r.props k).getD ⟨#[]⟩)++[o]).foldl addI []
theorem iface_nil:ifaceS ⟨#[]⟩=false:=by decide +kernel
theorem addI_opt (r:Rcd) (l:List ByteArray) (key:ByteArray):addI l ((valOf r.props key).getD ⟨#[]⟩)=stepC r l key:=by
 unfold addI stepC
 cases hv:valOf r.props key with
 | none=>simp [iface_nil]
 | some v=>simp
theorem candR_eq {r:Rcd} {pol:List ByteArray} {o:ByteArray} (h:ifaceS o=true):candR r pol o=candM r pol o:=by
 unfold candR candM candK
 rw [List.foldl_append,List.foldl_cons,List.foldl_nil,List.foldl_cons,List.foldl_map]
 have he:(fun l key=>addI l ((valOf r.props key).getD ⟨#[]⟩))=stepC r:=by funext l key;exact addI_opt r l key
 rw [he]
 simp only [addI,h,if_true]
theorem addI_len (l:List ByteArray) (s:ByteArray):(addI l s).length≤l.length+1:=by
 unfold addI
 split
 ·exact addC_len l s
 ·omega
theorem foldI_snoc (all:List ByteArray) {k:Nat} (hk:k < all.length):(all.take (k+1)).foldl addI []=addI ((all.take k).foldl addI []) (all.getD k default):=by
 rw [List.take_succ_eq_append_getElem hk,List.foldl_append,getD_lt all hk]
 rfl
theorem foldI_len (all:List ByteArray):∀ k,k≤all.length → ((all.take k).foldl addI []).length≤k
 | 0,_=>by simp
 | k+1,h=>by
  rw [foldI_snoc all h]
  have:=foldI_len all k (by omega)
  have:=addI_len ((all.take k).foldl addI []) (all.getD k default)
  omega
end Go.Proofs.YthconflkbeipoaaGreatDoor
