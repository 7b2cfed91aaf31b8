/- What the program computes, and the plain laws of it, part 43. -/
import Derived.Test.YtmjffgienmcabaaGreatDoorS39
namespace Go.Proofs.YtmjffgienmcabaaGreatDoor
attribute [local irreducible] PL QL PWPr PCalls Weak RetK Kontr PA
open Go.RowKit
open IntWalk renaming iteOmega → iO, toNatUp → tN
set_option linter.unusedVariables false
set_option linter.unusedSimpArgs false
set_option maxRecDepth 20000
noncomputable def hardF (M:List Mod) (n:ByteArray):List ByteArray:=(hardL M n).filter fun x=>(modOf M x).isSome
theorem filt_step {l:List ByteArray} {k:Nat} (p:ByteArray → Bool) (hk:k < l.length):(l.take (k+1)).filter p=(l.take k).filter p++if p (l.getD k default)=true then [l.getD k default] else []:=by
 rw [List.take_succ_eq_append_getElem hk,List.filter_append,getD_lt l hk]
 congr 1
 by_cases h:p l[k]=true<;>simp [h]
set_option maxHeartbeats 4000000 in
theorem rHard_some (c:Cfg) (n:ByteArray) (hS:Small c.modules) (h:¬ modOf c.modules n=none) :
  PCalls Tryz.prog 90 [.agg c.e,.c (.v (.string n))] [] fun r os=>r = .two (.c (.sl 1 ((hardF c.modules n).map strD))) (.c (.v (.int .i64 0)))∧os=[]:=by
 have hl:=hS.len
 have hall:=hS.all
 have hrl:=(reach_spec c.modules n).2.2
 have hH:=(hard_spec c.modules n).2.2
 have hpr:=put_reach c.modules n
 obtain ⟨H,hHe⟩:∃ H,hardL c.modules n=H:=⟨_,rfl⟩
 have hok:(modOf c.modules n).isSome=true:=by cases hm:modOf c.modules n with
  | none=>exact absurd hm h
  | some m=>rfl
 unfold hardF
 rw [hHe] at hH ⊢
 refine pcalls_of Tryz.func90 rfl (by simp [Tryz.ntmps90]) ?_
 rw [Tryz.ntmps90,Tryz.results90]
 push_cast [iO,tN]
 repeat' (first|(refine plc [] (module_pure c.modules n (by omega)) ?_ ?_;push_cast [iO,tN,hok,hpr,hHe];rintro r os ⟨rfl,rfl⟩;push_cast [iO,tN,hok,hpr,hHe])|(refine plc [] (rReached_pure c n hS) ?_ ?_;push_cast [iO,tN,hok,hpr,hHe];rintro r os ⟨rfl,rfl⟩;push_cast [iO,tN,hok,hpr,hHe])|(refine plc [] (put_pure (reachL c.modules n) n (by omega)) ?_ ?_;push_cast [iO,tN,hok,hpr,hHe];rintro r os ⟨rfl,rfl⟩;push_cast [iO,tN,hok,hpr,hHe])|((first|refine pG ?_|refine pQ ?_|refine pU ?_);push_cast [iO,tN,hok,hpr,hHe])|(refine pif (fun h=>?_) (fun h=>?_)<;>first|exact pN h|push_cast [iO,tN,hok,hpr,hHe]))
 refine pwp_weak (weak_adopt 9 9 1 (by omega) (by push_cast [iO,tN])) ?_
 push_cast [iO,tN]
 refine pwp_loop2 (α:=Nat × List ByteArray) (fun x=>x.1≤H.length∧x.2=(H.take x.1).filter fun y=>(modOf c.modules y).isSome) (fun x=>⟨[(10,.c (.v (.int .i64 x.1))),(9,.c (.own 1 x.2.length)),(8,.c (.sl 1 (H.map strD))),(4,.c (.v (.slice none 0 0))),(2,.c (.ptr 0 0))],[.box 32 c.e,.arr 9 1 (x.2.map strD)]⟩) (fun x=>H.length - x.1) (0,[]) ⟨by simp,by simp⟩ (by (refine weak_keep true [0,2] ?_;push_cast [iO,tN])) ?_
 rintro ⟨k,out⟩ ⟨hk,hout⟩
 simp only at hk hout
 have hol:out.length≤H.length:=by rw [hout];exact Nat.le_trans (List.length_filter_le _ _) (by rw [List.length_take];omega)
 by_cases hlt:k < H.length
 ·obtain ⟨m2,hm2⟩:∃ m2,(modOf c.modules (H.getD k default)).getD noMod=m2:=⟨_,rfl⟩
  have hst:=filt_step (fun y=>(modOf c.modules y).isSome) hlt
  obtain ⟨ok,hok2⟩:∃ ok,(modOf c.modules (H.getD k default)).isSome=ok:=⟨_,rfl⟩
  rw [hok2] at hst
  cases ok
  all_goals repeat' (first|((refine pwp_drawn_to ⟨[(12,.c (.v (.bool (modOf c.modules (H.getD k default)).isSome))),(11,.c (.ptr 2 0)),(10,.c (.v (.int .i64 k))),(9,.c (.own 1 out.length)),(8,.c (.sl 1 (H.map strD))),(4,.c (.v (.slice none 0 0))),(2,.c (.ptr 0 0))],[.box 32 c.e,.arr 9 1 (out.map strD),.box 46 m2.e]⟩ (by kernel_rfl) ?_ ?_;(focus (simp only [List.length_cons,List.length_nil,Nat.reduceAdd];(repeat' first|(refine plc [] (module_pure c.modules (H.getD k default) (by omega)) ?_ ?_;push_cast [iO,tN,  hm2,hok2 ];rintro r os ⟨rfl,rfl⟩;push_cast [iO,tN,  hm2,hok2 ])|((first|refine pah 0 ?_|refine pah 2 ?_|refine pah 3 ?_|refine pah 4 ?_|refine pah 7 ?_|refine pah 8 ?_|refine pah 9 ?_|refine pah 12 ?_);push_cast [iO,tN,  hm2,hok2 ])|(refine pad ?_;refine weak_fg ?_;push_cast [iO,tN,  hm2,hok2 ])|((first|refine pas [1] ?_|refine pas [5] ?_|refine pas [6] ?_|refine pas [10] ?_|refine pas [11] ?_);push_cast [iO,tN,  hm2,hok2 ])|((first|refine pas [1,5] ?_|refine pas [1,6] ?_|refine pas [1,10] ?_|refine pas [1,11] ?_|refine pas [5,6] ?_|refine pas [5,10] ?_|refine pas [5,11] ?_|refine pas [6,10] ?_|refine pas [6,11] ?_|refine pas [10,11] ?_);push_cast [iO,tN,  hm2,hok2 ];refine ⟨?_,?_⟩)|((first|refine pas [1,5,6] ?_|refine pas [1,5,10] ?_|refine pas [1,5,11] ?_|refine pas [1,6,10] ?_|refine pas [1,6,11] ?_|refine pas [1,10,11] ?_|refine pas [5,6,10] ?_|refine pas [5,6,11] ?_|refine pas [5,10,11] ?_|refine pas [6,10,11] ?_);push_cast [iO,tN,  hm2,hok2 ];refine ⟨?_,?_,?_⟩));done));push_cast [iO,tN,  hm2,hok2 ]))|((first|refine pG ?_|refine pQ ?_|refine pU ?_);push_cast [iO,tN,hm2,hok2])|(refine pif (fun h=>?_) (fun h=>?_)<;>first|exact pN h|push_cast [iO,tN,hm2,hok2]))
  ·exact ⟨(k+1,out),⟨by simp only;omega,by simp only [hst,← hout];simp⟩,by (refine weak_fg ?_;push_cast [iO,tN]),by simp only;omega⟩
  ·exact ⟨(k+1,out++[H.getD k default]),⟨by simp only;omega,by simp only [hst,← hout];simp⟩,by (refine weak_fg ?_;push_cast [iO,tN]),by simp only;omega⟩
 ·rw [List.take_of_length_le (by omega)] at hout
  have htk:=List.take_of_length_le (l:=out.map strD) (i:=out.length) (by simp)
  refine pwp_weak (weak_frz 1 (by omega)) ?_
  push_cast [iO,tN,htk]
  repeat' (first|((first|refine pG ?_|refine pQ ?_|refine pU ?_);push_cast [iO,tN])|(refine pif (fun h=>?_) (fun h=>?_)<;>first|exact pN h|push_cast [iO,tN]))
  (refine retK_of [] ?_;push_cast [iO,tN])
  rw [hout]
noncomputable def addL (M:List Mod) (off l:List ByteArray) (n:ByteArray):List ByteArray:=if whyV M off n=0 then putAll l (hardL M n) else l
theorem hardF_all {M:List Mod} {off:List ByteArray} {n:ByteArray} (h:whyV M off n=0):hardF M n=hardL M n:=List.filter_eq_self.2 fun x hx=>by
 cases hm:modOf M x with
 | none=>exact absurd hm (whyV_zero h x hx)
 | some m=>rfl
set_option maxHeartbeats 4000000 in
theorem rAdd_pure (c:Cfg) (l:List ByteArray) (n:ByteArray) (hc:CfgOk c) (hlen:l.length≤100000) (ha:asc l) :
  PCalls Tryz.prog 58 [.agg c.e,.c (.sl 1 (l.map strD)),.c (.v (.string n))] [] fun r os=>r = .c (.sl 1 ((addL c.modules c.off l n).map strD))∧os=[]:=by
 have hS:=hc.small
 have hall:=hS.all
 have hH:=(hard_spec c.modules n).2.2
 have hcan:=rCan_pure c n hc
 refine pcalls_of Tryz.func58 rfl (by simp [Tryz.ntmps58]) ?_
 rw [Tryz.ntmps58,Tryz.results58]
 unfold addL
 by_cases h0:whyV c.modules c.off n=0
 ·rw [if_pos h0]
  rw [h0] at hcan
  simp only [decide_true] at hcan
  have hhd:=rHard_some c n hS (whyV_zero h0 n (hard_self _ _))
  rw [hardF_all h0] at hhd
  obtain ⟨H,hHe⟩:∃ H,hardL c.modules n=H:=⟨_,rfl⟩
  rw [hHe] at hhd hH ⊢
  push_cast [iO,tN]
  repeat' (first |  (refine plc [] (hcan) ?_ ?_;push_cast [iO,tN];rintro r os ⟨rfl,rfl⟩;push_cast [iO,tN])|(refine plc [] (hhd) ?_ ?_;push_cast [iO,tN];rintro r os ⟨rfl,rfl⟩;push_cast [iO,tN])  | ((first|refine pG ?_|refine pQ ?_|refine pU ?_);push_cast [iO,tN])|(refine pif (fun h=>?_) (fun h=>?_)<;>first|exact pN h|push_cast [iO,tN]))
  refine pwp_loop2 (α:=Nat) (fun k=>k≤H.length) (fun k=>⟨[(9,.c (.v (.int .i64 k))),(7,.c (.sl 1 (H.map strD))),(6,.c (.v (.slice none 0 0))),(3,.c (.ptr 0 0)),(1,.c (.sl 1 ((putAll l (H.take k)).map strD)))],[.box 32 c.e]⟩) (fun k=>H.length - k) 0 (by omega) (by (refine weak_fg ?_;push_cast [iO,tN]);try rfl) ?_
  intro k hk
  by_cases hlt:k < H.length
  ·have hp:=putAll_step (l:=l) hlt
   have hpl:=(putAll_spec (H.take k) l ha).2.2.2.2
   simp only [List.length_take] at hpl
   repeat' (first |  (refine plc [] (put_pure (putAll l (H.take k)) (H.getD k default) (by omega)) ?_ ?_;push_cast [iO,tN];rintro r os ⟨rfl,rfl⟩;push_cast [iO,tN])  | ((first|refine pG ?_|refine pQ ?_|refine pU ?_);push_cast [iO,tN])|(refine pif (fun h=>?_) (fun h=>?_)<;>first|exact pN h|push_cast [iO,tN]))
   exact ⟨k+1,by omega,by (refine weak_fg ?_;push_cast [iO,tN,hp]),by omega⟩
  ·rw [List.take_of_length_le (by omega)]
   repeat' (first|((first|refine pG ?_|refine pQ ?_|refine pU ?_);push_cast [iO,tN])|(refine pif (fun h=>?_) (fun h=>?_)<;>first|exact pN h|push_cast [iO,tN]))
   (refine retK_of [] ?_;push_cast [iO,tN])
 ·rw [if_neg h0]
  simp only [h0,decide_false] at hcan
  push_cast [iO,tN]
  repeat' (first |  (refine plc [] (hcan) ?_ ?_;push_cast [iO,tN];rintro r os ⟨rfl,rfl⟩;push_cast [iO,tN])  | ((first|refine pG ?_|refine pQ ?_|refine pU ?_);push_cast [iO,tN])|(refine pif (fun h=>?_) (fun h=>?_)<;>first|exact pN h|push_cast [iO,tN]))
  (refine retK_of [] ?_;push_cast [iO,tN])
set_option maxRecDepth 20000
theorem addL_spec {M:List Mod} {off l:List ByteArray} (n:ByteArray) (h:asc l):asc (addL M off l n)∧(∀ x,x ∈ addL M off l n ↔ x ∈ l∨(whyV M off n=0∧x ∈ hardL M n))∧l.length≤(addL M off l n).length∧((addL M off l n).length=l.length → addL M off l n=l):=by
 unfold addL
 by_cases h0:whyV M off n=0
 ·rw [if_pos h0]
  obtain ⟨h1,h2,h3,h4,_⟩:=putAll_spec (hardL M n) l h
  exact ⟨h1,fun x=>by rw [h2];simp [h0],h3,h4⟩
 ·rw [if_neg h0]
  exact ⟨h,fun x=>by simp [h0],Nat.le_refl _,fun _=>rfl⟩
noncomputable def addAll (M:List Mod) (off l ns:List ByteArray):List ByteArray:=ns.foldl (addL M off) l
theorem addAll_step {M:List Mod} {off l ns:List ByteArray} {k:Nat} (hk:k < ns.length):addL M off (addAll M off l (ns.take k)) (ns.getD k default)=addAll M off l (ns.take (k+1)):=by
 rw [List.take_succ_eq_append_getElem hk,getD_lt ns hk,addAll,addAll,List.foldl_append];rfl
theorem addAll_spec {M:List Mod} {off:List ByteArray}:∀ (ns l:List ByteArray),asc l → asc (addAll M off l ns)∧(∀ x,x ∈ addAll M off l ns ↔ x ∈ l∨∃ n ∈ ns,whyV M off n=0∧x ∈ hardL M n)∧l.length≤(addAll M off l ns).length∧((addAll M off l ns).length=l.length → addAll M off l ns=l)
 | [],l,h=>⟨h,fun x=>by simp [addAll],Nat.le_refl _,fun _=>rfl⟩
 | n :: ns,l,h=>by
  obtain ⟨h1,h2,h3,h4⟩:=addL_spec (M:=M) (off:=off) n h
  obtain ⟨i1,i2,i3,i4⟩:=addAll_spec ns _ h1
  have e:addAll M off l (n :: ns)=addAll M off (addL M off l n) ns:=rfl
  rw [e]
  refine ⟨i1,fun x=>?_,by omega,fun hl=>?_⟩
  ·rw [i2,h2];simp [or_assoc]
  ·have h5:=h4 (by omega)
   rw [i4 (by omega),h5]
noncomputable def addSoft (M:List Mod) (off o ms:List ByteArray):List ByteArray:=ms.foldl (fun o m=>addAll M off o (softOf M m)) o
theorem addSoft_step {M:List Mod} {off o ms:List ByteArray} {k:Nat} (hk:k < ms.length):addAll M off (addSoft M off o (ms.take k)) (softOf M (ms.getD k default))=addSoft M off o (ms.take (k+1)):=by
 rw [List.take_succ_eq_append_getElem hk,getD_lt ms hk,addSoft,addSoft,List.foldl_append];rfl
theorem addSoft_spec {M:List Mod} {off:List ByteArray}:∀ (ms o:List ByteArray),asc o → asc (addSoft M off o ms)∧(∀ x,x ∈ addSoft M off o ms ↔ x ∈ o∨∃ m ∈ ms,∃ n ∈ softOf M m,whyV M off n=0∧x ∈ hardL M n)∧o.length≤(addSoft M off o ms).length∧((addSoft M off o ms).length=o.length → addSoft M off o ms=o)
 | [],l,h=>⟨h,fun x=>by simp [addSoft],Nat.le_refl _,fun _=>rfl⟩
 | m :: ms,o,h=>by
  obtain ⟨h1,h2,h3,h4⟩:=addAll_spec (M:=M) (off:=off) (softOf M m) o h
  obtain ⟨i1,i2,i3,i4⟩:=addSoft_spec ms _ h1
  have e:addSoft M off o (m :: ms)=addSoft M off (addAll M off o (softOf M m)) ms:=rfl
  rw [e]
  refine ⟨i1,fun x=>?_,by omega,fun hl=>?_⟩
  ·rw [i2,h2];simp [or_assoc]
  ·have h5:=h4 (by omega)
   rw [i4 (by omega),h5]
theorem asc_nil':asc []:=List.Pairwise.nil
structure KInv (M:List Mod) (off names out:List ByteArray):Prop where
 asc:asc out
 snd:∀ x ∈ out,Cl M off names x
 base:∀ s ∈ names,whyV M off s=0 → ∀ x ∈ hardL M s,x ∈ out
theorem KInv.len {M:List Mod} {off names out:List ByteArray} (h:KInv M off names out):out.length≤M.length:=by
 have:=nodup_len out (M.map Mod.name) (asc_nodup h.asc) fun x hx=>there_name (h.snd x hx).there
 simpa using this
theorem KInv.start (M:List Mod) (off names:List ByteArray):KInv M off names (addAll M off [] names):=by
 obtain ⟨h1,h2,_,_⟩:=addAll_spec (M:=M) (off:=off) names [] asc_nil'
 refine ⟨h1,fun x hx=>?_,fun s hs h0 x hx=>(h2 x).2 (.inr ⟨s,hs,h0,hx⟩)⟩
 rcases (h2 x).1 hx with hx|⟨n,hn,h0,hx⟩
 ·simp at hx
 ·exact .base hn h0 hx
theorem pre_len {M:List Mod} {off names:List ByteArray} (k:Nat):(addAll M off [] (names.take k)).length≤M.length∧asc (addAll M off [] (names.take k)):=⟨(KInv.start M off (names.take k)).len,(KInv.start M off (names.take k)).asc⟩
theorem KInv.part {M:List Mod} {off names out:List ByteArray} (h:KInv M off names out) (ms ns:List ByteArray) (hm:∀ m ∈ ms,m ∈ out) (hn:∀ n ∈ ns,∃ m ∈ out,n ∈ softOf M m):KInv M off names (addAll M off (addSoft M off out ms) ns):=by
 obtain ⟨h1,h2,_,_⟩:=addSoft_spec (M:=M) (off:=off) ms out h.asc
 obtain ⟨i1,i2,_,_⟩:=addAll_spec (M:=M) (off:=off) ns _ h1
 refine ⟨i1,fun x hx=>?_,fun s hs h0 x hx=>(i2 x).2 (.inl ((h2 x).2 (.inl (h.base s hs h0 x hx))))⟩
 rcases (i2 x).1 hx with hx|⟨n,hn',h0,hx⟩
 ·rcases (h2 x).1 hx with hx|⟨m,hm',n,hn',h0,hx⟩
  ·exact h.snd x hx
  ·exact .step (h.snd m (hm m hm')) hn' h0 hx
 ·obtain ⟨m,hm',hs⟩:=hn n hn'
  exact .step (h.snd m hm') hs h0 hx
theorem KInv.pass {M:List Mod} {off names out:List ByteArray} (h:KInv M off names out):KInv M off names (addSoft M off out out):=h.part out [] (fun _ h=>h) (fun _ h=>by simp at h)
theorem KInv.done {M:List Mod} {off names out:List ByteArray} (h:KInv M off names out) (hl:(addSoft M off out out).length=out.length):closL M off names=out:=by
 obtain ⟨_,h2,_,h4⟩:=addSoft_spec (M:=M) (off:=off) out out h.asc
 rw [h4 hl] at h2
 refine listOf_eq h.asc fun x=>⟨h.snd x,fun hx=>?_⟩
 induction hx with
 | base h1 h0 h3=>exact h.base _ h1 h0 _ h3
 | @step m s x _ hs h0 hx ih=>exact (h2 x).2 (.inr ⟨m,ih,s,hs,h0,hx⟩)
set_option maxHeartbeats 4000000 in
theorem rClosure_pure (c:Cfg) (names:List ByteArray) (hc:CfgOk2 c) (hn:names.length≤1000000) :
  PCalls Tryz.prog 34 [.agg c.e,.c (.sl 1 (names.map strD))] [] fun r os=>r = .c (.sl 1 ((closL c.modules c.off names).map strD))∧os=[]:=by
 have hS:=hc.small
 have hML:=hS.len
 refine pcalls_of Tryz.func34 rfl (by simp [Tryz.ntmps34]) ?_
 rw [Tryz.ntmps34,Tryz.results34]
 push_cast [iO,tN]
 repeat' (first|((first|refine pG ?_|refine pQ ?_|refine pU ?_);push_cast [iO,tN])|(refine pif (fun h=>?_) (fun h=>?_)<;>first|exact pN h|push_cast [iO,tN]))
 refine pwp_loop2 (α:=Nat) (fun k=>k≤names.length) (fun k=>⟨[(6,.c (.v (.int .i64 k))),(5,.c (.sl 1 ((addAll c.modules c.off [] (names.take k)).map strD))),(4,.c (.v (.slice none 0 0))),(2,.c (.ptr 0 0)),(1,.c (.sl 1 (names.map strD)))],[.box 32 c.e]⟩) (fun k=>names.length - k) 0 (by omega) (by (refine weak_fg ?_;push_cast [iO,tN]);try rfl) ?_
 intro k hk
 by_cases hlt:k < names.length
 ·have hp:=addAll_step (M:=c.modules) (off:=c.off) (l:=[]) hlt
  obtain ⟨hpl,hpa⟩:=pre_len (M:=c.modules) (off:=c.off) (names:=names) k
  repeat' (first|((refine pwp_drawn_to ⟨[(6,.c (.v (.int .i64 k))),(5,.c (.sl 1 ((addAll c.modules c.off [] (names.take (k+1))).map strD))),(4,.c (.v (.slice none 0 0))),(2,.c (.ptr 0 0)),(1,.c (.sl 1 (names.map strD)))],[.box 32 c.e]⟩ (by kernel_rfl) ?_ ?_;(focus (simp only [List.length_cons,List.length_nil,Nat.reduceAdd];(repeat' first|(refine plc [] (rAdd_pure c (addAll c.modules c.off [] (names.take k)) (names.getD k default) hc.toCfgOk (by omega) hpa) ?_ ?_;push_cast [iO,tN,  hp ];rintro r os ⟨rfl,rfl⟩;push_cast [iO,tN,  hp ])|((first|refine pah 1 ?_|refine pah 2 ?_|refine pah 3 ?_|refine pah 4 ?_|refine pah 7 ?_);push_cast [iO,tN,  hp ])|(refine pad ?_;refine weak_fg ?_;push_cast [iO,tN,  hp ])|((first|refine pas [0] ?_|refine pas [5] ?_|refine pas [6] ?_);push_cast [iO,tN,  hp ])|((first|refine pas [0,5] ?_|refine pas [0,6] ?_|refine pas [5,6] ?_);push_cast [iO,tN,  hp ];refine ⟨?_,?_⟩)|((first|refine pas [0,5,6] ?_);push_cast [iO,tN,  hp ];refine ⟨?_,?_,?_⟩));done));push_cast [iO,tN,  hp ]))|((first|refine pG ?_|refine pQ ?_|refine pU ?_);push_cast [iO,tN,hp])|(refine pif (fun h=>?_) (fun h=>?_)<;>first|exact pN h|push_cast [iO,tN,hp]))
  exact ⟨k+1,by omega,by (refine weak_fg ?_;push_cast [iO,tN]),by omega⟩
 ·rw [List.take_of_length_le (by omega)]
  repeat' (first|((first|refine pG ?_|refine pQ ?_|refine pU ?_);push_cast [iO,tN])|(refine pif (fun h=>?_) (fun h=>?_)<;>first|exact pN h|push_cast [iO,tN]))
  refine pwp_loop2 (α:=List ByteArray) (fun out=>KInv c.modules c.off names out) (fun out=>⟨[(5,.c (.sl 1 (out.map strD))),(4,.c (.v (.slice none 0 0))),(2,.c (.ptr 0 0))],[.box 32 c.e]⟩) (fun out=>101 - out.length) (addAll c.modules c.off [] names) (KInv.start _ _ _) (by (refine weak_fg ?_;push_cast [iO,tN])) ?_
  intro out hI
  have hol:=hI.len
  repeat' (first|((first|refine pG ?_|refine pQ ?_|refine pU ?_);push_cast [iO,tN])|(refine pif (fun h=>?_) (fun h=>?_)<;>first|exact pN h|push_cast [iO,tN]))
  have htk:=List.take_of_length_le (l:=out.map strD) (i:=out.length) (by simp)
  refine pwp_weak (weak_frz 1 (by omega)) ?_
  push_cast [iO,tN,htk]
  refine pwp_loop2 (α:=Nat) (fun i=>i≤out.length) (fun i=>⟨[(9,.c (.v (.int .i64 i))),(8,.c (.sl 1 (out.map strD))),(7,.c (.v (.int .i64 out.length))),(5,.c (.sl 1 ((addSoft c.modules c.off out (out.take i)).map strD))),(4,.c (.v (.slice none 0 0))),(2,.c (.ptr 0 0))],[.box 32 c.e]⟩) (fun i=>out.length - i) 0 (by omega) (by (refine weak_fg ?_;push_cast [iO,tN]);try rfl) ?_
  intro i hi
  by_cases hlt2:i < out.length
  ·obtain ⟨m2,hm2⟩:∃ m2,(modOf c.modules (out.getD i default)).getD noMod=m2:=⟨_,rfl⟩
   have hso:softOf c.modules (out.getD i default)=m2.pre++m2.post:=by rw [← hm2];rfl
   have hsl:=hc.softl (out.getD i default)
   have hstep:=addSoft_step (M:=c.modules) (off:=c.off) (o:=out) hlt2
   rw [hso] at hsl hstep
   simp only [List.length_append] at hsl
   obtain ⟨o,ho⟩:∃ o,addSoft c.modules c.off out (out.take i)=o:=⟨_,rfl⟩
   have hpart:=fun k=>hI.part (out.take i) ((m2.pre++m2.post).take k) (fun m hm=>List.mem_of_mem_take hm) (fun n hn=>⟨out.getD i default,by rw [getD_lt out hlt2];exact List.getElem_mem _,by rw [hso];exact List.mem_of_mem_take hn⟩)
   rw [ho] at hstep hpart
   simp only [ho]
   repeat' (first|((refine pwp_drawn_to ⟨[(10,.c (.ptr 1 0)),(9,.c (.v (.int .i64 i))),(8,.c (.sl 1 (out.map strD))),(7,.c (.v (.int .i64 out.length))),(5,.c (.sl 1 (o.map strD))),(4,.c (.v (.slice none 0 0))),(2,.c (.ptr 0 0))],[.box 32 c.e,.box 46 m2.e]⟩ (by kernel_rfl) ?_ ?_;(focus (simp only [List.length_cons,List.length_nil,Nat.reduceAdd];(repeat' first|(refine plc [] (module_pure c.modules (out.getD i default) (by omega)) ?_ ?_;push_cast [iO,tN,  hm2 ];rintro r os ⟨rfl,rfl⟩;push_cast [iO,tN,  hm2 ])|((first|refine pah 0 ?_|refine pah 2 ?_|refine pah 3 ?_|refine pah 4 ?_|refine pah 7 ?_|refine pah 8 ?_|refine pah 9 ?_|refine pah 12 ?_);push_cast [iO,tN,  hm2 ])|(refine pad ?_;refine weak_fg ?_;push_cast [iO,tN,  hm2 ])|((first|refine pas [1] ?_|refine pas [5] ?_|refine pas [6] ?_|refine pas [10] ?_|refine pas [11] ?_);push_cast [iO,tN,  hm2 ])|((first|refine pas [1,5] ?_|refine pas [1,6] ?_|refine pas [1,10] ?_|refine pas [1,11] ?_|refine pas [5,6] ?_|refine pas [5,10] ?_|refine pas [5,11] ?_|refine pas [6,10] ?_|refine pas [6,11] ?_|refine pas [10,11] ?_);push_cast [iO,tN,  hm2 ];refine ⟨?_,?_⟩)|((first|refine pas [1,5,6] ?_|refine pas [1,5,10] ?_|refine pas [1,5,11] ?_|refine pas [1,6,10] ?_|refine pas [1,6,11] ?_|refine pas [1,10,11] ?_|refine pas [5,6,10] ?_|refine pas [5,6,11] ?_|refine pas [5,10,11] ?_|refine pas [6,10,11] ?_);push_cast [iO,tN,  hm2 ];refine ⟨?_,?_,?_⟩));done));push_cast [iO,tN,  hm2 ]))|((refine pwp_drawn_to ⟨[(12,.c (.own 2 (m2.pre.length+m2.post.length))),(9,.c (.v (.int .i64 i))),(8,.c (.sl 1 (out.map strD))),(7,.c (.v (.int .i64 out.length))),(5,.c (.sl 1 (o.map strD))),(4,.c (.v (.slice none 0 0))),(2,.c (.ptr 0 0))],[.box 32 c.e,.box 46 m2.e,.arr 9 1 (m2.pre.map strD++m2.post.map strD)]⟩ (by kernel_rfl) ?_ ?_;(focus (simp only [List.length_cons,List.length_nil,Nat.reduceAdd];(repeat' first|((first|refine pah 0 ?_|refine pah 3 ?_|refine pah 6 ?_);push_cast [iO,tN,  hm2 ])|(refine pad ?_;refine weak_fg ?_;push_cast [iO,tN,  hm2 ])|((first|refine pas [1] ?_|refine pas [2] ?_|refine pas [4] ?_|refine pas [5] ?_);push_cast [iO,tN,  hm2 ])|((first|refine pas [1,2] ?_|refine pas [1,4] ?_|refine pas [1,5] ?_|refine pas [2,4] ?_|refine pas [2,5] ?_|refine pas [4,5] ?_);push_cast [iO,tN,  hm2 ];refine ⟨?_,?_⟩)|((first|refine pas [1,2,4] ?_|refine pas [1,2,5] ?_|refine pas [1,4,5] ?_|refine pas [2,4,5] ?_);push_cast [iO,tN,  hm2 ];refine ⟨?_,?_,?_⟩));done));push_cast [iO,tN,  hm2 ]))|((first|refine pG ?_|refine pQ ?_|refine pU ?_);push_cast [iO,tN,hm2])|(refine pif (fun h=>?_) (fun h=>?_)<;>first|exact pN h|push_cast [iO,tN,hm2]))
   have htk2:=List.take_of_length_le (l:=m2.pre.map strD++m2.post.map strD) (i:=m2.pre.length+m2.post.length) (by simp)
   refine pwp_weak (weak_frz 2 (by omega)) ?_
   push_cast [iO,tN,htk2]
   refine pwp_loop2 (α:=Nat) (fun j=>j≤(m2.pre++m2.post).length) (fun j=>⟨[(13,.c (.v (.int .i64 j))),(12,.c (.sl 1 ((m2.pre++m2.post).map strD))),(9,.c (.v (.int .i64 i))),(8,.c (.sl 1 (out.map strD))),(7,.c (.v (.int .i64 out.length))),(5,.c (.sl 1 ((addAll c.modules c.off o ((m2.pre++m2.post).take j)).map strD))),(4,.c (.v (.slice none 0 0))),(2,.c (.ptr 0 0))],[.box 32 c.e]⟩) (fun j=>(m2.pre++m2.post).length - j) 0 (by omega) (by (refine weak_fg ?_;push_cast [iO,tN]);try rfl) ?_
   obtain ⟨sf,hsf⟩:∃ sf,m2.pre++m2.post=sf:=⟨_,rfl⟩
   have hsfl:sf.length≤200:=by rw [← hsf,List.length_append];exact hsl
   simp only [hsf] at hstep hpart ⊢
   intro j hj
   by_cases hlt3:j < sf.length
   ·have hp:=addAll_step (M:=c.modules) (off:=c.off) (l:=o) hlt3
    have hpk:=hpart j
    have hpl:=hpk.len
    repeat' (first|((refine pwp_drawn_to ⟨[(13,.c (.v (.int .i64 j))),(12,.c (.sl 1 (sf.map strD))),(9,.c (.v (.int .i64 i))),(8,.c (.sl 1 (out.map strD))),(7,.c (.v (.int .i64 out.length))),(5,.c (.sl 1 ((addAll c.modules c.off o (sf.take (j+1))).map strD))),(4,.c (.v (.slice none 0 0))),(2,.c (.ptr 0 0))],[.box 32 c.e]⟩ (by kernel_rfl) ?_ ?_;(focus (simp only [List.length_cons,List.length_nil,Nat.reduceAdd];(repeat' first|(refine plc [] (rAdd_pure c (addAll c.modules c.off o (sf.take j)) (sf.getD j default) hc.toCfgOk (by omega) hpk.asc) ?_ ?_;push_cast [iO,tN,  hp ];rintro r os ⟨rfl,rfl⟩;push_cast [iO,tN,  hp ])|((first|refine pah 1 ?_|refine pah 2 ?_|refine pah 3 ?_|refine pah 4 ?_|refine pah 7 ?_);push_cast [iO,tN,  hp ])|(refine pad ?_;refine weak_fg ?_;push_cast [iO,tN,  hp ])|((first|refine pas [0] ?_|refine pas [5] ?_|refine pas [6] ?_);push_cast [iO,tN,  hp ])|((first|refine pas [0,5] ?_|refine pas [0,6] ?_|refine pas [5,6] ?_);push_cast [iO,tN,  hp ];refine ⟨?_,?_⟩)|((first|refine pas [0,5,6] ?_);push_cast [iO,tN,  hp ];refine ⟨?_,?_,?_⟩));done));push_cast [iO,tN,  hp ]))|((first|refine pG ?_|refine pQ ?_|refine pU ?_);push_cast [iO,tN,hp])|(refine pif (fun h=>?_) (fun h=>?_)<;>first|exact pN h|push_cast [iO,tN,hp]))
    exact ⟨j+1,by omega,by (refine weak_fg ?_;push_cast [iO,tN]),by omega⟩
   ·rw [List.take_of_length_le (by omega),hstep]
    repeat' (first|((first|refine pG ?_|refine pQ ?_|refine pU ?_);push_cast [iO,tN])|(refine pif (fun h=>?_) (fun h=>?_)<;>first|exact pN h|push_cast [iO,tN]))
    exact ⟨i+1,by omega,by (refine weak_fg ?_;push_cast [iO,tN]),by omega⟩
  ·rw [List.take_of_length_le (by omega)]
   by_cases hlen:(addSoft c.modules c.off out out).length=out.length
   ·have hd:=hI.done hlen
    have he:=(addSoft_spec (M:=c.modules) (off:=c.off) out out hI.asc).2.2.2 hlen
    rw [he]
    repeat' (first|((first|refine pG ?_|refine pQ ?_|refine pU ?_);push_cast [iO,tN])|(refine pif (fun h=>?_) (fun h=>?_)<;>first|exact pN h|push_cast [iO,tN]))
    (refine retK_of [] ?_;push_cast [iO,tN])
    rw [hd]
   ·have hg:=(addSoft_spec (M:=c.modules) (off:=c.off) out out hI.asc).2.2.1
    have hl2:=hI.pass.len
    repeat' (first|((first|refine pG ?_|refine pQ ?_|refine pU ?_);push_cast [iO,tN,hlen])|(refine pif (fun h=>?_) (fun h=>?_)<;>first|exact pN h|push_cast [iO,tN,hlen]))
    exact ⟨addSoft c.modules c.off out out,hI.pass,by (refine weak_fg ?_;push_cast [iO,tN]),by omega⟩
end Go.Proofs.YtmjffgienmcabaaGreatDoor
