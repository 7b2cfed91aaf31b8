/- What the program computes, and the plain laws of it, part 39. -/
import Derived.Test.YtmjffgienmcabaaGreatDoorS38
namespace Go.Proofs.YtmjffgienmcabaaGreatDoor
attribute [local irreducible] PL QL PWPr PCalls Weak RetK Kontr PA
open Go.RowKit
open IntWalk renaming iteOmega → iO, toNatUp → tN
set_option linter.unusedVariables false
set_option linter.unusedSimpArgs false
set_option maxRecDepth 20000
theorem put_reach (M:List Mod) (n:ByteArray):putM (reachL M n) n=hardL M n:=by
 obtain ⟨h1,h2,_⟩:=reach_spec M n
 refine (listOf_eq (put_asc h1) fun x=>?_).symm
 rw [putA_mem h1,h2]
 exact or_comm
theorem not_take {α:Type} {l:List α} {k:Nat} (P:α → Prop) (h:k < l.length) (h1:∀ x ∈ l.take k,¬ P x) (h2:¬ P l[k]):∀ x ∈ l.take (k+1),¬ P x:=by
 intro x hx
 rw [List.take_succ_eq_append_getElem h] at hx
 rcases List.mem_append.1 hx with hx|hx
 ·exact h1 x hx
 ·simp at hx;subst hx;exact h2
theorem whyV_190 {M:List Mod} {off:List ByteArray} {n x:ByteArray} (h:x ∈ hardL M n) (h1:modOf M x=none):whyV M off n=190:=by
 unfold whyV
 rw [if_pos ⟨x,h,h1⟩]
theorem whyV_191 {M:List Mod} {off:List ByteArray} {n x:ByteArray} (h0:∀ x ∈ hardL M n,¬ modOf M x=none) (h:x ∈ hardL M n) (h1:Reach M x x):whyV M off n=191:=by
 unfold whyV
 rw [if_neg (fun ⟨y,a,b⟩=>h0 y a b),if_pos ⟨x,h,h1⟩]
theorem whyV_192 {M:List Mod} {off:List ByteArray} {n x:ByteArray} (h0:∀ x ∈ hardL M n,¬ modOf M x=none) (h1:∀ x ∈ hardL M n,¬ Reach M x x) (h:x ∈ hardL M n) (h2:((modOf M x).getD noMod).fails=true∨x ∈ off):whyV M off n=192:=by
 unfold whyV
 rw [if_neg (fun ⟨y,a,b⟩=>h0 y a b),if_neg (fun ⟨y,a,b⟩=>h1 y a b),if_pos ⟨x,h,h2⟩]
theorem whyV_0 {M:List Mod} {off:List ByteArray} {n:ByteArray} (h0:∀ x ∈ hardL M n,¬ modOf M x=none) (h1:∀ x ∈ hardL M n,¬ Reach M x x) (h2:∀ x ∈ hardL M n,¬ (((modOf M x).getD noMod).fails=true∨x ∈ off)):whyV M off n=0:=by
 unfold whyV
 rw [if_neg (fun ⟨y,a,b⟩=>h0 y a b),if_neg (fun ⟨y,a,b⟩=>h1 y a b),if_neg (fun ⟨y,a,b⟩=>h2 y a b)]
theorem take_all {α:Type} {l:List α} {k:Nat} {P:α → Prop} (h:¬ k < l.length) (h1:∀ x ∈ l.take k,P x):∀ x ∈ l,P x:=by rwa [List.take_of_length_le (by omega)] at h1
theorem getD_memR {α:Type} {l:List α} {k:Nat} [Inhabited α] (h:k < l.length):l.getD k default ∈ l:=by rw [getD_lt l h];exact List.getElem_mem _
theorem mod_name {M:List Mod} {n:ByteArray} {m:Mod} (h:modOf M n=some m):m.name=n:=(mod_mem h).2
set_option maxHeartbeats 4000000 in
theorem rWhy_pure (c:Cfg) (n:ByteArray) (hc:CfgOk c) :
  PCalls Tryz.prog 116 [.agg c.e,.c (.v (.string n))] [] fun r os=>r = .c (.v (.int .i64 (whyV c.modules c.off n)))∧os=[]:=by
 have hS:=hc.small
 have hl:=hS.len
 have hall:=hS.all
 have hoff:=hc.off
 have hrl:=(reach_spec c.modules n).2.2
 have hH:=(hard_spec c.modules n).2.2
 have hpr:=put_reach c.modules n
 obtain ⟨H,hHe⟩:∃ H,hardL c.modules n=H:=⟨_,rfl⟩
 refine pcalls_of Tryz.func116 rfl (by simp [Tryz.ntmps116]) ?_
 rw [Tryz.ntmps116,Tryz.results116]
 push_cast [iO,tN]
 repeat' (first|(refine plc [] (rReached_pure c n hS) ?_ ?_;push_cast [iO,tN,hpr,hHe];rintro r os ⟨rfl,rfl⟩;push_cast [iO,tN,hpr,hHe])|(refine plc [] (put_pure (reachL c.modules n) n (by omega)) ?_ ?_;push_cast [iO,tN,hpr,hHe];rintro r os ⟨rfl,rfl⟩;push_cast [iO,tN,hpr,hHe])|((first|refine pG ?_|refine pQ ?_|refine pU ?_);push_cast [iO,tN,hpr,hHe])|(refine pif (fun h=>?_) (fun h=>?_)<;>first|exact pN h|push_cast [iO,tN,hpr,hHe]))
 rw [hHe] at hH
 refine pwp_loop2 (α:=Nat) (fun k=>k≤H.length∧∀ x ∈ H.take k,¬ modOf c.modules x=none) (fun k=>⟨[(6,.c (.v (.int .i64 k))),(5,.c (.sl 1 (H.map strD))),(2,.c (.ptr 0 0))],[.box 32 c.e]⟩) (fun k=>H.length - k) 0 ⟨by omega,by simp⟩ (by (refine weak_fg ?_;push_cast [iO,tN])) ?_
 rintro k ⟨hk,hpre⟩
 by_cases hlt:k < H.length
 ·have hmem:H.getD k default ∈ hardL c.modules n:=by rw [hHe];exact getD_memR hlt
  obtain ⟨m2,hm2⟩:∃ m2,(modOf c.modules (H.getD k default)).getD noMod=m2:=⟨_,rfl⟩
  obtain ⟨ok,hok⟩:∃ ok,(modOf c.modules (H.getD k default)).isSome=ok:=⟨_,rfl⟩
  cases ok
  all_goals repeat' (first|((refine pwp_drawn_to ⟨[(8,.c (.v (.bool (modOf c.modules (H.getD k default)).isSome))),(7,.c (.ptr 1 0)),(6,.c (.v (.int .i64 k))),(5,.c (.sl 1 (H.map strD))),(2,.c (.ptr 0 0))],[.box 32 c.e,.box 46 m2.e]⟩ (by kernel_rfl) ?_ ?_;(focus (simp only [List.length_cons,List.length_nil,Nat.reduceAdd];(repeat' first|(refine plc [] (module_pure c.modules (H.getD k default) (by omega)) ?_ ?_;push_cast [iO,tN,  hm2,hok ];rintro r os ⟨rfl,rfl⟩;push_cast [iO,tN,  hm2,hok ])|((first|refine pah 0 ?_|refine pah 2 ?_|refine pah 3 ?_|refine pah 4 ?_|refine pah 7 ?_|refine pah 8 ?_|refine pah 9 ?_|refine pah 12 ?_);push_cast [iO,tN,  hm2,hok ])|(refine pad ?_;refine weak_fg ?_;push_cast [iO,tN,  hm2,hok ])|((first|refine pas [1] ?_|refine pas [5] ?_|refine pas [6] ?_|refine pas [10] ?_|refine pas [11] ?_);push_cast [iO,tN,  hm2,hok ])|((first|refine pas [1,5] ?_|refine pas [1,6] ?_|refine pas [1,10] ?_|refine pas [1,11] ?_|refine pas [5,6] ?_|refine pas [5,10] ?_|refine pas [5,11] ?_|refine pas [6,10] ?_|refine pas [6,11] ?_|refine pas [10,11] ?_);push_cast [iO,tN,  hm2,hok ];refine ⟨?_,?_⟩)|((first|refine pas [1,5,6] ?_|refine pas [1,5,10] ?_|refine pas [1,5,11] ?_|refine pas [1,6,10] ?_|refine pas [1,6,11] ?_|refine pas [1,10,11] ?_|refine pas [5,6,10] ?_|refine pas [5,6,11] ?_|refine pas [5,10,11] ?_|refine pas [6,10,11] ?_);push_cast [iO,tN,  hm2,hok ];refine ⟨?_,?_,?_⟩));done));push_cast [iO,tN,  hm2,hok ]))|((first|refine pG ?_|refine pQ ?_|refine pU ?_);push_cast [iO,tN,hm2,hok])|(refine pif (fun h=>?_) (fun h=>?_)<;>first|exact pN h|push_cast [iO,tN,hm2,hok]))
  ·(refine retK_of [] ?_;push_cast [iO,tN])
   rw [whyV_190 hmem (by simpa using hok)]
  ·refine ⟨k+1,⟨by omega,not_take _ hlt hpre ?_⟩,by (refine weak_fg ?_;push_cast [iO,tN]),by omega⟩
   rw [← getD_lt H hlt]
   intro h
   rw [h] at hok
   cases hok
 ·have h190:∀ x ∈ hardL c.modules n,¬ modOf c.modules x=none:=by rw [hHe];exact take_all hlt hpre
  repeat' (first|((first|refine pG ?_|refine pQ ?_|refine pU ?_);push_cast [iO,tN])|(refine pif (fun h=>?_) (fun h=>?_)<;>first|exact pN h|push_cast [iO,tN]))
  refine pwp_loop2 (α:=Nat) (fun k=>k≤H.length∧∀ x ∈ H.take k,¬ Reach c.modules x x) (fun k=>⟨[(9,.c (.v (.int .i64 k))),(5,.c (.sl 1 (H.map strD))),(2,.c (.ptr 0 0))],[.box 32 c.e]⟩) (fun k=>H.length - k) 0 ⟨by omega,by simp⟩ (by (refine weak_fg ?_;push_cast [iO,tN])) ?_
  rintro k ⟨hk,hpre⟩
  by_cases hlt:k < H.length
  ·have hmem:H.getD k default ∈ hardL c.modules n:=by rw [hHe];exact getD_memR hlt
   obtain ⟨q1,q2,q3⟩:=reach_spec c.modules (H.getD k default)
   cases hb:inM (H.getD k default) (reachL c.modules (H.getD k default))
   all_goals repeat' (first|((refine pwp_drawn_to ⟨[(52,.c (.v (.bool (inM (H.getD k default) (reachL c.modules (H.getD k default)))))),(9,.c (.v (.int .i64 k))),(5,.c (.sl 1 (H.map strD))),(2,.c (.ptr 0 0))],[.box 32 c.e]⟩ (by kernel_rfl) ?_ ?_;(focus (simp only [List.length_cons,List.length_nil,Nat.reduceAdd];(repeat' first|(refine plc [] (rReached_pure c (H.getD k default) hS) ?_ ?_;push_cast [iO,tN,  hb ];rintro r os ⟨rfl,rfl⟩;push_cast [iO,tN,  hb ])|(refine plc [] (in_pure (reachL c.modules (H.getD k default)) (H.getD k default) (by omega)) ?_ ?_;push_cast [iO,tN,  hb ];rintro r os ⟨rfl,rfl⟩;push_cast [iO,tN,  hb ])|((first|refine pah 1 ?_|refine pah 2 ?_|refine pah 3 ?_|refine pah 6 ?_|refine pah 7 ?_|refine pah 8 ?_);push_cast [iO,tN,  hb ])|(refine pad ?_;refine weak_fg ?_;push_cast [iO,tN,  hb ])|((first|refine pas [0] ?_|refine pas [4] ?_|refine pas [5] ?_|refine pas [9] ?_|refine pas [10] ?_);push_cast [iO,tN,  hb ])|((first|refine pas [0,4] ?_|refine pas [0,5] ?_|refine pas [0,9] ?_|refine pas [0,10] ?_|refine pas [4,5] ?_|refine pas [4,9] ?_|refine pas [4,10] ?_|refine pas [5,9] ?_|refine pas [5,10] ?_|refine pas [9,10] ?_);push_cast [iO,tN,  hb ];refine ⟨?_,?_⟩)|((first|refine pas [0,4,5] ?_|refine pas [0,4,9] ?_|refine pas [0,4,10] ?_|refine pas [0,5,9] ?_|refine pas [0,5,10] ?_|refine pas [0,9,10] ?_|refine pas [4,5,9] ?_|refine pas [4,5,10] ?_|refine pas [4,9,10] ?_|refine pas [5,9,10] ?_);push_cast [iO,tN,  hb ];refine ⟨?_,?_,?_⟩));done));push_cast [iO,tN,  hb ]))|((first|refine pG ?_|refine pQ ?_|refine pU ?_);push_cast [iO,tN,hb])|(refine pif (fun h=>?_) (fun h=>?_)<;>first|exact pN h|push_cast [iO,tN,hb]))
   ·refine ⟨k+1,⟨by omega,not_take _ hlt hpre ?_⟩,by (refine weak_fg ?_;push_cast [iO,tN]),by omega⟩
    rw [← getD_lt H hlt]
    intro h
    rw [inM_false] at hb
    exact hb ((q2 _).2 h)
   ·(refine retK_of [] ?_;push_cast [iO,tN])
    rw [whyV_191 h190 hmem ((q2 _).1 (inM_iff.1 hb))]
  ·have h191:∀ x ∈ hardL c.modules n,¬ Reach c.modules x x:=by rw [hHe];exact take_all hlt hpre
   repeat' (first|((first|refine pG ?_|refine pQ ?_|refine pU ?_);push_cast [iO,tN])|(refine pif (fun h=>?_) (fun h=>?_)<;>first|exact pN h|push_cast [iO,tN]))
   refine pwp_loop2 (α:=Nat) (fun k=>k≤H.length∧∀ x ∈ H.take k,¬ (((modOf c.modules x).getD noMod).fails=true∨x ∈ c.off)) (fun k=>⟨[(10,.c (.v (.int .i64 k))),(5,.c (.sl 1 (H.map strD))),(2,.c (.ptr 0 0))],[.box 32 c.e]⟩) (fun k=>H.length - k) 0 ⟨by omega,by simp⟩ (by (refine weak_fg ?_;push_cast [iO,tN])) ?_
   rintro k ⟨hk,hpre⟩
   by_cases hlt:k < H.length
   ·have hmem:H.getD k default ∈ hardL c.modules n:=by rw [hHe];exact getD_memR hlt
    cases hm2:modOf c.modules (H.getD k default) with
    | none=>exact absurd hm2 (h190 _ hmem)
    | some m2 =>
     have hname:=mod_name hm2
     cases hf:m2.fails<;>cases hb:inM (H.getD k default) c.off
     all_goals repeat' (first|((refine pwp_drawn_to ⟨[(11,.c (.ptr 1 0)),(10,.c (.v (.int .i64 k))),(5,.c (.sl 1 (H.map strD))),(2,.c (.ptr 0 0))],[.box 32 c.e,.box 46 m2.e]⟩ (by kernel_rfl) ?_ ?_;(focus (simp only [List.length_cons,List.length_nil,Nat.reduceAdd];(repeat' first|(refine plc [] (module_pure c.modules (H.getD k default) (by omega)) ?_ ?_;push_cast [iO,tN,  hm2,hf,hname,Option.getD_some,Option.isSome_some ];rintro r os ⟨rfl,rfl⟩;push_cast [iO,tN,  hm2,hf,hname,Option.getD_some,Option.isSome_some ])|((first|refine pah 0 ?_|refine pah 2 ?_|refine pah 3 ?_|refine pah 4 ?_|refine pah 7 ?_|refine pah 8 ?_|refine pah 9 ?_|refine pah 12 ?_);push_cast [iO,tN,  hm2,hf,hname,Option.getD_some,Option.isSome_some ])|(refine pad ?_;refine weak_fg ?_;push_cast [iO,tN,  hm2,hf,hname,Option.getD_some,Option.isSome_some ])|((first|refine pas [1] ?_|refine pas [5] ?_|refine pas [6] ?_|refine pas [10] ?_|refine pas [11] ?_);push_cast [iO,tN,  hm2,hf,hname,Option.getD_some,Option.isSome_some ])|((first|refine pas [1,5] ?_|refine pas [1,6] ?_|refine pas [1,10] ?_|refine pas [1,11] ?_|refine pas [5,6] ?_|refine pas [5,10] ?_|refine pas [5,11] ?_|refine pas [6,10] ?_|refine pas [6,11] ?_|refine pas [10,11] ?_);push_cast [iO,tN,  hm2,hf,hname,Option.getD_some,Option.isSome_some ];refine ⟨?_,?_⟩)|((first|refine pas [1,5,6] ?_|refine pas [1,5,10] ?_|refine pas [1,5,11] ?_|refine pas [1,6,10] ?_|refine pas [1,6,11] ?_|refine pas [1,10,11] ?_|refine pas [5,6,10] ?_|refine pas [5,6,11] ?_|refine pas [5,10,11] ?_|refine pas [6,10,11] ?_);push_cast [iO,tN,  hm2,hf,hname,Option.getD_some,Option.isSome_some ];refine ⟨?_,?_,?_⟩));done));push_cast [iO,tN,  hm2,hf,hname,Option.getD_some,Option.isSome_some ]))|(refine plc [] (in_pure c.off (H.getD k default) (by omega)) ?_ ?_;push_cast [iO,tN,hm2,hf,hb,hname,Option.getD_some,Option.isSome_some];rintro r os ⟨rfl,rfl⟩;push_cast [iO,tN,hm2,hf,hb,hname,Option.getD_some,Option.isSome_some])|((first|refine pG ?_|refine pQ ?_|refine pU ?_);push_cast [iO,tN,hm2,hf,hb,hname,Option.getD_some,Option.isSome_some])|(refine pif (fun h=>?_) (fun h=>?_)<;>first|exact pN h|push_cast [iO,tN,hm2,hf,hb,hname,Option.getD_some,Option.isSome_some]))
     ·refine ⟨k+1,⟨by omega,not_take _ hlt hpre ?_⟩,by (refine weak_fg ?_;push_cast [iO,tN]),by omega⟩
      rw [← getD_lt H hlt,hm2]
      rw [inM_false] at hb
      simp only [Option.getD_some,hf,Bool.false_eq_true,false_or]
      exact hb
     ·(refine retK_of [] ?_;push_cast [iO,tN])
      rw [whyV_192 h190 h191 hmem (.inr (inM_iff.1 hb))]
     ·(refine retK_of [] ?_;push_cast [iO,tN])
      rw [whyV_192 h190 h191 hmem (.inl (by rw [hm2];exact hf))]
     ·(refine retK_of [] ?_;push_cast [iO,tN])
      rw [whyV_192 h190 h191 hmem (.inl (by rw [hm2];exact hf))]
   ·have h192:∀ x ∈ hardL c.modules n,¬ (((modOf c.modules x).getD noMod).fails=true∨x ∈ c.off):=by rw [hHe];exact take_all hlt hpre
    repeat' (first|((first|refine pG ?_|refine pQ ?_|refine pU ?_);push_cast [iO,tN])|(refine pif (fun h=>?_) (fun h=>?_)<;>first|exact pN h|push_cast [iO,tN]))
    (refine retK_of [] ?_;push_cast [iO,tN])
    rw [whyV_0 h190 h191 h192]
set_option maxRecDepth 20000
theorem rCan_pure (c:Cfg) (n:ByteArray) (hc:CfgOk c) :
  PCalls Tryz.prog 89 [.agg c.e,.c (.v (.string n))] [] fun r os=>r = .c (.v (.bool (decide (whyV c.modules c.off n=0))))∧os=[]:=by
 refine pcalls_of Tryz.func89 rfl (by simp [Tryz.ntmps89]) ?_
 rw [Tryz.ntmps89,Tryz.results89]
 push_cast [iO,tN]
 repeat' (first |  (refine plc [] (rWhy_pure c n hc) ?_ ?_;push_cast [iO,tN];rintro r os ⟨rfl,rfl⟩;push_cast [iO,tN])  | ((first|refine pG ?_|refine pQ ?_|refine pU ?_);push_cast [iO,tN])|(refine pif (fun h=>?_) (fun h=>?_)<;>first|exact pN h|push_cast [iO,tN]))
 (refine retK_of [] ?_;push_cast [iO,tN])
theorem same_pure (a b:List ByteArray) (ha:a.length≤1000000000) (hb:b.length≤1000000000) :
  PCalls Tryz.prog 9 [.c (.sl 1 (a.map strD)),.c (.sl 1 (b.map strD))] [] fun r os=>r = .c (.v (.bool (decide (a=b))))∧os=[]:=by
 refine pcalls_of Tryz.func9 rfl (by simp [Tryz.ntmps9]) ?_
 rw [Tryz.ntmps9,Tryz.results9]
 push_cast [iO,tN]
 by_cases hl:a.length=b.length
 ·repeat' (first|((first|refine pG ?_|refine pQ ?_|refine pU ?_);push_cast [iO,tN])|(refine pif (fun h=>?_) (fun h=>?_)<;>first|exact pN h|push_cast [iO,tN]))
  refine pwp_loop2 (α:=Nat) (fun k=>k≤a.length∧a.take k=b.take k) (fun k=>⟨[(5,.c (.v (.int .i64 k))),(0,.c (.sl 1 (a.map strD))),(1,.c (.sl 1 (b.map strD)))],[]⟩) (fun k=>a.length - k) 0 ⟨by omega,by simp⟩ (by (refine weak_fg ?_;push_cast [iO,tN])) ?_
  rintro k ⟨hk,hpre⟩
  by_cases hlt:k < a.length
  ·have hlt':k < b.length:=by omega
   have e1:=getD_lt a hlt
   have e2:=getD_lt b hlt'
   repeat' (first|((first|refine pG ?_|refine pQ ?_|refine pU ?_);push_cast [iO,tN])|(refine pif (fun h=>?_) (fun h=>?_)<;>first|exact pN h|push_cast [iO,tN]))
   ·(refine retK_of [] ?_;push_cast [iO,tN])
    rw [e1,e2] at h
    have:¬ a=b:=fun e=>by subst e;simp at h
    simp [this]
   ·refine ⟨k+1,⟨by omega,?_⟩,by (refine weak_fg ?_;push_cast [iO,tN]),by omega⟩
    rw [e1,e2] at h
    have h':a[k]=b[k]:=by simpa using h
    rw [List.take_succ_eq_append_getElem hlt,List.take_succ_eq_append_getElem hlt',hpre,h']
  ·rw [List.take_of_length_le (by omega),List.take_of_length_le (by omega)] at hpre
   repeat' (first|((first|refine pG ?_|refine pQ ?_|refine pU ?_);push_cast [iO,tN])|(refine pif (fun h=>?_) (fun h=>?_)<;>first|exact pN h|push_cast [iO,tN]))
   (refine retK_of [] ?_;push_cast [iO,tN])
   simp [hpre]
 ·have:¬ a=b:=fun e=>hl (by rw [e])
  repeat' (first|((first|refine pG ?_|refine pQ ?_|refine pU ?_);push_cast [iO,tN])|(refine pif (fun h=>?_) (fun h=>?_)<;>first|exact pN h|push_cast [iO,tN]))
  (refine retK_of [] ?_;push_cast [iO,tN])
  simp [this]
set_option maxRecDepth 20000
def opR (x:Int × ByteArray):List D:=[.v (.int .i64 x.1),.v (.string ⟨#[]⟩),.v (.int .i64 0),.v (.int .i64 0),.v (.string ⟨#[]⟩),.v (.string ⟨#[]⟩),.v (.string ⟨#[]⟩),.v (.string ⟨#[]⟩),.v (.string ⟨#[]⟩),.v (.int .i64 0),.v (.int .i64 0),.v (.slice none 0 0),.v (.string ⟨#[]⟩),.v (.string x.2)]
attribute [push_cast] opR
theorem ordF_len (M:List Mod):∀ (n:Nat) (T R:List ByteArray),(ordF M n T R).length≤n
 | 0,_,_=>by simp [ordF]
 | n+1,T,R=>by
  unfold ordF
  split
  ·simp
  ·simp only [List.length_cons]
   have:=ordF_len M n
   exact Nat.succ_le_succ (this _ _)
theorem ord_len (M:List Mod) (ld R:List ByteArray):(ordM M ld R).length≤R.length:=ordF_len M _ _ _
set_option maxHeartbeats 4000000 in
theorem plan_pureM (c:Cfg) (loaded W:List ByteArray) (hc:CfgOk2 c) (hl:loaded.length≤1000) (hW:W.length≤1000) :
  PCalls Tryz.prog 16 [.agg c.e,.c (.sl 1 (loaded.map strD)),.c (.sl 1 (W.map strD))] [] fun r os=>r = .c (.sl 14 ((planL c.modules loaded W).map opR))∧os=[]:=by
 have hun:=unloads_pure c loaded W hc.small hl (by omega)
 obtain ⟨hl1,hl2⟩:=unlM_len c.modules W loaded
 unfold planL
 obtain ⟨gone,hg⟩:∃ gone,(unlM c.modules W loaded).1=gone:=⟨_,rfl⟩
 obtain ⟨st,hst⟩:∃ st,(unlM c.modules W loaded).2=st:=⟨_,rfl⟩
 rw [hg,hst] at hun ⊢
 rw [hg] at hl1
 rw [hst] at hl2
 have hor:=dorder_pure c W st hc hW (by omega)
 have hol:=ord_len c.modules st (restM st W)
 have hrl:=(restM_spec st W).2.2
 obtain ⟨o,ho⟩:∃ o,ordM c.modules st (restM st W)=o:=⟨_,rfl⟩
 rw [ho] at hor hol ⊢
 obtain ⟨p,hp⟩:∃ p,gone.map (fun s=>((9:Int),s))++o.map (fun s=>((8:Int),s))=p:=⟨_,rfl⟩
 rw [hp]
 refine pcalls_of Tryz.func16 rfl (by simp [Tryz.ntmps16]) ?_
 rw [Tryz.ntmps16,Tryz.results16]
 push_cast [iO,tN]
 have cB:CutB 14 [21,22,23,36,37,38]:=trivial
 repeat' (first |  ((refine plc [] (hun) ?_ ?_;push_cast [iO,tN];rintro r os ⟨rfl,rfl⟩;push_cast [iO,tN]))  | ((first|refine pC ?_|refine pQC ?_|refine pU ?_);push_cast [iO,tN])|(refine pif (fun h=>?_) (fun h=>?_)<;>first|exact pN h|push_cast [iO,tN]))
 refine pwp_weak (weak_adopt 9 53 14 (by omega) (by push_cast [iO,tN])) ?_
 push_cast [iO,tN]
 (apply pwp_loop3 (α:=Nat × List (Int × ByteArray)) 14 [21,22,23,36,37,38] (fun x=>[(23,.c (.v (.int .i64 x.1))),(9,.c (.own 1 (x.2.length)))]) (fun x=>[(1,.arr 53 14 (x.2.map opR))]) (fun x=>x.1≤gone.length∧x.2=(gone.take x.1).map fun s=>((9:Int),s)) (fun x=>gone.length - x.1) ((0,[]));(focus ((try push_cast [iO,tN]);rfl));(focus exact ⟨by omega,by simp⟩);(focus ((refine weak_fg ?_;try push_cast [iO,tN]))))
 rintro ⟨k,l⟩ ⟨hk,hlx⟩
 simp only at hk hlx ⊢
 have hll:l.length≤1000:=by rw [hlx,List.length_map,List.length_take];omega
 push_cast [iO,tN]
 by_cases hlt:k < gone.length
 ·have hnx:(gone.take (k+1)).map (fun s=>((9:Int),s))=l++[((9:Int),gone.getD k default)]:=by
   rw [List.take_succ_eq_append_getElem hlt,List.map_append,getD_lt gone hlt,hlx];rfl
  repeat' (first|((first|refine pC ?_|refine pQC ?_|refine pU ?_);push_cast [iO,tN])|(refine pif (fun h=>?_) (fun h=>?_)<;>first|exact pN h|push_cast [iO,tN]))
  exact ⟨(k+1,l++[((9:Int),gone.getD k default)]),⟨by simp only;omega,hnx.symm⟩,by (refine weak_fg ?_;push_cast [iO,tN]),by simp only;omega⟩
 have hk2:k=gone.length:=by omega
 rw [hk2,List.take_length] at hlx
 have e2:=List.take_of_length_le (l:=o.map strD) (i:=o.length) (by simp)
 repeat' (first |  (refine pl_call2 false [] rfl rfl (by kernel_rfl) hor ?_ nofun ?_;push_cast [iO,tN];rintro r os ⟨rfl,rfl⟩;refine pl_weak (weak_frz 2 (by omega)) ?_;push_cast [iO,tN,e2];refine pl_of_pops ?_;push_cast [iO,tN])  | ((first|refine pC ?_|refine pQC ?_|refine pU ?_);push_cast [iO,tN])|(refine pif (fun h=>?_) (fun h=>?_)<;>first|exact pN h|push_cast [iO,tN]))
 (apply pwp_loop3 (α:=Nat × List (Int × ByteArray)) 14 [21,22,23,36,37,38] (fun x=>[(38,.c (.v (.int .i64 x.1))),(9,.c (.own 1 (x.2.length)))]) (fun x=>[(1,.arr 53 14 (x.2.map opR))]) (fun x=>x.1≤o.length∧x.2=l++(o.take x.1).map fun s=>((8:Int),s)) (fun x=>o.length - x.1) ((0,l));(focus ((try push_cast [iO,tN]);rfl));(focus exact ⟨by omega,by simp⟩);(focus ((refine weak_fg ?_;try push_cast [iO,tN]))))
 rintro ⟨j,l2⟩ ⟨hj,hl2x⟩
 simp only at hj hl2x ⊢
 have hll2:l2.length≤10000:=by rw [hl2x,List.length_append,List.length_map,List.length_take];omega
 push_cast [iO,tN]
 by_cases hjt:j < o.length
 ·have hnx:l++(o.take (j+1)).map (fun s=>((8:Int),s))=l2++[((8:Int),o.getD j default)]:=by
   rw [List.take_succ_eq_append_getElem hjt,List.map_append,getD_lt o hjt,hl2x,List.append_assoc];rfl
  repeat' (first|((first|refine pC ?_|refine pQC ?_|refine pU ?_);push_cast [iO,tN])|(refine pif (fun h=>?_) (fun h=>?_)<;>first|exact pN h|push_cast [iO,tN]))
  exact ⟨(j+1,l2++[((8:Int),o.getD j default)]),⟨by simp only;omega,hnx.symm⟩,by (refine weak_fg ?_;push_cast [iO,tN]),by simp only;omega⟩
 have hj2:j=o.length:=by omega
 rw [hj2,List.take_length,hlx,hp] at hl2x
 have e3:=List.take_of_length_le (l:=l2.map opR) (i:=l2.length) (by simp)
 refine pwp_weak (weak_frz 1 (Nat.zero_le _)) ?_
 push_cast [iO,tN,e3]
 repeat' (first|((first|refine pC ?_|refine pQC ?_|refine pU ?_);push_cast [iO,tN])|(refine pif (fun h=>?_) (fun h=>?_)<;>first|exact pN h|push_cast [iO,tN]))
 (refine retK_of [] ?_;push_cast [iO,tN,hl2x])
set_option maxHeartbeats 8000000 in
theorem sameops_pure (a b:List (Int × ByteArray)) (ha:a.length≤1000000000) (hb:b.length≤1000000000) :
  PCalls Tryz.prog 17 [.c (.sl 14 (a.map opR)),.c (.sl 14 (b.map opR))] [] fun r os=>r = .c (.v (.bool (decide (a=b))))∧os=[]:=by
 refine pcalls_of Tryz.func17 rfl (by simp [Tryz.ntmps17]) ?_
 rw [Tryz.ntmps17,Tryz.results17]
 push_cast [iO,tN]
 by_cases hl:a.length=b.length
 case neg =>
  have hR:decide (a=b)=false:=decide_eq_false fun e=>hl (by rw [e])
  have hl':¬ (a.length:Int)=(b.length:Int):=by omega
  repeat' (first|((first|refine pG ?_|refine pQ ?_|refine pU ?_);push_cast [iO,tN,hl'])|(refine pif (fun h=>?_) (fun h=>?_)<;>first|exact pN h|push_cast [iO,tN,hl']))
  (refine retK_of [] ?_;push_cast [iO,tN,hR])
 have cB:CutB 6 []:=trivial
 repeat' (first|((first|refine pC ?_|refine pQC ?_|refine pU ?_);push_cast [iO,tN,hl])|(refine pif (fun h=>?_) (fun h=>?_)<;>first|exact pN h|push_cast [iO,tN,hl]))
 (apply pwp_loop3 (α:=Nat) 6 [] (fun k=>[(5,.c (.v (.int .i64 k)))]) (fun k=>[]) (fun k=>k≤a.length∧a.take k=b.take k) (fun k=>a.length - k) (0);(focus ((try push_cast [iO,tN]);rfl));(focus exact ⟨by omega,rfl⟩);(focus ((refine weak_fg ?_;try push_cast [iO,tN]))))
 rintro k ⟨hk,hpre⟩
 push_cast [iO,tN]
 by_cases hlt:k < a.length
 ·have hlt':k < b.length:=by omega
  have e1:=getD_lt a hlt
  have e2:=getD_lt b hlt'
  by_cases h1:(a.getD k default).1=(b.getD k default).1
  ·by_cases h2:(a.getD k default).2=(b.getD k default).2
   ·have he:a.take (k+1)=b.take (k+1):=by
     rw [List.take_succ_eq_append_getElem hlt,List.take_succ_eq_append_getElem hlt',hpre,← e1,← e2,Prod.ext h1 h2]
    repeat' (first|((first|refine pC ?_|refine pQC ?_|refine pU ?_);push_cast [iO,tN,h1,h2,ne_eq,not_true_eq_false])|(refine pif (fun h=>?_) (fun h=>?_)<;>first|exact pN h|push_cast [iO,tN,h1,h2,ne_eq,not_true_eq_false]))
    exact ⟨k+1,⟨by omega,he⟩,by (refine weak_fg ?_;push_cast [iO,tN]),by omega⟩
   ·have hR:decide (a=b)=false:=decide_eq_false fun e=>h2 (by rw [e])
    repeat' (first|((first|refine pC ?_|refine pQC ?_|refine pU ?_);push_cast [iO,tN,h1,h2,ne_eq,not_true_eq_false,not_false_eq_true])|(refine pif (fun h=>?_) (fun h=>?_)<;>first|exact pN h|push_cast [iO,tN,h1,h2,ne_eq,not_true_eq_false,not_false_eq_true]))
    (refine retK_of [] ?_;push_cast [iO,tN,hR])
  ·have hR:decide (a=b)=false:=decide_eq_false fun e=>h1 (by rw [e])
   repeat' (first|((first|refine pC ?_|refine pQC ?_|refine pU ?_);push_cast [iO,tN,h1,ne_eq,not_false_eq_true])|(refine pif (fun h=>?_) (fun h=>?_)<;>first|exact pN h|push_cast [iO,tN,h1,ne_eq,not_false_eq_true]))
   (refine retK_of [] ?_;push_cast [iO,tN,hR])
 ·have hk2:k=a.length:=by omega
  rw [hk2,List.take_length,hl,List.take_length] at hpre
  have hR:decide (a=b)=true:=decide_eq_true hpre
  repeat' (first|((first|refine pC ?_|refine pQC ?_|refine pU ?_);push_cast [iO,tN])|(refine pif (fun h=>?_) (fun h=>?_)<;>first|exact pN h|push_cast [iO,tN]))
  (refine retK_of [] ?_;push_cast [iO,tN,hR])
end Go.Proofs.YtmjffgienmcabaaGreatDoor
namespace Go.Proofs.YtmjffgienmcabaaGreatDoor
open Go.RowKit
open IntWalk renaming iteOmega → iO, toNatUp → tN
set_option linter.unusedVariables false
set_option linter.unusedSimpArgs false
instance decMem (x:ByteArray) (l:List ByteArray):Decidable (x ∈ l):=decidable_of_iff (inM x l=true) inM_iff
def kNic:ByteArray:=⟨#[110,105,99]⟩
def kCore:ByteArray:=⟨#[99,111,114,101]⟩
def kHid:ByteArray:=⟨#[104,105,100]⟩
theorem reach_sub {M:List Mod} {n:ByteArray} (S:List ByteArray) (h0:∀ x ∈ needsOf M n,x ∈ S) (h1:∀ y ∈ S,∀ x ∈ needsOf M y,x ∈ S):∀ {x:ByteArray},Reach M n x → x ∈ S:=by
 intro x h
 induction h with
 | one h=>exact h0 _ h
 | more _ h ih=>exact h1 _ ih _ h
set_option maxRecDepth 20000
theorem alts_usb:altsM ⟨#[117,115,98,58,118,49,42]⟩=some [[litEl 117,litEl 115,litEl 98,litEl 58,litEl 118,litEl 49,starEl]]:=by
 unfold altsM
 rw [altGo,dif_neg (by decide),if_neg (by decide),if_neg (by decide),if_neg (by decide),if_neg (by decide)]
 rw [altGo,dif_neg (by decide),if_neg (by decide),if_neg (by decide),if_neg (by decide),if_neg (by decide)]
 rw [altGo,dif_neg (by decide),if_neg (by decide),if_neg (by decide),if_neg (by decide),if_neg (by decide)]
 rw [altGo,dif_neg (by decide),if_neg (by decide),if_neg (by decide),if_neg (by decide),if_neg (by decide)]
 rw [altGo,dif_neg (by decide),if_neg (by decide),if_neg (by decide),if_neg (by decide),if_neg (by decide)]
 rw [altGo,dif_neg (by decide),if_neg (by decide),if_neg (by decide),if_neg (by decide),if_neg (by decide)]
 rw [altGo,dif_neg (by decide),if_neg (by decide),if_pos (by decide)]
 rw [altGo,dif_pos (by decide)]
 rfl
theorem alts_pci:altsM ⟨#[112,99,105,58,100,50]⟩=some [[litEl 112,litEl 99,litEl 105,litEl 58,litEl 100,litEl 50]]:=by
 unfold altsM
 rw [altGo,dif_neg (by decide),if_neg (by decide),if_neg (by decide),if_neg (by decide),if_neg (by decide)]
 rw [altGo,dif_neg (by decide),if_neg (by decide),if_neg (by decide),if_neg (by decide),if_neg (by decide)]
 rw [altGo,dif_neg (by decide),if_neg (by decide),if_neg (by decide),if_neg (by decide),if_neg (by decide)]
 rw [altGo,dif_neg (by decide),if_neg (by decide),if_neg (by decide),if_neg (by decide),if_neg (by decide)]
 rw [altGo,dif_neg (by decide),if_neg (by decide),if_neg (by decide),if_neg (by decide),if_neg (by decide)]
 rw [altGo,dif_neg (by decide),if_neg (by decide),if_neg (by decide),if_neg (by decide),if_neg (by decide)]
 rw [altGo,dif_pos (by decide)]
 rfl
theorem glob_pci:globM ⟨#[112,99,105,58,100,50]⟩=0:=by
 unfold globM
 rw [if_neg (by decide),if_neg (by decide +kernel),alts_pci]
theorem match_usb:matchM ⟨#[117,115,98,58,118,49,42]⟩ ⟨#[112,99,105,58,100,50]⟩=false:=by
 unfold matchM
 rw [alts_usb]
 simp only
 rw [show ([[litEl 117,litEl 115,litEl 98,litEl 58,litEl 118,litEl 49,starEl]].any fun x=>mat x (⟨#[112,99,105,58,100,50]⟩:ByteArray).data.toList)=false from by decide +kernel,Bool.and_false]
theorem match_pci:matchM ⟨#[112,99,105,58,100,50]⟩ ⟨#[112,99,105,58,100,50]⟩=true:=by
 unfold matchM
 rw [glob_pci,alts_pci]
 simp only
 rw [show ([[litEl 112,litEl 99,litEl 105,litEl 58,litEl 100,litEl 50]].any fun x=>mat x (⟨#[112,99,105,58,100,50]⟩:ByteArray).data.toList)=true from by decide +kernel,show ((⟨#[112,99,105,58,100,50]⟩:ByteArray).data.toList.all textB)=true from by decide +kernel]
 rfl
def k20M:List Mod:=[⟨kHid,[⟨#[117,115,98,58,118,49,42]⟩],[],[],[],false⟩,⟨kNic,[⟨#[112,99,105,58,100,50]⟩],[kCore],[],[],false⟩,⟨kCore,[],[],[],[],false⟩]
def k20C:Cfg:=⟨k20M,[],[],[],[]⟩
def k20D:Dev:=⟨1,0,⟨#[120]⟩,⟨#[120]⟩,⟨#[112,99,105]⟩,⟨#[]⟩,⟨#[112,99,105,58,100,50]⟩,1,0,[]⟩
theorem k20_find (x:ByteArray):x ∈ findA k20C ⟨#[112,99,105,58,100,50]⟩ ↔ x=kNic:=by
 rw [(findA_spec k20C ⟨#[112,99,105,58,100,50]⟩).2]
 constructor
 ·rintro ⟨m,hm,hf,rfl⟩
  simp only [k20C,k20M,List.mem_cons,List.not_mem_nil,or_false] at hm
  rcases hm with rfl|rfl|rfl
  ·unfold foundR matsR at hf
   simp [k20C,match_usb] at hf
  ·rfl
  ·unfold foundR matsR at hf
   simp [k20C] at hf
 ·rintro rfl
  refine ⟨⟨kNic,[⟨#[112,99,105,58,100,50]⟩],[kCore],[],[],false⟩,by simp [k20C,k20M],?_,rfl⟩
  unfold foundR matsR
  simp only [List.any_cons,List.any_nil,match_pci,k20C]
  decide +kernel
theorem k20_seeds:seedsL k20C [k20D] []=[kNic]:=by
 obtain ⟨h1,h2⟩:=seeds_spec k20C [k20D] []
 refine asc_ext h1 (by simp [asc]) fun x=>?_
 rw [h2]
 have ha:x ∈ askedL k20C [k20D] [] ↔ x=kNic∨x=⟨#[]⟩:=by
  unfold askedL devAsk
  simp only [List.flatMap_cons,List.flatMap_nil,List.append_nil,List.mem_append,List.mem_singleton,show k20C.keep=[] from rfl,show k20D.alias_=⟨#[112,99,105,58,100,50]⟩ from rfl,show k20D.driver=⟨#[]⟩ from rfl,k20_find]
 rw [ha,List.mem_singleton]
 constructor
 ·rintro ⟨rfl|rfl,h⟩
  ·rfl
  ·exact absurd h (by decide +kernel)
 ·rintro rfl
  exact ⟨.inl rfl,by decide +kernel⟩
theorem k20_reach (x:ByteArray):Reach k20M kNic x ↔ x=kCore:=by
 refine ⟨fun h=>by simpa using reach_sub [kCore] (by decide +kernel) (by decide +kernel) h,?_⟩
 rintro rfl
 exact .one (by decide +kernel)
theorem k20_none {n:ByteArray} (hn:needsOf k20M n=[]) (x:ByteArray):¬ Reach k20M n x:=fun h=>by simpa using reach_sub [] (by rw [hn];simp) (by simp) h
theorem k20_hn (x:ByteArray):x ∈ hardL k20M kNic ↔ x=kNic∨x=kCore:=by rw [(hard_spec k20M kNic).2.1,k20_reach]
theorem k20_why:whyV k20M [] kNic=0:=by
 unfold whyV
 rw [if_neg,if_neg,if_neg]
 ·rintro ⟨x,hx,h⟩;rw [k20_hn] at hx;rcases hx with rfl|rfl<;>(refine absurd h ?_;decide +kernel)
 ·rintro ⟨x,hx,h⟩
  rw [k20_hn] at hx
  rcases hx with rfl|rfl
  ·rw [k20_reach] at h;revert h;decide +kernel
  ·exact k20_none (by decide +kernel) _ h
 ·rintro ⟨x,hx,h⟩;rw [k20_hn] at hx;rcases hx with rfl|rfl<;>revert h<;>decide +kernel
theorem k20_soft {n:ByteArray}:softOf k20M n=[]:=by
 unfold softOf
 cases h:modOf k20M n with
 | none=>rfl
 | some m =>
  have hm:=(mod_mem h).1
  simp only [k20M,List.mem_cons,List.not_mem_nil,or_false] at hm
  rcases hm with rfl|rfl|rfl<;>rfl
theorem k20_wanted:wantedL k20C [k20D] []=[kCore,kNic]:=by
 unfold wantedL
 rw [k20_seeds]
 refine listOf_eq (by simp only [asc];decide +kernel) fun x=>?_
 constructor
 ·intro h
  rw [List.mem_cons,List.mem_singleton] at h
  rcases h with rfl|rfl
  ·exact .base (by simp) k20_why ((k20_hn _).2 (.inr rfl))
  ·exact .base (by simp) k20_why ((k20_hn _).2 (.inl rfl))
 ·intro h
  cases h with
  | base h1 h2 h3 =>
   rw [List.mem_singleton] at h1
   subst h1
   rcases (k20_hn x).1 h3 with rfl|rfl<;>simp
  | step h1 h2 _ _=>rw [show k20C.modules=k20M from rfl,k20_soft] at h2;cases h2
theorem ascOf_id {l:List ByteArray} (h:asc l):ascOf l=l:=asc_ext (ascOf_spec l).1 h (ascOf_spec l).2.1
theorem k20_unl:unlM k20M [kCore,kNic] [kCore,kHid]=([kHid],[kCore]):=by
 unfold unlM
 rw [ascOf_id (by simp only [asc];decide +kernel)]
 decide +kernel
theorem k20_plan:planL k20M [kCore,kHid] [kCore,kNic]=[(9,kHid),(8,kNic)]:=by
 unfold planL
 rw [k20_unl]
 have hr:restM [kCore] [kCore,kNic]=[kNic]:=by
  unfold restM
  rw [show ([kCore,kNic].filter fun x=>!inM x [kCore])=[kNic] from by decide +kernel]
  exact ascOf_id (by simp [asc])
 simp only [hr]
 decide +kernel
def leC:E → E → Prop
 | .full sz l,.sl sz' l'=>sz=sz'∧leRows l l'
 | .v x,.v y=>x=y
 | _,_=>False
def leCs:List E → List E → Prop
 | [],[]=>True
 | a :: r,b :: r'=>leC a b∧leCs r r'
 | _,_=>False
attribute [push_cast] leC leCs
theorem leC_ok {w:World} {Γ:G} {a b:E} {y:Value} (h:leC a b) (hr:RE w Γ a y):RE w Γ b y:=by
 unfold leC at h
 split at h
 ·obtain ⟨rfl,h⟩:=h
  obtain ⟨h2,_⟩:=hr
  obtain ⟨A,c,xs,h3,h4,h5,h6,h7⟩:=rd_sl.1 h2
  show RD w Γ.I (.sl _ _) _
  rw [rd_sl,h3]
  have hl:=leRows_length h
  exact ⟨A,c,xs,by rw [hl],by omega,by rw [← hl];exact h5,leRows_mem h h6,leRows_ok h h7⟩
 ·subst h;exact hr
 ·exact h.elim
theorem leCs_ok {w:World} {Γ:G}:∀ {a b:List E} {ys:List Value},leCs a b → All2 (RE w Γ) a ys → All2 (RE w Γ) b ys
 | [],[],_,_,h=>h
 | _ :: _,_ :: _,[],_,h=>h.elim
 | _ :: _,_ :: _,_ :: _,h,hr=>⟨leC_ok h.1 hr.1,leCs_ok h.2 hr.2⟩
 | [],_ :: _,_,h,_=>h.elim
 | _ :: _,[],_,h,_=>h.elim
theorem weak_boxrows {N p:Nat} {s:S} (k:Nat) {ty:TypeId} {cs:List E} (cs':List E) (hk:s.o[k]? = some (.box ty cs)) (h:leCs cs cs'):Weak N p s ⟨s.t,setO s.o k (.box ty cs')⟩:=by
 intro Γ a w hA
 have hm:=hA.inv.m
 have hkl:k < s.o.length:=(List.getElem?_eq_some_iff.1 hk).1
 refine ⟨Γ,⟨⟨hA.inv.size,hA.inv.defers,hA.inv.t,⟨by simp [setO,hm.n],fun j o ho=>?_,hm.sep,hm.off,hm.lt,hm.pin⟩⟩,hA.le⟩,Grow.refl _ _ _⟩
 simp only [setO] at ho
 by_cases e:k=j
 ·subst e
  rw [List.getElem?_set_self hkl] at ho
  cases ho
  obtain ⟨g1,xs,g2,g3,g4⟩:=hm.ob k _ hk
  exact ⟨g1,xs,g2,leCs_ok h g3,g4⟩
 ·rw [List.getElem?_set_ne e] at ho
  exact hm.ob j o ho
theorem weak_aggrows {N p:Nat} {s:S} (i:Nat) {cs:List E} (cs':List E) (hi:s.get i=some (.agg cs)) (h:leCs cs cs'):Weak N p s ⟨(i,.agg cs') :: s.t,s.o⟩:=by
 intro Γ a w hA
 refine ⟨Γ,⟨⟨hA.inv.size,hA.inv.defers,fun j q hq=>?_,hA.inv.m⟩,hA.le⟩,Grow.refl _ _ _⟩
 simp only [S.get,look] at hq
 split at hq
 ·rename_i e
  subst e
  cases hq
  obtain ⟨h1,xs,h2,h3⟩:=hA.inv.t j _ hi
  exact ⟨h1,xs,h2,leCs_ok h h3⟩
 ·exact hA.inv.t j q hq
end Go.Proofs.YtmjffgienmcabaaGreatDoor
