/- What the program computes, and the plain laws of it, part 17. -/
import Derived.Test.YtgijigkfmbiifaaGreatDoorR16
namespace Go.Proofs.YtgijigkfmbiifaaGreatDoor
attribute [local irreducible] PL QL PWPr PCalls Weak RetK Kontr PA
open Go.RowKit
open IntWalk renaming iteOmega → iO, toNatUp → tN
set_option linter.unusedVariables false
set_option linter.unusedSimpArgs false
set_option maxRecDepth 20000
structure Sized (M:List Mod):Prop where
 needs:∀ x ∈ allNeeds M,x.size≤maxLen
theorem hard_pure (M:List Mod) (n:ByteArray) (hS:Small M) (hz:Sized M) (hn:n.size≤maxLen) :
  PCalls Tryz.prog 20 [.c (.mp 0),.c (.v (.string n))] [.map none true (modsE M)] fun r os=>r = .c (.own 1 (hardL M n).length)∧os=[.map none true (modsE M),.arr 9 1 ((hardL M n).map strD)]:=by
 refine PCalls.mono (R:=fun r os=>∃ m,(asc m∧∀ x,x ∈ m ↔ x=n∨Reach M n x)∧r = .c (.own 1 m.length)∧os=[.map none true (modsE M),.arr 9 1 (m.map strD)]) ?_ (by
  rintro r os ⟨m,⟨h1,h2⟩,rfl,rfl⟩
  rw [hardL,listOf_eq h1 h2]
  exact ⟨rfl,rfl⟩)
 refine pcalls_of Tryz.func20 rfl (by simp [Tryz.ntmps20]) ?_
 rw [Tryz.ntmps20,Tryz.results20]
 push_cast [iO,tN]
 repeat' (first |  (refine plc [0] (reached_pure M n hS) ?_ ?_;push_cast [iO,tN];rintro r os ⟨seen,⟨hnd,hse⟩,rfl,rfl⟩;push_cast [iO,tN])  | ((first|refine pG ?_|refine pQ ?_|refine pU ?_);push_cast [iO,tN])|(refine pif (fun h=>?_) (fun h=>?_)<;>first|exact pN h|push_cast [iO,tN]))
 have hlen:(addS seen n).length≤10001:=by
  have h1:=nodup_len seen (allNeeds M) hnd fun x hx=>reach_all ((hse x).1 hx)
  have h2:=hS.all
  unfold addS
  split
  ·omega
  ·simp;omega
 repeat' (first |  (refine plc [1] (keysOf_pure (setE (addS seen n))) ?_ ?_;push_cast [iO,tN];rintro r os ⟨rfl,rfl⟩;push_cast [iO,tN])  | ((first|refine pG ?_|refine pQ ?_|refine pU ?_);push_cast [iO,tN])|(refine pif (fun h=>?_) (fun h=>?_)<;>first|exact pN h|push_cast [iO,tN]))
 repeat' (first |  (refine plc [1,2] (sortedD_pure (addS seen n) (nodup_addS hnd) (fun x hx=>(mem_addS.1 hx).elim (fun h=>hz.needs x (reach_all ((hse x).1 h))) (fun h=>h ▸ hn)) (by omega)) ?_ ?_;push_cast [iO,tN];rintro r os ⟨m,⟨h1,h2,h3⟩,rfl,rfl⟩;push_cast [iO,tN])  | ((first|refine pG ?_|refine pQ ?_|refine pU ?_);push_cast [iO,tN])|(refine pif (fun h=>?_) (fun h=>?_)<;>first|exact pN h|push_cast [iO,tN]))
 (refine retK_of [0,3] ?_;push_cast [iO,tN])
 exact ⟨_,_,leP_refl _,leOs_refl _,m,⟨h1,fun x=>by rw [h3,mem_addS,hse];exact or_comm⟩,rfl,rfl⟩
theorem noMod_fails:noMod.fails=false:=rfl
noncomputable def whyV (M:List Mod) (off:List ByteArray) (n:ByteArray):Int:=open Classical in
 if ∃ x ∈ hardL M n,modOf M x=none then 190 else if ∃ x ∈ hardL M n,Reach M x x then 191 else if ∃ x ∈ hardL M n,((modOf M x).getD noMod).fails=true∨x ∈ off then 192 else 0
structure WInv (M:List Mod) (off H:List ByteArray) (k:Nat) (g r f:Bool):Prop where
 le:k≤H.length
 g:g=true ↔ ∃ x ∈ H.take k,modOf M x=none
 r:r=true ↔ ∃ x ∈ H.take k,Reach M x x
 f:f=true ↔ ∃ x ∈ H.take k,((modOf M x).getD noMod).fails=true∨x ∈ off
theorem WInv.zero (M:List Mod) (off H:List ByteArray):WInv M off H 0 false false false:=⟨by omega,by simp,by simp,by simp⟩
theorem ex_take {α:Type} {l:List α} {k:Nat} (h:k < l.length) (P:α → Prop):(∃ x ∈ l.take (k+1),P x) ↔ (∃ x ∈ l.take k,P x)∨P l[k]:=by
 rw [List.take_succ_eq_append_getElem h]
 constructor
 ·rintro ⟨x,hx,hp⟩
  rcases List.mem_append.1 hx with hx|hx
  ·exact .inl ⟨x,hx,hp⟩
  ·simp at hx;subst hx;exact .inr hp
 ·rintro (⟨x,hx,hp⟩|hp)
  ·exact ⟨x,List.mem_append.2 (.inl hx),hp⟩
  ·exact ⟨_,List.mem_append.2 (.inr (by simp)),hp⟩
theorem WInv.step {M:List Mod} {off H:List ByteArray} {k:Nat} {g r f:Bool} (h:WInv M off H k g r f) (hk:k < H.length) (rr:Bool) (hr:r=false → (rr=true ↔ Reach M (H.getD k default) (H.getD k default))) :
  WInv M off H (k+1) (g || (modOf M (H.getD k default)).isNone) (r || rr) (f || (((modOf M (H.getD k default)).getD noMod).fails || inM (H.getD k default) off)):=by
 have e:=getD_lt H hk
 rw [e] at hr ⊢
 refine ⟨by omega,?_,?_,?_⟩
 ·rw [ex_take hk,Bool.or_eq_true,h.g,Option.isNone_iff_eq_none]
 ·rw [ex_take hk,Bool.or_eq_true]
  cases r with
  | true=>simp only [true_or,true_iff];exact .inl (h.r.1 rfl)
  | false=>rw [hr rfl,← h.r]
 ·rw [ex_take hk (fun x=>((modOf M x).getD noMod).fails=true∨x ∈ off),Bool.or_eq_true,Bool.or_eq_true,h.f,inM_iff]
theorem WInv.done {M:List Mod} {off:List ByteArray} {n:ByteArray} {k:Nat} {g r f:Bool} (h:WInv M off (hardL M n) k g r f) (hk:¬ k < (hardL M n).length) :
  whyV M off n=if g=true then 190 else if r=true then 191 else if f=true then 192 else 0:=by
 have h1:=h.g;have h2:=h.r;have h3:=h.f
 rw [List.take_of_length_le (by omega)] at h1 h2 h3
 have e:∀ (p:Prop) (i:Decidable p) (j:Bool),(j=true ↔ p) → ∀ x y:Int,(@ite _ p i x y)=if j=true then x else y:=by intro p i j h x y;cases j<;>simp_all
 unfold whyV
 rw [e _ _ g h1,e _ _ r h2,e _ _ f h3]
structure CfgOk (c:Cfg):Prop where
 small:Small c.modules
 sized:Sized c.modules
 off:c.off.length≤1000
set_option maxHeartbeats 4000000 in
theorem why_pure (c:Cfg) (n:ByteArray) (hc:CfgOk c) (hn:n.size≤maxLen) :
  PCalls Tryz.prog 19 [.agg c.e,.c (.mp 0),.c (.v (.string n))] [.map none true (modsE c.modules)] fun r os=>r = .c (.v (.int .i64 (whyV c.modules c.off n)))∧os=[.map none true (modsE c.modules)]:=by
 refine pcalls_of Tryz.func19 rfl (by simp [Tryz.ntmps19]) ?_
 rw [Tryz.ntmps19,Tryz.results19]
 push_cast [iO,tN]
 repeat' (first |  (refine plc [0] (hard_pure c.modules n hc.small hc.sized hn) ?_ ?_;push_cast [iO,tN];rintro r os ⟨rfl,rfl⟩;push_cast [iO,tN])  | ((first|refine pG ?_|refine pQ ?_|refine pU ?_);push_cast [iO,tN])|(refine pif (fun h=>?_) (fun h=>?_)<;>first|exact pN h|push_cast [iO,tN]))
 refine pwp_weak (weak_frz 2 (by omega)) ?_
 have hl:(hardL c.modules n).length≤10001:=by have:=(hard_spec c.modules n).2.2;have:=hc.small.all;omega
 have e0:=List.take_of_length_le (l:=(hardL c.modules n).map strD) (i:=(hardL c.modules n).length) (by simp)
 push_cast [iO,tN,e0]
 refine pwp_loop2 (α:=Nat × Bool × Bool × Bool) (fun x=>WInv c.modules c.off (hardL c.modules n) x.1 x.2.1 x.2.2.1 x.2.2.2) (fun x=>⟨[(18,.c (.v (.int .i64 x.1))),(17,.c (.v (.int .i64 (hardL c.modules n).length))),(16,.c (.sl 1 ((hardL c.modules n).map strD))),(9,.c (.v (.bool x.2.2.2))),(8,.c (.v (.bool x.2.2.1))),(7,.c (.v (.bool x.2.1))),(3,.c (.ptr 1 0)),(1,.c (.mp 0))],[.map none true (modsE c.modules),.box 30 c.e,.arr 9 1 []]⟩) (fun x=>(hardL c.modules n).length - x.1) (0,false,false,false) (WInv.zero _ _ _) (by (refine weak_fg ?_;push_cast [iO,tN])) ?_
 rintro ⟨k,g,r,f⟩ hI
 simp only at hI
 have hle:=hI.le
 by_cases hlt:k < (hardL c.modules n).length
 ·cases hm:modOf c.modules ((hardL c.modules n).getD k default) with
  | none =>
   cases r
   ·cases g<;>cases f
    all_goals repeat' (first|(refine plc [0] (reached_pure c.modules ((hardL c.modules n).getD k default) hc.small) ?_ ?_;push_cast [iO,tN,mget_mods,hm,noMod_fails];rintro r os ⟨seen,⟨hnd,hse⟩,rfl,rfl⟩;push_cast [iO,tN,mget_mods,hm,noMod_fails])|(refine plc [] (containsD_pure c.off ((hardL c.modules n).getD k default) (by have:=hc.off;omega)) ?_ ?_;push_cast [iO,tN,mget_mods,hm,noMod_fails];rintro r os ⟨rfl,rfl⟩;push_cast [iO,tN,mget_mods,hm,noMod_fails])|((first|refine pG ?_|refine pQ ?_|refine pU ?_);push_cast [iO,tN,mget_mods,hm,noMod_fails])|(refine pif (fun h=>?_) (fun h=>?_)<;>first|exact pN h|push_cast [iO,tN,mget_mods,hm,noMod_fails]))
    all_goals exact ⟨(k+1,_,_,_),hI.step hlt (inM ((hardL c.modules n).getD k default) seen) (fun _=>by rw [inM_iff,hse]),by (refine weak_fg ?_;push_cast [iO,tN,hm,noMod_fails,noMod_fails,Option.isNone_some,Option.isNone_none,Option.getD_some,Option.getD_none]);all_goals rfl,by simp only;omega⟩
   ·cases g<;>cases f
    all_goals repeat' (first|(refine plc [0] (reached_pure c.modules ((hardL c.modules n).getD k default) hc.small) ?_ ?_;push_cast [iO,tN,mget_mods,hm,noMod_fails];rintro r os ⟨seen,⟨hnd,hse⟩,rfl,rfl⟩;push_cast [iO,tN,mget_mods,hm,noMod_fails])|(refine plc [] (containsD_pure c.off ((hardL c.modules n).getD k default) (by have:=hc.off;omega)) ?_ ?_;push_cast [iO,tN,mget_mods,hm,noMod_fails];rintro r os ⟨rfl,rfl⟩;push_cast [iO,tN,mget_mods,hm,noMod_fails])|((first|refine pG ?_|refine pQ ?_|refine pU ?_);push_cast [iO,tN,mget_mods,hm,noMod_fails])|(refine pif (fun h=>?_) (fun h=>?_)<;>first|exact pN h|push_cast [iO,tN,mget_mods,hm,noMod_fails]))
    all_goals exact ⟨(k+1,_,_,_),hI.step hlt true (fun h=>nomatch h),by (refine weak_fg ?_;push_cast [iO,tN,hm,noMod_fails,noMod_fails,Option.isNone_some,Option.isNone_none,Option.getD_some,Option.getD_none]);all_goals rfl,by simp only;omega⟩
  | some m =>
   cases r
   ·cases hf:m.fails<;>cases g<;>cases f
    all_goals repeat' (first|(refine plc [0] (reached_pure c.modules ((hardL c.modules n).getD k default) hc.small) ?_ ?_;push_cast [iO,tN,mget_mods,hm,hf];rintro r os ⟨seen,⟨hnd,hse⟩,rfl,rfl⟩;push_cast [iO,tN,mget_mods,hm,hf])|(refine plc [] (containsD_pure c.off ((hardL c.modules n).getD k default) (by have:=hc.off;omega)) ?_ ?_;push_cast [iO,tN,mget_mods,hm,hf];rintro r os ⟨rfl,rfl⟩;push_cast [iO,tN,mget_mods,hm,hf])|((first|refine pG ?_|refine pQ ?_|refine pU ?_);push_cast [iO,tN,mget_mods,hm,hf])|(refine pif (fun h=>?_) (fun h=>?_)<;>first|exact pN h|push_cast [iO,tN,mget_mods,hm,hf]))
    all_goals exact ⟨(k+1,_,_,_),hI.step hlt (inM ((hardL c.modules n).getD k default) seen) (fun _=>by rw [inM_iff,hse]),by (refine weak_fg ?_;push_cast [iO,tN,hm,hf,noMod_fails,Option.isNone_some,Option.isNone_none,Option.getD_some,Option.getD_none]);all_goals rfl,by simp only;omega⟩
   ·cases hf:m.fails<;>cases g<;>cases f
    all_goals repeat' (first|(refine plc [0] (reached_pure c.modules ((hardL c.modules n).getD k default) hc.small) ?_ ?_;push_cast [iO,tN,mget_mods,hm,hf];rintro r os ⟨seen,⟨hnd,hse⟩,rfl,rfl⟩;push_cast [iO,tN,mget_mods,hm,hf])|(refine plc [] (containsD_pure c.off ((hardL c.modules n).getD k default) (by have:=hc.off;omega)) ?_ ?_;push_cast [iO,tN,mget_mods,hm,hf];rintro r os ⟨rfl,rfl⟩;push_cast [iO,tN,mget_mods,hm,hf])|((first|refine pG ?_|refine pQ ?_|refine pU ?_);push_cast [iO,tN,mget_mods,hm,hf])|(refine pif (fun h=>?_) (fun h=>?_)<;>first|exact pN h|push_cast [iO,tN,mget_mods,hm,hf]))
    all_goals exact ⟨(k+1,_,_,_),hI.step hlt true (fun h=>nomatch h),by (refine weak_fg ?_;push_cast [iO,tN,hm,hf,noMod_fails,Option.isNone_some,Option.isNone_none,Option.getD_some,Option.getD_none]);all_goals rfl,by simp only;omega⟩
 ·have hd:=hI.done hlt
  cases g<;>cases r<;>cases f
  all_goals simp only [reduceIte,Bool.false_eq_true] at hd
  all_goals repeat' (first|((first|refine pG ?_|refine pQ ?_|refine pU ?_);push_cast [iO,tN])|(refine pif (fun h=>?_) (fun h=>?_)<;>first|exact pN h|push_cast [iO,tN]))
  all_goals (refine retK_of [0] ?_;push_cast [iO,tN])
  all_goals rw [hd]
set_option maxRecDepth 20000
def softOf (M:List Mod) (n:ByteArray):List ByteArray:=((modOf M n).getD noMod).pre++((modOf M n).getD noMod).post
inductive Cl (M:List Mod) (off names:List ByteArray):ByteArray → Prop
 | base {s x:ByteArray}:s ∈ names → whyV M off s=0 → x ∈ hardL M s → Cl M off names x
 | step {m s x:ByteArray}:Cl M off names m → s ∈ softOf M m → whyV M off s=0 → x ∈ hardL M s → Cl M off names x
theorem whyV_zero {M:List Mod} {off:List ByteArray} {n:ByteArray} (h:whyV M off n=0):∀ x ∈ hardL M n,¬ modOf M x=none:=by
 intro x hx hm
 unfold whyV at h
 rw [if_pos ⟨x,hx,hm⟩] at h
 cases h
theorem Cl.there {M:List Mod} {off names:List ByteArray} {x:ByteArray} (h:Cl M off names x):¬ modOf M x=none:=by
 cases h with
 | base _ h1 h2=>exact whyV_zero h1 _ h2
 | step _ _ h1 h2=>exact whyV_zero h1 _ h2
theorem there_name {M:List Mod} {x:ByteArray} (h:¬ modOf M x=none):x ∈ M.map Mod.name:=by
 cases hm:modOf M x with
 | none=>exact absurd hm h
 | some m=>exact List.mem_map.2 ⟨m,(mod_mem hm).1,(mod_mem hm).2⟩
theorem hard_trans {M:List Mod} {a b c:ByteArray} (h:b ∈ hardL M a) (h':c ∈ hardL M b):c ∈ hardL M a:=by
 rw [(hard_spec M a).2.1] at h ⊢
 rw [(hard_spec M b).2.1] at h'
 rcases h with rfl|h
 ·exact h'
 ·rcases h' with rfl|h'
  ·exact .inr h
  ·exact .inr (h.trans h')
theorem hard_self (M:List Mod) (a:ByteArray):a ∈ hardL M a:=((hard_spec M a).2.1 a).2 (.inl rfl)
noncomputable def closL (M:List Mod) (off names:List ByteArray):List ByteArray:=listOf (Cl M off names)
theorem clos_spec (M:List Mod) (off names:List ByteArray):asc (closL M off names)∧(∀ x,x ∈ closL M off names ↔ Cl M off names x)∧(closL M off names).length≤M.length:=by
 have:=listOf_spec (P:=Cl M off names) (M.map Mod.name) fun x h=>there_name h.there
 simpa [closL] using this
structure CInv (M:List Mod) (off names seen st:List ByteArray):Prop where
 nd:seen.Nodup
 hs:∀ x ∈ seen,Cl M off names x
 ht:∀ s ∈ st,s ∈ names∨∃ m,Cl M off names m∧s ∈ softOf M m
 h0:∀ s ∈ names,whyV M off s=0 → (∀ x ∈ hardL M s,x ∈ seen)∨s ∈ st
 hn:∀ m ∈ seen,∀ s ∈ softOf M m,whyV M off s=0 → (∀ x ∈ hardL M s,x ∈ seen)∨s ∈ st
 hc:∀ x ∈ seen,∀ y ∈ hardL M x,y ∈ seen
 hl:st.length≤names.length+200 * seen.length
theorem CInv.init (M:List Mod) (off names:List ByteArray):CInv M off names [] names:=⟨by simp,by simp,fun s h=>.inl h,fun s h _=>.inr h,by simp,by simp,by simp⟩
theorem CInv.seenLen {M:List Mod} {off names seen st:List ByteArray} (h:CInv M off names seen st):seen.length≤M.length:=by
 have:=nodup_len seen (M.map Mod.name) h.nd fun x hx=>there_name (h.hs x hx).there
 simpa using this
theorem CInv.skip {M:List Mod} {off names seen st:List ByteArray} {s:ByteArray} (h:CInv M off names seen (st++[s])) (hs:s ∈ seen∨whyV M off s≠0):CInv M off names seen st:=by
 have key:∀ t,whyV M off t=0 → (∀ x ∈ hardL M t,x ∈ seen)∨t ∈ st++[s] → (∀ x ∈ hardL M t,x ∈ seen)∨t ∈ st:=by
  rintro t h0 (h1|h1)
  ·exact .inl h1
  ·rcases List.mem_append.1 h1 with h1|h1
   ·exact .inr h1
   ·simp at h1
    subst h1
    rcases hs with hs|hs
    ·exact .inl (h.hc t hs)
    ·exact absurd h0 hs
 exact ⟨h.nd,h.hs,fun t ht=>h.ht t (by simp [ht]),fun t ht h0=>key t h0 (h.h0 t ht h0),fun m hm t ht h0=>key t h0 (h.hn m hm t ht h0),h.hc,by have:=h.hl;simp at this;omega⟩
theorem CInv.done {M:List Mod} {off names seen:List ByteArray} (h:CInv M off names seen []) (x:ByteArray):x ∈ seen ↔ Cl M off names x:=by
 refine ⟨h.hs x,fun hx=>?_⟩
 induction hx with
 | base h1 h2 h3 =>
  rcases h.h0 _ h1 h2 with h4|h4
  ·exact h4 _ h3
  ·simp at h4
 | step _ h1 h2 h3 ih =>
  rcases h.hn _ ih _ h1 h2 with h4|h4
  ·exact h4 _ h3
  ·simp at h4
structure CIn (M:List Mod) (off names seen0:List ByteArray) (n0:Nat) (s:ByteArray) (k:Nat) (seen st:List ByteArray):Prop where
 nd:seen.Nodup
 hs:∀ x ∈ seen,Cl M off names x
 ht:∀ s ∈ st,s ∈ names∨∃ m,Cl M off names m∧s ∈ softOf M m
 sub:∀ x ∈ seen0,x ∈ seen
 new:∀ x ∈ seen,x ∈ seen0∨x ∈ hardL M s
 all:∀ x ∈ (hardL M s).take k,x ∈ seen
 h0:∀ t ∈ names,whyV M off t=0 → (∀ x ∈ hardL M t,x ∈ seen0)∨t ∈ st∨t=s
 hn:∀ m ∈ seen,∀ t ∈ softOf M m,whyV M off t=0 → (∀ x ∈ hardL M t,x ∈ seen0)∨t ∈ st∨t=s
 hl:st.length+200 * seen0.length≤n0+200 * seen.length
 hl0:n0≤names.length+200 * seen0.length
theorem CInv.enter {M:List Mod} {off names seen st:List ByteArray} {s:ByteArray} (h:CInv M off names seen (st++[s])):CIn M off names seen st.length s 0 seen st:=by
 have key:∀ t,(∀ x ∈ hardL M t,x ∈ seen)∨t ∈ st++[s] → (∀ x ∈ hardL M t,x ∈ seen)∨t ∈ st∨t=s:=by
  rintro t (h1|h1)
  ·exact .inl h1
  ·rcases List.mem_append.1 h1 with h1|h1
   ·exact .inr (.inl h1)
   ·simp at h1;exact .inr (.inr h1)
 exact ⟨h.nd,h.hs,fun t ht=>h.ht t (by simp [ht]),fun x hx=>hx,fun x hx=>.inl hx,by simp,fun t ht h0=>key t (h.h0 t ht h0),fun m hm t ht h0=>key t (h.hn m hm t ht h0),by omega,by have:=h.hl;simp at this;omega⟩
theorem CIn.seenLen {M:List Mod} {off names seen0 seen st:List ByteArray} {s:ByteArray} {k n0:Nat} (h:CIn M off names seen0 n0 s k seen st):seen.length≤M.length:=by
 have:=nodup_len seen (M.map Mod.name) h.nd fun x hx=>there_name (h.hs x hx).there
 simpa using this
theorem take_mem_succ {l:List ByteArray} {k:Nat} (hk:k < l.length) {x:ByteArray}:x ∈ l.take (k+1) ↔ x ∈ l.take k∨x=l.getD k default:=by
 rw [List.take_succ_eq_append_getElem hk,getD_lt l hk,List.mem_append,List.mem_singleton]
theorem CIn.old {M:List Mod} {off names seen0 seen st:List ByteArray} {s:ByteArray} {k n0:Nat} (h:CIn M off names seen0 n0 s k seen st) (hk:k < (hardL M s).length) (hm:(hardL M s).getD k default ∈ seen):CIn M off names seen0 n0 s (k+1) seen st :=
 ⟨h.nd,h.hs,h.ht,h.sub,h.new,fun x hx=>by
  rcases (take_mem_succ hk).1 hx with hx|rfl
  ·exact h.all x hx
  ·exact hm,h.h0,h.hn,h.hl,h.hl0⟩
theorem CIn.add {M:List Mod} {off names seen0 seen st:List ByteArray} {s:ByteArray} {k n0:Nat} (h:CIn M off names seen0 n0 s k seen st) (hk:k < (hardL M s).length) (hm:(hardL M s).getD k default ∉ seen) (hcl:∀ x ∈ hardL M s,Cl M off names x) (hlen:(softOf M ((hardL M s).getD k default)).length≤200) :
  CIn M off names seen0 n0 s (k+1) (addS seen ((hardL M s).getD k default)) (st++softOf M ((hardL M s).getD k default)):=by
 have hmem:(hardL M s).getD k default ∈ hardL M s:=by rw [getD_lt _ hk];exact List.getElem_mem _
 have ha:(addS seen ((hardL M s).getD k default)).length=seen.length+1:=by unfold addS;rw [if_neg (by rw [inM_iff];exact hm)];simp
 refine ⟨nodup_addS h.nd,fun x hx=>?_,fun t ht=>?_,fun x hx=>mem_addS.2 (.inl (h.sub x hx)),fun x hx=>?_,fun x hx=>?_,fun t ht h0=>?_,fun m hm t ht h0=>?_,?_,h.hl0⟩
 ·rcases mem_addS.1 hx with hx|rfl
  ·exact h.hs x hx
  ·exact hcl _ hmem
 ·rcases List.mem_append.1 ht with ht|ht
  ·exact h.ht t ht
  ·exact .inr ⟨_,hcl _ hmem,ht⟩
 ·rcases mem_addS.1 hx with hx|rfl
  ·exact h.new x hx
  ·exact .inr hmem
 ·rcases (take_mem_succ hk).1 hx with hx|rfl
  ·exact mem_addS.2 (.inl (h.all x hx))
  ·exact mem_addS.2 (.inr rfl)
 ·rcases h.h0 t ht h0 with h1|h1|h1
  ·exact .inl h1
  ·exact .inr (.inl (by simp [h1]))
  ·exact .inr (.inr h1)
 ·rcases mem_addS.1 hm with hm|rfl
  ·rcases h.hn m hm t ht h0 with h1|h1|h1
   ·exact .inl h1
   ·exact .inr (.inl (by simp [h1]))
   ·exact .inr (.inr h1)
  ·exact .inr (.inl (List.mem_append.2 (.inr ht)))
 ·have:=h.hl
  rw [ha,List.length_append]
  omega
theorem CIn.leave {M:List Mod} {off names seen0 seen st:List ByteArray} {s:ByteArray} {k n0:Nat} (h:CIn M off names seen0 n0 s k seen st) (hk:¬ k < (hardL M s).length) (hc:∀ x ∈ seen0,∀ y ∈ hardL M x,y ∈ seen0):CInv M off names seen st:=by
 have hall:∀ x ∈ hardL M s,x ∈ seen:=by have:=h.all;rwa [List.take_of_length_le (by omega)] at this
 have key:∀ t,(∀ x ∈ hardL M t,x ∈ seen0)∨t ∈ st∨t=s → (∀ x ∈ hardL M t,x ∈ seen)∨t ∈ st:=by
  rintro t (h1|h1|rfl)
  ·exact .inl fun x hx=>h.sub x (h1 x hx)
  ·exact .inr h1
  ·exact .inl hall
 refine ⟨h.nd,h.hs,h.ht,fun t ht h0=>key t (h.h0 t ht h0),fun m hm t ht h0=>key t (h.hn m hm t ht h0),fun x hx y hy=>?_,by have:=h.hl;have:=h.hl0;omega⟩
 rcases h.new x hx with hx|hx
 ·exact h.sub y (hc x hx y hy)
 ·exact hall y (hard_trans hx hy)
structure CfgOk2 (c:Cfg):Prop extends CfgOk c where
 soft:∀ n,∀ x ∈ softOf c.modules n,x.size≤maxLen
 softl:∀ n,(softOf c.modules n).length≤200
noncomputable def closSt (c:Cfg) (seen st:List ByteArray):S:=⟨[(7,.c (.own 3 st.length)),(6,.c (.mp 2)),(5,.c (.mp 1)),(2,.c (.ptr 0 0))],[.box 30 c.e,.map none true (modsE c.modules),.map none false (setE seen),.arr 9 1 (st.map strD)]⟩
attribute [push_cast] closSt
set_option maxHeartbeats 4000000 in
theorem closure_pure (c:Cfg) (names:List ByteArray) (hc:CfgOk2 c) (hn:names.length≤1000) (hz:∀ x ∈ names,x.size≤maxLen) (hnz:∀ x ∈ c.modules.map Mod.name,x.size≤maxLen) :
  PCalls Tryz.prog 5 [.agg c.e,.c (.sl 1 (names.map strD))] [] fun r os=>r = .c (.own 0 (closL c.modules c.off names).length)∧os=[.arr 9 1 ((closL c.modules c.off names).map strD)]:=by
 have hS:=hc.small
 have hML:=hS.len
 refine PCalls.mono (R:=fun r os=>∃ m,(asc m∧∀ x,x ∈ m ↔ Cl c.modules c.off names x)∧r = .c (.own 0 m.length)∧os=[.arr 9 1 (m.map strD)]) ?_ (by
  rintro r os ⟨m,⟨h1,h2⟩,rfl,rfl⟩
  rw [closL,listOf_eq h1 h2]
  exact ⟨rfl,rfl⟩)
 refine pcalls_of Tryz.func5 rfl (by simp [Tryz.ntmps5]) ?_
 rw [Tryz.ntmps5,Tryz.results5]
 push_cast [iO,tN]
 repeat' (first |  (refine plc [] (modules_pure c hS.nodup (by omega)) ?_ ?_;push_cast [iO,tN];rintro r os ⟨rfl,rfl⟩;push_cast [iO,tN])|(refine plc [] (clone_pure names (by omega)) ?_ ?_;push_cast [iO,tN];rintro r os ⟨rfl,rfl⟩;push_cast [iO,tN])  | ((first|refine pG ?_|refine pQ ?_|refine pU ?_);push_cast [iO,tN])|(refine pif (fun h=>?_) (fun h=>?_)<;>first|exact pN h|push_cast [iO,tN]))
 refine pwp_loop2 (α:=List ByteArray × List ByteArray) (fun x=>CInv c.modules c.off names x.1 x.2) (fun x=>closSt c x.1 x.2) (fun x=>(100 - x.1.length) * 300+x.2.length) ([],names) (CInv.init _ _ _) (by (refine weak_fg ?_;push_cast [iO,tN])) ?_
 rintro ⟨seen,st⟩ hI
 have hsl:=hI.seenLen
 simp only at hI hsl
 rcases List.eq_nil_or_concat st with h0|⟨st',s,h0⟩
 ·subst h0
  repeat' (first |  (refine plc [2] (keysOf_pure (setE seen)) ?_ ?_;push_cast [iO,tN];rintro r os ⟨rfl,rfl⟩;push_cast [iO,tN])  | ((first|refine pG ?_|refine pQ ?_|refine pU ?_);push_cast [iO,tN])|(refine pif (fun h=>?_) (fun h=>?_)<;>first|exact pN h|push_cast [iO,tN]))
  repeat' (first |  (refine plc [2,4] (sortedD_pure seen hI.nd (fun x hx=>hnz x (there_name (hI.hs x hx).there)) (by omega)) ?_ ?_;push_cast [iO,tN];rintro r os ⟨m,⟨h1,h2,h3⟩,rfl,rfl⟩;push_cast [iO,tN])  | ((first|refine pG ?_|refine pQ ?_|refine pU ?_);push_cast [iO,tN])|(refine pif (fun h=>?_) (fun h=>?_)<;>first|exact pN h|push_cast [iO,tN]))
  (refine retK_of [5] ?_;push_cast [iO,tN])
  exact ⟨_,_,leP_refl _,leOs_refl _,m,⟨h1,fun x=>(h3 x).trans (hI.done x)⟩,rfl,rfl⟩
 ·rw [List.concat_eq_append] at h0
  subst h0
  have e1:=getD_snoc (st'.map strD) (strD s) []
  have e2:=List.take_left' (l₁:=st'.map strD) (l₂:=[strD s]) (i:=st'.length) (by simp)
  simp only [List.length_map,strD] at e1 e2
  have hl:=hI.hl
  simp only [List.length_append,List.length_cons,List.length_nil] at hl
  have hsz:s.size≤maxLen:=by
   rcases hI.ht s (by simp) with h|⟨m,_,h⟩
   ·exact hz s h
   ·exact hc.soft m s h
  cases hs:inM s seen
  ·obtain ⟨v,hv⟩:∃ v,whyV c.modules c.off s=v:=⟨_,rfl⟩
   by_cases hv0:v=0
   ·subst hv0
    repeat' (first|(refine plc [1] (why_pure c s hc.toCfgOk hsz) ?_ ?_;push_cast [iO,tN,hs,e1,e2,hv];rintro r os ⟨rfl,rfl⟩;push_cast [iO,tN,hs,e1,e2,hv])|(refine plc [1] (hard_pure c.modules s hS hc.sized hsz) ?_ ?_;push_cast [iO,tN,hs,e1,e2,hv];rintro r os ⟨rfl,rfl⟩;push_cast [iO,tN,hs,e1,e2,hv])|((first|refine pG ?_|refine pQ ?_|refine pU ?_);push_cast [iO,tN,hs,e1,e2,hv])|(refine pif (fun h=>?_) (fun h=>?_)<;>first|exact pN h|push_cast [iO,tN,hs,e1,e2,hv]))
    obtain ⟨H,hH⟩:∃ H,hardL c.modules s=H:=⟨_,rfl⟩
    have hHl:H.length≤10001:=by rw [← hH];have:=(hard_spec c.modules s).2.2;have:=hS.all;omega
    have he:=List.take_of_length_le (l:=H.map strD) (i:=H.length) (by simp)
    have hcl:∀ x ∈ hardL c.modules s,Cl c.modules c.off names x:=by
     intro x hx
     rcases hI.ht s (by simp) with h|⟨m,hm,h⟩
     ·exact .base h hv hx
     ·exact .step hm h hv hx
    have hin:=hI.enter
    simp only [hH]
    refine pwp_weak (weak_frz 4 (by omega)) ?_
    push_cast [iO,tN,he]
    refine pwp_weak (weak_trim 3 st'.length rfl) ?_
    push_cast [iO,tN,e2]
    refine pwp_loop2 (α:=Nat × List ByteArray × List ByteArray) (fun x=>CIn c.modules c.off names seen st'.length s x.1 x.2.1 x.2.2) (fun x=>⟨[(44,.c (.v (.int .i64 x.1))),(43,.c (.v (.int .i64 H.length))),(42,.c (.sl 1 (H.map strD))),(7,.c (.own 3 x.2.2.length)),(6,.c (.mp 2)),(5,.c (.mp 1)),(2,.c (.ptr 0 0))],[.box 30 c.e,.map none true (modsE c.modules),.map none false (setE x.2.1),.arr 9 1 (x.2.2.map strD)]⟩) (fun x=>H.length - x.1) (0,seen,st') hin (by (refine weak_fg ?_;push_cast [iO,tN,e2])) ?_
    rintro ⟨k,sn,sk⟩ hJ
    simp only at hJ
    have hkl:=hJ.hl
    have hsnl:=hJ.seenLen
    by_cases hlt:k < H.length
    ·have hlt':k < (hardL c.modules s).length:=by rw [hH];exact hlt
     cases hm:inM (H.getD k default) sn
     ·have hm':(hardL c.modules s).getD k default ∉ sn:=by rw [hH];exact inM_false.1 hm
      have hsoft:=hc.softl (H.getD k default)
      have had:=hJ.add hlt' hm' hcl (by rw [hH];exact hsoft)
      rw [hH] at had
      cases hmo:modOf c.modules (H.getD k default) with
      | none=>exact absurd hmo (hcl _ (by rw [hH,getD_lt H hlt];exact List.getElem_mem _)).there
      | some m =>
       have hso:softOf c.modules (H.getD k default)=m.pre++m.post:=by unfold softOf;rw [hmo];rfl
       rw [hso] at had hsoft
       simp only [List.length_append] at hsoft
       have e3:=List.take_of_length_le (l:=sk.map strD) (i:=sk.length) (by simp)
       repeat' (first|((refine pwp_drawn_to ⟨[(44,.c (.v (.int .i64 k))),(43,.c (.v (.int .i64 H.length))),(42,.c (.sl 1 (H.map strD))),(7,.c (.own 3 (sk.length+m.pre.length+m.post.length))),(6,.c (.mp 2)),(5,.c (.mp 1)),(2,.c (.ptr 0 0))],[.box 30 c.e,.map none true (modsE c.modules),.map none false (setE (addS sn (H.getD k default))),.arr 9 1 ((sk.map strD++m.pre.map strD)++m.post.map strD)]⟩ (by kernel_rfl) ?_ ?_;(focus (simp only [List.length_cons,List.length_nil,Nat.reduceAdd];(repeat' first|((first|refine pah 0 ?_|refine pah 1 ?_|refine pah 2 ?_|refine pah 4 ?_|refine pah 6 ?_|refine pah 7 ?_|refine pah 9 ?_|refine pah 11 ?_);push_cast [iO,tN,  mget_mods,hmo,hm,e3 ])|(refine pad ?_;refine weak_fg ?_;push_cast [iO,tN,  mget_mods,hmo,hm,e3 ])|((first|refine pas [3] ?_|refine pas [5] ?_|refine pas [8] ?_|refine pas [10] ?_);push_cast [iO,tN,  mget_mods,hmo,hm,e3 ])|((first|refine pas [3,5] ?_|refine pas [3,8] ?_|refine pas [3,10] ?_|refine pas [5,8] ?_|refine pas [5,10] ?_|refine pas [8,10] ?_);push_cast [iO,tN,  mget_mods,hmo,hm,e3 ];refine ⟨?_,?_⟩)|((first|refine pas [3,5,8] ?_|refine pas [3,5,10] ?_|refine pas [3,8,10] ?_|refine pas [5,8,10] ?_);push_cast [iO,tN,  mget_mods,hmo,hm,e3 ];refine ⟨?_,?_,?_⟩));done));push_cast [iO,tN,  mget_mods,hmo,hm,e3 ]))|((first|refine pG ?_|refine pQ ?_|refine pU ?_);push_cast [iO,tN,mget_mods,hmo,hm,e3])|(refine pif (fun h=>?_) (fun h=>?_)<;>first|exact pN h|push_cast [iO,tN,mget_mods,hmo,hm,e3]))
       exact ⟨(k+1,addS sn (H.getD k default),sk++(m.pre++m.post)),had,by (refine weak_fg ?_;push_cast [iO,tN,List.append_assoc]);try omega,by simp only;omega⟩
     ·have hol:=hJ.old hlt' (by rw [hH];exact inM_iff.1 hm)
      repeat' (first|((first|refine pG ?_|refine pQ ?_|refine pU ?_);push_cast [iO,tN,hm])|(refine pif (fun h=>?_) (fun h=>?_)<;>first|exact pN h|push_cast [iO,tN,hm]))
      exact ⟨(k+1,sn,sk),hol,by (refine weak_fg ?_;push_cast [iO,tN]),by simp only;omega⟩
    ·have hle:=hJ.leave (by rw [hH];exact hlt) hI.hc
     have hgrow:seen.length < sn.length:=by
      have h1:s ∈ sn:=by
       have:=hJ.all s
       rw [List.take_of_length_le (by rw [hH];omega)] at this
       exact this (hard_self _ _)
      have:=nodup_len (s :: seen) sn (List.nodup_cons.2 ⟨inM_false.1 hs,hI.nd⟩) (fun x hx=>by
       rcases List.mem_cons.1 hx with rfl|hx
       ·exact h1
       ·exact hJ.sub x hx)
      simp only [List.length_cons] at this
      omega
     repeat' (first|((first|refine pG ?_|refine pQ ?_|refine pU ?_);push_cast [iO,tN])|(refine pif (fun h=>?_) (fun h=>?_)<;>first|exact pN h|push_cast [iO,tN]))
     exact ⟨(sn,sk),hle,by (refine weak_fg ?_;push_cast [iO,tN]),by simp only [List.length_append,List.length_cons,List.length_nil];omega⟩
   ·have hf:=hI.skip (.inr (by rw [hv];exact hv0))
    repeat' (first|(refine plc [1] (why_pure c s hc.toCfgOk hsz) ?_ ?_;push_cast [iO,tN,hs,e1,e2,hv,hv0];rintro r os ⟨rfl,rfl⟩;push_cast [iO,tN,hs,e1,e2,hv,hv0])|((first|refine pG ?_|refine pQ ?_|refine pU ?_);push_cast [iO,tN,hs,e1,e2,hv,hv0])|(refine pif (fun h=>?_) (fun h=>?_)<;>first|exact pN h|push_cast [iO,tN,hs,e1,e2,hv,hv0]))
    exact ⟨(seen,st'),hf,Weak.trans (weak_trim 3 st'.length rfl) (by (refine weak_fg ?_;push_cast [iO,tN]);exact e2),by simp⟩
  ·have hf:=hI.skip (.inl (inM_iff.1 hs))
   repeat' (first|((first|refine pG ?_|refine pQ ?_|refine pU ?_);push_cast [iO,tN,hs,e1,e2])|(refine pif (fun h=>?_) (fun h=>?_)<;>first|exact pN h|push_cast [iO,tN,hs,e1,e2]))
   exact ⟨(seen,st'),hf,Weak.trans (weak_trim 3 st'.length rfl) (by (refine weak_fg ?_;push_cast [iO,tN]);exact e2),by simp⟩
set_option maxRecDepth 20000
structure DInv (l:List ByteArray) (q:ByteArray → Bool) (j i:Nat) (m:List ByteArray):Prop where
 len:m.length=l.length
 ij:i < j
 jl:j≤l.length
 pre:m.take i=(l.take j).filter fun x=>!q x
 post:m.drop j=l.drop j
theorem DInv.start {l:List ByteArray} {q:ByteArray → Bool} {i:Nat} (h1:i < l.length) (h2:q (l.getD i default)=true) (h3:∀ x ∈ l.take i,q x=false):DInv l q (i+1) i l:=by
 refine ⟨rfl,by omega,by omega,?_,rfl⟩
 rw [List.take_succ_eq_append_getElem h1,List.filter_append]
 rw [getD_lt l h1] at h2
 rw [List.filter_eq_self.2 fun x hx=>by simp [h3 x hx]]
 simp [h2]
theorem DInv.get {l m:List ByteArray} {q:ByteArray → Bool} {j i:Nat} (h:DInv l q j i m) (hj:j < l.length):m.getD j default=l.getD j default:=by
 have:=congrArg (fun x=>x[0]?) h.post
 simp only [List.getElem?_drop,Nat.add_zero] at this
 simp [List.getD,this]
theorem DInv.drop {l m:List ByteArray} {q:ByteArray → Bool} {j i:Nat} (h:DInv l q j i m) (hj:j < l.length) (hq:q (l.getD j default)=true):DInv l q (j+1) i m:=by
 refine ⟨h.len,by have:=h.ij;omega,by omega,?_,?_⟩
 ·rw [List.take_succ_eq_append_getElem hj,List.filter_append,h.pre]
  rw [getD_lt l hj] at hq
  simp [hq]
 ·have:=congrArg (List.drop 1) h.post
  simpa [List.drop_drop] using this
theorem DInv.keep {l m:List ByteArray} {q:ByteArray → Bool} {j i:Nat} (h:DInv l q j i m) (hj:j < l.length) (hq:q (l.getD j default)=false):DInv l q (j+1) (i+1) (m.set i (l.getD j default)):=by
 have hij:=h.ij
 have hl:=h.len
 refine ⟨by simpa using hl,by omega,by omega,?_,?_⟩
 ·have hi:i < (m.set i (l.getD j default)).length:=by rw [List.length_set];omega
  rw [List.take_succ_eq_append_getElem hi,List.take_set_of_le (Nat.le_refl _),h.pre,List.getElem_set_self,List.take_succ_eq_append_getElem hj,List.filter_append]
  rw [getD_lt l hj] at hq ⊢
  simp [hq]
 ·rw [List.drop_set_of_lt (by omega)]
  have:=congrArg (List.drop 1) h.post
  simpa [List.drop_drop] using this
theorem DInv.done {l m:List ByteArray} {q:ByteArray → Bool} {j i:Nat} (h:DInv l q j i m) (hj:¬ j < l.length):m.take i=(l.filter fun x=>!q x)∧i=(l.filter fun x=>!q x).length:=by
 have:=h.pre
 have e:l.take j=l:=List.take_of_length_le (by omega)
 rw [e] at this
 refine ⟨this,?_⟩
 rw [← this,List.length_take]
 have:=h.ij;have:=h.jl;have:=h.len
 omega
theorem deleteFunc_pure (l:List ByteArray) (hl:l.length≤1000000000) (g:FuncId) (ks:List Nat) (rest:List Ob) (q:ByteArray → Bool) (hp:∀ m:List ByteArray,m.length=l.length → Pred Tryz.prog g ks (.arr 9 1 (m.map strD) :: rest) l q) :
  PCalls Tryz.prog 23 [.c (.own 0 l.length),.c (.fn (.func g) [] ks)] (.arr 9 1 (l.map strD) :: rest) fun r os=>r = .c (.own 0 (l.filter fun x=>!q x).length)∧∃ m:List ByteArray,os = .arr 9 1 (((l.filter fun x=>!q x)++m).map strD) :: rest:=by
 refine pcalls_of_all Tryz.func23 rfl (by simp [Tryz.ntmps23]) ?_
 rw [Tryz.ntmps23,Tryz.results23]
 push_cast [iO,tN]
 have hcall:=indexFunc_pure l hl g ks rest q (hp l rfl)
 rcases Decidable.em (∃ x ∈ l,q x=true) with hex|hex
 ·have hc2:PCalls Tryz.prog 33 [.c (.own 0 l.length),.c (.fn (.func g) [] ks)] (.arr 9 1 (l.map strD) :: rest) fun r os=>∃ i:Nat,(i < l.length∧q (l.getD i default)=true∧∀ x ∈ l.take i,q x=false)∧r = .c (.v (.int .i64 i))∧os = .arr 9 1 (l.map strD) :: rest:=hcall.mono (by
   rintro r os ⟨k,⟨rfl,h⟩|⟨i,rfl,h⟩,rfl,rfl⟩
   ·obtain ⟨x,hx,hq⟩:=hex;rw [h x hx] at hq;cases hq
   ·exact ⟨i,h,rfl,rfl⟩)
  repeat' (first |  (refine pl_call_all rfl (by push_cast [iO,tN]) rfl (by kernel_rfl) (by push_cast [iO,tN]) ?_ hc2 ?_;(focus (unfold callArgs;push_cast [iO,tN]));rintro r os ⟨i0,⟨h1,h2,h3⟩,rfl,rfl⟩;refine pl_of_pops ?_;push_cast [iO,tN])  | ((first|refine pG ?_|refine pQ ?_|refine pU ?_);push_cast [iO,tN])|(refine pif (fun h=>?_) (fun h=>?_)<;>first|exact pN h|push_cast [iO,tN]))
  refine pwp_loop2 (α:=Nat × Nat × List ByteArray) (fun x=>DInv l q x.1 x.2.1 x.2.2) (fun x=>⟨[(6,.c (.v (.int .i64 x.1))),(5,.c (.v (.int .i64 x.2.1))),(0,.c (.own 0 l.length)),(1,.c (.fn (.func g) [] ks))],.arr 9 1 (x.2.2.map strD) :: rest⟩) (fun x=>l.length - x.1) (i0+1,i0,l) (DInv.start h1 h2 h3) (weak_slots (by push_cast [iO,tN]) rfl) ?_
  rintro ⟨j,i,m⟩ hD
  simp only at hD
  have hml:=hD.len
  have hij:=hD.ij
  have hjl:=hD.jl
  by_cases hlt:j < l.length
  ·have hmem:l.getD j default ∈ l:=by rw [getD_lt l hlt];exact List.getElem_mem _
   have hv:=hD.get hlt
   have hc:=(hp m hml).2 _ hmem
   cases hq:q (l.getD j default)
   all_goals rw [hq] at hc
   all_goals repeat' (first|(refine pl_call_all rfl (by push_cast [iO,tN,hv,hml]) rfl (hp m hml).1 (by push_cast [iO,tN,hv,hml]) ?_ hc ?_;(focus (unfold callArgs;push_cast [iO,tN,hv,hml];exact allSome_ptr ks));rintro r os ⟨rfl,rfl⟩;refine pl_of_pops ?_;push_cast [iO,tN,hv,hml])|((first|refine pG ?_|refine pQ ?_|refine pU ?_);push_cast [iO,tN,hv,hml])|(refine pif (fun h=>?_) (fun h=>?_)<;>first|exact pN h|push_cast [iO,tN,hv,hml]))
   ·exact ⟨(j+1,i+1,m.set i (l.getD j default)),hD.keep hlt hq,Weak.trans (weak_slots (s':=⟨[(6,.c (.v (.int .i64 (j+1)))),(5,.c (.v (.int .i64 (i+1)))),(0,.c (.own 0 l.length)),(1,.c (.fn (.func g) [] ks))],_⟩) (by push_cast [iO,tN]) rfl) (weak_slots (by push_cast [iO,tN]) (by simp [List.map_set,strD])),by simp only;omega⟩
   ·exact ⟨(j+1,i,m),hD.drop hlt hq,weak_slots (by push_cast [iO,tN]) rfl,by simp only;omega⟩
  ·have hd:=hD.done hlt
   have hz:(m.map strD).length=l.length:=by simp [hml]
   have hend:((m.map strD).take i++(List.replicate (l.length - i) [D.v (.string ⟨#[]⟩)]++(m.map strD).drop (i+(l.length - i))))=((l.filter fun x=>!q x)++List.replicate (l.length - i) (⟨#[]⟩:ByteArray)).map strD:=by
    rw [List.drop_eq_nil_of_le (by omega),← List.map_take,hd.1]
    simp [strD]
   by_cases hi0:i=0
   ·subst hi0
    have hend2:List.replicate l.length [D.v (.string ⟨#[]⟩)]++(m.map strD).drop l.length=((l.filter fun x=>!q x)++List.replicate l.length (⟨#[]⟩:ByteArray)).map strD:=by simpa using hend
    repeat' (first|((first|refine pG ?_|refine pQ ?_|refine pU ?_);push_cast [iO,tN,hml])|(refine pif (fun h=>?_) (fun h=>?_)<;>first|exact pN h|push_cast [iO,tN,hml]))
    refine pl_weak (weak_seg 38 1 (k:=0) (n:=l.length) rfl) ?_
    refine pl_of_pops ?_
    push_cast [iO,tN,hml]
    repeat' (first|((first|refine pG ?_|refine pQ ?_|refine pU ?_);push_cast [iO,tN,hml])|(refine pif (fun h=>?_) (fun h=>?_)<;>first|exact pN h|push_cast [iO,tN,hml]))
    refine ⟨.c (.own 0 0),rfl,by push_cast [iO,tN],by rw [← hd.2],List.replicate l.length ⟨#[]⟩,?_⟩
    rw [← List.map_append,← hend2]
   ·repeat' (first|((first|refine pG ?_|refine pQ ?_|refine pU ?_);push_cast [iO,tN,hml,hi0])|(refine pif (fun h=>?_) (fun h=>?_)<;>first|exact pN h|push_cast [iO,tN,hml,hi0]))
    refine ⟨.c (.own 0 i),rfl,by push_cast [iO,tN],by rw [← hd.2],List.replicate (l.length - i) ⟨#[]⟩,?_⟩
    rw [← List.map_append,← hend]
 ·have hnone:∀ x ∈ l,q x=false:=fun x hx=>by
   cases h:q x
   ·rfl
   ·exact absurd ⟨x,hx,h⟩ hex
  have hc2:PCalls Tryz.prog 33 [.c (.own 0 l.length),.c (.fn (.func g) [] ks)] (.arr 9 1 (l.map strD) :: rest) fun r os=>r = .c (.v (.int .i64 (-1)))∧os = .arr 9 1 (l.map strD) :: rest:=hcall.mono (by
   rintro r os ⟨k,⟨rfl,h⟩|⟨i,rfl,hi,hq,_⟩,rfl,rfl⟩
   ·exact ⟨rfl,rfl⟩
   ·rw [hnone _ (by rw [getD_lt l hi];exact List.getElem_mem _)] at hq;cases hq)
  repeat' (first |  (refine pl_call_all rfl (by push_cast [iO,tN]) rfl (by kernel_rfl) (by push_cast [iO,tN]) ?_ hc2 ?_;(focus (unfold callArgs;push_cast [iO,tN]));rintro r os ⟨rfl,rfl⟩;refine pl_of_pops ?_;push_cast [iO,tN])  | ((first|refine pG ?_|refine pQ ?_|refine pU ?_);push_cast [iO,tN])|(refine pif (fun h=>?_) (fun h=>?_)<;>first|exact pN h|push_cast [iO,tN]))
  have hf:l.filter (fun x=>!q x)=l:=List.filter_eq_self.2 fun x hx=>by simp [hnone x hx]
  rw [hf]
  exact ⟨_,rfl,by push_cast [iO,tN],rfl,[],by simp⟩
end Go.Proofs.YtgijigkfmbiifaaGreatDoor
