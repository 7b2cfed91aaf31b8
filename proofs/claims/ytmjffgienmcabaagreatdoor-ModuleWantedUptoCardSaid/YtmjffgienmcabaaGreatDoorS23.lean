/- What the program computes, and the plain laws of it, part 23. -/
import Derived.Test.YtmjffgienmcabaaGreatDoorS22
namespace Go.Proofs.YtmjffgienmcabaaGreatDoor
attribute [local irreducible] PL QL PWPr PCalls Weak RetK Kontr PA
open Go.RowKit
open IntWalk renaming iteOmega → iO, toNatUp → tN
set_option linter.unusedVariables false
set_option linter.unusedSimpArgs false
set_option maxRecDepth 20000
def modsE (l:List Mod):List (MK × List D):=l.map fun m=>(.s m.name,m.d)
theorem mget_mods (n:ByteArray):∀ l:List Mod,mget (modsE l) (.s n)=(modOf l n).map Mod.d
 | []=>rfl
 | a :: l=>by
  have ih:=mget_mods n l
  simp only [modsE,List.map_cons,mget,MK.s.injEq,modOf,List.find?_cons] at ih ⊢
  by_cases h:a.name=n
  ·simp [h]
  ·simp only [h,if_false,decide_false]
   exact ih
theorem mput_mods (m:Mod):∀ l:List Mod,(∀ x ∈ l,x.name≠m.name) → mput (modsE l) (.s m.name) m.d=modsE (l++[m])
 | [],_=>rfl
 | a :: l,h=>by
  have ih:=mput_mods m l (fun x hx=>h x (by simp [hx]))
  have h1:=h a (by simp)
  simp only [modsE,List.map_cons,mput,MK.s.injEq,h1,if_false,List.cons_append] at ih ⊢
  rw [ih]
def Cfg.e (c:Cfg):List E:=c.d.map D.e
attribute [push_cast] Cfg.e
theorem modules_pure (c:Cfg) (hnd:(c.modules.map Mod.name).Nodup) (hl:c.modules.length≤1000) :
  PCalls Tryz.prog 54 [.agg c.e] [] fun r os=>r = .c (.mp 0)∧os=[.map none true (modsE c.modules)]:=by
 refine pcalls_of Tryz.func54 rfl (by simp [Tryz.ntmps54]) ?_
 rw [Tryz.ntmps54,Tryz.results54]
 push_cast [iO,tN]
 repeat' (first|((first|refine pG ?_|refine pQ ?_|refine pU ?_);push_cast [iO,tN])|(refine pif (fun h=>?_) (fun h=>?_)<;>first|exact pN h|push_cast [iO,tN]))
 refine pwp_loop2 (α:=Nat) (fun k=>k≤c.modules.length) (fun k=>⟨[(10,.c (.v (.int .i64 k))),(9,.c (.v (.int .i64 c.modules.length))),(8,.c (.sl 6 (c.modules.map Mod.d))),(3,.c (.mp 1))],[.box 32 c.e,.map none true (modsE (c.modules.take k))]⟩) (fun k=>c.modules.length - k) 0 (by omega) (by (refine weak_fg ?_;push_cast [iO,tN]);try rfl) ?_
 intro k hk
 by_cases hlt:k < c.modules.length
 ·have e1:=getD_lt c.modules hlt
  have hput:mput (modsE (c.modules.take k)) (.s (c.modules.getD k default).name) [.v (.string (c.modules.getD k default).name),.sl 1 ((c.modules.getD k default).aliases.map strD),.sl 1 ((c.modules.getD k default).needs.map strD),.sl 1 ((c.modules.getD k default).pre.map strD),.sl 1 ((c.modules.getD k default).post.map strD),.v (.bool (c.modules.getD k default).fails)]=modsE (c.modules.take (k+1)):=by
   rw [e1]
   refine (mput_mods c.modules[k] (c.modules.take k) ?_).trans ?_
   ·intro x hx he
    rw [List.mem_iff_getElem?] at hx
    obtain ⟨i,hi⟩:=hx
    rw [List.getElem?_take] at hi
    split at hi
    ·rename_i hik
     have:=(List.getElem?_inj (l:=c.modules.map Mod.name) (i:=i) (j:=k) (by simp;omega) hnd).1 (by rw [List.getElem?_map,List.getElem?_map,hi,List.getElem?_eq_getElem hlt];simp [he])
     omega
    ·cases hi
   ·rw [← List.take_succ_eq_append_getElem hlt]
  repeat' (first|((first|refine pG ?_|refine pQ ?_|refine pU ?_);push_cast [iO,tN,hput])|(refine pif (fun h=>?_) (fun h=>?_)<;>first|exact pN h|push_cast [iO,tN,hput]))
  exact ⟨k+1,by omega,by (refine weak_fg ?_;push_cast [iO,tN]),by omega⟩
 ·repeat' (first|((first|refine pG ?_|refine pQ ?_|refine pU ?_);push_cast [iO,tN])|(refine pif (fun h=>?_) (fun h=>?_)<;>first|exact pN h|push_cast [iO,tN]))
  (refine retK_of [1] ?_;push_cast [iO,tN])
  rw [List.take_of_length_le (by omega)]
set_option maxRecDepth 20000
def needsOf (M:List Mod) (n:ByteArray):List ByteArray:=((modOf M n).getD noMod).needs
inductive Reach (M:List Mod) (n:ByteArray):ByteArray → Prop
 | one {x:ByteArray}:x ∈ needsOf M n → Reach M n x
 | more {y x:ByteArray}:Reach M n y → x ∈ needsOf M y → Reach M n x
theorem Reach.trans {M:List Mod} {a b c:ByteArray} (h:Reach M a b) (h':Reach M b c):Reach M a c:=by
 induction h' with
 | one hx=>exact .more h hx
 | more _ hx ih=>exact .more ih hx
theorem nodup_len {α:Type} [DecidableEq α]:∀ (l m:List α),l.Nodup → (∀ x ∈ l,x ∈ m) → l.length≤m.length
 | [],m,_,_=>by simp
 | a :: l,m,h,hs=>by
  obtain ⟨h1,h2⟩:=List.nodup_cons.1 h
  have ih:=nodup_len l (m.filter fun x=>decide (x≠a)) h2 (fun x hx=>by
   rw [List.mem_filter]
   refine ⟨hs x (by simp [hx]),?_⟩
   simp only [ne_eq,decide_eq_true_eq]
   rintro rfl
   exact h1 hx)
  have h3:(m.filter fun x=>decide (x≠a)).length < m.length:=by
   have hle:=List.length_filter_le (fun x=>decide (x≠a)) m
   rcases Nat.lt_or_ge (m.filter fun x=>decide (x≠a)).length m.length with h|h
   ·exact h
   ·have:=(List.length_filter_eq_length_iff (p:=fun x=>decide (x≠a)) (l:=m)).1 (by omega) a (hs a (by simp))
    simp at this
  simp only [List.length_cons]
  omega
def allNeeds (M:List Mod):List ByteArray:=M.flatMap Mod.needs
theorem needs_all {M:List Mod} {n x:ByteArray} (h:x ∈ needsOf M n):x ∈ allNeeds M:=by
 unfold needsOf at h
 cases hm:modOf M n with
 | none=>rw [hm] at h;simp [noMod] at h
 | some m =>
  rw [hm] at h
  unfold modOf at hm
  exact List.mem_flatMap.2 ⟨m,List.mem_of_find?_eq_some hm,h⟩
theorem reach_all {M:List Mod} {n x:ByteArray} (h:Reach M n x):x ∈ allNeeds M:=by
 cases h with
 | one h=>exact needs_all h
 | more _ h=>exact needs_all h
structure Small (M:List Mod):Prop where
 len:M.length≤100
 needs:∀ m ∈ M,m.needs.length≤100
 pre:∀ m ∈ M,m.pre.length≤100
 post:∀ m ∈ M,m.post.length≤100
 nodup:(M.map Mod.name).Nodup
 named:∀ m ∈ M,m.name≠⟨#[]⟩
theorem flat_len {α β:Type} (f:α → List β) (k:Nat):∀ l:List α,(∀ x ∈ l,(f x).length≤k) → (l.flatMap f).length≤l.length * k
 | [],_=>by simp
 | a :: l,h=>by
  have ih:=flat_len f k l (fun x hx=>h x (by simp [hx]))
  have:=h a (by simp)
  simp only [List.flatMap_cons,List.length_append,List.length_cons,Nat.add_mul]
  omega
theorem Small.all {M:List Mod} (h:Small M):(allNeeds M).length≤10000:=by
 have:=flat_len Mod.needs 100 M h.needs
 have:=h.len
 unfold allNeeds
 omega
theorem mod_mem {M:List Mod} {n:ByteArray} {m:Mod} (h:modOf M n=some m):m ∈ M∧m.name=n:=by
 unfold modOf at h
 exact ⟨List.mem_of_find?_eq_some h,by simpa using List.find?_some h⟩
theorem Small.needsOf {M:List Mod} (h:Small M) (n:ByteArray):(needsOf M n).length≤100:=by
 unfold Go.Proofs.YtmjffgienmcabaaGreatDoor.needsOf
 cases hm:modOf M n with
 | none=>simp [noMod]
 | some m=>exact h.needs m (mod_mem hm).1
structure RInv (M:List Mod) (n:ByteArray) (seen st:List ByteArray):Prop where
 nd:seen.Nodup
 hs:∀ x ∈ seen,Reach M n x
 ht:∀ x ∈ st,Reach M n x
 h0:∀ x ∈ needsOf M n,x ∈ seen∨x ∈ st
 hn:∀ y ∈ seen,∀ x ∈ needsOf M y,x ∈ seen∨x ∈ st
 hl:st.length≤100 * (1+seen.length)
theorem RInv.seenLen {M:List Mod} {n:ByteArray} {seen st:List ByteArray} (h:RInv M n seen st):seen.length≤(allNeeds M).length :=
 nodup_len _ _ h.nd fun x hx=>reach_all (h.hs x hx)
theorem RInv.init {M:List Mod} {n:ByteArray} (hS:Small M):RInv M n [] (needsOf M n) :=
 ⟨by simp,by simp,fun x hx=>.one hx,fun x hx=>.inr hx,by simp,by have:=hS.needsOf n;simpa using this⟩
theorem RInv.old {M:List Mod} {n:ByteArray} {seen st:List ByteArray} {s:ByteArray} (h:RInv M n seen (st++[s])) (hs:s ∈ seen):RInv M n seen st :=
 ⟨h.nd,h.hs,fun x hx=>h.ht x (by simp [hx]),fun x hx=>by
  rcases h.h0 x hx with h1|h1
  ·exact .inl h1
  ·rcases List.mem_append.1 h1 with h1|h1
   ·exact .inr h1
   ·simp at h1;subst h1;exact .inl hs,fun y hy x hx=>by
  rcases h.hn y hy x hx with h1|h1
  ·exact .inl h1
  ·rcases List.mem_append.1 h1 with h1|h1
   ·exact .inr h1
   ·simp at h1;subst h1;exact .inl hs,by have:=h.hl;simp at this;omega⟩
theorem RInv.fresh {M:List Mod} {n:ByteArray} {seen st:List ByteArray} {s:ByteArray} (hS:Small M) (h:RInv M n seen (st++[s])) (hs:s ∉ seen):RInv M n (addS seen s) (st++needsOf M s):=by
 have hr:Reach M n s:=h.ht s (by simp)
 have mv:∀ x,x ∈ seen∨x ∈ st++[s] → x ∈ addS seen s∨x ∈ st++needsOf M s:=by
  intro x hx
  rcases hx with hx|hx
  ·exact .inl (mem_addS.2 (.inl hx))
  ·rcases List.mem_append.1 hx with hx|hx
   ·exact .inr (by simp [hx])
   ·simp at hx;exact .inl (mem_addS.2 (.inr hx))
 refine ⟨nodup_addS h.nd,fun x hx=>?_,fun x hx=>?_,fun x hx=>mv x (h.h0 x hx),fun y hy x hx=>?_,?_⟩
 ·rcases mem_addS.1 hx with hx|rfl
  ·exact h.hs x hx
  ·exact hr
 ·rcases List.mem_append.1 hx with hx|hx
  ·exact h.ht x (by simp [hx])
  ·exact .more hr hx
 ·rcases mem_addS.1 hy with hy|rfl
  ·exact mv x (h.hn y hy x hx)
  ·exact .inr (by simp [hx])
 ·have h1:=h.hl
  have h2:=hS.needsOf s
  have h3:(addS seen s).length=seen.length+1:=by unfold addS;rw [if_neg (by rw [inM_iff];exact hs)];simp
  rw [h3]
  simp at h1 ⊢
  omega
theorem RInv.done {M:List Mod} {n:ByteArray} {seen:List ByteArray} (h:RInv M n seen []) (x:ByteArray):x ∈ seen ↔ Reach M n x:=by
 refine ⟨h.hs x,fun hx=>?_⟩
 induction hx with
 | one hx=>simpa using h.h0 _ hx
 | more _ hx ih=>simpa using h.hn _ ih _ hx
def reachSt (M:List Mod) (n:ByteArray) (x:List ByteArray × List ByteArray):S:=⟨[(6,.c (.own 2 x.2.length)),(5,.c (.mp 1)),(0,.c (.mp 0)),(1,.c (.v (.string n)))],[.map none true (modsE M),.map none false (setE x.1),.arr 9 1 (x.2.map strD)]⟩
attribute [push_cast] reachSt
set_option maxHeartbeats 1000000 in
theorem reached_pure (M:List Mod) (n:ByteArray) (hS:Small M) :
  PCalls Tryz.prog 88 [.c (.mp 0),.c (.v (.string n))] [.map none true (modsE M)] fun r os=>∃ seen,(seen.Nodup∧∀ x,x ∈ seen ↔ Reach M n x)∧r = .c (.mp 1)∧os=[.map none true (modsE M),.map none false (setE seen)]:=by
 refine pcalls_of Tryz.func88 rfl (by simp [Tryz.ntmps88]) ?_
 rw [Tryz.ntmps88,Tryz.results88]
 push_cast [iO,tN]
 have hall:=hS.all
 have hlen:=hS.needsOf n
 have hi:=RInv.init (n:=n) hS
 cases hm:modOf M n with
 | none =>
  have hn:needsOf M n=[]:=by simp [needsOf,hm,noMod]
  rw [hn] at hlen hi
  repeat' (first|(refine plc [] (clone_pure [] (by simp)) ?_ ?_;push_cast [iO,tN,mget_mods,hm];rintro r os ⟨rfl,rfl⟩;push_cast [iO,tN,mget_mods,hm])|((first|refine pG ?_|refine pQ ?_|refine pU ?_);push_cast [iO,tN,mget_mods,hm])|(refine pif (fun h=>?_) (fun h=>?_)<;>first|exact pN h|push_cast [iO,tN,mget_mods,hm]))
  refine pwp_loop2 (α:=List ByteArray × List ByteArray) (fun x=>RInv M n x.1 x.2) (reachSt M n) (fun x=>(10000 - x.1.length) * 200+x.2.length) ([],[]) hi (by (refine weak_fg ?_;push_cast [iO,tN])) ?_
  rintro ⟨seen,st⟩ hI
  have hsl:=hI.seenLen
  simp only at hI hsl
  rcases List.eq_nil_or_concat st with h0|⟨st',s,h0⟩
  ·subst h0
   repeat' (first|((first|refine pG ?_|refine pQ ?_|refine pU ?_);push_cast [iO,tN])|(refine pif (fun h=>?_) (fun h=>?_)<;>first|exact pN h|push_cast [iO,tN]))
   (refine retK_of [0,1] ?_;push_cast [iO,tN])
   exact ⟨_,_,leP_refl _,leOs_refl _,seen,⟨hI.nd,hI.done⟩,rfl,rfl⟩
  ·rw [List.concat_eq_append] at h0
   subst h0
   have e1:=getD_snoc (st'.map strD) (strD s) []
   have e2:=List.take_left' (l₁:=st'.map strD) (l₂:=[strD s]) (i:=st'.length) (by simp)
   simp only [List.length_map,strD] at e1 e2
   have hl:=hI.hl
   simp only [List.length_append,List.length_cons,List.length_nil] at hl
   have hns:=hS.needsOf s
   cases hs:inM s seen
   ·have hf:=hI.fresh hS (inM_false.1 hs)
    have hfl:=hf.seenLen
    have ha:(addS seen s).length=seen.length+1:=by unfold addS;rw [if_neg (by rw [hs];simp)];simp
    cases hk:modOf M s with
    | none =>
     have hn2:needsOf M s=[]:=by simp [needsOf,hk,noMod]
     rw [hn2,List.append_nil] at hf
     repeat' (first|((first|refine pG ?_|refine pQ ?_|refine pU ?_);push_cast [iO,tN,mget_mods,hk,hs,e1,e2])|(refine pif (fun h=>?_) (fun h=>?_)<;>first|exact pN h|push_cast [iO,tN,mget_mods,hk,hs,e1,e2]))
     exact ⟨(addS seen s,st'),hf,by (refine weak_fg ?_;push_cast [iO,tN]);try rfl,by simp only [List.length_append,List.length_cons,List.length_nil];omega⟩
    | some m' =>
     have hn2:needsOf M s=m'.needs:=by simp [needsOf,hk]
     rw [hn2] at hf hns
     repeat' (first|((first|refine pG ?_|refine pQ ?_|refine pU ?_);push_cast [iO,tN,mget_mods,hk,hs,e1,e2])|(refine pif (fun h=>?_) (fun h=>?_)<;>first|exact pN h|push_cast [iO,tN,mget_mods,hk,hs,e1,e2]))
     exact ⟨(addS seen s,st'++m'.needs),hf,by (refine weak_fg ?_;push_cast [iO,tN]),by simp only [List.length_append,List.length_cons,List.length_nil];omega⟩
   ·have hf:=hI.old (inM_iff.1 hs)
    repeat' (first|((first|refine pG ?_|refine pQ ?_|refine pU ?_);push_cast [iO,tN,mget_mods,hs,e1,e2])|(refine pif (fun h=>?_) (fun h=>?_)<;>first|exact pN h|push_cast [iO,tN,mget_mods,hs,e1,e2]))
    refine ⟨(seen,st'),hf,Weak.trans (weak_trim 2 st'.length rfl) (by (refine weak_fg ?_;push_cast [iO,tN]);exact e2),by simp⟩
 | some m =>
  have hn:needsOf M n=m.needs:=by simp [needsOf,hm]
  rw [hn] at hlen hi
  repeat' (first|(refine plc [] (clone_pure m.needs (by omega)) ?_ ?_;push_cast [iO,tN,mget_mods,hm];rintro r os ⟨rfl,rfl⟩;push_cast [iO,tN,mget_mods,hm])|((first|refine pG ?_|refine pQ ?_|refine pU ?_);push_cast [iO,tN,mget_mods,hm])|(refine pif (fun h=>?_) (fun h=>?_)<;>first|exact pN h|push_cast [iO,tN,mget_mods,hm]))
  refine pwp_loop2 (α:=List ByteArray × List ByteArray) (fun x=>RInv M n x.1 x.2) (reachSt M n) (fun x=>(10000 - x.1.length) * 200+x.2.length) ([],m.needs) hi (by (refine weak_fg ?_;push_cast [iO,tN])) ?_
  rintro ⟨seen,st⟩ hI
  have hsl:=hI.seenLen
  simp only at hI hsl
  rcases List.eq_nil_or_concat st with h0|⟨st',s,h0⟩
  ·subst h0
   repeat' (first|((first|refine pG ?_|refine pQ ?_|refine pU ?_);push_cast [iO,tN])|(refine pif (fun h=>?_) (fun h=>?_)<;>first|exact pN h|push_cast [iO,tN]))
   (refine retK_of [0,1] ?_;push_cast [iO,tN])
   exact ⟨_,_,leP_refl _,leOs_refl _,seen,⟨hI.nd,hI.done⟩,rfl,rfl⟩
  ·rw [List.concat_eq_append] at h0
   subst h0
   have e1:=getD_snoc (st'.map strD) (strD s) []
   have e2:=List.take_left' (l₁:=st'.map strD) (l₂:=[strD s]) (i:=st'.length) (by simp)
   simp only [List.length_map,strD] at e1 e2
   have hl:=hI.hl
   simp only [List.length_append,List.length_cons,List.length_nil] at hl
   have hns:=hS.needsOf s
   cases hs:inM s seen
   ·have hf:=hI.fresh hS (inM_false.1 hs)
    have hfl:=hf.seenLen
    have ha:(addS seen s).length=seen.length+1:=by unfold addS;rw [if_neg (by rw [hs];simp)];simp
    cases hk:modOf M s with
    | none =>
     have hn2:needsOf M s=[]:=by simp [needsOf,hk,noMod]
     rw [hn2,List.append_nil] at hf
     repeat' (first|((first|refine pG ?_|refine pQ ?_|refine pU ?_);push_cast [iO,tN,mget_mods,hk,hs,e1,e2])|(refine pif (fun h=>?_) (fun h=>?_)<;>first|exact pN h|push_cast [iO,tN,mget_mods,hk,hs,e1,e2]))
     exact ⟨(addS seen s,st'),hf,by (refine weak_fg ?_;push_cast [iO,tN]);try rfl,by simp only [List.length_append,List.length_cons,List.length_nil];omega⟩
    | some m' =>
     have hn2:needsOf M s=m'.needs:=by simp [needsOf,hk]
     rw [hn2] at hf hns
     repeat' (first|((first|refine pG ?_|refine pQ ?_|refine pU ?_);push_cast [iO,tN,mget_mods,hk,hs,e1,e2])|(refine pif (fun h=>?_) (fun h=>?_)<;>first|exact pN h|push_cast [iO,tN,mget_mods,hk,hs,e1,e2]))
     exact ⟨(addS seen s,st'++m'.needs),hf,by (refine weak_fg ?_;push_cast [iO,tN]),by simp only [List.length_append,List.length_cons,List.length_nil];omega⟩
   ·have hf:=hI.old (inM_iff.1 hs)
    repeat' (first|((first|refine pG ?_|refine pQ ?_|refine pU ?_);push_cast [iO,tN,mget_mods,hs,e1,e2])|(refine pif (fun h=>?_) (fun h=>?_)<;>first|exact pN h|push_cast [iO,tN,mget_mods,hs,e1,e2]))
    refine ⟨(seen,st'),hf,Weak.trans (weak_trim 2 st'.length rfl) (by (refine weak_fg ?_;push_cast [iO,tN]);exact e2),by simp⟩
end Go.Proofs.YtmjffgienmcabaaGreatDoor
namespace Go.Proofs.YtmjffgienmcabaaGreatDoor
open Go.RowKit
open IntWalk renaming iteOmega → iO, toNatUp → tN
set_option linter.unusedVariables false
set_option linter.unusedSimpArgs false
theorem put_parts (l:List ByteArray) (s:ByteArray) (h:asc l):∃ a b,l=a++b∧(∀ x ∈ a,bless x s=true)∧(∀ x ∈ b,bless x s=false)∧((s ∈ b∧putM l s=l)∨(s ∉ b∧putM l s=a++s :: b)):=by
 refine ⟨l.takeWhile fun x=>bless x s,l.dropWhile fun x=>bless x s,List.takeWhile_append_dropWhile.symm,fun x hx=>?_,fun x hx=>?_,?_⟩
 ·have:=List.all_takeWhile (p:=fun x=>bless x s) (l:=l)
  exact List.all_eq_true.1 this x hx
 ·induction l with
  | nil=>simp at hx
  | cons a l ih =>
   obtain ⟨h1,h2⟩:=List.pairwise_cons.1 h
   rw [List.dropWhile_cons] at hx
   split at hx
   ·exact ih h2 hx
   ·rename_i hb
    rcases List.mem_cons.1 hx with rfl|hx
    ·simpa using hb
    ·cases hc:bless x s
     ·rfl
     ·exact absurd (bless_trans (h1 x hx) hc) (by simpa using hb)
 ·have hi:l.take (l.takeWhile fun x=>bless x s).length=l.takeWhile fun x=>bless x s:=by
   conv=>lhs;arg 2;rw [← List.takeWhile_append_dropWhile (p:=fun x=>bless x s) (l:=l)]
   rw [List.take_left]
  have hd:l.drop (l.takeWhile fun x=>bless x s).length=l.dropWhile fun x=>bless x s:=by
   conv=>lhs;arg 2;rw [← List.takeWhile_append_dropWhile (p:=fun x=>bless x s) (l:=l)]
   rw [List.drop_left]
  have hg:∀ d,l.getD (l.takeWhile fun x=>bless x s).length d=(l.dropWhile fun x=>bless x s).getD 0 d:=by
   intro d
   rw [← hd]
   simp [List.getD]
  have hlen:(l.takeWhile fun x=>bless x s).length+(l.dropWhile fun x=>bless x s).length=l.length:=by
   rw [← List.length_append,List.takeWhile_append_dropWhile]
  unfold putM
  simp only [hi,hd,hg]
  have hasc:asc (l.dropWhile fun x=>bless x s):=h.sublist (List.dropWhile_sublist _)
  cases hb:l.dropWhile fun x=>bless x s with
  | nil =>
   rw [hb] at hlen
   simp only [List.length_nil,Nat.add_zero] at hlen
   exact .inr ⟨by simp,by rw [if_neg (fun h=>absurd h.2 (by omega))]⟩
  | cons c b =>
   rw [hb] at hlen hasc
   simp only [List.length_cons] at hlen
   have hc:bless c s=false:=by
    have:=List.head?_dropWhile_not (fun x=>bless x s) l
    rw [hb] at this
    simpa using this
   by_cases he:c=s
   ·exact .inl ⟨by simp [he],by rw [if_pos ⟨by simpa using he,by omega⟩]⟩
   ·refine .inr ⟨?_,by rw [if_neg (fun h=>he (by simpa using h.1))]⟩
    rintro hm
    rcases List.mem_cons.1 hm with e|e
    ·exact he e.symm
    ·have:=(List.pairwise_cons.1 hasc).1 s e
     rw [hc] at this
     cases this
theorem putA_mem {l:List ByteArray} {s x:ByteArray} (h:asc l):x ∈ putM l s ↔ x ∈ l∨x=s:=by
 obtain ⟨a,b,rfl,h1,h2,⟨hs,h3⟩|⟨hs,h3⟩⟩:=put_parts l s h
 all_goals rw [h3]
 ·constructor
  ·exact .inl
  ·rintro (h|rfl)
   ·exact h
   ·exact List.mem_append.2 (.inr hs)
 ·simp only [List.mem_append,List.mem_cons]
  constructor
  ·rintro (h|h|h)
   ·exact .inl (.inl h)
   ·exact .inr h
   ·exact .inl (.inr h)
  ·rintro ((h|h)|h)
   ·exact .inl h
   ·exact .inr (.inr h)
   ·exact .inr (.inl h)
theorem put_asc {l:List ByteArray} {s:ByteArray} (h:asc l):asc (putM l s):=by
 obtain ⟨a,b,rfl,h1,h2,⟨hs,h3⟩|⟨hs,h3⟩⟩:=put_parts l s h
 all_goals rw [h3]
 ·exact h
 ·obtain ⟨p1,p2,p3⟩:=List.pairwise_append.1 h
  have hsb:∀ y ∈ b,bless s y=true:=by
   intro y hy
   cases hc:bless s y
   ·exact absurd (bless_total (h2 y hy) hc) (by rintro rfl;exact hs hy)
   ·rfl
  refine List.pairwise_append.2 ⟨p1,List.pairwise_cons.2 ⟨hsb,p2⟩,fun x hx y hy=>?_⟩
  rcases List.mem_cons.1 hy with rfl|hy
  ·exact h1 x hx
  ·exact p3 x hx y hy
theorem put_old {l:List ByteArray} {s:ByteArray} (h:asc l) (hs:s ∈ l):putM l s=l:=asc_ext (put_asc h) h fun x=>by
 rw [putA_mem h]
 exact ⟨fun h=>h.elim id fun e=>e ▸ hs,.inl⟩
theorem put_len {l:List ByteArray} {s:ByteArray} (h:asc l):(putM l s).length=l.length+(if inM s l=true then 0 else 1):=by
 cases hm:inM s l
 ·obtain ⟨a,b,rfl,h1,h2,⟨hs,h3⟩|⟨hs,h3⟩⟩:=put_parts l s h
  ·exact absurd (List.mem_append.2 (.inr hs)) (inM_false.1 hm)
  ·rw [h3];simp;omega
 ·rw [put_old h (inM_iff.1 hm)];simp
theorem asc_nil:asc []:=List.Pairwise.nil
noncomputable def listOf (P:ByteArray → Prop):List ByteArray:=open Classical in if h:∃ m,asc m∧∀ x,x ∈ m ↔ P x then h.choose else []
theorem listOf_eq {P:ByteArray → Prop} {m:List ByteArray} (h1:asc m) (h2:∀ x,x ∈ m ↔ P x):listOf P=m:=by
 have h:∃ m,asc m∧∀ x,x ∈ m ↔ P x:=⟨m,h1,h2⟩
 unfold listOf
 rw [dif_pos h]
 exact asc_ext h.choose_spec.1 h1 fun x=>(h.choose_spec.2 x).trans (h2 x).symm
theorem exists_asc (P:ByteArray → Prop):∀ l:List ByteArray,∃ m,asc m∧∀ x,x ∈ m ↔ P x∧x ∈ l
 | []=>⟨[],asc_nil,by simp⟩
 | a :: l=>by
  obtain ⟨m,h1,h2⟩:=exists_asc P l
  by_cases hp:P a
  ·refine ⟨putM m a,put_asc h1,fun x=>?_⟩
   rw [putA_mem h1,h2]
   constructor
   ·rintro (⟨h3,h4⟩|rfl)
    ·exact ⟨h3,by simp [h4]⟩
    ·exact ⟨hp,by simp⟩
   ·rintro ⟨h3,h4⟩
    rcases List.mem_cons.1 h4 with rfl|h4
    ·exact .inr rfl
    ·exact .inl ⟨h3,h4⟩
  ·refine ⟨m,h1,fun x=>?_⟩
   rw [h2]
   constructor
   ·rintro ⟨h3,h4⟩
    exact ⟨h3,by simp [h4]⟩
   ·rintro ⟨h3,h4⟩
    rcases List.mem_cons.1 h4 with rfl|h4
    ·exact absurd h3 hp
    ·exact ⟨h3,h4⟩
theorem listOf_spec {P:ByteArray → Prop} (l:List ByteArray) (h:∀ x,P x → x ∈ l):asc (listOf P)∧(∀ x,x ∈ listOf P ↔ P x)∧(listOf P).length≤l.length:=by
 obtain ⟨m,h1,h2⟩:=exists_asc P l
 have h3:∀ x,x ∈ m ↔ P x:=fun x=>(h2 x).trans ⟨fun h=>h.1,fun hp=>⟨hp,h x hp⟩⟩
 rw [listOf_eq h1 h3]
 exact ⟨h1,h3,nodup_len m l (asc_nodup h1) fun x hx=>h x ((h3 x).1 hx)⟩
noncomputable def hardL (M:List Mod) (n:ByteArray):List ByteArray:=listOf fun x=>x=n∨Reach M n x
theorem hard_spec (M:List Mod) (n:ByteArray):asc (hardL M n)∧(∀ x,x ∈ hardL M n ↔ x=n∨Reach M n x)∧(hardL M n).length≤(allNeeds M).length+1:=by
 have:=listOf_spec (P:=fun x=>x=n∨Reach M n x) (n :: allNeeds M) (by
  rintro x (rfl|h)
  ·simp
  ·exact List.mem_cons_of_mem _ (reach_all h))
 simpa [hardL] using this
noncomputable def reachL (M:List Mod) (n:ByteArray):List ByteArray:=listOf fun x=>Reach M n x
theorem reach_spec (M:List Mod) (n:ByteArray):asc (reachL M n)∧(∀ x,x ∈ reachL M n ↔ Reach M n x)∧(reachL M n).length≤(allNeeds M).length:=listOf_spec _ fun x h=>reach_all h
end Go.Proofs.YtmjffgienmcabaaGreatDoor
namespace Go.Proofs.YtmjffgienmcabaaGreatDoor
attribute [local irreducible] PL QL PWPr PCalls Weak RetK Kontr PA
open Go.RowKit
open IntWalk renaming iteOmega → iO, toNatUp → tN
set_option linter.unusedVariables false
set_option linter.unusedSimpArgs false
set_option maxRecDepth 20000
structure Sized (M:List Mod):Prop where
 needs:∀ x ∈ allNeeds M,x.size≤maxLen
theorem hard_pure (M:List Mod) (n:ByteArray) (hS:Small M) (hz:Sized M) (hn:n.size≤maxLen) :
  PCalls Tryz.prog 57 [.c (.mp 0),.c (.v (.string n))] [.map none true (modsE M)] fun r os=>r = .c (.own 1 (hardL M n).length)∧os=[.map none true (modsE M),.arr 9 1 ((hardL M n).map strD)]:=by
 refine PCalls.mono (R:=fun r os=>∃ m,(asc m∧∀ x,x ∈ m ↔ x=n∨Reach M n x)∧r = .c (.own 1 m.length)∧os=[.map none true (modsE M),.arr 9 1 (m.map strD)]) ?_ (by
  rintro r os ⟨m,⟨h1,h2⟩,rfl,rfl⟩
  rw [hardL,listOf_eq h1 h2]
  exact ⟨rfl,rfl⟩)
 refine pcalls_of Tryz.func57 rfl (by simp [Tryz.ntmps57]) ?_
 rw [Tryz.ntmps57,Tryz.results57]
 push_cast [iO,tN]
 repeat' (first |  (refine plc [0] (reached_pure M n hS) ?_ ?_;push_cast [iO,tN];rintro r os ⟨seen,⟨hnd,hse⟩,rfl,rfl⟩;push_cast [iO,tN])  | ((first|refine pG ?_|refine pQ ?_|refine pU ?_);push_cast [iO,tN])|(refine pif (fun h=>?_) (fun h=>?_)<;>first|exact pN h|push_cast [iO,tN]))
 have hlen:(addS seen n).length≤10001:=by
  have h1:=nodup_len seen (allNeeds M) hnd fun x hx=>reach_all ((hse x).1 hx)
  have h2:=hS.all
  unfold addS
  split
  ·omega
  ·simp;omega
 repeat' (first |  (refine plc [1] (keysOf_pure (setE (addS seen n))) ?_ ?_;push_cast [iO,tN];rintro r os ⟨rfl,rfl⟩;push_cast [iO,tN])  | ((first|refine pG ?_|refine pQ ?_|refine pU ?_);push_cast [iO,tN])|(refine pif (fun h=>?_) (fun h=>?_)<;>first|exact pN h|push_cast [iO,tN]))
 repeat' (first |  (refine plc [1,2] (sortedD_pure (addS seen n) (nodup_addS hnd) (fun x hx=>(mem_addS.1 hx).elim (fun h=>hz.needs x (reach_all ((hse x).1 h))) (fun h=>h ▸ hn)) (by omega)) ?_ ?_;push_cast [iO,tN];rintro r os ⟨m,⟨h1,h2,h3⟩,rfl,rfl⟩;push_cast [iO,tN])  | ((first|refine pG ?_|refine pQ ?_|refine pU ?_);push_cast [iO,tN])|(refine pif (fun h=>?_) (fun h=>?_)<;>first|exact pN h|push_cast [iO,tN]))
 (refine retK_of [0,3] ?_;push_cast [iO,tN])
 exact ⟨_,_,leP_refl _,leOs_refl _,m,⟨h1,fun x=>by rw [h3,mem_addS,hse];exact or_comm⟩,rfl,rfl⟩
theorem index_pure (l:List ByteArray) (s:ByteArray) (hl:l.length≤1000000000) :
  PCalls Tryz.prog 91 [.c (.sl 1 (l.map strD)),.c (.v (.string s))] [] fun r os=>∃ k:Int,((k = -1∧s ∉ l)∨∃ i:Nat,k=i∧i < l.length∧l.getD i default=s)∧r = .c (.v (.int .i64 k))∧os=[]:=by
 refine pcalls_of Tryz.func91 rfl (by simp [Tryz.ntmps91]) ?_
 rw [Tryz.ntmps91,Tryz.results91]
 push_cast [iO,tN]
 repeat' (first|((first|refine pG ?_|refine pQ ?_|refine pU ?_);push_cast [iO,tN])|(refine pif (fun h=>?_) (fun h=>?_)<;>first|exact pN h|push_cast [iO,tN]))
 refine pwp_loop2 (α:=Nat) (fun k=>k≤l.length∧s ∉ l.take k) (fun k=>⟨[(8,.c (.v (.int .i64 k))),(7,.c (.v (.int .i64 l.length))),(6,.c (.sl 1 (l.map strD))),(0,.c (.sl 1 (l.map strD))),(1,.c (.v (.string s)))],[]⟩) (fun k=>l.length - k) 0 ⟨by omega,by simp⟩ (by (refine weak_fg ?_;push_cast [iO,tN])) ?_
 rintro k ⟨hk,hpre⟩
 by_cases hlt:k < l.length
 ·have e1:=getD_lt l hlt
  repeat' (first|((first|refine pG ?_|refine pQ ?_|refine pU ?_);push_cast [iO,tN])|(refine pif (fun h=>?_) (fun h=>?_)<;>first|exact pN h|push_cast [iO,tN]))
  ·(refine retK_of [] ?_;push_cast [iO,tN])
   exact ⟨_,_,leP_refl _,leOs_refl _,k,.inr ⟨k,rfl,hlt,h.symm⟩,rfl,rfl⟩
  ·refine ⟨k+1,⟨by omega,?_⟩,by (refine weak_fg ?_;push_cast [iO,tN]),by omega⟩
   rw [List.take_succ_eq_append_getElem hlt]
   simp only [List.mem_append,List.mem_singleton,not_or]
   exact ⟨hpre,by rw [← e1];exact h⟩
 ·rw [List.take_of_length_le (by omega)] at hpre
  repeat' (first|((first|refine pG ?_|refine pQ ?_|refine pU ?_);push_cast [iO,tN])|(refine pif (fun h=>?_) (fun h=>?_)<;>first|exact pN h|push_cast [iO,tN]))
  (refine retK_of [] ?_;push_cast [iO,tN])
  exact ⟨_,_,leP_refl _,leOs_refl _,-1,.inl ⟨rfl,hpre⟩,rfl,rfl⟩
theorem containsD_pure (l:List ByteArray) (s:ByteArray) (hl:l.length≤1000000000) :
  PCalls Tryz.prog 63 [.c (.sl 1 (l.map strD)),.c (.v (.string s))] [] fun r os=>r = .c (.v (.bool (inM s l)))∧os=[]:=by
 refine pcalls_of Tryz.func63 rfl (by simp [Tryz.ntmps63]) ?_
 rw [Tryz.ntmps63,Tryz.results63]
 push_cast [iO,tN]
 repeat' (first |  (refine plc [] (index_pure l s hl) ?_ ?_;push_cast [iO,tN];rintro r os ⟨k,hk,rfl,rfl⟩;push_cast [iO,tN])  | ((first|refine pG ?_|refine pQ ?_|refine pU ?_);push_cast [iO,tN])|(refine pif (fun h=>?_) (fun h=>?_)<;>first|exact pN h|push_cast [iO,tN]))
 (refine retK_of [] ?_;push_cast [iO,tN])
 rcases hk with ⟨rfl,h⟩|⟨i,rfl,hi,rfl⟩
 ·rw [inM_false.2 h];rfl
 ·rw [inM_iff.2 (by rw [getD_lt l hi];exact List.getElem_mem _)];simp
theorem noMod_fails:noMod.fails=false:=rfl
noncomputable def whyV (M:List Mod) (off:List ByteArray) (n:ByteArray):Int:=open Classical in
 if ∃ x ∈ hardL M n,modOf M x=none then 190 else if ∃ x ∈ hardL M n,Reach M x x then 191 else if ∃ x ∈ hardL M n,((modOf M x).getD noMod).fails=true∨x ∈ off then 192 else 0
structure WInv (M:List Mod) (off H:List ByteArray) (k:Nat) (g r f:Bool):Prop where
 le:k≤H.length
 g:g=true ↔ ∃ x ∈ H.take k,modOf M x=none
 r:r=true ↔ ∃ x ∈ H.take k,Reach M x x
 f:f=true ↔ ∃ x ∈ H.take k,((modOf M x).getD noMod).fails=true∨x ∈ off
theorem WInv.zero (M:List Mod) (off H:List ByteArray):WInv M off H 0 false false false:=⟨by omega,by simp,by simp,by simp⟩
theorem ex_take {α:Type} {l:List α} {k:Nat} (h:k < l.length) (P:α → Prop):(∃ x ∈ l.take (k+1),P x) ↔ (∃ x ∈ l.take k,P x)∨P l[k]:=by
 rw [List.take_succ_eq_append_getElem h]
 constructor
 ·rintro ⟨x,hx,hp⟩
  rcases List.mem_append.1 hx with hx|hx
  ·exact .inl ⟨x,hx,hp⟩
  ·simp at hx;subst hx;exact .inr hp
 ·rintro (⟨x,hx,hp⟩|hp)
  ·exact ⟨x,List.mem_append.2 (.inl hx),hp⟩
  ·exact ⟨_,List.mem_append.2 (.inr (by simp)),hp⟩
theorem WInv.step {M:List Mod} {off H:List ByteArray} {k:Nat} {g r f:Bool} (h:WInv M off H k g r f) (hk:k < H.length) (rr:Bool) (hr:r=false → (rr=true ↔ Reach M (H.getD k default) (H.getD k default))) :
  WInv M off H (k+1) (g || (modOf M (H.getD k default)).isNone) (r || rr) (f || (((modOf M (H.getD k default)).getD noMod).fails || inM (H.getD k default) off)):=by
 have e:=getD_lt H hk
 rw [e] at hr ⊢
 refine ⟨by omega,?_,?_,?_⟩
 ·rw [ex_take hk,Bool.or_eq_true,h.g,Option.isNone_iff_eq_none]
 ·rw [ex_take hk,Bool.or_eq_true]
  cases r with
  | true=>simp only [true_or,true_iff];exact .inl (h.r.1 rfl)
  | false=>rw [hr rfl,← h.r]
 ·rw [ex_take hk (fun x=>((modOf M x).getD noMod).fails=true∨x ∈ off),Bool.or_eq_true,Bool.or_eq_true,h.f,inM_iff]
theorem WInv.done {M:List Mod} {off:List ByteArray} {n:ByteArray} {k:Nat} {g r f:Bool} (h:WInv M off (hardL M n) k g r f) (hk:¬ k < (hardL M n).length) :
  whyV M off n=if g=true then 190 else if r=true then 191 else if f=true then 192 else 0:=by
 have h1:=h.g;have h2:=h.r;have h3:=h.f
 rw [List.take_of_length_le (by omega)] at h1 h2 h3
 have e:∀ (p:Prop) (i:Decidable p) (j:Bool),(j=true ↔ p) → ∀ x y:Int,(@ite _ p i x y)=if j=true then x else y:=by intro p i j h x y;cases j<;>simp_all
 unfold whyV
 rw [e _ _ g h1,e _ _ r h2,e _ _ f h3]
structure CfgOk (c:Cfg):Prop where
 small:Small c.modules
 sized:Sized c.modules
 off:c.off.length≤1000
set_option maxHeartbeats 4000000 in
theorem why_pure (c:Cfg) (n:ByteArray) (hc:CfgOk c) (hn:n.size≤maxLen) :
  PCalls Tryz.prog 56 [.agg c.e,.c (.mp 0),.c (.v (.string n))] [.map none true (modsE c.modules)] fun r os=>r = .c (.v (.int .i64 (whyV c.modules c.off n)))∧os=[.map none true (modsE c.modules)]:=by
 refine pcalls_of Tryz.func56 rfl (by simp [Tryz.ntmps56]) ?_
 rw [Tryz.ntmps56,Tryz.results56]
 push_cast [iO,tN]
 repeat' (first |  (refine plc [0] (hard_pure c.modules n hc.small hc.sized hn) ?_ ?_;push_cast [iO,tN];rintro r os ⟨rfl,rfl⟩;push_cast [iO,tN])  | ((first|refine pG ?_|refine pQ ?_|refine pU ?_);push_cast [iO,tN])|(refine pif (fun h=>?_) (fun h=>?_)<;>first|exact pN h|push_cast [iO,tN]))
 refine pwp_weak (weak_frz 2 (by omega)) ?_
 have hl:(hardL c.modules n).length≤10001:=by have:=(hard_spec c.modules n).2.2;have:=hc.small.all;omega
 have e0:=List.take_of_length_le (l:=(hardL c.modules n).map strD) (i:=(hardL c.modules n).length) (by simp)
 push_cast [iO,tN,e0]
 refine pwp_loop2 (α:=Nat × Bool × Bool × Bool) (fun x=>WInv c.modules c.off (hardL c.modules n) x.1 x.2.1 x.2.2.1 x.2.2.2) (fun x=>⟨[(18,.c (.v (.int .i64 x.1))),(17,.c (.v (.int .i64 (hardL c.modules n).length))),(16,.c (.sl 1 ((hardL c.modules n).map strD))),(9,.c (.v (.bool x.2.2.2))),(8,.c (.v (.bool x.2.2.1))),(7,.c (.v (.bool x.2.1))),(3,.c (.ptr 1 0)),(1,.c (.mp 0))],[.map none true (modsE c.modules),.box 32 c.e,.arr 9 1 []]⟩) (fun x=>(hardL c.modules n).length - x.1) (0,false,false,false) (WInv.zero _ _ _) (by (refine weak_fg ?_;push_cast [iO,tN])) ?_
 rintro ⟨k,g,r,f⟩ hI
 simp only at hI
 have hle:=hI.le
 by_cases hlt:k < (hardL c.modules n).length
 ·cases hm:modOf c.modules ((hardL c.modules n).getD k default) with
  | none =>
   cases r
   ·cases g<;>cases f
    all_goals repeat' (first|(refine plc [0] (reached_pure c.modules ((hardL c.modules n).getD k default) hc.small) ?_ ?_;push_cast [iO,tN,mget_mods,hm,noMod_fails];rintro r os ⟨seen,⟨hnd,hse⟩,rfl,rfl⟩;push_cast [iO,tN,mget_mods,hm,noMod_fails])|(refine plc [] (containsD_pure c.off ((hardL c.modules n).getD k default) (by have:=hc.off;omega)) ?_ ?_;push_cast [iO,tN,mget_mods,hm,noMod_fails];rintro r os ⟨rfl,rfl⟩;push_cast [iO,tN,mget_mods,hm,noMod_fails])|((first|refine pG ?_|refine pQ ?_|refine pU ?_);push_cast [iO,tN,mget_mods,hm,noMod_fails])|(refine pif (fun h=>?_) (fun h=>?_)<;>first|exact pN h|push_cast [iO,tN,mget_mods,hm,noMod_fails]))
    all_goals exact ⟨(k+1,_,_,_),hI.step hlt (inM ((hardL c.modules n).getD k default) seen) (fun _=>by rw [inM_iff,hse]),by (refine weak_fg ?_;push_cast [iO,tN,hm,noMod_fails,noMod_fails,Option.isNone_some,Option.isNone_none,Option.getD_some,Option.getD_none]);all_goals rfl,by simp only;omega⟩
   ·cases g<;>cases f
    all_goals repeat' (first|(refine plc [0] (reached_pure c.modules ((hardL c.modules n).getD k default) hc.small) ?_ ?_;push_cast [iO,tN,mget_mods,hm,noMod_fails];rintro r os ⟨seen,⟨hnd,hse⟩,rfl,rfl⟩;push_cast [iO,tN,mget_mods,hm,noMod_fails])|(refine plc [] (containsD_pure c.off ((hardL c.modules n).getD k default) (by have:=hc.off;omega)) ?_ ?_;push_cast [iO,tN,mget_mods,hm,noMod_fails];rintro r os ⟨rfl,rfl⟩;push_cast [iO,tN,mget_mods,hm,noMod_fails])|((first|refine pG ?_|refine pQ ?_|refine pU ?_);push_cast [iO,tN,mget_mods,hm,noMod_fails])|(refine pif (fun h=>?_) (fun h=>?_)<;>first|exact pN h|push_cast [iO,tN,mget_mods,hm,noMod_fails]))
    all_goals exact ⟨(k+1,_,_,_),hI.step hlt true (fun h=>nomatch h),by (refine weak_fg ?_;push_cast [iO,tN,hm,noMod_fails,noMod_fails,Option.isNone_some,Option.isNone_none,Option.getD_some,Option.getD_none]);all_goals rfl,by simp only;omega⟩
  | some m =>
   cases r
   ·cases hf:m.fails<;>cases g<;>cases f
    all_goals repeat' (first|(refine plc [0] (reached_pure c.modules ((hardL c.modules n).getD k default) hc.small) ?_ ?_;push_cast [iO,tN,mget_mods,hm,hf];rintro r os ⟨seen,⟨hnd,hse⟩,rfl,rfl⟩;push_cast [iO,tN,mget_mods,hm,hf])|(refine plc [] (containsD_pure c.off ((hardL c.modules n).getD k default) (by have:=hc.off;omega)) ?_ ?_;push_cast [iO,tN,mget_mods,hm,hf];rintro r os ⟨rfl,rfl⟩;push_cast [iO,tN,mget_mods,hm,hf])|((first|refine pG ?_|refine pQ ?_|refine pU ?_);push_cast [iO,tN,mget_mods,hm,hf])|(refine pif (fun h=>?_) (fun h=>?_)<;>first|exact pN h|push_cast [iO,tN,mget_mods,hm,hf]))
    all_goals exact ⟨(k+1,_,_,_),hI.step hlt (inM ((hardL c.modules n).getD k default) seen) (fun _=>by rw [inM_iff,hse]),by (refine weak_fg ?_;push_cast [iO,tN,hm,hf,noMod_fails,Option.isNone_some,Option.isNone_none,Option.getD_some,Option.getD_none]);all_goals rfl,by simp only;omega⟩
   ·cases hf:m.fails<;>cases g<;>cases f
    all_goals repeat' (first|(refine plc [0] (reached_pure c.modules ((hardL c.modules n).getD k default) hc.small) ?_ ?_;push_cast [iO,tN,mget_mods,hm,hf];rintro r os ⟨seen,⟨hnd,hse⟩,rfl,rfl⟩;push_cast [iO,tN,mget_mods,hm,hf])|(refine plc [] (containsD_pure c.off ((hardL c.modules n).getD k default) (by have:=hc.off;omega)) ?_ ?_;push_cast [iO,tN,mget_mods,hm,hf];rintro r os ⟨rfl,rfl⟩;push_cast [iO,tN,mget_mods,hm,hf])|((first|refine pG ?_|refine pQ ?_|refine pU ?_);push_cast [iO,tN,mget_mods,hm,hf])|(refine pif (fun h=>?_) (fun h=>?_)<;>first|exact pN h|push_cast [iO,tN,mget_mods,hm,hf]))
    all_goals exact ⟨(k+1,_,_,_),hI.step hlt true (fun h=>nomatch h),by (refine weak_fg ?_;push_cast [iO,tN,hm,hf,noMod_fails,Option.isNone_some,Option.isNone_none,Option.getD_some,Option.getD_none]);all_goals rfl,by simp only;omega⟩
 ·have hd:=hI.done hlt
  cases g<;>cases r<;>cases f
  all_goals simp only [reduceIte,Bool.false_eq_true] at hd
  all_goals repeat' (first|((first|refine pG ?_|refine pQ ?_|refine pU ?_);push_cast [iO,tN])|(refine pif (fun h=>?_) (fun h=>?_)<;>first|exact pN h|push_cast [iO,tN]))
  all_goals (refine retK_of [0] ?_;push_cast [iO,tN])
  all_goals rw [hd]
end Go.Proofs.YtmjffgienmcabaaGreatDoor
