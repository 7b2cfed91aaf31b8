/- What the program computes, and the plain laws of it, part 27. -/
import Derived.Test.YtmjffgienmcabaaGreatDoorS26
namespace Go.Proofs.YtmjffgienmcabaaGreatDoor
attribute [local irreducible] PL QL PWPr PCalls Weak RetK Kontr PA
open Go.RowKit
open IntWalk renaming iteOmega → iO, toNatUp → tN
set_option linter.unusedVariables false
set_option linter.unusedSimpArgs false
set_option maxRecDepth 20000
def softOf (M:List Mod) (n:ByteArray):List ByteArray:=((modOf M n).getD noMod).pre++((modOf M n).getD noMod).post
inductive Cl (M:List Mod) (off names:List ByteArray):ByteArray → Prop
 | base {s x:ByteArray}:s ∈ names → whyV M off s=0 → x ∈ hardL M s → Cl M off names x
 | step {m s x:ByteArray}:Cl M off names m → s ∈ softOf M m → whyV M off s=0 → x ∈ hardL M s → Cl M off names x
theorem whyV_zero {M:List Mod} {off:List ByteArray} {n:ByteArray} (h:whyV M off n=0):∀ x ∈ hardL M n,¬ modOf M x=none:=by
 intro x hx hm
 unfold whyV at h
 rw [if_pos ⟨x,hx,hm⟩] at h
 cases h
theorem Cl.there {M:List Mod} {off names:List ByteArray} {x:ByteArray} (h:Cl M off names x):¬ modOf M x=none:=by
 cases h with
 | base _ h1 h2=>exact whyV_zero h1 _ h2
 | step _ _ h1 h2=>exact whyV_zero h1 _ h2
theorem there_name {M:List Mod} {x:ByteArray} (h:¬ modOf M x=none):x ∈ M.map Mod.name:=by
 cases hm:modOf M x with
 | none=>exact absurd hm h
 | some m=>exact List.mem_map.2 ⟨m,(mod_mem hm).1,(mod_mem hm).2⟩
theorem hard_trans {M:List Mod} {a b c:ByteArray} (h:b ∈ hardL M a) (h':c ∈ hardL M b):c ∈ hardL M a:=by
 rw [(hard_spec M a).2.1] at h ⊢
 rw [(hard_spec M b).2.1] at h'
 rcases h with rfl|h
 ·exact h'
 ·rcases h' with rfl|h'
  ·exact .inr h
  ·exact .inr (h.trans h')
theorem hard_self (M:List Mod) (a:ByteArray):a ∈ hardL M a:=((hard_spec M a).2.1 a).2 (.inl rfl)
noncomputable def closL (M:List Mod) (off names:List ByteArray):List ByteArray:=listOf (Cl M off names)
theorem clos_spec (M:List Mod) (off names:List ByteArray):asc (closL M off names)∧(∀ x,x ∈ closL M off names ↔ Cl M off names x)∧(closL M off names).length≤M.length:=by
 have:=listOf_spec (P:=Cl M off names) (M.map Mod.name) fun x h=>there_name h.there
 simpa [closL] using this
structure CInv (M:List Mod) (off names seen st:List ByteArray):Prop where
 nd:seen.Nodup
 hs:∀ x ∈ seen,Cl M off names x
 ht:∀ s ∈ st,s ∈ names∨∃ m,Cl M off names m∧s ∈ softOf M m
 h0:∀ s ∈ names,whyV M off s=0 → (∀ x ∈ hardL M s,x ∈ seen)∨s ∈ st
 hn:∀ m ∈ seen,∀ s ∈ softOf M m,whyV M off s=0 → (∀ x ∈ hardL M s,x ∈ seen)∨s ∈ st
 hc:∀ x ∈ seen,∀ y ∈ hardL M x,y ∈ seen
 hl:st.length≤names.length+200 * seen.length
theorem CInv.init (M:List Mod) (off names:List ByteArray):CInv M off names [] names:=⟨by simp,by simp,fun s h=>.inl h,fun s h _=>.inr h,by simp,by simp,by simp⟩
theorem CInv.seenLen {M:List Mod} {off names seen st:List ByteArray} (h:CInv M off names seen st):seen.length≤M.length:=by
 have:=nodup_len seen (M.map Mod.name) h.nd fun x hx=>there_name (h.hs x hx).there
 simpa using this
theorem CInv.skip {M:List Mod} {off names seen st:List ByteArray} {s:ByteArray} (h:CInv M off names seen (st++[s])) (hs:s ∈ seen∨whyV M off s≠0):CInv M off names seen st:=by
 have key:∀ t,whyV M off t=0 → (∀ x ∈ hardL M t,x ∈ seen)∨t ∈ st++[s] → (∀ x ∈ hardL M t,x ∈ seen)∨t ∈ st:=by
  rintro t h0 (h1|h1)
  ·exact .inl h1
  ·rcases List.mem_append.1 h1 with h1|h1
   ·exact .inr h1
   ·simp at h1
    subst h1
    rcases hs with hs|hs
    ·exact .inl (h.hc t hs)
    ·exact absurd h0 hs
 exact ⟨h.nd,h.hs,fun t ht=>h.ht t (by simp [ht]),fun t ht h0=>key t h0 (h.h0 t ht h0),fun m hm t ht h0=>key t h0 (h.hn m hm t ht h0),h.hc,by have:=h.hl;simp at this;omega⟩
theorem CInv.done {M:List Mod} {off names seen:List ByteArray} (h:CInv M off names seen []) (x:ByteArray):x ∈ seen ↔ Cl M off names x:=by
 refine ⟨h.hs x,fun hx=>?_⟩
 induction hx with
 | base h1 h2 h3 =>
  rcases h.h0 _ h1 h2 with h4|h4
  ·exact h4 _ h3
  ·simp at h4
 | step _ h1 h2 h3 ih =>
  rcases h.hn _ ih _ h1 h2 with h4|h4
  ·exact h4 _ h3
  ·simp at h4
structure CIn (M:List Mod) (off names seen0:List ByteArray) (n0:Nat) (s:ByteArray) (k:Nat) (seen st:List ByteArray):Prop where
 nd:seen.Nodup
 hs:∀ x ∈ seen,Cl M off names x
 ht:∀ s ∈ st,s ∈ names∨∃ m,Cl M off names m∧s ∈ softOf M m
 sub:∀ x ∈ seen0,x ∈ seen
 new:∀ x ∈ seen,x ∈ seen0∨x ∈ hardL M s
 all:∀ x ∈ (hardL M s).take k,x ∈ seen
 h0:∀ t ∈ names,whyV M off t=0 → (∀ x ∈ hardL M t,x ∈ seen0)∨t ∈ st∨t=s
 hn:∀ m ∈ seen,∀ t ∈ softOf M m,whyV M off t=0 → (∀ x ∈ hardL M t,x ∈ seen0)∨t ∈ st∨t=s
 hl:st.length+200 * seen0.length≤n0+200 * seen.length
 hl0:n0≤names.length+200 * seen0.length
theorem CInv.enter {M:List Mod} {off names seen st:List ByteArray} {s:ByteArray} (h:CInv M off names seen (st++[s])):CIn M off names seen st.length s 0 seen st:=by
 have key:∀ t,(∀ x ∈ hardL M t,x ∈ seen)∨t ∈ st++[s] → (∀ x ∈ hardL M t,x ∈ seen)∨t ∈ st∨t=s:=by
  rintro t (h1|h1)
  ·exact .inl h1
  ·rcases List.mem_append.1 h1 with h1|h1
   ·exact .inr (.inl h1)
   ·simp at h1;exact .inr (.inr h1)
 exact ⟨h.nd,h.hs,fun t ht=>h.ht t (by simp [ht]),fun x hx=>hx,fun x hx=>.inl hx,by simp,fun t ht h0=>key t (h.h0 t ht h0),fun m hm t ht h0=>key t (h.hn m hm t ht h0),by omega,by have:=h.hl;simp at this;omega⟩
theorem CIn.seenLen {M:List Mod} {off names seen0 seen st:List ByteArray} {s:ByteArray} {k n0:Nat} (h:CIn M off names seen0 n0 s k seen st):seen.length≤M.length:=by
 have:=nodup_len seen (M.map Mod.name) h.nd fun x hx=>there_name (h.hs x hx).there
 simpa using this
theorem take_mem_succ {l:List ByteArray} {k:Nat} (hk:k < l.length) {x:ByteArray}:x ∈ l.take (k+1) ↔ x ∈ l.take k∨x=l.getD k default:=by
 rw [List.take_succ_eq_append_getElem hk,getD_lt l hk,List.mem_append,List.mem_singleton]
theorem CIn.old {M:List Mod} {off names seen0 seen st:List ByteArray} {s:ByteArray} {k n0:Nat} (h:CIn M off names seen0 n0 s k seen st) (hk:k < (hardL M s).length) (hm:(hardL M s).getD k default ∈ seen):CIn M off names seen0 n0 s (k+1) seen st :=
 ⟨h.nd,h.hs,h.ht,h.sub,h.new,fun x hx=>by
  rcases (take_mem_succ hk).1 hx with hx|rfl
  ·exact h.all x hx
  ·exact hm,h.h0,h.hn,h.hl,h.hl0⟩
theorem CIn.add {M:List Mod} {off names seen0 seen st:List ByteArray} {s:ByteArray} {k n0:Nat} (h:CIn M off names seen0 n0 s k seen st) (hk:k < (hardL M s).length) (hm:(hardL M s).getD k default ∉ seen) (hcl:∀ x ∈ hardL M s,Cl M off names x) (hlen:(softOf M ((hardL M s).getD k default)).length≤200) :
  CIn M off names seen0 n0 s (k+1) (addS seen ((hardL M s).getD k default)) (st++softOf M ((hardL M s).getD k default)):=by
 have hmem:(hardL M s).getD k default ∈ hardL M s:=by rw [getD_lt _ hk];exact List.getElem_mem _
 have ha:(addS seen ((hardL M s).getD k default)).length=seen.length+1:=by unfold addS;rw [if_neg (by rw [inM_iff];exact hm)];simp
 refine ⟨nodup_addS h.nd,fun x hx=>?_,fun t ht=>?_,fun x hx=>mem_addS.2 (.inl (h.sub x hx)),fun x hx=>?_,fun x hx=>?_,fun t ht h0=>?_,fun m hm t ht h0=>?_,?_,h.hl0⟩
 ·rcases mem_addS.1 hx with hx|rfl
  ·exact h.hs x hx
  ·exact hcl _ hmem
 ·rcases List.mem_append.1 ht with ht|ht
  ·exact h.ht t ht
  ·exact .inr ⟨_,hcl _ hmem,ht⟩
 ·rcases mem_addS.1 hx with hx|rfl
  ·exact h.new x hx
  ·exact .inr hmem
 ·rcases (take_mem_succ hk).1 hx with hx|rfl
  ·exact mem_addS.2 (.inl (h.all x hx))
  ·exact mem_addS.2 (.inr rfl)
 ·rcases h.h0 t ht h0 with h1|h1|h1
  ·exact .inl h1
  ·exact .inr (.inl (by simp [h1]))
  ·exact .inr (.inr h1)
 ·rcases mem_addS.1 hm with hm|rfl
  ·rcases h.hn m hm t ht h0 with h1|h1|h1
   ·exact .inl h1
   ·exact .inr (.inl (by simp [h1]))
   ·exact .inr (.inr h1)
  ·exact .inr (.inl (List.mem_append.2 (.inr ht)))
 ·have:=h.hl
  rw [ha,List.length_append]
  omega
theorem CIn.leave {M:List Mod} {off names seen0 seen st:List ByteArray} {s:ByteArray} {k n0:Nat} (h:CIn M off names seen0 n0 s k seen st) (hk:¬ k < (hardL M s).length) (hc:∀ x ∈ seen0,∀ y ∈ hardL M x,y ∈ seen0):CInv M off names seen st:=by
 have hall:∀ x ∈ hardL M s,x ∈ seen:=by have:=h.all;rwa [List.take_of_length_le (by omega)] at this
 have key:∀ t,(∀ x ∈ hardL M t,x ∈ seen0)∨t ∈ st∨t=s → (∀ x ∈ hardL M t,x ∈ seen)∨t ∈ st:=by
  rintro t (h1|h1|rfl)
  ·exact .inl fun x hx=>h.sub x (h1 x hx)
  ·exact .inr h1
  ·exact .inl hall
 refine ⟨h.nd,h.hs,h.ht,fun t ht h0=>key t (h.h0 t ht h0),fun m hm t ht h0=>key t (h.hn m hm t ht h0),fun x hx y hy=>?_,by have:=h.hl;have:=h.hl0;omega⟩
 rcases h.new x hx with hx|hx
 ·exact h.sub y (hc x hx y hy)
 ·exact hall y (hard_trans hx hy)
structure CfgOk2 (c:Cfg):Prop extends CfgOk c where
 soft:∀ n,∀ x ∈ softOf c.modules n,x.size≤maxLen
 softl:∀ n,(softOf c.modules n).length≤200
noncomputable def closSt (c:Cfg) (seen st:List ByteArray):S:=⟨[(7,.c (.own 3 st.length)),(6,.c (.mp 2)),(5,.c (.mp 1)),(2,.c (.ptr 0 0))],[.box 32 c.e,.map none true (modsE c.modules),.map none false (setE seen),.arr 9 1 (st.map strD)]⟩
attribute [push_cast] closSt
set_option maxHeartbeats 4000000 in
theorem closure_pure (c:Cfg) (names:List ByteArray) (hc:CfgOk2 c) (hn:names.length≤1000) (hz:∀ x ∈ names,x.size≤maxLen) (hnz:∀ x ∈ c.modules.map Mod.name,x.size≤maxLen) :
  PCalls Tryz.prog 33 [.agg c.e,.c (.sl 1 (names.map strD))] [] fun r os=>r = .c (.own 0 (closL c.modules c.off names).length)∧os=[.arr 9 1 ((closL c.modules c.off names).map strD)]:=by
 have hS:=hc.small
 have hML:=hS.len
 refine PCalls.mono (R:=fun r os=>∃ m,(asc m∧∀ x,x ∈ m ↔ Cl c.modules c.off names x)∧r = .c (.own 0 m.length)∧os=[.arr 9 1 (m.map strD)]) ?_ (by
  rintro r os ⟨m,⟨h1,h2⟩,rfl,rfl⟩
  rw [closL,listOf_eq h1 h2]
  exact ⟨rfl,rfl⟩)
 refine pcalls_of Tryz.func33 rfl (by simp [Tryz.ntmps33]) ?_
 rw [Tryz.ntmps33,Tryz.results33]
 push_cast [iO,tN]
 repeat' (first |  (refine plc [] (modules_pure c hS.nodup (by omega)) ?_ ?_;push_cast [iO,tN];rintro r os ⟨rfl,rfl⟩;push_cast [iO,tN])|(refine plc [] (clone_pure names (by omega)) ?_ ?_;push_cast [iO,tN];rintro r os ⟨rfl,rfl⟩;push_cast [iO,tN])  | ((first|refine pG ?_|refine pQ ?_|refine pU ?_);push_cast [iO,tN])|(refine pif (fun h=>?_) (fun h=>?_)<;>first|exact pN h|push_cast [iO,tN]))
 refine pwp_loop2 (α:=List ByteArray × List ByteArray) (fun x=>CInv c.modules c.off names x.1 x.2) (fun x=>closSt c x.1 x.2) (fun x=>(100 - x.1.length) * 300+x.2.length) ([],names) (CInv.init _ _ _) (by (refine weak_fg ?_;push_cast [iO,tN])) ?_
 rintro ⟨seen,st⟩ hI
 have hsl:=hI.seenLen
 simp only at hI hsl
 rcases List.eq_nil_or_concat st with h0|⟨st',s,h0⟩
 ·subst h0
  repeat' (first |  (refine plc [2] (keysOf_pure (setE seen)) ?_ ?_;push_cast [iO,tN];rintro r os ⟨rfl,rfl⟩;push_cast [iO,tN])  | ((first|refine pG ?_|refine pQ ?_|refine pU ?_);push_cast [iO,tN])|(refine pif (fun h=>?_) (fun h=>?_)<;>first|exact pN h|push_cast [iO,tN]))
  repeat' (first |  (refine plc [2,4] (sortedD_pure seen hI.nd (fun x hx=>hnz x (there_name (hI.hs x hx).there)) (by omega)) ?_ ?_;push_cast [iO,tN];rintro r os ⟨m,⟨h1,h2,h3⟩,rfl,rfl⟩;push_cast [iO,tN])  | ((first|refine pG ?_|refine pQ ?_|refine pU ?_);push_cast [iO,tN])|(refine pif (fun h=>?_) (fun h=>?_)<;>first|exact pN h|push_cast [iO,tN]))
  (refine retK_of [5] ?_;push_cast [iO,tN])
  exact ⟨_,_,leP_refl _,leOs_refl _,m,⟨h1,fun x=>(h3 x).trans (hI.done x)⟩,rfl,rfl⟩
 ·rw [List.concat_eq_append] at h0
  subst h0
  have e1:=getD_snoc (st'.map strD) (strD s) []
  have e2:=List.take_left' (l₁:=st'.map strD) (l₂:=[strD s]) (i:=st'.length) (by simp)
  simp only [List.length_map,strD] at e1 e2
  have hl:=hI.hl
  simp only [List.length_append,List.length_cons,List.length_nil] at hl
  have hsz:s.size≤maxLen:=by
   rcases hI.ht s (by simp) with h|⟨m,_,h⟩
   ·exact hz s h
   ·exact hc.soft m s h
  cases hs:inM s seen
  ·obtain ⟨v,hv⟩:∃ v,whyV c.modules c.off s=v:=⟨_,rfl⟩
   by_cases hv0:v=0
   ·subst hv0
    repeat' (first|(refine plc [1] (why_pure c s hc.toCfgOk hsz) ?_ ?_;push_cast [iO,tN,hs,e1,e2,hv];rintro r os ⟨rfl,rfl⟩;push_cast [iO,tN,hs,e1,e2,hv])|(refine plc [1] (hard_pure c.modules s hS hc.sized hsz) ?_ ?_;push_cast [iO,tN,hs,e1,e2,hv];rintro r os ⟨rfl,rfl⟩;push_cast [iO,tN,hs,e1,e2,hv])|((first|refine pG ?_|refine pQ ?_|refine pU ?_);push_cast [iO,tN,hs,e1,e2,hv])|(refine pif (fun h=>?_) (fun h=>?_)<;>first|exact pN h|push_cast [iO,tN,hs,e1,e2,hv]))
    obtain ⟨H,hH⟩:∃ H,hardL c.modules s=H:=⟨_,rfl⟩
    have hHl:H.length≤10001:=by rw [← hH];have:=(hard_spec c.modules s).2.2;have:=hS.all;omega
    have he:=List.take_of_length_le (l:=H.map strD) (i:=H.length) (by simp)
    have hcl:∀ x ∈ hardL c.modules s,Cl c.modules c.off names x:=by
     intro x hx
     rcases hI.ht s (by simp) with h|⟨m,hm,h⟩
     ·exact .base h hv hx
     ·exact .step hm h hv hx
    have hin:=hI.enter
    simp only [hH]
    refine pwp_weak (weak_frz 4 (by omega)) ?_
    push_cast [iO,tN,he]
    refine pwp_weak (weak_trim 3 st'.length rfl) ?_
    push_cast [iO,tN,e2]
    refine pwp_loop2 (α:=Nat × List ByteArray × List ByteArray) (fun x=>CIn c.modules c.off names seen st'.length s x.1 x.2.1 x.2.2) (fun x=>⟨[(44,.c (.v (.int .i64 x.1))),(43,.c (.v (.int .i64 H.length))),(42,.c (.sl 1 (H.map strD))),(7,.c (.own 3 x.2.2.length)),(6,.c (.mp 2)),(5,.c (.mp 1)),(2,.c (.ptr 0 0))],[.box 32 c.e,.map none true (modsE c.modules),.map none false (setE x.2.1),.arr 9 1 (x.2.2.map strD)]⟩) (fun x=>H.length - x.1) (0,seen,st') hin (by (refine weak_fg ?_;push_cast [iO,tN,e2])) ?_
    rintro ⟨k,sn,sk⟩ hJ
    simp only at hJ
    have hkl:=hJ.hl
    have hsnl:=hJ.seenLen
    by_cases hlt:k < H.length
    ·have hlt':k < (hardL c.modules s).length:=by rw [hH];exact hlt
     cases hm:inM (H.getD k default) sn
     ·have hm':(hardL c.modules s).getD k default ∉ sn:=by rw [hH];exact inM_false.1 hm
      have hsoft:=hc.softl (H.getD k default)
      have had:=hJ.add hlt' hm' hcl (by rw [hH];exact hsoft)
      rw [hH] at had
      cases hmo:modOf c.modules (H.getD k default) with
      | none=>exact absurd hmo (hcl _ (by rw [hH,getD_lt H hlt];exact List.getElem_mem _)).there
      | some m =>
       have hso:softOf c.modules (H.getD k default)=m.pre++m.post:=by unfold softOf;rw [hmo];rfl
       rw [hso] at had hsoft
       simp only [List.length_append] at hsoft
       have e3:=List.take_of_length_le (l:=sk.map strD) (i:=sk.length) (by simp)
       repeat' (first|((refine pwp_drawn_to ⟨[(44,.c (.v (.int .i64 k))),(43,.c (.v (.int .i64 H.length))),(42,.c (.sl 1 (H.map strD))),(7,.c (.own 3 (sk.length+m.pre.length+m.post.length))),(6,.c (.mp 2)),(5,.c (.mp 1)),(2,.c (.ptr 0 0))],[.box 32 c.e,.map none true (modsE c.modules),.map none false (setE (addS sn (H.getD k default))),.arr 9 1 ((sk.map strD++m.pre.map strD)++m.post.map strD)]⟩ (by kernel_rfl) ?_ ?_;(focus (simp only [List.length_cons,List.length_nil,Nat.reduceAdd];(repeat' first|((first|refine pah 0 ?_|refine pah 1 ?_|refine pah 2 ?_|refine pah 4 ?_|refine pah 6 ?_|refine pah 7 ?_|refine pah 9 ?_|refine pah 11 ?_);push_cast [iO,tN,  mget_mods,hmo,hm,e3 ])|(refine pad ?_;refine weak_fg ?_;push_cast [iO,tN,  mget_mods,hmo,hm,e3 ])|((first|refine pas [3] ?_|refine pas [5] ?_|refine pas [8] ?_|refine pas [10] ?_);push_cast [iO,tN,  mget_mods,hmo,hm,e3 ])|((first|refine pas [3,5] ?_|refine pas [3,8] ?_|refine pas [3,10] ?_|refine pas [5,8] ?_|refine pas [5,10] ?_|refine pas [8,10] ?_);push_cast [iO,tN,  mget_mods,hmo,hm,e3 ];refine ⟨?_,?_⟩)|((first|refine pas [3,5,8] ?_|refine pas [3,5,10] ?_|refine pas [3,8,10] ?_|refine pas [5,8,10] ?_);push_cast [iO,tN,  mget_mods,hmo,hm,e3 ];refine ⟨?_,?_,?_⟩));done));push_cast [iO,tN,  mget_mods,hmo,hm,e3 ]))|((first|refine pG ?_|refine pQ ?_|refine pU ?_);push_cast [iO,tN,mget_mods,hmo,hm,e3])|(refine pif (fun h=>?_) (fun h=>?_)<;>first|exact pN h|push_cast [iO,tN,mget_mods,hmo,hm,e3]))
       exact ⟨(k+1,addS sn (H.getD k default),sk++(m.pre++m.post)),had,by (refine weak_fg ?_;push_cast [iO,tN,List.append_assoc]);try omega,by simp only;omega⟩
     ·have hol:=hJ.old hlt' (by rw [hH];exact inM_iff.1 hm)
      repeat' (first|((first|refine pG ?_|refine pQ ?_|refine pU ?_);push_cast [iO,tN,hm])|(refine pif (fun h=>?_) (fun h=>?_)<;>first|exact pN h|push_cast [iO,tN,hm]))
      exact ⟨(k+1,sn,sk),hol,by (refine weak_fg ?_;push_cast [iO,tN]),by simp only;omega⟩
    ·have hle:=hJ.leave (by rw [hH];exact hlt) hI.hc
     have hgrow:seen.length < sn.length:=by
      have h1:s ∈ sn:=by
       have:=hJ.all s
       rw [List.take_of_length_le (by rw [hH];omega)] at this
       exact this (hard_self _ _)
      have:=nodup_len (s :: seen) sn (List.nodup_cons.2 ⟨inM_false.1 hs,hI.nd⟩) (fun x hx=>by
       rcases List.mem_cons.1 hx with rfl|hx
       ·exact h1
       ·exact hJ.sub x hx)
      simp only [List.length_cons] at this
      omega
     repeat' (first|((first|refine pG ?_|refine pQ ?_|refine pU ?_);push_cast [iO,tN])|(refine pif (fun h=>?_) (fun h=>?_)<;>first|exact pN h|push_cast [iO,tN]))
     exact ⟨(sn,sk),hle,by (refine weak_fg ?_;push_cast [iO,tN]),by simp only [List.length_append,List.length_cons,List.length_nil];omega⟩
   ·have hf:=hI.skip (.inr (by rw [hv];exact hv0))
    repeat' (first|(refine plc [1] (why_pure c s hc.toCfgOk hsz) ?_ ?_;push_cast [iO,tN,hs,e1,e2,hv,hv0];rintro r os ⟨rfl,rfl⟩;push_cast [iO,tN,hs,e1,e2,hv,hv0])|((first|refine pG ?_|refine pQ ?_|refine pU ?_);push_cast [iO,tN,hs,e1,e2,hv,hv0])|(refine pif (fun h=>?_) (fun h=>?_)<;>first|exact pN h|push_cast [iO,tN,hs,e1,e2,hv,hv0]))
    exact ⟨(seen,st'),hf,Weak.trans (weak_trim 3 st'.length rfl) (by (refine weak_fg ?_;push_cast [iO,tN]);exact e2),by simp⟩
  ·have hf:=hI.skip (.inl (inM_iff.1 hs))
   repeat' (first|((first|refine pG ?_|refine pQ ?_|refine pU ?_);push_cast [iO,tN,hs,e1,e2])|(refine pif (fun h=>?_) (fun h=>?_)<;>first|exact pN h|push_cast [iO,tN,hs,e1,e2]))
   exact ⟨(seen,st'),hf,Weak.trans (weak_trim 3 st'.length rfl) (by (refine weak_fg ?_;push_cast [iO,tN]);exact e2),by simp⟩
set_option maxRecDepth 20000
def PredW (P:Program) (g:FuncId) (ks:List Nat) (os:List Ob) (l:List ByteArray) (q:ByteArray → Bool):Prop:=bodyOk P g=true∧∀ x ∈ l,PCalls P g (.c (.v (.string x)) :: ks.map fun k=>.c (.ptr k 0)) os fun r os'=>r = .c (.v (.bool (q x)))∧os'=os
theorem indexFuncW_pure (l:List ByteArray) (hl:l.length≤1000000000) (g:FuncId) (ks:List Nat) (os:List Ob) (q:ByteArray → Bool) (hp:PredW Tryz.prog g ks os l q) :
  PCalls Tryz.prog 59 [.c (.sl 1 (l.map strD)),.c (.fn (.func g) [] ks)] os fun r os'=>∃ k,idxQ q l k∧r = .c (.v (.int .i64 k))∧os'=os:=by
 refine pcalls_of_all Tryz.func59 rfl (by simp [Tryz.ntmps59]) ?_
 rw [Tryz.ntmps59,Tryz.results59]
 push_cast [iO,tN]
 repeat' (first|((first|refine pG ?_|refine pQ ?_|refine pU ?_);push_cast [iO,tN])|(refine pif (fun h=>?_) (fun h=>?_)<;>first|exact pN h|push_cast [iO,tN]))
 refine pwp_loop2 (α:=Nat) (fun k=>k≤l.length∧∀ x ∈ l.take k,q x=false) (fun k=>⟨[(8,.c (.v (.int .i64 k))),(7,.c (.v (.int .i64 l.length))),(6,.c (.sl 1 (l.map strD))),(0,.c (.sl 1 (l.map strD))),(1,.c (.fn (.func g) [] ks))],os⟩) (fun k=>l.length - k) 0 ⟨by omega,by simp⟩ (weak_slots (by push_cast [iO,tN]) rfl) ?_
 rintro k ⟨hk,hpre⟩
 by_cases hlt:k < l.length
 ·have hm:l.getD k default ∈ l:=by rw [getD_lt l hlt];exact List.getElem_mem _
  have hc:=hp.2 _ hm
  have hpre2:q (l.getD k default)=false → ∀ x ∈ l.take (k+1),q x=false:=fun h x hx=>by
   rw [List.take_succ_eq_append_getElem hlt] at hx
   rcases List.mem_append.1 hx with hx|hx
   ·exact hpre x hx
   ·simp at hx;subst hx;rw [← getD_lt l hlt];exact h
  cases hq:q (l.getD k default)
  all_goals rw [hq] at hc
  all_goals repeat' (first |  (refine pl_call_all rfl (by push_cast [iO,tN]) rfl hp.1 (by push_cast [iO,tN]) ?_ hc ?_;(focus (unfold callArgs;push_cast [iO,tN];exact allSome_ptr ks));rintro r os ⟨rfl,rfl⟩;refine pl_of_pops ?_;push_cast [iO,tN])  | ((first|refine pG ?_|refine pQ ?_|refine pU ?_);push_cast [iO,tN])|(refine pif (fun h=>?_) (fun h=>?_)<;>first|exact pN h|push_cast [iO,tN]))
  ·exact ⟨k+1,⟨by omega,hpre2 hq⟩,weak_slots (by push_cast [iO,tN]) rfl,by omega⟩
  ·exact ⟨_,rfl,by push_cast [iO,tN],k,.inr ⟨k,rfl,hlt,hq,hpre⟩,rfl,rfl⟩
 ·rw [List.take_of_length_le (by omega)] at hpre
  repeat' (first|((first|refine pG ?_|refine pQ ?_|refine pU ?_);push_cast [iO,tN])|(refine pif (fun h=>?_) (fun h=>?_)<;>first|exact pN h|push_cast [iO,tN]))
  exact ⟨_,rfl,by push_cast [iO,tN],-1,.inl ⟨rfl,hpre⟩,rfl,rfl⟩
theorem containsFuncW_pure (l:List ByteArray) (hl:l.length≤1000000000) (g:FuncId) (ks:List Nat) (os:List Ob) (q:ByteArray → Bool) (hp:PredW Tryz.prog g ks os l q) :
  PCalls Tryz.prog 61 [.c (.sl 1 (l.map strD)),.c (.fn (.func g) [] ks)] os fun r os'=>r = .c (.v (.bool (l.any q)))∧os'=os:=by
 refine pcalls_of_all Tryz.func61 rfl (by simp [Tryz.ntmps61]) ?_
 rw [Tryz.ntmps61,Tryz.results61]
 push_cast [iO,tN]
 repeat' (first |  (refine pl_call_all rfl (by push_cast [iO,tN]) rfl (by kernel_rfl) (by push_cast [iO,tN]) ?_ (indexFuncW_pure l hl g ks os q hp) ?_;(focus (unfold callArgs;push_cast [iO,tN]));rintro r os ⟨k,hk,rfl,rfl⟩;refine pl_of_pops ?_;push_cast [iO,tN])  | ((first|refine pG ?_|refine pQ ?_|refine pU ?_);push_cast [iO,tN])|(refine pif (fun h=>?_) (fun h=>?_)<;>first|exact pN h|push_cast [iO,tN]))
 refine ⟨_,rfl,by push_cast [iO,tN],?_,rfl⟩
 rcases hk with ⟨rfl,h⟩|⟨i,rfl,hi,hq,_⟩
 ·have:l.any q=false:=by rw [List.any_eq_false];intro x hx;simp [h x hx]
  rw [this];rfl
 ·have:l.any q=true:=List.any_eq_true.2 ⟨l.getD i default,by rw [getD_lt l hi];exact List.getElem_mem _,hq⟩
  rw [this];simp
def mayV (M:List Mod) (T:List ByteArray) (s:ByteArray):Bool:=match modOf M s with
 | none=>false
 | some m=>!(m.needs.any fun x=>!inM x T)
def shouldV (M:List Mod) (T R:List ByteArray) (s:ByteArray):Bool:=mayV M T s && !(((modOf M s).getD noMod).pre.any fun x=>inM x R)
abbrev mayF:E:=.fn (.func 67) [] [2,4]
def orderOs (M:List Mod) (T R:List ByteArray):List Ob:=[.arr 9 1 (R.map strD),.map none true (modsE M),.box 109 [.mp 1],.map none false (setE T),.box 67 [.mp 3],.box 29 [.own 0 R.length],.box 107 [mayF]]
theorem order1_pure (a:Ob) (T:List ByteArray) (s:ByteArray) :
  PCalls Tryz.prog 66 [.c (.v (.string s)),.c (.ptr 2 0)] [a,.map none false (setE T),.box 67 [.mp 1]] fun r os=>r = .c (.v (.bool (inM s T)))∧os=[a,.map none false (setE T),.box 67 [.mp 1]]:=by
 refine pcalls_of_all Tryz.func66 rfl (by simp [Tryz.ntmps66]) ?_
 rw [Tryz.ntmps66,Tryz.results66]
 push_cast [iO,tN]
 repeat' (first|((first|refine pG ?_|refine pQ ?_|refine pU ?_);push_cast [iO,tN])|(refine pif (fun h=>?_) (fun h=>?_)<;>first|exact pN h|push_cast [iO,tN]))
 exact ⟨_,rfl,by push_cast [iO,tN],rfl,rfl⟩
theorem order21_pure (M:List Mod) (T R:List ByteArray) (s:ByteArray) :
  PCalls Tryz.prog 68 [.c (.v (.string s)),.c (.ptr 4 0)] (orderOs M T R) fun r os=>r = .c (.v (.bool (!inM s T)))∧os=orderOs M T R:=by
 unfold orderOs
 refine pcalls_of_all Tryz.func68 rfl (by simp [Tryz.ntmps68]) ?_
 rw [Tryz.ntmps68,Tryz.results68]
 push_cast [iO,tN]
 repeat' (first|((first|refine pG ?_|refine pQ ?_|refine pU ?_);push_cast [iO,tN])|(refine pif (fun h=>?_) (fun h=>?_)<;>first|exact pN h|push_cast [iO,tN]))
 exact ⟨_,rfl,by push_cast [iO,tN],rfl,rfl⟩
theorem order2_pure (M:List Mod) (T R:List ByteArray) (s:ByteArray) (hl:∀ n,(needsOf M n).length≤1000000000) :
  PCalls Tryz.prog 67 [.c (.v (.string s)),.c (.ptr 2 0),.c (.ptr 4 0)] (orderOs M T R) fun r os=>r = .c (.v (.bool (mayV M T s)))∧os=orderOs M T R:=by
 have hcf:∀ l:List ByteArray,l.length≤1000000000 → PCalls Tryz.prog 61 [.c (.sl 1 (l.map strD)),.c (.fn (.func 68) [] [4])] (orderOs M T R) fun r os'=>r = .c (.v (.bool (l.any fun x=>!inM x T)))∧os'=orderOs M T R:=fun l h=>containsFuncW_pure l h _ _ _ _ ⟨by kernel_rfl,fun x _=>order21_pure M T R x⟩
 have hlen:=hl s
 unfold needsOf at hlen
 unfold mayV
 unfold orderOs at hcf ⊢
 refine pcalls_of Tryz.func67 rfl (by simp [Tryz.ntmps67]) ?_
 rw [Tryz.ntmps67,Tryz.results67]
 cases hm:modOf M s with
 | none =>
  push_cast [iO,tN]
  repeat' (first|((first|refine pG ?_|refine pQ ?_|refine pU ?_);push_cast [iO,tN,mget_mods,hm])|(refine pif (fun h=>?_) (fun h=>?_)<;>first|exact pN h|push_cast [iO,tN,mget_mods,hm]))
  (refine retK_of [0,1,2,3,4,5,6] ?_;push_cast [iO,tN])
 | some m =>
  rw [hm] at hlen
  have hc:=hcf m.needs hlen
  push_cast [iO,tN]
  repeat' (first|(refine plc [0,1,2,3,4,5,6] (hc) ?_ ?_;push_cast [iO,tN,mget_mods,hm];rintro r os ⟨rfl,rfl⟩;push_cast [iO,tN,mget_mods,hm])|((first|refine pG ?_|refine pQ ?_|refine pU ?_);push_cast [iO,tN,mget_mods,hm])|(refine pif (fun h=>?_) (fun h=>?_)<;>first|exact pN h|push_cast [iO,tN,mget_mods,hm]))
  (refine retK_of [0,1,2,3,4,5,6] ?_;push_cast [iO,tN])
theorem order31_pure (M:List Mod) (T R:List ByteArray) (s:ByteArray) (hR:R.length≤1000000000) :
  PCalls Tryz.prog 70 [.c (.v (.string s)),.c (.ptr 5 0)] (orderOs M T R) fun r os=>r = .c (.v (.bool (inM s R)))∧os=orderOs M T R:=by
 unfold orderOs
 refine pcalls_of Tryz.func70 rfl (by simp [Tryz.ntmps70]) ?_
 rw [Tryz.ntmps70,Tryz.results70]
 push_cast [iO,tN]
 repeat' (first |  (refine pl_call2 true [] rfl rfl (by kernel_rfl) (containsD_pure R s hR) ?_ ?_ ?_;push_cast [iO,tN];(intro _ r os;rintro ⟨rfl,rfl⟩;push_cast [iO,tN]);rintro r os ⟨rfl,rfl⟩;refine pl_of_pops ?_;push_cast [iO,tN])  | ((first|refine pG ?_|refine pQ ?_|refine pU ?_);push_cast [iO,tN])|(refine pif (fun h=>?_) (fun h=>?_)<;>first|exact pN h|push_cast [iO,tN]))
 (refine retK_of [0,1,2,3,4,5,6] ?_;push_cast [iO,tN])
theorem order3_pure (M:List Mod) (T R:List ByteArray) (s:ByteArray) (hl:∀ n,(needsOf M n).length≤1000000000) (hl2:((modOf M s).getD noMod).pre.length≤1000000000) (hR:R.length≤1000000000) :
  PCalls Tryz.prog 69 [.c (.v (.string s)),.c (.ptr 6 0),.c (.ptr 2 0),.c (.ptr 5 0)] (orderOs M T R) fun r os=>r = .c (.v (.bool (shouldV M T R s)))∧os=orderOs M T R:=by
 have hcf:∀ l:List ByteArray,l.length≤1000000000 → PCalls Tryz.prog 61 [.c (.sl 1 (l.map strD)),.c (.fn (.func 70) [] [5])] (orderOs M T R) fun r os'=>r = .c (.v (.bool (l.any fun x=>inM x R)))∧os'=orderOs M T R:=fun l h=>containsFuncW_pure l h _ _ _ _ ⟨by kernel_rfl,fun x _=>order31_pure M T R x hR⟩
 have hmay:=order2_pure M T R s hl
 unfold shouldV
 cases hv:mayV M T s with
 | false =>
  rw [hv] at hmay
  unfold orderOs at hmay ⊢
  refine pcalls_of Tryz.func69 rfl (by simp [Tryz.ntmps69]) ?_
  rw [Tryz.ntmps69,Tryz.results69]
  push_cast [iO,tN]
  repeat' (first |  (refine plc [0,1,2,3,4,5,6] (hmay) ?_ ?_;push_cast [iO,tN];rintro r os ⟨rfl,rfl⟩;push_cast [iO,tN])  | ((first|refine pG ?_|refine pQ ?_|refine pU ?_);push_cast [iO,tN])|(refine pif (fun h=>?_) (fun h=>?_)<;>first|exact pN h|push_cast [iO,tN]))
  (refine retK_of [0,1,2,3,4,5,6] ?_;push_cast [iO,tN])
 | true =>
  rw [hv] at hmay
  have hm:∃ m,modOf M s=some m:=by
   unfold mayV at hv
   cases h:modOf M s with
   | none=>rw [h] at hv;cases hv
   | some m=>exact ⟨m,rfl⟩
  obtain ⟨m,hm⟩:=hm
  rw [hm] at hl2 ⊢
  have hc:=hcf m.pre hl2
  unfold orderOs at hmay hc ⊢
  refine pcalls_of Tryz.func69 rfl (by simp [Tryz.ntmps69]) ?_
  rw [Tryz.ntmps69,Tryz.results69]
  push_cast [iO,tN]
  repeat' (first|(refine plc [0,1,2,3,4,5,6] (hmay) ?_ ?_;push_cast [iO,tN,mget_mods,hm];rintro r os ⟨rfl,rfl⟩;push_cast [iO,tN,mget_mods,hm])|(refine plc [0,1,2,3,4,5,6] (hc) ?_ ?_;push_cast [iO,tN,mget_mods,hm];rintro r os ⟨rfl,rfl⟩;push_cast [iO,tN,mget_mods,hm])|((first|refine pG ?_|refine pQ ?_|refine pU ?_);push_cast [iO,tN,mget_mods,hm])|(refine pif (fun h=>?_) (fun h=>?_)<;>first|exact pN h|push_cast [iO,tN,mget_mods,hm]))
  (refine retK_of [0,1,2,3,4,5,6] ?_;push_cast [iO,tN])
  rfl
end Go.Proofs.YtmjffgienmcabaaGreatDoor
namespace Go.Proofs.YtmjffgienmcabaaGreatDoor
open Go.RowKit
open IntWalk renaming iteOmega → iO, toNatUp → tN
set_option linter.unusedVariables false
set_option linter.unusedSimpArgs false
theorem inM_congr {T T':List ByteArray} (h:∀ x,x ∈ T ↔ x ∈ T') (x:ByteArray):inM x T=inM x T':=by
 cases h':inM x T'
 ·rw [inM_false] at h' ⊢;rwa [h]
 ·rw [inM_iff] at h' ⊢;rwa [h]
theorem mayV_congr {M:List Mod} {T T':List ByteArray} (h:∀ x,x ∈ T ↔ x ∈ T') (s:ByteArray):mayV M T s=mayV M T' s:=by
 unfold mayV
 cases modOf M s with
 | none=>rfl
 | some m=>simp only [inM_congr h]
theorem shouldV_congr {M:List Mod} {T T' R:List ByteArray} (h:∀ x,x ∈ T ↔ x ∈ T') (s:ByteArray):shouldV M T R s=shouldV M T' R s:=by unfold shouldV;rw [mayV_congr h]
def chooseM (M:List Mod) (T R:List ByteArray):Option ByteArray:=match R.find? (shouldV M T R) with
 | some b=>some b
 | none=>R.find? (mayV M T)
def ordF (M:List Mod):Nat → List ByteArray → List ByteArray → List ByteArray
 | 0,_,_=>[]
 | n+1,T,R=>match chooseM M T R with
  | none=>[]
  | some b=>b :: ordF M n (T++[b]) (R.filter fun x=>decide (x≠b))
def ordM (M:List Mod) (T R:List ByteArray):List ByteArray:=ordF M R.length T R
theorem choose_mem {M:List Mod} {T R:List ByteArray} {b:ByteArray} (h:chooseM M T R=some b):b ∈ R:=by
 unfold chooseM at h
 split at h
 ·rename_i b' h1;cases h;exact List.mem_of_find?_eq_some h1
 ·exact List.mem_of_find?_eq_some h
theorem filter_len:∀ {R:List ByteArray} {b:ByteArray},R.Nodup → b ∈ R → (R.filter fun x=>decide (x≠b)).length+1=R.length
 | [],_,_,h=>by simp at h
 | a :: R,b,hn,h=>by
  obtain ⟨h1,h2⟩:=List.nodup_cons.1 hn
  by_cases e:a=b
  ·subst e
   rw [List.filter_cons_of_neg (by simp),List.filter_eq_self.2 fun x hx=>by simp;rintro rfl;exact h1 hx]
   rfl
  ·rw [List.filter_cons_of_pos (by simpa using e),List.length_cons,List.length_cons,filter_len h2 ((List.mem_cons.1 h).resolve_left fun e'=>e e'.symm)]
theorem del_eq {R:List ByteArray} {i:Nat} (hn:R.Nodup) (hi:i < R.length):R.take i++R.drop (i+1)=R.filter fun x=>decide (x≠R.getD i default):=by
 have h0:R=R.take i++R[i] :: R.drop (i+1):=by rw [← List.drop_eq_getElem_cons hi,List.take_append_drop]
 rw [getD_lt R hi]
 generalize hb:R[i]=b at *
 rw [h0,List.nodup_append] at hn
 obtain ⟨n1,n2,n3⟩:=hn
 obtain ⟨n4,n5⟩:=List.nodup_cons.1 n2
 conv=>rhs;rw [h0]
 rw [List.filter_append,List.filter_cons_of_neg (by simp),List.filter_eq_self.2 fun x hx=>by simp;rintro rfl;exact n3 _ hx _ (by simp) rfl,List.filter_eq_self.2 fun x hx=>by simp;rintro rfl;exact n4 hx]
theorem idx_none {q:ByteArray → Bool} {l:List ByteArray} (h:∀ x ∈ l,q x=false):l.find? q=none:=List.find?_eq_none.2 fun x hx=>by simp [h x hx]
theorem idx_some {q:ByteArray → Bool} {l:List ByteArray} {i:Nat} (hi:i < l.length) (h1:q (l.getD i default)=true) (h2:∀ x ∈ l.take i,q x=false):l.find? q=some (l.getD i default):=by
 rw [getD_lt l hi] at h1 ⊢
 rw [List.find?_eq_some_iff_append]
 refine ⟨h1,l.take i,l.drop (i+1),by rw [← List.drop_eq_getElem_cons hi,List.take_append_drop],fun x hx=>by simp [h2 x hx]⟩
structure OInv (M:List Mod) (ld R0 out T R:List ByteArray):Prop where
 asc:asc R
 there:∀ x,x ∈ T ↔ x ∈ ld++out
 eq:ordM M ld R0=out++ordF M R.length (ld++out) R
 len:R.length+out.length≤R0.length
theorem OInv.start {M:List Mod} {ld R0 T:List ByteArray} (h1:Go.Proofs.YtmjffgienmcabaaGreatDoor.asc R0) (h2:∀ x,x ∈ T ↔ x ∈ ld):OInv M ld R0 [] T R0:=⟨h1,by simpa using h2,by simp [ordM],by simp⟩
theorem OInv.step {M:List Mod} {ld R0 out T R:List ByteArray} {b:ByteArray} (h:OInv M ld R0 out T R) (hc:chooseM M (ld++out) R=some b):OInv M ld R0 (out++[b]) (addS T b) (R.filter fun x=>decide (x≠b)):=by
 have hb:=choose_mem hc
 have hl:=filter_len (asc_nodup h.asc) hb
 refine ⟨h.asc.sublist List.filter_sublist,fun x=>?_,?_,?_⟩
 ·rw [mem_addS,h.there];simp [or_assoc]
 ·rw [h.eq,← hl]
  simp only [ordF,hc,List.append_assoc,List.cons_append,List.nil_append]
 ·have:=h.len;simp only [List.length_append,List.length_cons,List.length_nil];omega
theorem OInv.stop {M:List Mod} {ld R0 out T R:List ByteArray} (h:OInv M ld R0 out T R) (hc:chooseM M (ld++out) R=none):ordM M ld R0=out:=by
 rw [h.eq]
 cases R.length with
 | zero=>simp [ordF]
 | succ n=>simp [ordF,hc]
theorem OInv.choose {M:List Mod} {ld R0 out T R:List ByteArray} (h:OInv M ld R0 out T R):chooseM M (ld++out) R=chooseM M T R:=by
 unfold chooseM
 rw [funext (shouldV_congr h.there),funext (mayV_congr h.there)]
def restM (ld names:List ByteArray):List ByteArray:=ascOf (names.filter fun x=>!inM x ld)
theorem restM_spec (ld names:List ByteArray):asc (restM ld names)∧(∀ x,x ∈ restM ld names ↔ x ∈ names∧x ∉ ld)∧(restM ld names).length≤names.length:=by
 obtain ⟨h1,h2,h3⟩:=ascOf_spec (names.filter fun x=>!inM x ld)
 refine ⟨h1,fun x=>?_,Nat.le_trans h3 (List.length_filter_le _ _)⟩
 rw [restM,h2,List.mem_filter]
 simp only [Bool.not_eq_true',inM_false]
theorem filter_congr_in {T T' names:List ByteArray} (h:∀ x,x ∈ T ↔ x ∈ T'):(names.filter fun x=>!inM x T)=names.filter fun x=>!inM x T':=by simp only [inM_congr h]
def cmpB (l:List ByteArray):List ByteArray:=(Lib.compact (l.map (·.data.toList))).map unB
theorem cmpB_len (l:List ByteArray):(cmpB l).length=(Lib.compact (l.map (·.data.toList))).length:=by rw [cmpB,List.length_map]
end Go.Proofs.YtmjffgienmcabaaGreatDoor
