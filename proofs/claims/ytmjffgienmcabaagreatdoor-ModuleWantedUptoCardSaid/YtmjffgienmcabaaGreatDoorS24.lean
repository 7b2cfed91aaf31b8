/- What the program computes, and the plain laws of it, part 24. -/
import Derived.Lib.OwnBridge
import Derived.Test.YtmjffgienmcabaaGreatDoorS23
namespace Go.Proofs.YtmjffgienmcabaaGreatDoor
attribute [local irreducible] PL QL PWPr PCalls Weak RetK Kontr PA
open Go.RowKit
open IntWalk renaming iteOmega → iO, toNatUp → tN
set_option linter.unusedVariables false
set_option linter.unusedSimpArgs false
set_option maxRecDepth 20000
theorem tw_len {α:Type} (p:α → Bool):∀ (l:List α) (k:Nat),k≤l.length → (∀ x ∈ l.take k,p x=true) → (∀ h:k < l.length,p l[k]=false) → (l.takeWhile p).length=k
 | [],k,hk,_,_=>by simp at hk;simp [hk]
 | x :: l,0,_,_,h=>by have:=h (by simp);simp at this;simp [this]
 | x :: l,k+1,hk,h1,h2=>by
  have hx:p x=true:=h1 x (by simp)
  rw [List.takeWhile_cons,hx]
  simp only [if_true,List.length_cons]
  rw [tw_len p l k (by simpa using hk) (fun y hy=>h1 y (by simp [hy])) (fun h=>by have:=h2 (by simpa using h);simpa using this)]
theorem put_pure (l:List ByteArray) (s:ByteArray) (hl:l.length≤1000000000) :
  PCalls Tryz.prog 23 [.c (.sl 1 (l.map strD)),.c (.v (.string s))] [] fun r os=>r = .c (.sl 1 ((putM l s).map strD))∧os=[]:=by
 refine pcalls_of Tryz.func23 rfl (by simp [Tryz.ntmps23]) ?_
 rw [Tryz.ntmps23,Tryz.results23]
 push_cast [iO,tN]
 repeat' (first|((first|refine pG ?_|refine pQ ?_|refine pU ?_);push_cast [iO,tN])|(refine pif (fun h=>?_) (fun h=>?_)<;>first|exact pN h|push_cast [iO,tN]))
 refine pwp_loop2 (α:=Nat) (fun k=>k≤l.length∧∀ x ∈ l.take k,bless x s=true) (fun k=>⟨[(5,.c (.v (.int .i64 k))),(4,.c (.v (.slice none 0 0))),(0,.c (.sl 1 (l.map strD))),(1,.c (.v (.string s)))],[]⟩) (fun k=>l.length - k) 0 ⟨by omega,by simp⟩ (by (refine weak_fg ?_;push_cast [iO,tN])) ?_
 rintro k ⟨hk,hpre⟩
 by_cases hlt:k < l.length
 ·have e1:=getD_lt l hlt
  cases hb:bless (l.getD k default) s
  ·have hi:(l.takeWhile fun x=>bless x s).length=k:=tw_len _ l k hk hpre (fun h=>by rw [← e1];exact hb)
   by_cases he:l.getD k default=s
   ·repeat' (first|((first|refine pG ?_|refine pQ ?_|refine pU ?_);push_cast [iO,tN])|(refine pif (fun h=>?_) (fun h=>?_)<;>first|exact pN h|push_cast [iO,tN]))
    (refine retK_of [] ?_;push_cast [iO,tN])
    have:putM l s=l:=by simp only [putM,hi];rw [if_pos ⟨he,hlt⟩]
    simp [this]
   ·have hp:putM l s=l.take k++s :: l.drop k:=by simp only [putM,hi];rw [if_neg (fun h=>he h.1)]
    repeat' (first |  ((refine pwp_drawn (by kernel_rfl) ?_;simp only [List.length_cons,List.length_nil,Nat.reduceAdd];repeat' first|((first|refine pah 0 ?_|refine pah 1 ?_|refine pah 2 ?_|refine pah 3 ?_|refine pah 4 ?_|refine pah 5 ?_|refine pah 6 ?_|refine pah 7 ?_|refine pah 8 ?_|refine pah 9 ?_|refine pah 10 ?_|refine pah 11 ?_);push_cast [iO,tN])|(refine pad ?_;try push_cast [iO,tN])|((first|refine pas [0] ?_|refine pas [1] ?_|refine pas [2] ?_|refine pas [3] ?_|refine pas [4] ?_|refine pas [5] ?_|refine pas [6] ?_|refine pas [7] ?_|refine pas [8] ?_|refine pas [9] ?_|refine pas [10] ?_|refine pas [11] ?_);push_cast [iO,tN])|((first|refine pas [0,1] ?_|refine pas [0,2] ?_|refine pas [0,3] ?_|refine pas [0,4] ?_|refine pas [0,5] ?_|refine pas [0,6] ?_|refine pas [0,7] ?_|refine pas [0,8] ?_|refine pas [0,9] ?_|refine pas [0,10] ?_|refine pas [0,11] ?_|refine pas [1,2] ?_|refine pas [1,3] ?_|refine pas [1,4] ?_|refine pas [1,5] ?_|refine pas [1,6] ?_|refine pas [1,7] ?_|refine pas [1,8] ?_|refine pas [1,9] ?_|refine pas [1,10] ?_|refine pas [1,11] ?_|refine pas [2,3] ?_|refine pas [2,4] ?_|refine pas [2,5] ?_|refine pas [2,6] ?_|refine pas [2,7] ?_|refine pas [2,8] ?_|refine pas [2,9] ?_|refine pas [2,10] ?_|refine pas [2,11] ?_|refine pas [3,4] ?_|refine pas [3,5] ?_|refine pas [3,6] ?_|refine pas [3,7] ?_|refine pas [3,8] ?_|refine pas [3,9] ?_|refine pas [3,10] ?_|refine pas [3,11] ?_|refine pas [4,5] ?_|refine pas [4,6] ?_|refine pas [4,7] ?_|refine pas [4,8] ?_|refine pas [4,9] ?_|refine pas [4,10] ?_|refine pas [4,11] ?_|refine pas [5,6] ?_|refine pas [5,7] ?_|refine pas [5,8] ?_|refine pas [5,9] ?_|refine pas [5,10] ?_|refine pas [5,11] ?_|refine pas [6,7] ?_|refine pas [6,8] ?_|refine pas [6,9] ?_|refine pas [6,10] ?_|refine pas [6,11] ?_|refine pas [7,8] ?_|refine pas [7,9] ?_|refine pas [7,10] ?_|refine pas [7,11] ?_|refine pas [8,9] ?_|refine pas [8,10] ?_|refine pas [8,11] ?_|refine pas [9,10] ?_|refine pas [9,11] ?_|refine pas [10,11] ?_);push_cast [iO,tN];refine ⟨?_,?_⟩)))  | ((first|refine pG ?_|refine pQ ?_|refine pU ?_);push_cast [iO,tN])|(refine pif (fun h=>?_) (fun h=>?_)<;>first|exact pN h|push_cast [iO,tN]))
    all_goals (refine retK_of [] ?_;push_cast [iO,tN])
    all_goals rw [hp]
    all_goals simp [strD]
    all_goals (refine List.take_of_length_le ?_;simp;omega)
  ·repeat' (first|((first|refine pG ?_|refine pQ ?_|refine pU ?_);push_cast [iO,tN])|(refine pif (fun h=>?_) (fun h=>?_)<;>first|exact pN h|push_cast [iO,tN]))
   refine ⟨k+1,⟨by omega,?_⟩,by (refine weak_fg ?_;push_cast [iO,tN]),by omega⟩
   rw [List.take_succ_eq_append_getElem hlt]
   intro x hx
   rcases List.mem_append.1 hx with hx|hx
   ·exact hpre x hx
   ·simp only [List.mem_singleton] at hx
    rw [hx,← e1]
    exact hb
 ·have hi:(l.takeWhile fun x=>bless x s).length=k:=tw_len _ l k hk hpre (fun h=>absurd h hlt)
  have hp:putM l s=l.take k++s :: l.drop k:=by simp only [putM,hi];rw [if_neg (fun h=>hlt h.2)]
  repeat' (first |  ((refine pwp_drawn (by kernel_rfl) ?_;simp only [List.length_cons,List.length_nil,Nat.reduceAdd];repeat' first|((first|refine pah 0 ?_|refine pah 1 ?_|refine pah 2 ?_|refine pah 3 ?_|refine pah 4 ?_|refine pah 5 ?_|refine pah 6 ?_|refine pah 7 ?_|refine pah 8 ?_|refine pah 9 ?_|refine pah 10 ?_|refine pah 11 ?_);push_cast [iO,tN])|(refine pad ?_;try push_cast [iO,tN])|((first|refine pas [0] ?_|refine pas [1] ?_|refine pas [2] ?_|refine pas [3] ?_|refine pas [4] ?_|refine pas [5] ?_|refine pas [6] ?_|refine pas [7] ?_|refine pas [8] ?_|refine pas [9] ?_|refine pas [10] ?_|refine pas [11] ?_);push_cast [iO,tN])|((first|refine pas [0,1] ?_|refine pas [0,2] ?_|refine pas [0,3] ?_|refine pas [0,4] ?_|refine pas [0,5] ?_|refine pas [0,6] ?_|refine pas [0,7] ?_|refine pas [0,8] ?_|refine pas [0,9] ?_|refine pas [0,10] ?_|refine pas [0,11] ?_|refine pas [1,2] ?_|refine pas [1,3] ?_|refine pas [1,4] ?_|refine pas [1,5] ?_|refine pas [1,6] ?_|refine pas [1,7] ?_|refine pas [1,8] ?_|refine pas [1,9] ?_|refine pas [1,10] ?_|refine pas [1,11] ?_|refine pas [2,3] ?_|refine pas [2,4] ?_|refine pas [2,5] ?_|refine pas [2,6] ?_|refine pas [2,7] ?_|refine pas [2,8] ?_|refine pas [2,9] ?_|refine pas [2,10] ?_|refine pas [2,11] ?_|refine pas [3,4] ?_|refine pas [3,5] ?_|refine pas [3,6] ?_|refine pas [3,7] ?_|refine pas [3,8] ?_|refine pas [3,9] ?_|refine pas [3,10] ?_|refine pas [3,11] ?_|refine pas [4,5] ?_|refine pas [4,6] ?_|refine pas [4,7] ?_|refine pas [4,8] ?_|refine pas [4,9] ?_|refine pas [4,10] ?_|refine pas [4,11] ?_|refine pas [5,6] ?_|refine pas [5,7] ?_|refine pas [5,8] ?_|refine pas [5,9] ?_|refine pas [5,10] ?_|refine pas [5,11] ?_|refine pas [6,7] ?_|refine pas [6,8] ?_|refine pas [6,9] ?_|refine pas [6,10] ?_|refine pas [6,11] ?_|refine pas [7,8] ?_|refine pas [7,9] ?_|refine pas [7,10] ?_|refine pas [7,11] ?_|refine pas [8,9] ?_|refine pas [8,10] ?_|refine pas [8,11] ?_|refine pas [9,10] ?_|refine pas [9,11] ?_|refine pas [10,11] ?_);push_cast [iO,tN];refine ⟨?_,?_⟩)))  | ((first|refine pG ?_|refine pQ ?_|refine pU ?_);push_cast [iO,tN])|(refine pif (fun h=>?_) (fun h=>?_)<;>first|exact pN h|push_cast [iO,tN]))
  all_goals (refine retK_of [] ?_;push_cast [iO,tN])
  all_goals rw [hp]
  all_goals simp [strD]
  all_goals (refine List.take_of_length_le ?_;simp;omega)
set_option maxRecDepth 20000
def putAll (l xs:List ByteArray):List ByteArray:=xs.foldl putM l
theorem putAll_snoc (l xs:List ByteArray) (y:ByteArray):putAll l (xs++[y])=putM (putAll l xs) y:=by simp [putAll]
theorem putAll_spec:∀ (xs l:List ByteArray),asc l → asc (putAll l xs)∧(∀ x,x ∈ putAll l xs ↔ x ∈ l∨x ∈ xs)∧l.length≤(putAll l xs).length∧((putAll l xs).length=l.length → putAll l xs=l)∧(putAll l xs).length≤l.length+xs.length
 | [],l,h=>⟨h,by simp [putAll],Nat.le_refl _,fun _=>rfl,by simp [putAll]⟩
 | y :: xs,l,h=>by
  obtain ⟨h1,h2,h3,h4,h5⟩:=putAll_spec xs (putM l y) (put_asc h)
  have hl:=put_len (s:=y) h
  have e:putAll l (y :: xs)=putAll (putM l y) xs:=rfl
  rw [e]
  refine ⟨h1,fun x=>?_,?_,fun he=>?_,?_⟩
  ·rw [h2,putA_mem h,List.mem_cons]
   constructor
   ·rintro ((h|h)|h)
    ·exact .inl h
    ·exact .inr (.inl h)
    ·exact .inr (.inr h)
   ·rintro (h|h|h)
    ·exact .inl (.inl h)
    ·exact .inl (.inr h)
    ·exact .inr h
  ·split at hl<;>omega
  ·split at hl
   ·rename_i hm
    rw [h4 (by omega),put_old h (inM_iff.1 hm)]
   ·omega
  ·simp only [List.length_cons]
   split at hl<;>omega
theorem putAll_step {l xs:List ByteArray} {k:Nat} (hk:k < xs.length):putM (putAll l (xs.take k)) (xs.getD k default)=putAll l (xs.take (k+1)):=by
 rw [List.take_succ_eq_append_getElem hk,putAll_snoc,getD_lt xs hk]
structure QInv (M:List Mod) (n:ByteArray) (out:List ByteArray):Prop where
 asc:Go.Proofs.YtmjffgienmcabaaGreatDoor.asc out
 reach:∀ x ∈ out,Reach M n x
 start:∀ x ∈ needsOf M n,x ∈ out
theorem QInv.len {M:List Mod} {n:ByteArray} {out:List ByteArray} (h:QInv M n out):out.length≤(allNeeds M).length:=nodup_len _ _ (asc_nodup h.asc) fun x hx=>reach_all (h.reach x hx)
structure QPass (M:List Mod) (n:ByteArray) (n0:Nat) (out:List ByteArray) (i:Nat):Prop where
 inv:QInv M n out
 le:n0≤out.length
 old:out.length=n0 → ∀ j,j < i → j < out.length → ∀ x ∈ needsOf M (out.getD j default),x ∈ out
theorem QPass.step {M:List Mod} {n:ByteArray} {n0 i:Nat} {out:List ByteArray} (h:QPass M n n0 out i) (hi:i < out.length):QPass M n n0 (putAll out (needsOf M (out.getD i default))) (i+1):=by
 obtain ⟨h1,h2,h3,h4,_⟩:=putAll_spec (needsOf M (out.getD i default)) out h.inv.asc
 have hm:out.getD i default ∈ out:=by rw [getD_lt out hi];exact List.getElem_mem _
 refine ⟨⟨h1,fun x hx=>?_,fun x hx=>(h2 x).2 (.inl (h.inv.start x hx))⟩,by have:=h.le;omega,fun he j hj hjl x hx=>?_⟩
 ·rcases (h2 x).1 hx with hx|hx
  ·exact h.inv.reach x hx
  ·exact .more (h.inv.reach _ hm) hx
 ·have hle:=h.le
  have he2:=h4 (by omega)
  rw [he2] at hx hjl ⊢
  rcases Nat.lt_or_ge j i with hji|hji
  ·exact h.old (by omega) j hji hjl x hx
  ·have:j=i:=by omega
   subst this
   rw [← he2]
   exact (h2 x).2 (.inr hx)
theorem QPass.done {M:List Mod} {n:ByteArray} {out:List ByteArray} {i:Nat} (h:QPass M n out.length out i) (hi:¬ i < out.length):reachL M n=out:=by
 refine listOf_eq h.inv.asc fun x=>⟨h.inv.reach x,fun hx=>?_⟩
 induction hx with
 | one hx=>exact h.inv.start _ hx
 | more _ hx ih =>
  obtain ⟨j,hj,e⟩:=List.mem_iff_getElem.1 ih
  refine h.old rfl j (by omega) hj _ ?_
  rw [getD_lt out hj,e]
  exact hx
set_option maxHeartbeats 2000000 in
theorem rReached_pure (c:Cfg) (n:ByteArray) (hS:Small c.modules) :
  PCalls Tryz.prog 117 [.agg c.e,.c (.v (.string n))] [] fun r os=>r = .c (.sl 1 ((reachL c.modules n).map strD))∧os=[]:=by
 have hl:=hS.len
 have hall:=hS.all
 have hlen:=hS.needsOf n
 refine pcalls_of Tryz.func117 rfl (by simp [Tryz.ntmps117]) ?_
 rw [Tryz.ntmps117,Tryz.results117]
 push_cast [iO,tN]
 obtain ⟨m,hm⟩:∃ m,(modOf c.modules n).getD noMod=m:=⟨_,rfl⟩
 have hn:needsOf c.modules n=m.needs:=by rw [← hm];rfl
 rw [hn] at hlen
 repeat' (first|(refine plc [] (module_pure c.modules n (by omega)) ?_ ?_;push_cast [iO,tN,hm];rintro r os ⟨rfl,rfl⟩;push_cast [iO,tN,hm])|((first|refine pG ?_|refine pQ ?_|refine pU ?_);push_cast [iO,tN,hm])|(refine pif (fun h=>?_) (fun h=>?_)<;>first|exact pN h|push_cast [iO,tN,hm]))
 refine pwp_loop2 (α:=Nat) (fun k=>k≤m.needs.length) (fun k=>⟨[(8,.c (.v (.int .i64 k))),(7,.c (.sl 1 ((putAll [] (m.needs.take k)).map strD))),(5,.c (.ptr 1 0)),(2,.c (.ptr 0 0))],[.box 32 c.e,.box 46 m.e]⟩) (fun k=>m.needs.length - k) 0 (by omega) (by (refine weak_fg ?_;push_cast [iO,tN]);try rfl) ?_
 intro k hk
 by_cases hlt:k < m.needs.length
 ·have hp:=putAll_step (l:=[]) hlt
  have hpl:=(putAll_spec (m.needs.take k) [] asc_nil).2.2.2.2
  simp only [List.length_nil,List.length_take] at hpl
  repeat' (first|(refine plc [] (put_pure (putAll [] (m.needs.take k)) (m.needs.getD k default) (by omega)) ?_ ?_;push_cast [iO,tN,hm];rintro r os ⟨rfl,rfl⟩;push_cast [iO,tN,hm])|((first|refine pG ?_|refine pQ ?_|refine pU ?_);push_cast [iO,tN,hm])|(refine pif (fun h=>?_) (fun h=>?_)<;>first|exact pN h|push_cast [iO,tN,hm]))
  exact ⟨k+1,by omega,by (refine weak_fg ?_;push_cast [iO,tN,hp]),by omega⟩
 ·rw [List.take_of_length_le (by omega)]
  obtain ⟨p1,p2,p3,p4,p5⟩:=putAll_spec m.needs [] asc_nil
  have hI0:QInv c.modules n (putAll [] m.needs):=⟨p1,fun x hx=>.one (by rw [hn];simpa using (p2 x).1 hx),fun x hx=>(p2 x).2 (.inr (by rwa [hn] at hx))⟩
  repeat' (first|((first|refine pG ?_|refine pQ ?_|refine pU ?_);push_cast [iO,tN])|(refine pif (fun h=>?_) (fun h=>?_)<;>first|exact pN h|push_cast [iO,tN]))
  refine pwp_loop2 (α:=List ByteArray) (fun out=>QInv c.modules n out) (fun out=>⟨[(7,.c (.sl 1 (out.map strD))),(2,.c (.ptr 0 0))],[.box 32 c.e]⟩) (fun out=>10001 - out.length) (putAll [] m.needs) hI0 (by (refine weak_fg ?_;push_cast [iO,tN])) ?_
  intro out hI
  have hol:=hI.len
  repeat' (first|((first|refine pG ?_|refine pQ ?_|refine pU ?_);push_cast [iO,tN])|(refine pif (fun h=>?_) (fun h=>?_)<;>first|exact pN h|push_cast [iO,tN]))
  refine pwp_loop2 (α:=Nat × List ByteArray) (fun x=>QPass c.modules n out.length x.2 x.1) (fun x=>⟨[(10,.c (.v (.int .i64 x.1))),(9,.c (.v (.int .i64 out.length))),(7,.c (.sl 1 (x.2.map strD))),(2,.c (.ptr 0 0))],[.box 32 c.e]⟩) (fun x=>10001 - x.1) (0,out) ⟨hI,Nat.le_refl _,fun _ j hj=>absurd hj (by omega)⟩ (by (refine weak_fg ?_;push_cast [iO,tN])) ?_
  rintro ⟨i,o⟩ hP
  simp only at hP
  have hpl:=hP.inv.len
  by_cases hi:i < o.length
  ·obtain ⟨m2,hm2⟩:∃ m2,(modOf c.modules (o.getD i default)).getD noMod=m2:=⟨_,rfl⟩
   have hn2:needsOf c.modules (o.getD i default)=m2.needs:=by rw [← hm2];rfl
   have hs:=hP.step hi
   have hlen2:=hS.needsOf (o.getD i default)
   rw [hn2] at hs hlen2
   repeat' (first|((refine pwp_drawn_to ⟨[(11,.c (.ptr 1 0)),(10,.c (.v (.int .i64 i))),(9,.c (.v (.int .i64 out.length))),(7,.c (.sl 1 (o.map strD))),(2,.c (.ptr 0 0))],[.box 32 c.e,.box 46 m2.e]⟩ (by kernel_rfl) ?_ ?_;(focus (simp only [List.length_cons,List.length_nil,Nat.reduceAdd];(repeat' first|(refine plc [] (module_pure c.modules (o.getD i default) (by omega)) ?_ ?_;push_cast [iO,tN,  hm2 ];rintro r os ⟨rfl,rfl⟩;push_cast [iO,tN,  hm2 ])|((first|refine pah 0 ?_|refine pah 2 ?_|refine pah 3 ?_|refine pah 4 ?_|refine pah 7 ?_|refine pah 8 ?_|refine pah 9 ?_|refine pah 12 ?_);push_cast [iO,tN,  hm2 ])|(refine pad ?_;refine weak_fg ?_;push_cast [iO,tN,  hm2 ])|((first|refine pas [1] ?_|refine pas [5] ?_|refine pas [6] ?_|refine pas [10] ?_|refine pas [11] ?_);push_cast [iO,tN,  hm2 ])|((first|refine pas [1,5] ?_|refine pas [1,6] ?_|refine pas [1,10] ?_|refine pas [1,11] ?_|refine pas [5,6] ?_|refine pas [5,10] ?_|refine pas [5,11] ?_|refine pas [6,10] ?_|refine pas [6,11] ?_|refine pas [10,11] ?_);push_cast [iO,tN,  hm2 ];refine ⟨?_,?_⟩)|((first|refine pas [1,5,6] ?_|refine pas [1,5,10] ?_|refine pas [1,5,11] ?_|refine pas [1,6,10] ?_|refine pas [1,6,11] ?_|refine pas [1,10,11] ?_|refine pas [5,6,10] ?_|refine pas [5,6,11] ?_|refine pas [5,10,11] ?_|refine pas [6,10,11] ?_);push_cast [iO,tN,  hm2 ];refine ⟨?_,?_,?_⟩));done));push_cast [iO,tN,  hm2 ]))|((first|refine pG ?_|refine pQ ?_|refine pU ?_);push_cast [iO,tN,hm2])|(refine pif (fun h=>?_) (fun h=>?_)<;>first|exact pN h|push_cast [iO,tN,hm2]))
   refine pwp_loop2 (α:=Nat) (fun k=>k≤m2.needs.length) (fun k=>⟨[(13,.c (.v (.int .i64 k))),(11,.c (.ptr 1 0)),(10,.c (.v (.int .i64 i))),(9,.c (.v (.int .i64 out.length))),(7,.c (.sl 1 ((putAll o (m2.needs.take k)).map strD))),(2,.c (.ptr 0 0))],[.box 32 c.e,.box 46 m2.e]⟩) (fun k=>m2.needs.length - k) 0 (by omega) (by (refine weak_fg ?_;push_cast [iO,tN]);try rfl) ?_
   intro k2 hk2
   by_cases hlt2:k2 < m2.needs.length
   ·have hp:=putAll_step (l:=o) hlt2
    have hpl2:=(putAll_spec (m2.needs.take k2) o hP.inv.asc).2.2.2.2
    simp only [List.length_take] at hpl2
    repeat' (first |  (refine plc [] (put_pure (putAll o (m2.needs.take k2)) (m2.needs.getD k2 default) (by omega)) ?_ ?_;push_cast [iO,tN];rintro r os ⟨rfl,rfl⟩;push_cast [iO,tN])  | ((first|refine pG ?_|refine pQ ?_|refine pU ?_);push_cast [iO,tN])|(refine pif (fun h=>?_) (fun h=>?_)<;>first|exact pN h|push_cast [iO,tN]))
    exact ⟨k2+1,by omega,by (refine weak_fg ?_;push_cast [iO,tN,hp]),by omega⟩
   ·rw [List.take_of_length_le (by omega)]
    repeat' (first|((first|refine pG ?_|refine pQ ?_|refine pU ?_);push_cast [iO,tN])|(refine pif (fun h=>?_) (fun h=>?_)<;>first|exact pN h|push_cast [iO,tN]))
    exact ⟨(i+1,putAll o m2.needs),hs,by (refine weak_fg ?_;push_cast [iO,tN]),by simp only;omega⟩
  ·by_cases hq:o.length=out.length
   ·repeat' (first|((first|refine pG ?_|refine pQ ?_|refine pU ?_);push_cast [iO,tN])|(refine pif (fun h=>?_) (fun h=>?_)<;>first|exact pN h|push_cast [iO,tN]))
    (refine retK_of [] ?_;push_cast [iO,tN])
    rw [← hq] at hP
    rw [hP.done hi]
   ·repeat' (first|((first|refine pG ?_|refine pQ ?_|refine pU ?_);push_cast [iO,tN])|(refine pif (fun h=>?_) (fun h=>?_)<;>first|exact pN h|push_cast [iO,tN]))
    exact ⟨o,hP.inv,by (refine weak_fg ?_;push_cast [iO,tN]),by have:=hP.le;omega⟩
theorem texts_rd {w:World} {I:Nat → Prop}:∀ (l:List ByteArray) (vs:List Value),All2 (RD w I) (l.map strD).flatten vs → vs=l.map Value.string
 | [],vs,h=>by simpa [All2.nil_l] using h
 | a :: l,vs,h=>by
  simp only [List.map_cons,List.flatten_cons,strD,List.cons_append,List.nil_append] at h
  obtain ⟨y,vs',rfl,h5,h6⟩:=All2.cons_l.1 h
  rw [RD] at h5
  rw [h5.1,texts_rd l vs' h6];rfl
theorem rd_texts {w:World} {I:Nat → Prop}:∀ (l:List ByteArray),All2 (RD w I) (l.map strD).flatten (l.map Value.string)
 | []=>trivial
 | a :: l=>⟨by rw [RD];exact ⟨rfl,rfl⟩,rd_texts l⟩
open Go.Sort Go.Lib in
theorem put_texts {Γ:G} {w:World} {l:List ByteArray} {rest:List Ob} (hm:MemOk Γ (.arr 9 1 (l.map strD) :: rest) w) (hc:0 < Γ.cap 0) (hl:0 < l.length) :
  Γ.β 0 < w.heap.size∧Holds encStr w (Γ.β 0) 0 (l.map (·.data.toList)).toArray∧l.length≤Γ.cap 0∧∀ (q:Nat) (gr:Array Obj) (ys:List (List UInt8)),ys.length=l.length →
   MemOk Γ (.arr 9 1 ((ys.map unB).map strD) :: rest) (grow (putRow encStr (Sort.ahead w q) (Γ.β 0) 0 ys.toArray) gr)∧Grow (rest.length+1) Γ w Γ (grow (putRow encStr (Sort.ahead w q) (Γ.β 0) 0 ys.toArray) gr):=by
 have hk:0 < Γ.n:=by rw [hm.n];simp
 obtain ⟨h1,h2,h3,h4⟩:=hm.ob 0 _ rfl
 obtain ⟨cur,hb,hs,hle,hmx,hrd⟩:=h4 hc
 have hcur:cur.toList.take (l.length * 1)=(l.map (·.data.toList)).map Go.Proofs.encStr:=by
  rw [map_encStr]
  have:=texts_rd _ _ hrd
  simpa using this
 have hle':l.length≤Γ.cap 0:=by simpa using hle
 have hown:w.ownsRow 0 9 1 (.slice (some ⟨Γ.β 0,0,none⟩) l.length (Γ.cap 0)) l.length ((l.map (·.data.toList)).map encStr) :=
  ⟨by simp,.inr ⟨Γ.β 0,Γ.cap 0,cur,rfl,Nat.zero_le _,hb,hle',hmx,hs,hcur⟩⟩
 obtain ⟨g,cap,e,_,i2,_,_,_,i6⟩:=holds_of_ownsRow hown (by simp)
 injection e with e1 e2 e3
 injection e1 with e1
 injection e1 with e1
 subst e1
 refine ⟨i2,i6,hle',fun q gr ys hy=>?_⟩
 have ho:=ownsRow_putRow (q:=q) (k:=l.length) hown hy (Nat.le_refl _)
 rw [List.take_of_length_le (by omega)] at ho
 have hsz:(putRow encStr (Sort.ahead w q) (Γ.β 0) 0 ys.toArray).heap.size=w.heap.size:=by simp [Sort.ahead]
 have hog:(grow (putRow encStr (Sort.ahead w q) (Γ.β 0) 0 ys.toArray) gr).ownsRow 0 9 1 (.slice (some ⟨Γ.β 0,0,none⟩) l.length (Γ.cap 0)) l.length (ys.map encStr):=by
  refine ⟨ho.1,?_⟩
  rcases ho.2 with ⟨e,_⟩|⟨g',cap',cur',e,k1,k2,k3,k4,k5,k6⟩
  ·cases e
  ·refine .inr ⟨g',cap',cur',e,k1,?_,k3,k4,k5,k6⟩
   injection e with e1
   injection e1 with e1
   injection e1 with e1
   subst e1
   simp only [grow]
   rw [Array.getElem?_append_left (by rw [hsz];exact i2)]
   exact k2
 obtain ⟨b,c,e,_,_,_,_,_,hro⟩:=arr_of_own (k:=0) (Γ:=Γ) (rows:=(ys.map unB).map strD) hog hl (by omega) (fun r hr=>by obtain ⟨z,_,rfl⟩:=List.mem_map.1 hr;rfl) (by simp [hy])
 injection e with e1 e2 e3
 injection e1 with e1
 injection e1 with e1
 subst e1 e3
 have hE:Ext (· = Γ.β 0) w (grow (putRow encStr (Sort.ahead w q) (Γ.β 0) 0 ys.toArray) gr):=by
  refine ⟨rfl,rfl,rfl,by simp [grow,hsz],fun k hk' hne=>?_⟩
  simp only [grow]
  rw [Array.getElem?_append_left (by rw [hsz];exact hk')]
  simp only [putRow,mapBlock,Sort.ahead,Array.getElem?_modify]
  rw [if_neg (fun h=>hne h.symm)]
 have hro':=hro Γ rfl rfl (by
  have:ys.map encStr=(ys.map unB).map Value.string:=by rw [List.map_map];exact List.map_congr_left fun x _=>by simp [encStr,unB]
  rw [this]
  exact rd_texts _)
 exact ⟨(hm.set_ hk hc hE _ hro').1,grow_set hk hc hE⟩
open Go.Sort Go.Lib in
theorem sort_pure (l:List ByteArray) (rest:List Ob) (hl:l.length≤1000000) :
  PCalls Tryz.prog 49 [.c (.own 0 l.length)] (.arr 9 1 (l.map strD) :: rest) fun r os=>r = .undef∧os = .arr 9 1 (((l.map (·.data.toList)).mergeSort fun x y=>decide (x≤y)).map unB |>.map strD) :: rest:=by
 unfold PCalls
 intro Γ w xs hm hx
 obtain ⟨y,m',rfl,h1,h2⟩:=All2.cons_l.1 hx
 rw [All2.nil_l] at h2
 subst h2
 rcases Nat.eq_zero_or_pos l.length with h0|h0
 ·have:l=[]:=List.eq_nil_of_length_eq_zero h0
  subst this
  have hy:∃ A c,y = .slice A 0 c:=by
   rcases h1.2 with ⟨_,⟨A,e⟩,_⟩|⟨_,e,_⟩
   ·exact ⟨A,0,e⟩
   ·exact ⟨_,_,e⟩
  obtain ⟨A,c,rfl⟩:=hy
  refine (AnyM.slices_Sort_string_none laysSlM6_f49 A c w).mono ?_
  rintro e w' ⟨rfl,rfl⟩
  exact ⟨_,_,Γ,_,rfl,⟨rfl,rfl⟩,rfl,by simp,by simpa using hm,Grow.refl _ _ _⟩
 ·rcases h1.2 with ⟨_,_,h3⟩|⟨hc,rfl,hle⟩
  ·omega
  ·obtain ⟨i1,i2,i3,i4⟩:=put_texts hm hc h0
   have:=AnyM.slices_Sort_string laysSlM6_f49 (Γ.β 0) 0 (Γ.cap 0) (l.map (·.data.toList)) w i2 i1 (by simp;omega)
   rw [List.length_map] at this
   refine this.mono ?_
   rintro e w' ⟨rfl,n,gr,rfl⟩
   obtain ⟨j1,j2⟩:=i4 n gr ((l.map (·.data.toList)).mergeSort fun x y=>decide (x≤y)) (by rw [(List.mergeSort_perm _ _).length_eq,List.length_map])
   exact ⟨_,_,Γ,_,rfl,⟨rfl,rfl⟩,rfl,by simp,j1,j2⟩
open Go.Sort Go.Lib in
theorem compact_pure (l:List ByteArray) (rest:List Ob) (hl:l.length≤1000000) :
  PCalls Tryz.prog 50 [.c (.own 0 l.length)] (.arr 9 1 (l.map strD) :: rest) fun r os=>∃ m:List ByteArray,r = .c (.own 0 (Lib.compact (l.map (·.data.toList))).length)∧os = .arr 9 1 (((Lib.compact (l.map (·.data.toList))).map unB++m).map strD) :: rest:=by
 unfold PCalls
 intro Γ w xs hm hx
 obtain ⟨y,m',rfl,h1,h2⟩:=All2.cons_l.1 hx
 rw [All2.nil_l] at h2
 subst h2
 have hn0:0 < Γ.n:=by rw [hm.n];simp
 rcases Nat.eq_zero_or_pos l.length with h0|h0
 ·have:l=[]:=List.eq_nil_of_length_eq_zero h0
  subst this
  have hy:∃ A c,y = .slice A 0 c:=by
   rcases h1.2 with ⟨_,⟨A,e⟩,_⟩|⟨_,e,_⟩
   ·exact ⟨A,0,e⟩
   ·exact ⟨_,_,e⟩
  obtain ⟨A,c,rfl⟩:=hy
  refine (slices_Compact_string_empty A c w).mono ?_
  rintro e w' ⟨rfl,rfl⟩
  have e0:Lib.compact ([]:List (List UInt8))=[]:=rfl
  exact ⟨_,_,Γ,_,rfl,⟨[],rfl,rfl⟩,by simpa [e0] using h1,by simp,by simpa [e0] using hm,Grow.refl _ _ _⟩
 ·rcases h1.2 with ⟨_,_,h3⟩|⟨hc,rfl,hle⟩
  ·omega
  ·obtain ⟨i1,i2,i3,i4⟩:=put_texts hm hc h0
   have:=slices_Compact_string (Γ.β 0) 0 (Γ.cap 0) (l.map (·.data.toList)) w i2 (by simp;omega) (by simpa using hle)
   rw [List.length_map] at this
   refine this.mono ?_
   rintro e w' ⟨rfl,n,rfl⟩
   have hcl:(Lib.compact (l.map (·.data.toList))).length≤l.length:=by have:=Lib.compact_length_le (l.map (·.data.toList));simpa using this
   obtain ⟨j1,j2⟩:=i4 n #[] (Lib.compact (l.map (·.data.toList))++List.replicate (l.length - (Lib.compact (l.map (·.data.toList))).length) []) (by simp;omega)
   have hg:∀ w:World,grow w #[]=w:=fun w=>by simp [grow]
   rw [hg] at j1 j2
   refine ⟨_,_,Γ,_,rfl,⟨(List.replicate (l.length - (Lib.compact (l.map (·.data.toList))).length) []).map unB,rfl,rfl⟩,⟨hn0,.inr ⟨hc,rfl,by omega⟩⟩,by simp,?_,j2⟩
   rw [← List.map_append]
   exact j1
theorem compactUpTo_spec (zs:List (List UInt8)) (h:zs.Pairwise fun x y=>x≤y):∀ m,m≤zs.length → (Lib.compactUpTo zs.toArray m).Pairwise (· < ·)∧∀ x,x ∈ Lib.compactUpTo zs.toArray m ↔ x ∈ zs.take m
 | 0,_=>by simp [Lib.compactUpTo]
 | m+1,hm=>by
  obtain ⟨i1,i2⟩:=compactUpTo_spec zs h m (by omega)
  have hg:zs.toArray[m]! = zs[m]:=by simp [getElem!_pos,show m < zs.length by omega]
  have hp:=List.pairwise_iff_getElem.1 h
  rw [Lib.compactUpTo_succ,List.take_succ_eq_append_getElem (by omega),hg]
  cases hk:Lib.keeps zs.toArray m with
  | true =>
   rw [if_pos rfl]
   refine ⟨List.pairwise_append.2 ⟨i1,by simp,fun a ha b hb=>?_⟩,fun x=>by rw [List.mem_append,List.mem_append,i2]⟩
   simp only [List.mem_singleton] at hb
   subst hb
   obtain ⟨i,hi,rfl⟩:=List.getElem_of_mem ((i2 a).1 ha)
   rw [List.length_take] at hi
   rw [List.getElem_take]
   have hle:=hp i m (by omega) (by omega) (by omega)
   rcases Decidable.em (zs[i] < zs[m]) with h5|h5
   ·exact h5
   ·exfalso
    have he:=List.le_antisymm hle (List.not_lt.1 h5)
    simp only [Lib.keeps,decide_eq_true_eq] at hk
    rcases hk with hk|hk
    ·omega
    ·rw [hg,show zs.toArray[m - 1]! = zs[m - 1] by simp [getElem!_pos,show m - 1 < zs.length by omega]] at hk
     have h6:=hp (m - 1) m (by omega) (by omega) (by omega)
     rcases Nat.lt_or_ge i (m - 1) with h7|h7
     ·have h8:=hp i (m - 1) (by omega) (by omega) h7
      rw [he] at h8
      exact hk (List.le_antisymm h8 h6)
     ·have:i=m - 1:=by omega
      subst this
      exact hk he.symm
  | false =>
   simp only [Bool.false_eq_true,if_false,List.append_nil]
   refine ⟨i1,fun x=>?_⟩
   rw [i2,List.mem_append,List.mem_singleton]
   refine ⟨.inl,fun hx=>hx.elim id fun hx=>?_⟩
   subst hx
   simp only [Lib.keeps,decide_eq_false_iff_not,not_or,Decidable.not_not] at hk
   obtain ⟨hk0,hk1⟩:=hk
   rw [hg,show zs.toArray[m - 1]! = zs[m - 1] by simp [getElem!_pos,show m - 1 < zs.length by omega]] at hk1
   rw [hk1,List.mem_iff_getElem]
   exact ⟨m - 1,by rw [List.length_take];omega,by rw [List.getElem_take]⟩
def ascOf (l:List ByteArray):List ByteArray:=(Lib.compact ((l.map (·.data.toList)).mergeSort fun x y=>decide (x≤y))).map unB
theorem ascOf_spec (l:List ByteArray):asc (ascOf l)∧(∀ x,x ∈ ascOf l ↔ x ∈ l)∧(ascOf l).length≤l.length:=by
 have h1:((l.map (·.data.toList)).mergeSort fun x y=>decide (x≤y)).Pairwise fun x y=>x≤y :=
  (List.pairwise_mergeSort (le:=fun x y=>decide (x≤y)) (fun a b c h1 h2=>by simp only [decide_eq_true_eq] at *;exact List.le_trans h1 h2) (fun a b=>by simp only [Bool.or_eq_true,decide_eq_true_eq];exact List.le_total a b) _).imp fun h=>by simpa using h
 obtain ⟨i1,i2⟩:=compactUpTo_spec _ h1 _ (Nat.le_refl _)
 rw [List.take_length] at i2
 refine ⟨?_,fun x=>?_,?_⟩
 ·rw [asc,ascOf,List.pairwise_map]
  refine i1.imp fun {a b} h=>?_
  rw [bless_lt,ByteArray.toList_eq,ByteArray.toList_eq,list_unB,list_unB]
  exact h
 ·rw [ascOf,List.mem_map]
  constructor
  ·rintro ⟨y,h,rfl⟩
   have:=(List.mergeSort_perm _ _).mem_iff.1 ((i2 y).1 h)
   obtain ⟨z,hz,rfl⟩:=List.mem_map.1 this
   exact hz
  ·intro h
   exact ⟨x.data.toList,(i2 _).2 ((List.mergeSort_perm _ _).mem_iff.2 (List.mem_map.2 ⟨x,h,rfl⟩)),unB_list x⟩
 ·rw [ascOf,List.length_map]
  refine Nat.le_trans (Lib.compact_length_le _) ?_
  rw [(List.mergeSort_perm _ _).length_eq,List.length_map]
  exact Nat.le_refl _
end Go.Proofs.YtmjffgienmcabaaGreatDoor
namespace Go.Proofs.YtmjffgienmcabaaGreatDoor
open Go.RowKit
open IntWalk renaming iteOmega → iO, toNatUp → tN
set_option linter.unusedVariables false
set_option linter.unusedSimpArgs false
def entM (bl:List ByteArray) (m:Mod):List Ent:=if inM m.name bl then [] else m.aliases.map fun p=>⟨p,m.name⟩
def entX (M:List Mod) (x:Ext2):List Ent:=if inM x.value (M.map Mod.name) then [⟨x.name,x.value⟩] else []
def entsC (c:Cfg):List Ent:=c.modules.flatMap (entM c.blocked)++c.extra.flatMap (entX c.modules)
def findA (c:Cfg) (s:ByteArray):List ByteArray:=if s=⟨#[]⟩ then [] else ascOf (foundN (entsC c) s (s.size+1))
def matsR (m:Mod) (s:ByteArray):Bool:=decide (s≠⟨#[]⟩) && m.aliases.any fun p=>matchM p s
def foundR (c:Cfg) (s:ByteArray) (m:Mod):Bool:=decide (s≠⟨#[]⟩) && ((matsR m s && !inM m.name c.blocked) || c.extra.any fun x=>decide (x.value=m.name) && matchM x.name s)
def findR (c:Cfg) (s:ByteArray):List ByteArray:=putAll [] ((c.modules.filter (foundR c s)).map Mod.name)
theorem entsC_mem (c:Cfg) (s x:ByteArray) (hs:s≠⟨#[]⟩):(∃ y ∈ entsC c,matchM y.pat s=true∧y.mod=x) ↔ ∃ m ∈ c.modules,foundR c s m=true∧m.name=x:=by
 constructor
 ·rintro ⟨y,hy,hm,rfl⟩
  unfold entsC at hy
  rcases List.mem_append.1 hy with hy|hy
  ·obtain ⟨m,h1,h2⟩:=List.mem_flatMap.1 hy
   unfold entM at h2
   split at h2
   ·cases h2
   ·rename_i hb
    obtain ⟨p,h3,rfl⟩:=List.mem_map.1 h2
    refine ⟨m,h1,?_,rfl⟩
    have h4:m.aliases.any (fun p=>matchM p s)=true:=List.any_eq_true.2 ⟨p,h3,hm⟩
    unfold foundR matsR
    simp [hs,h4,hb]
  ·obtain ⟨e,h1,h2⟩:=List.mem_flatMap.1 hy
   unfold entX at h2
   split at h2
   ·rename_i hb
    rw [inM_iff] at hb
    obtain ⟨m,h3,h4⟩:=List.mem_map.1 hb
    rw [List.mem_singleton] at h2
    subst h2
    refine ⟨m,h3,?_,h4⟩
    have h5:c.extra.any (fun x=>decide (x.value=m.name) && matchM x.name s)=true:=List.any_eq_true.2 ⟨e,h1,by simp [h4,show matchM e.name s=true from hm]⟩
    unfold foundR
    simp [hs,h5]
   ·cases h2
 ·rintro ⟨m,hm,hf,rfl⟩
  unfold foundR matsR at hf
  simp only [Bool.and_eq_true,Bool.or_eq_true,decide_eq_true_eq,Bool.not_eq_true'] at hf
  obtain ⟨_,⟨⟨_,h1⟩,h2⟩|h1⟩:=hf
  ·obtain ⟨p,h3,h4⟩:=List.any_eq_true.1 h1
   refine ⟨⟨p,m.name⟩,?_,h4,rfl⟩
   refine List.mem_append.2 (.inl (List.mem_flatMap.2 ⟨m,hm,?_⟩))
   unfold entM
   rw [if_neg (by simp [h2])]
   exact List.mem_map.2 ⟨p,h3,rfl⟩
  ·obtain ⟨e,h3,h4⟩:=List.any_eq_true.1 h1
   rw [Bool.and_eq_true,decide_eq_true_eq] at h4
   refine ⟨⟨e.name,e.value⟩,?_,h4.2,h4.1⟩
   refine List.mem_append.2 (.inr (List.mem_flatMap.2 ⟨e,h3,?_⟩))
   unfold entX
   rw [if_pos (inM_iff.2 (List.mem_map.2 ⟨m,hm,h4.1.symm⟩))]
   simp
theorem findA_spec (c:Cfg) (s:ByteArray):asc (findA c s)∧∀ x,x ∈ findA c s ↔ ∃ m ∈ c.modules,foundR c s m=true∧m.name=x:=by
 unfold findA
 by_cases hs:s=⟨#[]⟩
 ·rw [if_pos hs]
  refine ⟨List.Pairwise.nil,fun x=>⟨fun h=>(by cases h),?_⟩⟩
  rintro ⟨m,_,h,_⟩
  unfold foundR at h
  simp [hs] at h
 ·rw [if_neg hs]
  obtain ⟨h1,h2,_⟩:=ascOf_spec (foundN (entsC c) s (s.size+1))
  exact ⟨h1,fun x=>by rw [h2,found_iff,entsC_mem c s x hs]⟩
theorem find_same (c:Cfg) (s:ByteArray):findR c s=findA c s:=by
 obtain ⟨h1,h2⟩:=findA_spec c s
 obtain ⟨h3,h4,_⟩:=putAll_spec ((c.modules.filter (foundR c s)).map Mod.name) [] List.Pairwise.nil
 refine asc_ext h3 h1 fun x=>?_
 unfold findR
 rw [h4,h2,List.mem_map]
 simp only [List.mem_filter,List.not_mem_nil,false_or,and_assoc]
theorem findA_len (c:Cfg) (s:ByteArray):(findA c s).length≤c.modules.length:=by
 obtain ⟨h1,h2⟩:=findA_spec c s
 have:=nodup_len (findA c s) (c.modules.map Mod.name) (asc_nodup h1) fun x hx=>by
  obtain ⟨m,h3,_,h4⟩:=(h2 x).1 hx
  exact List.mem_map.2 ⟨m,h3,h4⟩
 simpa using this
end Go.Proofs.YtmjffgienmcabaaGreatDoor
