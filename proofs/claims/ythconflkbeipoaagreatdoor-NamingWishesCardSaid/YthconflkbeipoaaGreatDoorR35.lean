/- What the program computes, and the plain laws of it, part 35. -/
import Derived.Test.YthconflkbeipoaaGreatDoorR34
namespace Go.Proofs.YthconflkbeipoaaGreatDoor
open Go.RowKit
open IntWalk renaming iteOmega → iO, toNatUp → tN
set_option linter.unusedVariables false
set_option linter.unusedSimpArgs false
def renN (n:Nat):ByteArray:=⟨#[114,101,110,97,109,101]⟩++digN n
theorem renN_inj {m n:Nat} (h:renN m=renN n):m=n:=digN_inj (app_inj h)
def tempGo (W:List ByteArray):Nat → Nat → Nat
 | 0,n=>n
 | k+1,n=>if inM (renN n) W=true then tempGo W k (n+1) else n
theorem tempGo_le (W:List ByteArray):∀ k n,tempGo W k n≤n+k
 | 0,n=>Nat.le_refl _
 | k+1,n=>by
  rw [tempGo]
  split
  ·have:=tempGo_le W k (n+1);omega
  ·omega
theorem tempGo_mid (W:List ByteArray):∀ k n m,n≤m → m < tempGo W k n → inM (renN m) W=true
 | 0,n,m,h1,h2=>by rw [tempGo] at h2;omega
 | k+1,n,m,h1,h2=>by
  rw [tempGo] at h2
  split at h2
  ·rename_i h
   by_cases e:m=n
   ·rw [e];exact h
   ·exact tempGo_mid W k (n+1) m (by omega) h2
  ·omega
theorem tempGo_end (W:List ByteArray) {k n:Nat} (hk:W.length < k):inM (renN (tempGo W k n)) W=false:=by
 have key:∀ k n,inM (renN (tempGo W k n)) W=true → tempGo W k n=n+k:=by
  intro k
  induction k with
  | zero=>intro n _;rfl
  | succ k ih =>
   intro n h
   rw [tempGo] at h ⊢
   split
   ·rename_i hc
    rw [if_pos hc] at h
    rw [ih (n+1) h];omega
   ·rename_i hc
    rw [if_neg hc] at h
    exact absurd h hc
 cases hc:inM (renN (tempGo W k n)) W with
 | false=>rfl
 | true =>
  exfalso
  have h1:=key k n hc
  have h2:((List.range k).map fun j=>renN (n+j)).Nodup:=by
   rw [List.Nodup,List.pairwise_map]
   refine List.nodup_range.imp fun hne e=>hne ?_
   have:=renN_inj e
   omega
  have h3:=nodup_sub_len h2 (m:=W) fun x hx=>by
   obtain ⟨j,hj,rfl⟩:=List.mem_map.1 hx
   rw [List.mem_range] at hj
   exact inM_iff.1 (tempGo_mid W k n (n+j) (by omega) (by omega))
  rw [List.length_map,List.length_range] at h3
  omega
def tempN (W:List ByteArray):Nat:=tempGo W (W.length+1) 0
theorem temp_le (W:List ByteArray):tempN W≤W.length+1:=by have:=tempGo_le W (W.length+1) 0;unfold tempN;omega
theorem temp_not (W:List ByteArray):inM (renN (tempN W)) W=false:=tempGo_end W (by omega)
theorem temp_mid (W:List ByteArray) {m:Nat} (h:m < tempN W):inM (renN m) W=true:=tempGo_mid W _ 0 m (Nat.zero_le _) h
structure Ren where
 path:ByteArray
 old:ByteArray
 new:ByteArray
 deriving DecidableEq,Inhabited
def Ren.d (r:Ren):List D:=[.v (.string r.path),.v (.string r.old),.v (.string r.new)]
attribute [push_cast] Ren.d
def Ren.e (r:Ren):List E:=[.v (.string r.path),.v (.string r.old),.v (.string r.new)]
attribute [push_cast] Ren.e
def valOf (l:List Atr) (n:ByteArray):Option ByteArray:=(l.find? fun a=>decide (a.name=n)).map Atr.value
def vals (l:List Atr):List ByteArray:=l.map Atr.value
def keys (l:List Atr):List ByteArray:=l.map Atr.name
def wrongP (names:List Atr) (x:Atr):Bool:=match valOf names x.name with
 | some v=>!decide (v=x.value)
 | none=>false
def goalP (names:List Atr) (x:Atr):ByteArray:=(valOf names x.name).getD ⟨#[]⟩
def freeP (names now:List Atr) (x:Atr):Bool:=wrongP names x && !inM (goalP names x) (vals now)
def firstI (l:List Atr) (q:Atr → Bool):Option Nat:=(List.range l.length).find? fun i=>q (l.getD i default)
theorem firstI_some {l:List Atr} {q:Atr → Bool} {i:Nat} (h:firstI l q=some i):i < l.length∧q (l.getD i default)=true∧∀ j,j < i → q (l.getD j default)=false:=by
 unfold firstI at h
 obtain ⟨h1,us,bs,h2,h3⟩:=List.find?_eq_some_iff_append.1 h
 have hm:i ∈ List.range l.length:=by rw [h2];simp
 refine ⟨List.mem_range.1 hm,h1,fun j hj=>?_⟩
 have hlen:us.length=i:=by
  have h4:(List.range l.length)[us.length]? = some i:=by rw [h2];simp
  rw [List.getElem?_eq_some_iff] at h4
  obtain ⟨h5,h6⟩:=h4
  simpa using h6
 have:j ∈ us:=by
  have h4:(List.range l.length)[j]? = some j:=by rw [List.getElem?_range];have:=List.mem_range.1 hm;omega
  rw [h2,List.getElem?_append_left (by omega)] at h4
  exact List.mem_of_getElem? h4
 simpa using h3 j this
theorem firstI_none {l:List Atr} {q:Atr → Bool} (h:firstI l q=none):∀ i,i < l.length → q (l.getD i default)=false:=fun i hi=>by
 unfold firstI at h
 rw [List.find?_eq_none] at h
 simpa using h i (List.mem_range.2 hi)
theorem firstI_of {l:List Atr} {q:Atr → Bool} {i:Nat} (h1:i < l.length) (h2:q (l.getD i default)=true) (h3:∀ j,j < i → q (l.getD j default)=false):firstI l q=some i:=by
 cases hf:firstI l q with
 | none=>have:=firstI_none hf i h1;rw [h2] at this;cases this
 | some j =>
  obtain ⟨g1,g2,g3⟩:=firstI_some hf
  rcases Nat.lt_trichotomy i j with h|h|h
  ·have:=g3 i h;rw [h2] at this;cases this
  ·rw [h]
  ·have:=h3 j h;rw [g2] at this;cases this
theorem firstI_no {l:List Atr} {q:Atr → Bool} (h:∀ i,i < l.length → q (l.getD i default)=false):firstI l q=none:=by
 cases hf:firstI l q with
 | none=>rfl
 | some j=>obtain ⟨g1,g2,_⟩:=firstI_some hf;rw [h j g1] at g2;cases g2
def tempS (names now:List Atr):ByteArray:=renN (tempN (vals names++vals now))
def nextP (names now:List Atr):Option (Nat × ByteArray):=match firstI now (freeP names now) with
 | some i=>some (i,goalP names (now.getD i default))
 | none=>match firstI now (wrongP names) with
  | some i=>some (i,tempS names now)
  | none=>none
def renP (now:List Atr) (i:Nat) (u:ByteArray):List Atr:=now.set i ⟨(now.getD i default).name,u⟩
def planGo (names:List Atr):Nat → List Atr → List Ren × List Atr
 | 0,now=>([],now)
 | k+1,now=>match nextP names now with
  | none=>([],now)
  | some (i,u)=>(⟨(now.getD i default).name,(now.getD i default).value,u⟩ :: (planGo names k (renP now i u)).1,(planGo names k (renP now i u)).2)
structure PlanOk (names now:List Atr):Prop where
 nk:(keys names).Nodup
 nv:(vals names).Nodup
 pk:(keys now).Nodup
 pv:(vals now).Nodup
 ne:∀ v ∈ vals names,v≠⟨#[]⟩
 there:∀ n ∈ keys names,n ∈ keys now
 own:∀ x ∈ now,valOf names x.name=none → x.value ∉ vals names
theorem valOf_mem {l:List Atr} {n v:ByteArray} (h:valOf l n=some v):⟨n,v⟩ ∈ l:=by
 unfold valOf at h
 cases hf:l.find? fun a=>decide (a.name=n) with
 | none=>rw [hf] at h;cases h
 | some a =>
  rw [hf] at h
  have h1:=List.find?_some hf
  simp only [decide_eq_true_eq] at h1
  injection h with h
  subst h1;subst h
  exact List.mem_of_find?_eq_some hf
theorem valOf_none {l:List Atr} {n:ByteArray} (h:valOf l n=none):n ∉ keys l:=by
 unfold valOf at h
 rw [Option.map_eq_none_iff,List.find?_eq_none] at h
 intro hm
 obtain ⟨a,ha,rfl⟩:=List.mem_map.1 hm
 exact absurd (by simp) (h a ha)
theorem valOf_of {l:List Atr} (hk:(keys l).Nodup) {a:Atr} (ha:a ∈ l):valOf l a.name=some a.value:=by
 cases hf:valOf l a.name with
 | none=>exact absurd (List.mem_map.2 ⟨a,ha,rfl⟩) (valOf_none hf)
 | some v =>
  have h1:=valOf_mem hf
  obtain ⟨i,hi,hia⟩:=List.getElem_of_mem ha
  obtain ⟨j,hj,hja⟩:=List.getElem_of_mem h1
  have:i=j:=by
   rcases Nat.lt_trichotomy i j with h|h|h
   ·have:=List.pairwise_iff_getElem.1 hk i j (by simpa [keys] using hi) (by simpa [keys] using hj) h
    simp only [keys,List.getElem_map] at this
    rw [hia,hja] at this
    exact absurd rfl this
   ·exact h
   ·have:=List.pairwise_iff_getElem.1 hk j i (by simpa [keys] using hj) (by simpa [keys] using hi) h
    simp only [keys,List.getElem_map] at this
    rw [hia,hja] at this
    exact absurd rfl this
  subst this
  rw [hia] at hja
  rw [hja]
theorem key_inj {l:List Atr} {f:Atr → ByteArray} (hk:(l.map f).Nodup) {i j:Nat} (hi:i < l.length) (hj:j < l.length) (e:f (l.getD i default)=f (l.getD j default)):i=j:=by
 rw [getD_lt l hi,getD_lt l hj] at e
 rcases Nat.lt_trichotomy i j with h|h|h
 ·have:=List.pairwise_iff_getElem.1 hk i j (by simpa using hi) (by simpa using hj) h
  simp only [List.getElem_map] at this
  exact absurd e this
 ·exact h
 ·have:=List.pairwise_iff_getElem.1 hk j i (by simpa using hj) (by simpa using hi) h
  simp only [List.getElem_map] at this
  exact absurd e.symm this
end Go.Proofs.YthconflkbeipoaaGreatDoor
namespace Go.Proofs.YthconflkbeipoaaGreatDoor
attribute [local irreducible] PL QL PWPr PCalls Weak RetK Kontr PA
open Go.RowKit
open IntWalk renaming iteOmega → iO, toNatUp → tN
set_option linter.unusedVariables false
set_option linter.unusedSimpArgs false
set_option maxRecDepth 20000
theorem valOf_at {l:List Atr} {k:Nat} {n:ByteArray} (hk:k < l.length) (hp:∀ x ∈ l.take k,x.name≠n) (hn:(l.getD k default).name=n):valOf l n=some (l.getD k default).value:=by
 unfold valOf
 have h:l.find? (fun a=>decide (a.name=n))=some (l.getD k default):=by
  rw [List.find?_eq_some_iff_append]
  refine ⟨by simpa using hn,l.take k,l.drop (k+1),?_,fun a ha=>by simpa using hp a ha⟩
  rw [getD_lt l hk,← List.drop_eq_getElem_cons hk,List.take_append_drop]
 rw [h]
 rfl
theorem valOf_no {l:List Atr} {n:ByteArray} (h:∀ x ∈ l,x.name≠n):valOf l n=none:=by
 unfold valOf
 rw [Option.map_eq_none_iff,List.find?_eq_none]
 intro x hx
 simpa using h x hx
theorem name_nx {l:List Atr} {k:Nat} {n:ByteArray} (hk:k < l.length) (hp:∀ x ∈ l.take k,x.name≠n) (hn:(l.getD k default).name≠n):∀ x ∈ l.take (k+1),x.name≠n:=fun x hx=>by
 rw [List.take_succ_eq_append_getElem hk,List.mem_append,List.mem_singleton] at hx
 rcases hx with hx|hx
 ·exact hp x hx
 ·rw [hx,← getD_lt l hk];exact hn
theorem atr_eq {a b:Atr} (h1:a.name=b.name) (h2:a.value=b.value):a=b:=by
 cases a;cases b
 simp only at h1 h2
 rw [h1,h2]
set_option maxHeartbeats 2000000 in
theorem sameattrs_pure (a b:List Atr) (ha:a.length≤9223372036854775807) (hb:b.length≤9223372036854775807) :
  PCalls Tryz.prog 16 [.c (.sl 2 (a.map Atr.d)),.c (.sl 2 (b.map Atr.d))] [] fun r os=>r = .c (.v (.bool (decide (a=b))))∧os=[]:=by
 refine pcalls_of Tryz.func16 rfl (by simp [Tryz.ntmps16]) ?_
 rw [Tryz.ntmps16,Tryz.results16]
 push_cast [iO,tN]
 have cB:CutB 6 []:=trivial
 by_cases hl:a.length=b.length
 case neg =>
  have hn:decide (a=b)=false:=decide_eq_false fun e=>hl (by rw [e])
  have hl2:¬ (a.length:Int)=(b.length:Int):=by omega
  repeat' (first|((first|refine pC ?_|refine pQC ?_|refine pU ?_);push_cast [iO,tN,hl,hl2])|(refine pif (fun h=>?_) (fun h=>?_)<;>first|exact pN h|push_cast [iO,tN,hl,hl2]))
  (refine retK_of [] ?_;push_cast [iO,tN,hn])
 have hl2:(a.length:Int)=(b.length:Int):=by omega
 repeat' (first|((first|refine pC ?_|refine pQC ?_|refine pU ?_);push_cast [iO,tN,hl,hl2])|(refine pif (fun h=>?_) (fun h=>?_)<;>first|exact pN h|push_cast [iO,tN,hl,hl2]))
 (apply pwp_loop3 (α:=Nat) 6 [] (fun k=>[(5,.c (.v (.int .i64 k)))]) (fun k=>[]) (fun k=>k≤a.length∧a.take k=b.take k) (fun k=>a.length - k) (0);(focus ((try push_cast [iO,tN]);rfl));(focus exact ⟨Nat.zero_le _,rfl⟩);(focus ((refine weak_fg ?_;try push_cast [iO,tN]))))
 rintro k ⟨hk,hpre⟩
 push_cast [iO,tN]
 by_cases hlt:k < a.length
 ·have hlt':k < b.length:=by omega
  by_cases h1:(a.getD k default).name=(b.getD k default).name
  ·by_cases h2:(a.getD k default).value=(b.getD k default).value
   ·have he:=atr_eq h1 h2
    repeat' (first|((first|refine pC ?_|refine pQC ?_|refine pU ?_);push_cast [iO,tN,h1,h2])|(refine pif (fun h=>?_) (fun h=>?_)<;>first|exact pN h|push_cast [iO,tN,h1,h2]))
    refine ⟨k+1,⟨by omega,?_⟩,by (refine weak_fg ?_;push_cast [iO,tN]),by omega⟩
    rw [List.take_succ_eq_append_getElem hlt,List.take_succ_eq_append_getElem hlt',hpre,← getD_lt a hlt,← getD_lt b hlt',he]
   ·have hn:decide (a=b)=false:=decide_eq_false fun e=>h2 (by rw [e])
    repeat' (first|((first|refine pC ?_|refine pQC ?_|refine pU ?_);push_cast [iO,tN,h1,h2])|(refine pif (fun h=>?_) (fun h=>?_)<;>first|exact pN h|push_cast [iO,tN,h1,h2]))
    (refine retK_of [] ?_;push_cast [iO,tN,hn])
  ·have hn:decide (a=b)=false:=decide_eq_false fun e=>h1 (by rw [e])
   repeat' (first|((first|refine pC ?_|refine pQC ?_|refine pU ?_);push_cast [iO,tN,h1])|(refine pif (fun h=>?_) (fun h=>?_)<;>first|exact pN h|push_cast [iO,tN,h1]))
   (refine retK_of [] ?_;push_cast [iO,tN,hn])
 ·have hn:decide (a=b)=true:=decide_eq_true (by
   have:=hpre
   rwa [List.take_of_length_le (by omega),List.take_of_length_le (by omega)] at this)
  repeat' (first|((first|refine pC ?_|refine pQC ?_|refine pU ?_);push_cast [iO,tN])|(refine pif (fun h=>?_) (fun h=>?_)<;>first|exact pN h|push_cast [iO,tN]))
  (refine retK_of [] ?_;push_cast [iO,tN,hn])
set_option maxHeartbeats 1000000 in
theorem dget_pure (l:List Atr) (n:ByteArray) (hl:l.length≤9223372036854775807) :
  PCalls Tryz.prog 77 [.c (.sl 2 (l.map Atr.d)),.c (.v (.string n))] [] fun r os=>r = .two (.c (.v (.string ((valOf l n).getD ⟨#[]⟩)))) (.c (.v (.bool ((valOf l n).isSome))))∧os=[]:=by
 refine pcalls_of Tryz.func77 rfl (by simp [Tryz.ntmps77]) ?_
 rw [Tryz.ntmps77,Tryz.results77]
 push_cast [iO,tN]
 have cB:CutB 8 [8,9,10]:=trivial
 repeat' (first|((first|refine pC ?_|refine pQC ?_|refine pU ?_);push_cast [iO,tN])|(refine pif (fun h=>?_) (fun h=>?_)<;>first|exact pN h|push_cast [iO,tN]))
 (apply pwp_loop3 (α:=Nat) 8 [8,9,10] (fun k=>[(10,.c (.v (.int .i64 k)))]) (fun k=>[]) (fun k=>k≤l.length∧∀ y ∈ l.take k,y.name≠n) (fun k=>l.length - k) (0);(focus ((try push_cast [iO,tN]);rfl));(focus exact ⟨Nat.zero_le _,by simp⟩);(focus ((refine weak_fg ?_;try push_cast [iO,tN]))))
 rintro k ⟨hk,h0⟩
 push_cast [iO,tN]
 by_cases hlt:k < l.length
 ·by_cases hn:(l.getD k default).name=n
  ·have hg:=valOf_at hlt h0 hn
   have hn':=eq_true hn
   repeat' (first|((first|refine pC ?_|refine pQC ?_|refine pU ?_);push_cast [iO,tN,hn'])|(refine pif (fun h=>?_) (fun h=>?_)<;>first|exact pN h|push_cast [iO,tN,hn']))
   (refine retK_of [] ?_;push_cast [iO,tN,hg,Option.getD_some,Option.isSome_some])
  ·have h1:=name_nx hlt h0 hn
   repeat' (first|((first|refine pC ?_|refine pQC ?_|refine pU ?_);push_cast [iO,tN,hn])|(refine pif (fun h=>?_) (fun h=>?_)<;>first|exact pN h|push_cast [iO,tN,hn]))
   exact ⟨k+1,⟨by omega,h1⟩,by (refine weak_fg ?_;push_cast [iO,tN]),by omega⟩
 ·rw [List.take_of_length_le (by omega)] at h0
  have hg:=valOf_no h0
  repeat' (first|((first|refine pC ?_|refine pQC ?_|refine pU ?_);push_cast [iO,tN])|(refine pif (fun h=>?_) (fun h=>?_)<;>first|exact pN h|push_cast [iO,tN]))
  (refine retK_of [] ?_;push_cast [iO,tN,hg,Option.getD_none,Option.isSome_none])
set_option maxHeartbeats 1000000 in
theorem rget03a_pure (l:List Atr) (n:ByteArray) (hl:l.length≤9223372036854775807) :
  PCalls Tryz.prog 47 [.c (.sl 2 (l.map Atr.d)),.c (.v (.string n))] [] fun r os=>r = .two (.c (.v (.string ((valOf l n).getD ⟨#[]⟩)))) (.c (.v (.bool ((valOf l n).isSome))))∧os=[]:=by
 refine pcalls_of Tryz.func47 rfl (by simp [Tryz.ntmps47]) ?_
 rw [Tryz.ntmps47,Tryz.results47]
 push_cast [iO,tN]
 have cB:CutB 7 []:=trivial
 repeat' (first|((first|refine pC ?_|refine pQC ?_|refine pU ?_);push_cast [iO,tN])|(refine pif (fun h=>?_) (fun h=>?_)<;>first|exact pN h|push_cast [iO,tN]))
 (apply pwp_loop3 (α:=Nat) 7 [] (fun k=>[(6,.c (.v (.int .i64 k)))]) (fun k=>[]) (fun k=>k≤l.length∧∀ y ∈ l.take k,y.name≠n) (fun k=>l.length - k) (0);(focus ((try push_cast [iO,tN]);rfl));(focus exact ⟨Nat.zero_le _,by simp⟩);(focus ((refine weak_fg ?_;try push_cast [iO,tN]))))
 rintro k ⟨hk,h0⟩
 push_cast [iO,tN]
 by_cases hlt:k < l.length
 ·by_cases hn:(l.getD k default).name=n
  ·have hg:=valOf_at hlt h0 hn
   have hn':=eq_true hn
   repeat' (first|((first|refine pC ?_|refine pQC ?_|refine pU ?_);push_cast [iO,tN,hn'])|(refine pif (fun h=>?_) (fun h=>?_)<;>first|exact pN h|push_cast [iO,tN,hn']))
   (refine retK_of [] ?_;push_cast [iO,tN,hg,Option.getD_some,Option.isSome_some])
  ·have h1:=name_nx hlt h0 hn
   repeat' (first|((first|refine pC ?_|refine pQC ?_|refine pU ?_);push_cast [iO,tN,hn])|(refine pif (fun h=>?_) (fun h=>?_)<;>first|exact pN h|push_cast [iO,tN,hn]))
   exact ⟨k+1,⟨by omega,h1⟩,by (refine weak_fg ?_;push_cast [iO,tN]),by omega⟩
 ·rw [List.take_of_length_le (by omega)] at h0
  have hg:=valOf_no h0
  repeat' (first|((first|refine pC ?_|refine pQC ?_|refine pU ?_);push_cast [iO,tN])|(refine pif (fun h=>?_) (fun h=>?_)<;>first|exact pN h|push_cast [iO,tN]))
  (refine retK_of [] ?_;push_cast [iO,tN,hg,Option.getD_none,Option.isSome_none])
set_option maxHeartbeats 1000000 in
theorem rvalue_pure (l:List Atr) (n:ByteArray) (hl:l.length≤9223372036854775807) :
  PCalls Tryz.prog 51 [.c (.sl 2 (l.map Atr.d)),.c (.v (.string n))] [] fun r os=>r = .two (.c (.v (.string ((valOf l n).getD ⟨#[]⟩)))) (.c (.v (.bool ((valOf l n).isSome))))∧os=[]:=by
 refine pcalls_of Tryz.func51 rfl (by simp [Tryz.ntmps51]) ?_
 rw [Tryz.ntmps51,Tryz.results51]
 push_cast [iO,tN]
 have cB:CutB 7 []:=trivial
 repeat' (first|((first|refine pC ?_|refine pQC ?_|refine pU ?_);push_cast [iO,tN])|(refine pif (fun h=>?_) (fun h=>?_)<;>first|exact pN h|push_cast [iO,tN]))
 (apply pwp_loop3 (α:=Nat) 7 [] (fun k=>[(6,.c (.v (.int .i64 k)))]) (fun k=>[]) (fun k=>k≤l.length∧∀ y ∈ l.take k,y.name≠n) (fun k=>l.length - k) (0);(focus ((try push_cast [iO,tN]);rfl));(focus exact ⟨Nat.zero_le _,by simp⟩);(focus ((refine weak_fg ?_;try push_cast [iO,tN]))))
 rintro k ⟨hk,h0⟩
 push_cast [iO,tN]
 by_cases hlt:k < l.length
 ·by_cases hn:(l.getD k default).name=n
  ·have hg:=valOf_at hlt h0 hn
   have hn':=eq_true hn
   repeat' (first|((first|refine pC ?_|refine pQC ?_|refine pU ?_);push_cast [iO,tN,hn'])|(refine pif (fun h=>?_) (fun h=>?_)<;>first|exact pN h|push_cast [iO,tN,hn']))
   (refine retK_of [] ?_;push_cast [iO,tN,hg,Option.getD_some,Option.isSome_some])
  ·have h1:=name_nx hlt h0 hn
   repeat' (first|((first|refine pC ?_|refine pQC ?_|refine pU ?_);push_cast [iO,tN,hn])|(refine pif (fun h=>?_) (fun h=>?_)<;>first|exact pN h|push_cast [iO,tN,hn]))
   exact ⟨k+1,⟨by omega,h1⟩,by (refine weak_fg ?_;push_cast [iO,tN]),by omega⟩
 ·rw [List.take_of_length_le (by omega)] at h0
  have hg:=valOf_no h0
  repeat' (first|((first|refine pC ?_|refine pQC ?_|refine pU ?_);push_cast [iO,tN])|(refine pif (fun h=>?_) (fun h=>?_)<;>first|exact pN h|push_cast [iO,tN]))
  (refine retK_of [] ?_;push_cast [iO,tN,hg,Option.getD_none,Option.isSome_none])
theorem rhas_pure (l:List Atr) (s:ByteArray) (hl:l.length≤9223372036854775807) :
  PCalls Tryz.prog 52 [.c (.sl 2 (l.map Atr.d)),.c (.v (.string s))] [] fun r os=>r = .c (.v (.bool (inM s (vals l))))∧os=[]:=by
 refine pcalls_of Tryz.func52 rfl (by simp [Tryz.ntmps52]) ?_
 rw [Tryz.ntmps52,Tryz.results52]
 push_cast [iO,tN]
 have cB:CutB 6 []:=trivial
 repeat' (first|((first|refine pC ?_|refine pQC ?_|refine pU ?_);push_cast [iO,tN])|(refine pif (fun h=>?_) (fun h=>?_)<;>first|exact pN h|push_cast [iO,tN]))
 (apply pwp_loop3 (α:=Nat) 6 [] (fun k=>[(5,.c (.v (.int .i64 k)))]) (fun k=>[]) (fun k=>k≤l.length∧∀ y ∈ l.take k,y.value≠s) (fun k=>l.length - k) (0);(focus ((try push_cast [iO,tN]);rfl));(focus exact ⟨Nat.zero_le _,by simp⟩);(focus ((refine weak_fg ?_;try push_cast [iO,tN]))))
 rintro k ⟨hk,hpre⟩
 push_cast [iO,tN]
 by_cases hlt:k < l.length
 ·by_cases hq:(l.getD k default).value=s
  ·have hm:inM s (vals l)=true:=inM_iff.2 (List.mem_map.2 ⟨_,by rw [getD_lt l hlt];exact List.getElem_mem _,hq⟩)
   repeat' (first|((first|refine pC ?_|refine pQC ?_|refine pU ?_);push_cast [iO,tN,hq])|(refine pif (fun h=>?_) (fun h=>?_)<;>first|exact pN h|push_cast [iO,tN,hq]))
   (refine retK_of [] ?_;push_cast [iO,tN,hm])
  ·repeat' (first|((first|refine pC ?_|refine pQC ?_|refine pU ?_);push_cast [iO,tN,hq])|(refine pif (fun h=>?_) (fun h=>?_)<;>first|exact pN h|push_cast [iO,tN,hq]))
   refine ⟨k+1,⟨by omega,fun x hx=>?_⟩,by (refine weak_fg ?_;push_cast [iO,tN]),by omega⟩
   rw [List.take_succ_eq_append_getElem hlt,List.mem_append,List.mem_singleton] at hx
   rcases hx with hx|hx
   ·exact hpre x hx
   ·rw [hx,← getD_lt l hlt];exact hq
 ·rw [List.take_of_length_le (by omega)] at hpre
  have hm:inM s (vals l)=false:=inM_false.2 fun h=>by
   obtain ⟨x,hx,he⟩:=List.mem_map.1 h
   exact hpre x hx he
  repeat' (first|((first|refine pC ?_|refine pQC ?_|refine pU ?_);push_cast [iO,tN])|(refine pif (fun h=>?_) (fun h=>?_)<;>first|exact pN h|push_cast [iO,tN]))
  (refine retK_of [] ?_;push_cast [iO,tN,hm])
set_option maxRecDepth 20000
theorem sindexO_pure (l:List ByteArray) (s:ByteArray) (hl:l.length≤1000000000) :
  PCalls Tryz.prog 120 [.c (.own 0 l.length),.c (.v (.string s))] [.arr 9 1 (l.map strD)] fun r os=>∃ k:Int,((k = -1∧s ∉ l)∨∃ i:Nat,k=i∧s ∈ l)∧r = .c (.v (.int .i64 k))∧os=[.arr 9 1 (l.map strD)]:=by
 refine pcalls_of Tryz.func120 rfl (by simp [Tryz.ntmps120]) ?_
 rw [Tryz.ntmps120,Tryz.results120]
 push_cast [iO,tN]
 have cB:CutB 6 [7,8]:=trivial
 repeat' (first|((first|refine pC ?_|refine pQC ?_|refine pU ?_);push_cast [iO,tN])|(refine pif (fun h=>?_) (fun h=>?_)<;>first|exact pN h|push_cast [iO,tN]))
 (apply pwp_loop3 (α:=Nat) 6 [7,8] (fun k=>[(8,.c (.v (.int .i64 k)))]) (fun k=>[]) (fun k=>k≤l.length∧s ∉ l.take k) (fun k=>l.length - k) (0);(focus ((try push_cast [iO,tN]);rfl));(focus exact ⟨Nat.zero_le _,by simp⟩);(focus ((refine weak_fg ?_;try push_cast [iO,tN]))))
 rintro k ⟨hk,hpre⟩
 push_cast [iO,tN]
 by_cases hlt:k < l.length
 ·by_cases hq:s=l.getD k default
  ·repeat' (first|((first|refine pC ?_|refine pQC ?_|refine pU ?_);push_cast [iO,tN,hq])|(refine pif (fun h=>?_) (fun h=>?_)<;>first|exact pN h|push_cast [iO,tN,hq]))
   (refine retK_of [0] ?_;push_cast [iO,tN])
   exact ⟨_,_,leP_refl _,leOs_refl _,_,.inr ⟨k,rfl,by first|(rw [getD_lt l hlt];exact List.getElem_mem _)|(rw [hq,getD_lt l hlt];exact List.getElem_mem _)⟩,rfl,rfl⟩
  ·repeat' (first|((first|refine pC ?_|refine pQC ?_|refine pU ?_);push_cast [iO,tN,hq])|(refine pif (fun h=>?_) (fun h=>?_)<;>first|exact pN h|push_cast [iO,tN,hq]))
   refine ⟨k+1,⟨by omega,?_⟩,by (refine weak_fg ?_;push_cast [iO,tN]),by omega⟩
   rw [List.take_succ_eq_append_getElem hlt,List.mem_append,List.mem_singleton]
   rintro (h|h)
   ·exact hpre h
   ·exact hq (by rw [getD_lt l hlt];exact h)
 ·rw [List.take_of_length_le (by omega)] at hpre
  repeat' (first|((first|refine pC ?_|refine pQC ?_|refine pU ?_);push_cast [iO,tN])|(refine pif (fun h=>?_) (fun h=>?_)<;>first|exact pN h|push_cast [iO,tN]))
  (refine retK_of [0] ?_;push_cast [iO,tN])
  exact ⟨_,_,leP_refl _,leOs_refl _,_,.inl ⟨rfl,hpre⟩,rfl,rfl⟩
theorem scontainsO_pure (l:List ByteArray) (s:ByteArray) (hl:l.length≤1000000000) :
  PCalls Tryz.prog 68 [.c (.own 0 l.length),.c (.v (.string s))] [.arr 9 1 (l.map strD)] fun r os=>r = .c (.v (.bool (inM s l)))∧os=[.arr 9 1 (l.map strD)]:=by
 have hi:=sindexO_pure l s hl
 refine pcalls_of Tryz.func68 rfl (by simp [Tryz.ntmps68]) ?_
 rw [Tryz.ntmps68,Tryz.results68]
 push_cast [iO,tN]
 repeat' (first|((first|refine pG ?_|refine pQ ?_|refine pU ?_);push_cast [iO,tN])|(refine pif (fun h=>?_) (fun h=>?_)<;>first|exact pN h|push_cast [iO,tN]))
 (refine plc [0] (hi) ?_ ?_;push_cast [iO,tN];rintro r os ⟨k,hk,rfl,rfl⟩;push_cast [iO,tN])
 rcases hk with ⟨rfl,h⟩|⟨i,rfl,h⟩
 ·have h:=inM_false.2 h
  repeat' (first|((first|refine pG ?_|refine pQ ?_|refine pU ?_);push_cast [iO,tN])|(refine pif (fun h=>?_) (fun h=>?_)<;>first|exact pN h|push_cast [iO,tN]))
  (refine retK_of [0] ?_;push_cast [iO,tN,h])
 ·have h:=inM_iff.2 h
  repeat' (first|((first|refine pG ?_|refine pQ ?_|refine pU ?_);push_cast [iO,tN])|(refine pif (fun h=>?_) (fun h=>?_)<;>first|exact pN h|push_cast [iO,tN]))
  (refine retK_of [0] ?_;push_cast [iO,tN,h])
  all_goals exact decide_eq_true (Int.natCast_nonneg _)
def addC (l:List ByteArray) (s:ByteArray):List ByteArray:=if inM s l then l else l++[s]
theorem addC_len (l:List ByteArray) (s:ByteArray):(addC l s).length≤l.length+1:=by
 unfold addC
 split
 ·omega
 ·rw [List.length_append,List.length_singleton];exact Nat.le_refl _
abbrev candO (l:List ByteArray):List Ob:=[.box 34 [.own 1 l.length],.arr 9 1 (l.map strD)]
set_option maxHeartbeats 2000000 in
theorem cand1_pure (l:List ByteArray) (s:ByteArray) (hl:l.length≤1000000) :
  PCalls Tryz.prog 102 [.c (.v (.string s)),.c (.ptr 0 0)] (candO l) fun r os=>os=candO (addC l s)∨os=[.box 34 [.own 2 (addC l s).length],.arr 9 1 (l.map strD),.arr 9 1 ((addC l s).map strD)]:=by
 have hc:=scontainsO_pure l s (by omega)
 refine pcalls_of Tryz.func102 rfl (by simp [Tryz.ntmps102]) ?_
 rw [Tryz.ntmps102,Tryz.results102]
 push_cast [iO,tN]
 have cB:CutB 3 []:=trivial
 cases hi:inM s l with
 | true =>
  have ha:addC l s=l:=by unfold addC;rw [if_pos hi]
  rw [hi] at hc
  repeat' (first |  ((refine plc [1] (hc) ?_ ?_;push_cast [iO,tN];rintro r os ⟨rfl,rfl⟩;push_cast [iO,tN]))  | ((first|refine pC ?_|refine pQC ?_|refine pU ?_);push_cast [iO,tN])|(refine pif (fun h=>?_) (fun h=>?_)<;>first|exact pN h|push_cast [iO,tN]))
  (refine retK_of [0,1] ?_;push_cast [iO,tN,ha])
  all_goals exact ⟨_,_,leP_refl _,leOs_refl _,.inl rfl⟩
 | false =>
  have ha:addC l s=l++[s]:=by unfold addC;rw [hi];rfl
  rw [hi] at hc
  repeat' (first |  ((refine plc [1] (hc) ?_ ?_;push_cast [iO,tN];rintro r os ⟨rfl,rfl⟩;push_cast [iO,tN]))|(refine pl_app2 (e:=9) (sz:=1) (by':=16) (rows:=l.map strD) (ys:=[strD s]) 1 rfl (by push_cast [iO,tN]) (by push_cast [iO,tN]) (by push_cast [iO,tN]) (by push_cast [iO,tN]) (by omega) (by push_cast [iO,tN]) (by push_cast [iO,tN]) (by push_cast [iO,tN]) (by push_cast [iO,tN]) (by simp) (by push_cast [iO,tN];omega) (by push_cast [iO,tN];omega) ?_ ?_<;>(refine pl_of_pops ?_;push_cast [iO,tN]))  | ((first|refine pC ?_|refine pQC ?_|refine pU ?_);push_cast [iO,tN])|(refine pif (fun h=>?_) (fun h=>?_)<;>first|exact pN h|push_cast [iO,tN]))
  ·(refine retK_of [0,1] ?_;push_cast [iO,tN,ha])
   all_goals exact ⟨_,_,leP_refl _,leOs_refl _,.inl (by push_cast [iO,tN])⟩
  ·(refine retK_of [0,1,2] ?_;push_cast [iO,tN,ha])
   all_goals exact ⟨_,_,leP_refl _,leOs_refl _,.inr rfl⟩
def stepC (r:Rcd) (l:List ByteArray) (key:ByteArray):List ByteArray:=if (valOf r.props key).isSome && ifaceS ((valOf r.props key).getD ⟨#[]⟩) then addC l ((valOf r.props key).getD ⟨#[]⟩) else l
def candK (r:Rcd) (pol:List ByteArray):List ByteArray:=pol.foldl (stepC r) (if ifaceS r.name then addC [] r.name else [])
def candM (r:Rcd) (pol:List ByteArray) (o:ByteArray):List ByteArray:=addC (candK r pol) o
theorem candK_nil (r:Rcd):candK r []=if ifaceS r.name then addC [] r.name else []:=rfl
theorem candK_next (r:Rcd) {pol:List ByteArray} {k:Nat} (hk:k < pol.length):candK r (pol.take (k+1))=stepC r (candK r (pol.take k)) (pol.getD k default):=by
 unfold candK
 rw [List.take_succ_eq_append_getElem hk,List.foldl_append,← getD_lt pol hk]
 rfl
theorem stepC_len (r:Rcd) (l:List ByteArray) (key:ByteArray):(stepC r l key).length≤l.length+1:=by
 unfold stepC
 split
 ·exact addC_len _ _
 ·omega
set_option maxHeartbeats 8000000 in
theorem cand_pure (d:Dev) (rc:Rcd) (hr:rc.ok) (pol:List ByteArray) (hl:pol.length≤900000) :
  PCalls Tryz.prog 54 [.agg d.e,.agg rc.e,.c (.sl 1 (pol.map strD))] [] fun x os=>x = .c (.sl 1 ((candM rc pol d.original).map strD))∧os=[]:=by
 have hif:=iface_pure rc.name hr.name
 refine pcalls_of Tryz.func54 rfl (by simp [Tryz.ntmps54]) ?_
 rw [Tryz.ntmps54,Tryz.results54]
 push_cast [iO,tN]
 have cB:CutB 13 [21,22,23]:=trivial
 have c0:=cand1_pure [] rc.name (by simp)
 have c0l:=addC_len [] rc.name
 refine pwp_seq fun K0 hK0=>?_
 refine pC ?_
 push_cast [iO,tN]
 refine pU ?_
 refine pwp_seq fun K1 hK1=>?_
 refine pC ?_
 push_cast [iO,tN]
 refine pU ?_
 refine pwp_weak (weak_adopt_box 2 0 9 1 (by omega) 34 [.v (.slice none 0 0)] rfl rfl) ?_
 push_cast [iO,tN]
 cases hi:ifaceS rc.name with
 | true =>
  have hk0:candK rc (pol.take 0)=addC [] rc.name:=by rw [List.take_zero,candK_nil,if_pos hi]
  rw [hi] at hif
  repeat' (first |  ((refine plc [] (hif) ?_ ?_;push_cast [iO,tN];rintro r os ⟨rfl,rfl⟩;push_cast [iO,tN]))|(refine pl_call2 false [2,3] rfl rfl (by kernel_rfl) c0 ?_ nofun ?_;push_cast [iO,tN];rintro r os (rfl|rfl);refine pl_of_pops ?_;push_cast [iO,tN];rotate_left;refine pl_weak (weak_sw 4 (by omega)) ?_;push_cast [iO,tN];refine pl_weak (weak_sw 3 (by omega)) ?_;push_cast [iO,tN];refine pl_weak (weak_sw 4 (by omega)) ?_;push_cast [iO,tN];refine pl_of_pops ?_;push_cast [iO,tN];rotate_left)  | ((first|refine pC ?_|refine pQC ?_|refine pU ?_);push_cast [iO,tN])|(refine pif (fun h=>?_) (fun h=>?_)<;>first|exact pN h|push_cast [iO,tN]))
  all_goals (
   (apply pwp_loop3 (α:=Nat × List ByteArray) 13 [21,22,23] (fun x=>[(23,.c (.v (.int .i64 x.1)))]) (fun x=>[(2,.box 34 [.own 3 x.2.length]),(3,.arr 9 1 (x.2.map strD))]) (fun x=>x.1≤pol.length∧x.2=candK rc (pol.take x.1)∧x.2.length≤x.1+1) (fun x=>pol.length - x.1) ((0,addC [] rc.name));(focus ((try push_cast [iO,tN]);rfl));(focus exact ⟨Nat.zero_le _,hk0.symm,by simp only [List.length_nil] at c0l ⊢;omega⟩);(focus ((refine weak_fg ?_;try push_cast [iO,tN]))))
   rintro ⟨k,u⟩ ⟨h1,h2,h3⟩
   simp only at h1 h2 h3
   push_cast [iO,tN]
   have hadd:=fun v=>cand1_pure u v (by omega)
   by_cases hlt:k < pol.length
   case neg =>
    have hk:k=pol.length:=by omega
    subst hk
    rw [List.take_length] at h2
    have hm:candM rc pol d.original=addC u d.original:=by rw [h2];rfl
    rw [hm]
    repeat' (first |  (refine pl_call2 false [2,3] rfl rfl (by kernel_rfl) (hadd d.original) ?_ nofun ?_;push_cast [iO,tN];rintro r os (rfl|rfl);refine pl_of_pops ?_;push_cast [iO,tN];rotate_left;refine pl_weak (weak_sw 4 (by omega)) ?_;push_cast [iO,tN];refine pl_weak (weak_sw 3 (by omega)) ?_;push_cast [iO,tN];refine pl_weak (weak_sw 4 (by omega)) ?_;push_cast [iO,tN];refine pl_of_pops ?_;push_cast [iO,tN];rotate_left)  | ((first|refine pC ?_|refine pQC ?_|refine pU ?_);push_cast [iO,tN])|(refine pif (fun h=>?_) (fun h=>?_)<;>first|exact pN h|push_cast [iO,tN]))
    all_goals (refine retK_of [] ?_;push_cast [iO,tN])
   have hst:=candK_next rc hlt
   rw [← h2] at hst
   have hsl:=stepC_len rc u (pol.getD k default)
   have hg:=dget_pure rc.props (pol.getD k default) (by have:=hr.props.1;omega)
   cases hv:valOf rc.props (pol.getD k default) with
   | none =>
    rw [hv] at hg
    simp only [Option.isSome_none,Option.getD_none] at hg
    have hs2:stepC rc u (pol.getD k default)=u:=by unfold stepC;rw [hv];rfl
    rw [hs2] at hst
    repeat' (first|((refine plc [] (hg) ?_ ?_;push_cast [iO,tN,hlt];rintro r os ⟨rfl,rfl⟩;push_cast [iO,tN,hlt]))|((first|refine pC ?_|refine pQC ?_|refine pU ?_);push_cast [iO,tN,hlt])|(refine pif (fun h=>?_) (fun h=>?_)<;>first|exact pN h|push_cast [iO,tN,hlt]))
    exact ⟨(k+1,u),⟨by simp only;omega,hst.symm,by simp only;omega⟩,by (refine weak_fg ?_;push_cast [iO,tN]),by simp only;omega⟩
   | some v =>
    rw [hv] at hg
    simp only [Option.isSome_some,Option.getD_some] at hg
    have hvf:Fit v:=hr.props.2 ⟨pol.getD k default,v⟩ (valOf_mem hv)
    have hif2:=iface_pure v hvf
    cases hvi:ifaceS v with
    | false =>
     rw [hvi] at hif2
     have hs2:stepC rc u (pol.getD k default)=u:=by unfold stepC;rw [hv];simp [hvi]
     rw [hs2] at hst
     repeat' (first|((refine plc [] (hg) ?_ ?_;push_cast [iO,tN,hlt];rintro r os ⟨rfl,rfl⟩;push_cast [iO,tN,hlt]))|((refine plc [] (hif2) ?_ ?_;push_cast [iO,tN,hlt];rintro r os ⟨rfl,rfl⟩;push_cast [iO,tN,hlt]))|((first|refine pC ?_|refine pQC ?_|refine pU ?_);push_cast [iO,tN,hlt])|(refine pif (fun h=>?_) (fun h=>?_)<;>first|exact pN h|push_cast [iO,tN,hlt]))
     exact ⟨(k+1,u),⟨by simp only;omega,hst.symm,by simp only;omega⟩,by (refine weak_fg ?_;push_cast [iO,tN]),by simp only;omega⟩
    | true =>
     rw [hvi] at hif2
     have hs2:stepC rc u (pol.getD k default)=addC u v:=by unfold stepC;rw [hv];simp [hvi]
     rw [hs2] at hst hsl
     repeat' (first|((refine plc [] (hg) ?_ ?_;push_cast [iO,tN,hlt];rintro r os ⟨rfl,rfl⟩;push_cast [iO,tN,hlt]))|((refine plc [] (hif2) ?_ ?_;push_cast [iO,tN,hlt];rintro r os ⟨rfl,rfl⟩;push_cast [iO,tN,hlt]))|(refine pl_call2 false [2,3] rfl rfl (by kernel_rfl) (hadd v) ?_ nofun ?_;push_cast [iO,tN,hlt];rintro r os (rfl|rfl);refine pl_of_pops ?_;push_cast [iO,tN,hlt];rotate_left;refine pl_weak (weak_sw 4 (by omega)) ?_;push_cast [iO,tN,hlt];refine pl_weak (weak_sw 3 (by omega)) ?_;push_cast [iO,tN,hlt];refine pl_weak (weak_sw 4 (by omega)) ?_;push_cast [iO,tN,hlt];refine pl_of_pops ?_;push_cast [iO,tN,hlt];rotate_left)|((first|refine pC ?_|refine pQC ?_|refine pU ?_);push_cast [iO,tN,hlt])|(refine pif (fun h=>?_) (fun h=>?_)<;>first|exact pN h|push_cast [iO,tN,hlt]))
     all_goals exact ⟨(k+1,addC u v),⟨by simp only;omega,hst.symm,by simp only;omega⟩,by (refine weak_fg ?_;push_cast [iO,tN]),by simp only;omega⟩)
 | false =>
  have hk0:candK rc (pol.take 0)=[]:=by rw [List.take_zero,candK_nil,hi];rfl
  rw [hi] at hif
  repeat' (first |  ((refine plc [] (hif) ?_ ?_;push_cast [iO,tN];rintro r os ⟨rfl,rfl⟩;push_cast [iO,tN]))  | ((first|refine pC ?_|refine pQC ?_|refine pU ?_);push_cast [iO,tN])|(refine pif (fun h=>?_) (fun h=>?_)<;>first|exact pN h|push_cast [iO,tN]))
  (apply pwp_loop3 (α:=Nat × List ByteArray) 13 [21,22,23] (fun x=>[(23,.c (.v (.int .i64 x.1)))]) (fun x=>[(2,.box 34 [.own 3 x.2.length]),(3,.arr 9 1 (x.2.map strD))]) (fun x=>x.1≤pol.length∧x.2=candK rc (pol.take x.1)∧x.2.length≤x.1+1) (fun x=>pol.length - x.1) ((0,[]));(focus ((try push_cast [iO,tN]);rfl));(focus exact ⟨Nat.zero_le _,hk0.symm,by simp only [List.length_nil] at c0l ⊢;omega⟩);(focus ((refine weak_fg ?_;try push_cast [iO,tN]))))
  rintro ⟨k,u⟩ ⟨h1,h2,h3⟩
  simp only at h1 h2 h3
  push_cast [iO,tN]
  have hadd:=fun v=>cand1_pure u v (by omega)
  by_cases hlt:k < pol.length
  case neg =>
   have hk:k=pol.length:=by omega
   subst hk
   rw [List.take_length] at h2
   have hm:candM rc pol d.original=addC u d.original:=by rw [h2];rfl
   rw [hm]
   repeat' (first |  (refine pl_call2 false [2,3] rfl rfl (by kernel_rfl) (hadd d.original) ?_ nofun ?_;push_cast [iO,tN];rintro r os (rfl|rfl);refine pl_of_pops ?_;push_cast [iO,tN];rotate_left;refine pl_weak (weak_sw 4 (by omega)) ?_;push_cast [iO,tN];refine pl_weak (weak_sw 3 (by omega)) ?_;push_cast [iO,tN];refine pl_weak (weak_sw 4 (by omega)) ?_;push_cast [iO,tN];refine pl_of_pops ?_;push_cast [iO,tN];rotate_left)  | ((first|refine pC ?_|refine pQC ?_|refine pU ?_);push_cast [iO,tN])|(refine pif (fun h=>?_) (fun h=>?_)<;>first|exact pN h|push_cast [iO,tN]))
   all_goals (refine retK_of [] ?_;push_cast [iO,tN])
  have hst:=candK_next rc hlt
  rw [← h2] at hst
  have hsl:=stepC_len rc u (pol.getD k default)
  have hg:=dget_pure rc.props (pol.getD k default) (by have:=hr.props.1;omega)
  cases hv:valOf rc.props (pol.getD k default) with
  | none =>
   rw [hv] at hg
   simp only [Option.isSome_none,Option.getD_none] at hg
   have hs2:stepC rc u (pol.getD k default)=u:=by unfold stepC;rw [hv];rfl
   rw [hs2] at hst
   repeat' (first|((refine plc [] (hg) ?_ ?_;push_cast [iO,tN,hlt];rintro r os ⟨rfl,rfl⟩;push_cast [iO,tN,hlt]))|((first|refine pC ?_|refine pQC ?_|refine pU ?_);push_cast [iO,tN,hlt])|(refine pif (fun h=>?_) (fun h=>?_)<;>first|exact pN h|push_cast [iO,tN,hlt]))
   exact ⟨(k+1,u),⟨by simp only;omega,hst.symm,by simp only;omega⟩,by (refine weak_fg ?_;push_cast [iO,tN]),by simp only;omega⟩
  | some v =>
   rw [hv] at hg
   simp only [Option.isSome_some,Option.getD_some] at hg
   have hvf:Fit v:=hr.props.2 ⟨pol.getD k default,v⟩ (valOf_mem hv)
   have hif2:=iface_pure v hvf
   cases hvi:ifaceS v with
   | false =>
    rw [hvi] at hif2
    have hs2:stepC rc u (pol.getD k default)=u:=by unfold stepC;rw [hv];simp [hvi]
    rw [hs2] at hst
    repeat' (first|((refine plc [] (hg) ?_ ?_;push_cast [iO,tN,hlt];rintro r os ⟨rfl,rfl⟩;push_cast [iO,tN,hlt]))|((refine plc [] (hif2) ?_ ?_;push_cast [iO,tN,hlt];rintro r os ⟨rfl,rfl⟩;push_cast [iO,tN,hlt]))|((first|refine pC ?_|refine pQC ?_|refine pU ?_);push_cast [iO,tN,hlt])|(refine pif (fun h=>?_) (fun h=>?_)<;>first|exact pN h|push_cast [iO,tN,hlt]))
    exact ⟨(k+1,u),⟨by simp only;omega,hst.symm,by simp only;omega⟩,by (refine weak_fg ?_;push_cast [iO,tN]),by simp only;omega⟩
   | true =>
    rw [hvi] at hif2
    have hs2:stepC rc u (pol.getD k default)=addC u v:=by unfold stepC;rw [hv];simp [hvi]
    rw [hs2] at hst hsl
    repeat' (first|((refine plc [] (hg) ?_ ?_;push_cast [iO,tN,hlt];rintro r os ⟨rfl,rfl⟩;push_cast [iO,tN,hlt]))|((refine plc [] (hif2) ?_ ?_;push_cast [iO,tN,hlt];rintro r os ⟨rfl,rfl⟩;push_cast [iO,tN,hlt]))|(refine pl_call2 false [2,3] rfl rfl (by kernel_rfl) (hadd v) ?_ nofun ?_;push_cast [iO,tN,hlt];rintro r os (rfl|rfl);refine pl_of_pops ?_;push_cast [iO,tN,hlt];rotate_left;refine pl_weak (weak_sw 4 (by omega)) ?_;push_cast [iO,tN,hlt];refine pl_weak (weak_sw 3 (by omega)) ?_;push_cast [iO,tN,hlt];refine pl_weak (weak_sw 4 (by omega)) ?_;push_cast [iO,tN,hlt];refine pl_of_pops ?_;push_cast [iO,tN,hlt];rotate_left)|((first|refine pC ?_|refine pQC ?_|refine pU ?_);push_cast [iO,tN,hlt])|(refine pif (fun h=>?_) (fun h=>?_)<;>first|exact pN h|push_cast [iO,tN,hlt]))
    all_goals exact ⟨(k+1,addC u v),⟨by simp only;omega,hst.symm,by simp only;omega⟩,by (refine weak_fg ?_;push_cast [iO,tN]),by simp only;omega⟩
end Go.Proofs.YthconflkbeipoaaGreatDoor
