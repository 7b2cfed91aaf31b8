/- What the program computes, and the plain laws of it, part 33. -/
import Derived.Lib.Join
import Derived.Test.YtmjffgienmcabaaGreatDoorS32
namespace Go.Proofs.YtmjffgienmcabaaGreatDoor
open Go.RowKit
open IntWalk renaming iteOmega → iO, toNatUp → tN
set_option linter.unusedVariables false
set_option linter.unusedSimpArgs false
def findD (l:List Dev) (n:Int):Option Dev:=l.find? fun d=>decide (d.index=n)
def chainGo (l:List Dev):Nat → Int → List Dev
 | 0,_=>[]
 | k+1,n=>match findD l n with
  | none=>[]
  | some d=>d :: chainGo l k d.parent
def chainM (l:List Dev) (n:Int):List Dev:=chainGo l l.length n
def origM (l:List Dev) (n:Int):List ByteArray:=((chainM l n).map Dev.original).reverse
structure Okt (l:List Dev):Prop where
 pos:∀ d ∈ l,1≤d.index
 nodup:(l.map Dev.index).Nodup
 par:∀ (i:Nat) (h:i < l.length),l[i].parent=0∨∃ (j:Nat) (hj:j < i),l[j].index=l[i].parent
 val:∀ d ∈ l,validS d.original=true
 dist:∀ d ∈ l,∀ e ∈ l,origM l d.index=origM l e.index → d=e
theorem findD_some {l:List Dev} {n:Int} {d:Dev} (h:findD l n=some d):d ∈ l∧d.index=n :=
 ⟨List.mem_of_find?_eq_some h,by simpa using List.find?_some h⟩
theorem findD_none {l:List Dev} {n:Int}:findD l n=none ↔ ∀ d ∈ l,d.index≠n:=by
 unfold findD
 rw [List.find?_eq_none]
 simp
theorem findD_mem {l:List Dev} (hn:(l.map Dev.index).Nodup) {d:Dev} (hd:d ∈ l):findD l d.index=some d:=by
 induction l with
 | nil=>simp at hd
 | cons x l ih =>
  unfold findD
  rw [List.map_cons,List.nodup_cons] at hn
  by_cases he:x.index=d.index
  ·rw [List.find?_cons_of_pos (by simpa using he)]
   rcases List.mem_cons.1 hd with rfl|hd
   ·rfl
   ·exact absurd (by rw [he];exact List.mem_map.2 ⟨d,hd,rfl⟩) hn.1
  ·rw [List.find?_cons_of_neg (by simpa using he)]
   rcases List.mem_cons.1 hd with rfl|hd
   ·exact absurd rfl he
   ·exact ih hn.2 hd
theorem chainGo_none {l:List Dev} {n:Int} (h:findD l n=none) (k:Nat):chainGo l k n=[]:=by
 cases k with
 | zero=>rfl
 | succ k=>rw [chainGo,h]
theorem chainGo_some {l:List Dev} {n:Int} {d:Dev} (h:findD l n=some d) (k:Nat):chainGo l (k+1) n=d :: chainGo l k d.parent:=by rw [chainGo,h]
structure Okp (l:List Dev):Prop where
 pos:∀ d ∈ l,1≤d.index
 nodup:(l.map Dev.index).Nodup
 par:∀ (i:Nat) (h:i < l.length),l[i].parent=0∨∃ (j:Nat) (hj:j < i),l[j].index=l[i].parent
theorem Okt.p {l:List Dev} (h:Okt l):Okp l:=⟨h.pos,h.nodup,h.par⟩
theorem find0 {l:List Dev} (h:∀ d ∈ l,1≤d.index) {n:Int} (hn:n≤0):findD l n=none:=findD_none.2 fun d hd e=>by have:=h d hd;omega
theorem chain_fuel {l:List Dev} (h:Okp l):∀ (i:Nat) (hi:i < l.length) (k:Nat),i+1≤k → chainGo l k l[i].index=chainGo l (i+1) l[i].index:=by
 intro i
 induction i using Nat.strongRecOn with
 | ind i ih =>
  intro hi k hk
  obtain ⟨k',rfl⟩:∃ k',k=k'+1:=⟨k - 1,by omega⟩
  have hf:=findD_mem h.nodup (List.getElem_mem hi)
  rw [chainGo_some hf,chainGo_some hf]
  congr 1
  rcases h.par i hi with h0|⟨j,hj,hp⟩
  ·rw [h0,chainGo_none (find0 h.pos (by omega)),chainGo_none (find0 h.pos (by omega))]
  ·rw [← hp,ih j hj (by omega) k' (by omega),ih j hj (by omega) i (by omega)]
theorem chain_step {l:List Dev} (h:Okp l) {d:Dev} (hd:d ∈ l):chainM l d.index=d :: chainM l d.parent:=by
 obtain ⟨i,hi,rfl⟩:=List.getElem_of_mem hd
 have hf:=findD_mem h.nodup hd
 unfold chainM
 obtain ⟨n,hn⟩:∃ n,l.length=n+1:=⟨l.length - 1,by omega⟩
 rw [hn,chainGo_some hf]
 congr 1
 rcases h.par i hi with h0|⟨j,hj,hp⟩
 ·rw [h0,chainGo_none (find0 h.pos (by omega)),chainGo_none (find0 h.pos (by omega))]
 ·rw [← hp,chain_fuel h j (by omega) n (by omega),chain_fuel h j (by omega) (n+1) (by omega)]
theorem chain_none {l:List Dev} {n:Int} (h:findD l n=none):chainM l n=[]:=chainGo_none h _
theorem orig_step {l:List Dev} (h:Okp l) {d:Dev} (hd:d ∈ l):origM l d.index=origM l d.parent++[d.original]:=by
 unfold origM
 rw [chain_step h hd]
 simp
theorem orig_none {l:List Dev} {n:Int} (h:findD l n=none):origM l n=[]:=by unfold origM;rw [chain_none h];rfl
theorem chainGo_len {l:List Dev}:∀ (k:Nat) (n:Int),(chainGo l k n).length≤k
 | 0,_=>by simp [chainGo]
 | k+1,n=>by
  rw [chainGo]
  split
  ·simp
  ·have:=chainGo_len (l:=l) k (by assumption:Dev).parent
   simp only [List.length_cons];omega
theorem chain_len (l:List Dev) (n:Int):(chainM l n).length≤l.length:=chainGo_len _ _
theorem orig_len (l:List Dev) (n:Int):(origM l n).length≤l.length:=by unfold origM;rw [List.length_reverse,List.length_map];exact chain_len l n
def beneath (a b:ByteArray):Bool:=Lib.hasPrefix b.data.toList (a++⟨#[47]⟩).data.toList
def clashM (a b:Dev):Bool:=((decide (a.kind=4) && decide (b.kind=4)) && decide (a.name=b.name)) || ((hasN a && hasN b) && (((decide (a.kind=b.kind) && decide (a.number=b.number)) || decide (nodeM a=nodeM b)) || (beneath (nodeM a) (nodeM b) || beneath (nodeM b) (nodeM a))))
def atM (l:List Dev) (own:List ByteArray) (n:Nat):Nat:=(List.range n).foldl (fun a i=>if cmpL (origM l (l.getD i default).index) own < 0 then i+1 else a) 0
theorem atM_succ (l:List Dev) (own:List ByteArray) (n:Nat):atM l own (n+1)=if cmpL (origM l (l.getD n default).index) own < 0 then n+1 else atM l own n:=by
 unfold atM
 rw [List.range_succ,List.foldl_append]
 rfl
theorem atM_le (l:List Dev) (own:List ByteArray):∀ n,atM l own n≤n
 | 0=>by simp [atM]
 | n+1=>by
  rw [atM_succ]
  have:=atM_le l own n
  split<;>omega
theorem atM_ge (l:List Dev) (own:List ByteArray) {j:Nat} (h:cmpL (origM l (l.getD j default).index) own < 0):∀ n,j < n → j+1≤atM l own n
 | 0,hn=>by omega
 | n+1,hn=>by
  rw [atM_succ]
  by_cases e:j=n
  ·subst e;rw [if_pos h];exact Nat.le_refl _
  ·have:=atM_ge l own h n (by omega)
   split<;>omega
def bad1 (l:List Dev) (own:List ByteArray) (d:Dev) (x:Dev):Bool:=decide (cmpL (origM l x.index) own=0) || clashM x d
def ownM (l:List Dev) (d:Dev):List ByteArray:=origM l d.parent++[d.original]
def insErr (l:List Dev) (d:Dev):Int :=
 if checkM d≠0 then 41 else if (findD l d.index).isSome then 44 else if d.parent≠0∧(findD l d.parent).isNone then 42 else if 256≤l.length then 40 else if 7 < (ownM l d).length then 46 else if l.any (bad1 l (ownM l d) d) then 44 else 0
def insT (l:List Dev) (d:Dev):List Dev:=l.take (atM l (ownM l d) l.length)++[d]++l.drop (atM l (ownM l d) l.length)
theorem cmpL_pre:∀ (a:List ByteArray) (x:ByteArray),cmpL a (a++[x]) < 0
 | [],x=>by simp [cmpL]
 | y :: a,x=>by rw [List.cons_append,cmpL,if_pos rfl];exact cmpL_pre a x
theorem checkM_nums {d:Dev} (h:checkM d=0):numsM d=true:=by
 cases hn:numsM d with
 | true=>rfl
 | false=>unfold checkM at h;rw [hn] at h;simp at h
theorem checkM_named {d:Dev} (h:checkM d=0):namedM d=true:=by
 cases hn:namedM d with
 | true=>rfl
 | false =>
  have h1:=checkM_nums h
  unfold checkM at h
  rw [hn,h1] at h
  simp at h
theorem check_index {d:Dev} (h:checkM d=0):1≤d.index∧d.index≤1073741824:=by
 have:=checkM_nums h
 unfold numsM at this
 simp only [Bool.and_eq_true,decide_eq_true_eq] at this
 exact this.1.1
theorem check_orig {d:Dev} (h:checkM d=0):validS d.original=true:=by
 have:=checkM_named h
 unfold namedM at this
 simp only [Bool.and_eq_true] at this
 exact this.1.1.1.2
theorem Okt.nil:Okt []:=⟨by simp,by simp,fun i h=>by simp at h,by simp,by simp⟩
theorem putl_get {α:Type} (l:List α) (d:α) (k:Nat) (hk:k≤l.length) (i:Nat):(l.take k++[d]++l.drop k)[i]? = if i < k then l[i]? else if i=k then some d else l[i - 1]?:=by
 rw [List.append_assoc,List.getElem?_append,List.length_take,Nat.min_eq_left hk]
 split
 ·rename_i h;rw [List.getElem?_take_of_lt h]
 ·rename_i h
  rw [List.singleton_append]
  by_cases e:i=k
  ·subst e;simp
  ·rw [if_neg e]
   obtain ⟨m,hm⟩:∃ m,i - k=m+1:=⟨i - k - 1,by omega⟩
   rw [hm,List.getElem?_cons_succ,List.getElem?_drop]
   congr 1
   omega
theorem put_mem {α:Type} {l:List α} {d x:α} {k:Nat}:x ∈ l.take k++[d]++l.drop k ↔ x=d∨x ∈ l:=by
 rw [List.append_assoc,List.mem_append,List.singleton_append,List.mem_cons]
 constructor
 ·rintro (h|h|h)
  ·exact .inr (List.mem_of_mem_take h)
  ·exact .inl h
  ·exact .inr (List.mem_of_mem_drop h)
 ·rintro (h|h)
  ·exact .inr (.inl h)
  ·rw [← List.take_append_drop k l,List.mem_append] at h
   rcases h with h|h
   ·exact .inl h
   ·exact .inr (.inr h)
theorem put_perm {α:Type} (l:List α) (d:α) (k:Nat):(l.take k++[d]++l.drop k).Perm (d :: l):=by
 rw [List.append_assoc,List.singleton_append]
 refine (List.perm_middle).trans ?_
 rw [List.take_append_drop]
theorem okp_get {l:List Dev} (h:Okp l) {i:Nat} {d:Dev} (hd:l[i]? = some d):d.parent=0∨∃ (j:Nat) (e:Dev),j < i∧l[j]? = some e∧e.index=d.parent:=by
 obtain ⟨hi,rfl⟩:=List.getElem?_eq_some_iff.1 hd
 rcases h.par i hi with h0|⟨j,hj,hp⟩
 ·exact .inl h0
 ·exact .inr ⟨j,_,hj,List.getElem?_eq_getElem (by omega),hp⟩
theorem okp_put {l:List Dev} (h:Okp l) {d:Dev} (k:Nat) (hk:k≤l.length) (h1:1≤d.index) (hf:findD l d.index=none) (hp:d.parent=0∨∃ (j:Nat) (e:Dev),j < k∧l[j]? = some e∧e.index=d.parent):Okp (l.take k++[d]++l.drop k):=by
 refine ⟨fun x hx=>?_,?_,fun i hi=>?_⟩
 ·rcases put_mem.1 hx with rfl|hx
  ·exact h1
  ·exact h.pos x hx
 ·rw [((put_perm l d k).map Dev.index).nodup_iff,List.map_cons,List.nodup_cons]
  refine ⟨fun hm=>?_,h.nodup⟩
  obtain ⟨x,hx,he⟩:=List.mem_map.1 hm
  exact findD_none.1 hf x hx he
 ·have hg:=putl_get l d k hk
  have up:∀ (j:Nat) (e:Dev),l[j]? = some e → (j < k∧(l.take k++[d]++l.drop k)[j]? = some e)∨(k≤j∧(l.take k++[d]++l.drop k)[j+1]? = some e):=fun j e he=>by
   by_cases hj:j < k
   ·exact .inl ⟨hj,by rw [hg,if_pos hj];exact he⟩
   ·exact .inr ⟨by omega,by rw [hg,if_neg (by omega),if_neg (by omega)];simpa using he⟩
  have fin:∀ (j:Nat) (e:Dev),j < i → (l.take k++[d]++l.drop k)[j]? = some e → e.index=(l.take k++[d]++l.drop k)[i].parent → ∃ (j:Nat) (hj:j < i),(l.take k++[d]++l.drop k)[j].index=(l.take k++[d]++l.drop k)[i].parent:=fun j e hj he hx=>by
   obtain ⟨h3,h4⟩:=List.getElem?_eq_some_iff.1 he
   exact ⟨j,hj,by rw [h4];exact hx⟩
  have hx:(l.take k++[d]++l.drop k)[i]? = some (l.take k++[d]++l.drop k)[i]:=List.getElem?_eq_getElem hi
  generalize (l.take k++[d]++l.drop k)[i]=x at hx fin ⊢
  rw [hg] at hx
  split at hx
  ·rcases okp_get h hx with h0|⟨j,e,hj,he,hi2⟩
   ·exact .inl h0
   ·rcases up j e he with ⟨_,h3⟩|⟨h3,_⟩
    ·exact .inr (fin j e hj h3 hi2)
    ·omega
  ·split at hx
   ·rename_i hik
    cases hx
    rcases hp with h0|⟨j,e,hj,he,hi2⟩
    ·exact .inl h0
    ·rcases up j e he with ⟨_,h3⟩|⟨h3,_⟩
     ·exact .inr (fin j e (by omega) h3 hi2)
     ·omega
   ·rcases okp_get h hx with h0|⟨j,e,hj,he,hi2⟩
    ·exact .inl h0
    ·rcases up j e he with ⟨_,h3⟩|⟨_,h3⟩
     ·exact .inr (fin j e (by omega) h3 hi2)
     ·exact .inr (fin (j+1) e (by omega) h3 hi2)
theorem chain_same {l m:List Dev} (hl:Okp l) (hm:Okp m) (hsub:∀ d ∈ l,d ∈ m → d.parent=0∨∃ e ∈ l,e ∈ m∧e.index=d.parent):∀ (i:Nat) (hi:i < l.length),l[i] ∈ m → chainM l l[i].index=chainM m l[i].index:=by
 intro i
 induction i using Nat.strongRecOn with
 | ind i ih =>
  intro hi him
  have hil:l[i] ∈ l:=List.getElem_mem hi
  rw [chain_step hl hil,chain_step hm him]
  congr 1
  rcases hsub _ hil him with h0|⟨e,he,hem,hx⟩
  ·rw [h0,chain_none (find0 hl.pos (by omega)),chain_none (find0 hm.pos (by omega))]
  ·rcases hl.par i hi with h0|⟨j,hj,hp⟩
   ·rw [h0] at hx;have:=hl.pos e he;omega
   ·have hj2:j < l.length:=by omega
    have hee:l[j]=e:=by
     have h1:=findD_mem hl.nodup he
     have h2:=findD_mem hl.nodup (List.getElem_mem hj2)
     rw [hp,← hx,h1] at h2
     exact (Option.some.inj h2).symm
    rw [← hp]
    exact ih j hj hj2 (by rw [hee];exact hem)
theorem orig_same {l m:List Dev} (hl:Okp l) (hm:Okp m) (hsub:∀ d ∈ l,d ∈ m → d.parent=0∨∃ e ∈ l,e ∈ m∧e.index=d.parent) {d:Dev} (hd:d ∈ l) (hdm:d ∈ m):origM l d.index=origM m d.index:=by
 obtain ⟨i,hi,rfl⟩:=List.getElem_of_mem hd
 unfold origM
 rw [chain_same hl hm hsub i hi hdm]
theorem find_of_any {l:List Dev} {n:Int} (h:(findD l n).isNone=false):∃ (j:Nat) (e:Dev),l[j]? = some e∧e.index=n:=by
 cases hf:findD l n with
 | none=>rw [hf] at h;cases h
 | some e =>
  obtain ⟨h1,h2⟩:=findD_some hf
  obtain ⟨j,hj,rfl⟩:=List.getElem_of_mem h1
  exact ⟨j,_,List.getElem?_eq_getElem hj,h2⟩
theorem ins_split {l:List Dev} {d:Dev} (h:insErr l d=0):checkM d=0∧findD l d.index=none∧(d.parent=0∨(findD l d.parent).isNone=false)∧l.length < 256∧(ownM l d).length≤7∧∀ x ∈ l,bad1 l (ownM l d) d x=false:=by
 unfold insErr at h
 split at h
 ·cases h
 rename_i h1
 split at h
 ·cases h
 rename_i h2
 split at h
 ·cases h
 rename_i h3
 split at h
 ·cases h
 rename_i h4
 split at h
 ·cases h
 rename_i h5
 split at h
 ·cases h
 rename_i h6
 refine ⟨by simpa using h1,by simpa using h2,?_,by omega,by omega,fun x hx=>?_⟩
 ·by_cases e:d.parent=0
  ·exact .inl e
  ·exact .inr (by cases hq:(findD l d.parent).isNone with|false=>rfl|true=>exact absurd ⟨e,hq⟩ h3)
 ·cases hb:bad1 l (ownM l d) d x with
  | false=>rfl
  | true=>exact absurd (List.any_eq_true.2 ⟨x,hx,hb⟩) h6
theorem Okt.ins {l:List Dev} (h:Okt l) {d:Dev} (hi:insErr l d=0):Okt (insT l d)∧(∀ x ∈ l,origM (insT l d) x.index=origM l x.index):=by
 obtain ⟨h1,h2,h3,h4,h5,h6⟩:=ins_split hi
 have hle:=atM_le l (ownM l d) l.length
 have hpar:d.parent=0∨∃ (j:Nat) (e:Dev),j < atM l (ownM l d) l.length∧l[j]? = some e∧e.index=d.parent:=by
  rcases h3 with h3|h3
  ·exact .inl h3
  ·obtain ⟨j,e,hj,he⟩:=find_of_any h3
   obtain ⟨hj2,hj3⟩:=List.getElem?_eq_some_iff.1 hj
   have hc:cmpL (origM l (l.getD j default).index) (ownM l d) < 0:=by
    rw [getD_lt l hj2,hj3,he]
    exact cmpL_pre _ _
   exact .inr ⟨j,e,by have:=atM_ge l (ownM l d) hc l.length hj2;omega,hj,he⟩
 have hok:Okp (insT l d):=okp_put h.p _ hle (check_index h1).1 h2 hpar
 have hmem:∀ x,x ∈ insT l d ↔ x=d∨x ∈ l:=fun x=>put_mem
 have hsame:∀ x ∈ l,origM (insT l d) x.index=origM l x.index:=fun x hx=>by
  refine (orig_same h.p hok (fun y hy hy2=>?_) hx ((hmem x).2 (.inr hx))).symm
  obtain ⟨i,hi2,rfl⟩:=List.getElem_of_mem hy
  rcases h.par i hi2 with h0|⟨j,hj,hp⟩
  ·exact .inl h0
  ·exact .inr ⟨l[j],List.getElem_mem _,(hmem _).2 (.inr (List.getElem_mem _)),hp⟩
 have hown:origM (insT l d) d.index=ownM l d:=by
  rw [orig_step hok ((hmem d).2 (.inl rfl)),ownM]
  congr 1
  rcases h3 with h3|h3
  ·rw [h3,orig_none (find0 hok.pos (by omega)),orig_none (find0 h.pos (by omega))]
  ·obtain ⟨j,e,hj,he⟩:=find_of_any h3
   rw [← he]
   exact hsame e (List.mem_of_getElem? hj)
 refine ⟨⟨hok.pos,hok.nodup,hok.par,fun x hx=>?_,fun x hx y hy he=>?_⟩,hsame⟩
 ·rcases (hmem x).1 hx with rfl|hx
  ·exact check_orig h1
  ·exact h.val x hx
 ·have hno:∀ x ∈ l,origM l x.index≠ownM l d:=fun x hx e=>by
   have:=h6 x hx
   unfold bad1 at this
   rw [Bool.or_eq_false_iff] at this
   exact absurd (cmpL_eq.2 e) (by simpa using this.1)
  rcases (hmem x).1 hx with rfl|hx'<;>rcases (hmem y).1 hy with rfl|hy'
  ·rfl
  ·rw [hown,hsame y hy'] at he
   exact absurd he.symm (hno y hy')
  ·rw [hown,hsame x hx'] at he
   exact absurd he (hno x hx')
  ·rw [hsame x hx',hsame y hy'] at he
   exact h.dist x hx' y hy' he
def belowM (l:List Dev) (m top:Int):Bool:=(chainM l m).any fun d=>decide (d.index=top)
def remT (l:List Dev) (n:Int):List Dev:=l.filter fun d=>!belowM l d.index n
theorem Okt.rem {l:List Dev} (h:Okt l) (n:Int):Okt (remT l n)∧(∀ x ∈ remT l n,origM (remT l n) x.index=origM l x.index):=by
 have hmem:∀ x,x ∈ remT l n ↔ x ∈ l∧belowM l x.index n=false:=fun x=>by unfold remT;rw [List.mem_filter];simp
 have hup:∀ x ∈ l,∀ e ∈ l,e.index=x.parent → belowM l x.index n=false → belowM l e.index n=false:=fun x hx e he hp hb=>by
  unfold belowM at hb ⊢
  rw [chain_step h.p hx,← hp,List.any_cons,Bool.or_eq_false_iff] at hb
  exact hb.2
 have hok:Okp (remT l n):=by
  refine ⟨fun x hx=>h.pos x ((hmem x).1 hx).1,h.nodup.sublist (List.filter_sublist.map _),fun i hi=>?_⟩
  have hs:remT l n=(remT l n).take i++(remT l n)[i] :: (remT l n).drop (i+1):=by rw [← List.drop_eq_getElem_cons hi,List.take_append_drop]
  have hs2:=hs
  conv at hs2=>lhs;unfold remT
  obtain ⟨l1,l2,e1,e2,e3⟩:=List.filter_eq_append_iff.1 hs2
  obtain ⟨l3,l4,e4,e5,e6,e7⟩:=List.filter_eq_cons_iff.1 e3
  have hil:(remT l n)[i] ∈ l:=((hmem _).1 (List.getElem_mem hi)).1
  have hib:=((hmem _).1 (List.getElem_mem hi)).2
  generalize (remT l n)[i]=x at hil hib e4 e6
  have hpos:l[l1.length+l3.length]? = some x:=by
   rw [e1,e4,List.getElem?_append_right (by omega),List.getElem?_append_right (by omega)]
   have:l1.length+l3.length - l1.length - l3.length=0:=by omega
   rw [this];rfl
  rcases okp_get h.p hpos with h0|⟨j,e,hj,he,hp⟩
  ·exact .inl h0
  ·right
   have hel:e ∈ l:=List.mem_of_getElem? he
   have heb:=hup _ hil e hel hp hib
   have he1:e ∈ l1:=by
    rw [e1,e4] at he
    by_cases hj1:j < l1.length
    ·rw [List.getElem?_append_left hj1] at he
     exact List.mem_of_getElem? he
    ·rw [List.getElem?_append_right (by omega),List.getElem?_append_left (by omega)] at he
     have:=e5 e (List.mem_of_getElem? he)
     simp [heb] at this
   have he2:e ∈ (remT l n).take i:=by
    rw [← e2,List.mem_filter]
    exact ⟨he1,by simp [heb]⟩
   obtain ⟨j',hj',hx⟩:=List.mem_take_iff_getElem.1 he2
   exact ⟨j',by omega,by rw [hx];exact hp⟩
 have hsame:∀ x ∈ remT l n,origM (remT l n) x.index=origM l x.index:=fun x hx=>by
  refine orig_same hok h.p (fun y hy hy2=>?_) hx ((hmem x).1 hx).1
  obtain ⟨i,hi2,rfl⟩:=List.getElem_of_mem hy
  rcases hok.par i hi2 with h0|⟨j,hj,hp⟩
  ·exact .inl h0
  ·exact .inr ⟨_,List.getElem_mem _,((hmem _).1 (List.getElem_mem (by omega))).1,hp⟩
 refine ⟨⟨hok.pos,hok.nodup,hok.par,fun x hx=>h.val x ((hmem x).1 hx).1,fun x hx y hy he=>?_⟩,hsame⟩
 rw [hsame x hx,hsame y hy] at he
 exact h.dist x ((hmem x).1 hx).1 y ((hmem y).1 hy).1 he
end Go.Proofs.YtmjffgienmcabaaGreatDoor
namespace Go.Proofs.YtmjffgienmcabaaGreatDoor
attribute [local irreducible] PL QL PWPr PCalls Weak RetK Kontr PA
open Go.RowKit
open IntWalk renaming iteOmega → iO, toNatUp → tN
set_option linter.unusedVariables false
set_option linter.unusedSimpArgs false
set_option maxRecDepth 20000
def idxI:List Dev → Int → Int
 | [],_ => -1
 | d :: l,n=>if d.index=n then 0 else if idxI l n < 0 then -1 else idxI l n+1
theorem idxI_find (n:Int):∀ l:List Dev,(idxI l n = -1∧findD l n=none)∨∃ i:Nat,idxI l n=i∧i < l.length∧findD l n=some (l.getD i default)
 | []=>.inl ⟨rfl,rfl⟩
 | d :: l=>by
  by_cases h:d.index=n
  ·exact .inr ⟨0,by simp [idxI,h],by simp,by simp [findD,h]⟩
  ·have hf:findD (d :: l) n=findD l n:=by unfold findD;rw [List.find?_cons_of_neg (by simpa using h)]
   rw [hf,idxI,if_neg h]
   rcases idxI_find n l with ⟨h1,h2⟩|⟨i,h1,h2,h3⟩
   ·exact .inl ⟨by rw [h1];rfl,h2⟩
   ·exact .inr ⟨i+1,by rw [h1,if_neg (by omega)];omega,by simp only [List.length_cons];omega,by rw [h3];rfl⟩
theorem idxI_skip {n:Int} {b:List Dev}:∀ {a:List Dev},(∀ d ∈ a,d.index≠n) → idxI (a++b) n=if idxI b n < 0 then -1 else a.length+idxI b n
 | [],_=>by
  rcases idxI_find n b with ⟨h1,_⟩|⟨i,h1,_⟩
  ·simp [h1]
  ·rw [List.nil_append,h1,if_neg (by omega)];simp
 | x :: a,h=>by
  rw [List.cons_append,idxI,if_neg (h x (by simp)),idxI_skip fun d hd=>h d (by simp [hd])]
  split
  ·simp
  ·rw [if_neg (by omega),List.length_cons];omega
theorem idxI_at {l:List Dev} {n:Int} {k:Nat} (hk:k < l.length) (h0:∀ d ∈ l.take k,d.index≠n) (h:(l.getD k default).index=n):idxI l n=k:=by
 have e:l=l.take k++l[k] :: l.drop (k+1):=by rw [← List.drop_eq_getElem_cons hk,List.take_append_drop]
 rw [getD_lt l hk] at h
 rw [e,idxI_skip h0,idxI,if_pos h,List.length_take]
 simp
 omega
theorem idxI_none {l:List Dev} {n:Int} (h:∀ d ∈ l,d.index≠n):idxI l n = -1:=by
 rcases idxI_find n l with ⟨h1,_⟩|⟨i,_,h2,h3⟩
 ·exact h1
 ·rw [findD_none.2 h] at h3;cases h3
theorem dnext {l:List Dev} {n:Int} {k:Nat} (hk:k < l.length) (h0:∀ d ∈ l.take k,d.index≠n) (h:¬ (l.getD k default).index=n):∀ d ∈ l.take (k+1),d.index≠n:=by
 intro y hy
 rw [List.take_succ_eq_append_getElem hk,List.mem_append,List.mem_singleton] at hy
 rcases hy with hy|hy
 ·exact h0 y hy
 ·rw [hy,← getD_lt l hk];exact h
set_option maxHeartbeats 1000000 in
theorem rindex_pure (l:List Dev) (n:Int) (hl:l.length≤1000000000) :
  PCalls Tryz.prog 39 [.c (.sl 10 (l.map Dev.d)),.c (.v (.int .i64 n))] [] fun r os=>r = .c (.v (.int .i64 (idxI l n)))∧os=[]:=by
 refine pcalls_of Tryz.func39 rfl (by simp [Tryz.ntmps39]) ?_
 rw [Tryz.ntmps39,Tryz.results39]
 push_cast [iO,tN]
 have cB:CutB 6 []:=trivial
 repeat' (first|((first|refine pC ?_|refine pQC ?_|refine pU ?_);push_cast [iO,tN])|(refine pif (fun h=>?_) (fun h=>?_)<;>first|exact pN h|push_cast [iO,tN]))
 (apply pwp_loop3 (α:=Nat) 6 [] (fun k=>[(5,.c (.v (.int .i64 k)))]) (fun k=>[]) (fun k=>k≤l.length∧∀ d ∈ l.take k,d.index≠n) (fun k=>l.length - k) (0);(focus ((try push_cast [iO,tN]);rfl));(focus exact ⟨by omega,by simp⟩);(focus ((refine weak_fg ?_;try push_cast [iO,tN]))))
 rintro k ⟨hk,h0⟩
 push_cast [iO,tN]
 by_cases hlt:k < l.length
 ·by_cases hn:(l.getD k default).index=n
  ·have hg:=idxI_at hlt h0 hn
   have hn':=eq_true hn
   repeat' (first|((first|refine pC ?_|refine pQC ?_|refine pU ?_);push_cast [iO,tN,hn'])|(refine pif (fun h=>?_) (fun h=>?_)<;>first|exact pN h|push_cast [iO,tN,hn']))
   (refine retK_of [] ?_;push_cast [iO,tN])
   all_goals rw [hg]
  ·have h1:=dnext hlt h0 hn
   repeat' (first|((first|refine pC ?_|refine pQC ?_|refine pU ?_);push_cast [iO,tN,hn])|(refine pif (fun h=>?_) (fun h=>?_)<;>first|exact pN h|push_cast [iO,tN,hn]))
   exact ⟨k+1,⟨by omega,h1⟩,by (refine weak_fg ?_;push_cast [iO,tN]),by omega⟩
 ·rw [List.take_of_length_le (by omega)] at h0
  have hg:=idxI_none h0
  repeat' (first|((first|refine pC ?_|refine pQC ?_|refine pU ?_);push_cast [iO,tN])|(refine pif (fun h=>?_) (fun h=>?_)<;>first|exact pN h|push_cast [iO,tN]))
  (refine retK_of [] ?_;push_cast [iO,tN])
  all_goals rw [hg]
set_option maxHeartbeats 1000000 in
theorem rfind_pure (l:List Dev) (n:Int) (hl:l.length≤1000000000) :
  PCalls Tryz.prog 31 [.agg (trE l),.c (.v (.int .i64 n))] [] fun r os=>r = .two (.agg ((findD l n).getD default).e) (.c (.v (.bool ((findD l n).isSome))))∧os=[]:=by
 have hi:=rindex_pure l n hl
 refine pcalls_of Tryz.func31 rfl (by simp [Tryz.ntmps31]) ?_
 rw [Tryz.ntmps31,Tryz.results31]
 rcases idxI_find n l with ⟨h1,h2⟩|⟨i,h1,h2,h3⟩
 ·rw [h1] at hi
  rw [h2]
  push_cast [iO,tN]
  repeat' (first |  (refine plc [] (hi) ?_ ?_;push_cast [iO,tN];rintro r os ⟨rfl,rfl⟩;push_cast [iO,tN])  | ((first|refine pG ?_|refine pQ ?_|refine pU ?_);push_cast [iO,tN])|(refine pif (fun h=>?_) (fun h=>?_)<;>first|exact pN h|push_cast [iO,tN]))
  (refine retK_of [] ?_;push_cast [iO,tN])
  all_goals exact ⟨⟨rfl,rfl,rfl,rfl,rfl,rfl,rfl,rfl,rfl,rfl⟩,rfl⟩
 ·rw [h1] at hi
  rw [h3]
  push_cast [iO,tN]
  repeat' (first |  (refine plc [] (hi) ?_ ?_;push_cast [iO,tN];rintro r os ⟨rfl,rfl⟩;push_cast [iO,tN])  | ((first|refine pG ?_|refine pQ ?_|refine pU ?_);push_cast [iO,tN])|(refine pif (fun h=>?_) (fun h=>?_)<;>first|exact pN h|push_cast [iO,tN]))
  (refine retK_of [] ?_;push_cast [iO,tN])
  all_goals exact ⟨⟨rfl,rfl,rfl,rfl,rfl,rfl,rfl,rfl,rfl,rfl⟩,rfl⟩
set_option maxRecDepth 20000
set_option maxHeartbeats 1000000 in
theorem rchain_pure (l:List Dev) (n:Int) (hl:l.length≤1000000) :
  PCalls Tryz.prog 77 [.agg (trE l),.c (.v (.int .i64 n))] [] fun r os=>r = .c (.sl 10 ((chainM l n).map Dev.d))∧os=[]:=by
 refine pcalls_of Tryz.func77 rfl (by simp [Tryz.ntmps77]) ?_
 rw [Tryz.ntmps77,Tryz.results77]
 push_cast [iO,tN]
 have cB:CutB 8 []:=trivial
 repeat' (first|((first|refine pC ?_|refine pQC ?_|refine pU ?_);push_cast [iO,tN])|(refine pif (fun h=>?_) (fun h=>?_)<;>first|exact pN h|push_cast [iO,tN]))
 refine pwp_weak (weak_adopt 5 48 10 (by omega) (by push_cast [iO,tN])) ?_
 push_cast [iO,tN]
 (apply pwp_loop3 (α:=List Dev × Int) 8 [] (fun x=>[(1,.c (.v (.int .i64 x.2))),(5,.c (.own 1 (x.1.length)))]) (fun x=>[(1,.arr 48 10 (x.1.map Dev.d))]) (fun x=>x.1++chainGo l (l.length - x.1.length) x.2=chainM l n∧x.1.length≤l.length) (fun x=>l.length - x.1.length) (([],n));(focus ((try push_cast [iO,tN]);rfl));(focus exact ⟨by simp [chainM],by simp⟩);(focus ((refine weak_fg ?_;try push_cast [iO,tN]))))
 rintro ⟨acc,m⟩ ⟨h1,h2⟩
 simp only at h1 h2
 push_cast [iO,tN]
 by_cases hlt:acc.length < l.length
 ·have hf:=rfind_pure l m (by omega)
  obtain ⟨k,hk⟩:∃ k,l.length - acc.length=k+1:=⟨l.length - acc.length - 1,by omega⟩
  rw [hk] at h1
  cases hx:findD l m with
  | none =>
   simp only [hx,Option.getD_none,Option.isSome_none] at hf
   rw [chainGo,hx] at h1
   simp only [List.append_nil] at h1
   repeat' (first |  (refine plc [] (hf) ?_ ?_;push_cast [iO,tN];rintro r os ⟨rfl,rfl⟩;push_cast [iO,tN])  | ((first|refine pC ?_|refine pQC ?_|refine pU ?_);push_cast [iO,tN])|(refine pif (fun h=>?_) (fun h=>?_)<;>first|exact pN h|push_cast [iO,tN]))
   (refine retK_of [] ?_;push_cast [iO,tN])
   all_goals rw [h1]
  | some d =>
   simp only [hx,Option.getD_some,Option.isSome_some] at hf
   rw [chainGo_some hx] at h1
   repeat' (first |  (refine plc [] (hf) ?_ ?_;push_cast [iO,tN];rintro r os ⟨rfl,rfl⟩;push_cast [iO,tN])  | ((first|refine pC ?_|refine pQC ?_|refine pU ?_);push_cast [iO,tN])|(refine pif (fun h=>?_) (fun h=>?_)<;>first|exact pN h|push_cast [iO,tN]))
   refine ⟨(acc++[d],d.parent),⟨?_,by simp only [List.length_append,List.length_cons,List.length_nil];omega⟩,by (refine weak_fg ?_;push_cast [iO,tN]),by simp only [List.length_append,List.length_cons,List.length_nil];omega⟩
   simp only [List.length_append,List.length_cons,List.length_nil,List.append_assoc,List.singleton_append]
   rw [show l.length - (acc.length+(0+1))=k by omega]
   exact h1
 ·have hk:l.length - acc.length=0:=by omega
  rw [hk,chainGo,List.append_nil] at h1
  repeat' (first|((first|refine pC ?_|refine pQC ?_|refine pU ?_);push_cast [iO,tN])|(refine pif (fun h=>?_) (fun h=>?_)<;>first|exact pN h|push_cast [iO,tN]))
  (refine retK_of [] ?_;push_cast [iO,tN])
  all_goals rw [h1]
set_option maxHeartbeats 1000000 in
theorem rorigin_pure (l:List Dev) (n:Int) (hl:l.length≤1000000) :
  PCalls Tryz.prog 40 [.agg (trE l),.c (.v (.int .i64 n))] [] fun r os=>r = .c (.own 0 ((origM l n).length))∧os=[.arr 9 1 ((origM l n).map strD)]:=by
 have hc:=rchain_pure l n hl
 have hcl:=chain_len l n
 unfold origM
 obtain ⟨c,hcc⟩:∃ c,chainM l n=c:=⟨_,rfl⟩
 rw [hcc] at hc hcl ⊢
 refine pcalls_of Tryz.func40 rfl (by simp [Tryz.ntmps40]) ?_
 rw [Tryz.ntmps40,Tryz.results40]
 push_cast [iO,tN]
 have cB:CutB 8 []:=trivial
 repeat' (first |  (refine plc [] (hc) ?_ ?_;push_cast [iO,tN];rintro r os ⟨rfl,rfl⟩;push_cast [iO,tN])  | ((first|refine pC ?_|refine pQC ?_|refine pU ?_);push_cast [iO,tN])|(refine pif (fun h=>?_) (fun h=>?_)<;>first|exact pN h|push_cast [iO,tN]))
 refine pwp_weak (weak_adopt 5 9 1 (by omega) (by push_cast [iO,tN])) ?_
 push_cast [iO,tN]
 (apply pwp_loop3 (α:=Nat × List ByteArray) 8 [] (fun x=>[(7,.c (.v (.int .i64 ((x.1:Int) - 1)))),(5,.c (.own 1 (x.2.length)))]) (fun x=>[(1,.arr 9 1 (x.2.map strD))]) (fun x=>x.1≤c.length∧x.2=((c.drop x.1).map Dev.original).reverse) (fun x=>x.1) ((c.length,[]));(focus ((try push_cast [iO,tN]);rfl));(focus exact ⟨Nat.le_refl _,by simp⟩);(focus ((refine weak_fg ?_;try push_cast [iO,tN]))))
 rintro ⟨k,out⟩ ⟨hk,ho⟩
 simp only at hk ho
 have hol:out.length≤c.length:=by rw [ho,List.length_reverse,List.length_map,List.length_drop];omega
 cases k with
 | zero =>
  rw [List.drop_zero] at ho
  push_cast [iO,tN]
  repeat' (first|((first|refine pC ?_|refine pQC ?_|refine pU ?_);push_cast [iO,tN])|(refine pif (fun h=>?_) (fun h=>?_)<;>first|exact pN h|push_cast [iO,tN]))
  (refine retK_of [1] ?_;push_cast [iO,tN])
  all_goals rw [ho]
  all_goals simp
 | succ k =>
  have hlt:k < c.length:=by omega
  have hd:out++[(c.getD k default).original]=((c.drop k).map Dev.original).reverse:=by
   rw [ho,List.drop_eq_getElem_cons hlt,getD_lt c hlt,List.map_cons,List.reverse_cons]
  have hi:((k+1:Nat):Int) - 1=(k:Int):=by omega
  simp only [hi]
  push_cast [iO,tN]
  repeat' (first|((first|refine pC ?_|refine pQC ?_|refine pU ?_);push_cast [iO,tN])|(refine pif (fun h=>?_) (fun h=>?_)<;>first|exact pN h|push_cast [iO,tN]))
  exact ⟨(k,out++[(c.getD k default).original]),⟨by simp only;omega,hd⟩,by (refine weak_fg ?_;push_cast [iO,tN]),by simp only;omega⟩
set_option maxRecDepth 20000
theorem idxb_lt:∀ (l:List UInt8) (c:UInt8),Lib.indexByte l c < 0 ↔ l.contains c=false
 | [],c=>by simp [Lib.indexByte]
 | b :: l,c=>by
  have ih:=idxb_lt l c
  have hg:=Lib.indexByte_ge l c
  rw [Lib.indexByte,List.contains_cons]
  by_cases h:b=c
  ·subst h;simp
  ·rw [if_neg (by simpa using h),show (c == b)=false by simpa using Ne.symm h,Bool.false_or,← ih]
   split
   ·rename_i h1;simp at h1;omega
   ·rename_i h1;simp at h1;omega
theorem byte_back (b:UInt8):((b.toNat:Int)).toNat.toUInt8=b:=by simp
def inT (s t:ByteArray):Bool:=s.data.toList.all fun b=>t.data.toList.contains b
set_option maxHeartbeats 1000000 in
theorem rin_pure (s t:ByteArray) (hs:s.size≤1000000000) :
  PCalls Tryz.prog 92 [.c (.v (.string s)),.c (.v (.string t))] [] fun r os=>r = .c (.v (.bool (inT s t)))∧os=[]:=by
 refine pcalls_of Tryz.func92 rfl (by simp [Tryz.ntmps92]) ?_
 rw [Tryz.ntmps92,Tryz.results92]
 push_cast [iO,tN]
 have cB:CutB 6 []:=trivial
 repeat' (first|((first|refine pC ?_|refine pQC ?_|refine pU ?_);push_cast [iO,tN])|(refine pif (fun h=>?_) (fun h=>?_)<;>first|exact pN h|push_cast [iO,tN]))
 (apply pwp_loop3 (α:=Nat) 6 [] (fun k=>[(5,.c (.v (.int .i64 k)))]) (fun k=>[]) (fun k=>k≤s.size∧(s.data.toList.take k).all (fun b=>t.data.toList.contains b)=true) (fun k=>s.size - k) (0);(focus ((try push_cast [iO,tN]);rfl));(focus exact ⟨by omega,rfl⟩);(focus ((refine weak_fg ?_;try push_cast [iO,tN]))))
 rintro k ⟨hk,ha⟩
 push_cast [iO,tN]
 by_cases hlt:k < s.size
 ·have hk2:k < s.data.toList.length:=hlt
  have eg:s.data.toList.getD k 0=s.data.toList[k]:=by rw [List.getD_eq_getElem?_getD,List.getElem?_eq_getElem hk2];rfl
  have hix:=idxb_lt t.data.toList (s.data.toList.getD k 0)
  have hc:=idxb_pure t ((s.data.toList.getD k 0).toNat:Int)
  rw [byte_back] at hc
  cases hv:t.data.toList.contains (s.data.toList.getD k 0)
  ·have hl:=hix.2 hv
   repeat' (first|(refine plc [] (hc) ?_ ?_;push_cast [iO,tN,hl];rintro r os ⟨rfl,rfl⟩;push_cast [iO,tN,hl])|((first|refine pC ?_|refine pQC ?_|refine pU ?_);push_cast [iO,tN,hl])|(refine pif (fun h=>?_) (fun h=>?_)<;>first|exact pN h|push_cast [iO,tN,hl]))
   (refine retK_of [] ?_;push_cast [iO,tN])
   rw [inT,List.all_eq_false.2]
   exact ⟨s.data.toList.getD k 0,by rw [eg];exact List.getElem_mem _,by rw [hv];decide⟩
  ·have hl:¬ Lib.indexByte t.data.toList (s.data.toList.getD k 0) < 0:=fun h=>by rw [hix.1 h] at hv;cases hv
   repeat' (first|(refine plc [] (hc) ?_ ?_;push_cast [iO,tN,hl];rintro r os ⟨rfl,rfl⟩;push_cast [iO,tN,hl])|((first|refine pC ?_|refine pQC ?_|refine pU ?_);push_cast [iO,tN,hl])|(refine pif (fun h=>?_) (fun h=>?_)<;>first|exact pN h|push_cast [iO,tN,hl]))
   refine ⟨k+1,⟨by omega,?_⟩,by (refine weak_fg ?_;push_cast [iO,tN]),by omega⟩
   rw [List.take_succ_eq_append_getElem hk2,List.all_append,ha,← eg,List.all_cons,hv];rfl
 ·have hk2:k=s.size:=by omega
  subst hk2
  have he:s.data.toList.take s.size=s.data.toList:=List.take_of_length_le (Nat.le_refl _)
  rw [he] at ha
  repeat' (first|((first|refine pC ?_|refine pQC ?_|refine pU ?_);push_cast [iO,tN])|(refine pif (fun h=>?_) (fun h=>?_)<;>first|exact pN h|push_cast [iO,tN]))
  (refine retK_of [] ?_;push_cast [iO,tN])
  rw [inT,ha]
def refSet:ByteArray:=⟨#[65,66,67,68,69,70,71,72,73,74,75,76,77,78,79,80,81,82,83,84,85,86,87,88,89,90,97,98,99,100,101,102,103,104,105,106,107,108,109,110,111,112,113,114,115,116,117,118,119,120,121,122,48,49,50,51,52,53,54,55,56,57,95,46,58,43,45,33]⟩
theorem in_name (s:ByteArray):inT s refSet=s.data.toList.all nameB:=by
 unfold inT
 congr
set_option maxHeartbeats 1000000 in
theorem rvalid_pure (s:ByteArray) (hs:s.size≤9223372036854775807):PCalls Tryz.prog 71 [.c (.v (.string s))] [] fun r os=>r = .c (.v (.bool (validS s)))∧os=[]:=by
 have hv:validS s=(((decide (s≠⟨#[]⟩) && decide (s.size≤32)) && !dotsS s) && inT s refSet):=by rw [in_name,validS]
 rw [hv]
 unfold dotsS
 refine pcalls_of Tryz.func71 rfl (by simp [Tryz.ntmps71]) ?_
 rw [Tryz.ntmps71,Tryz.results71]
 by_cases h1:s=⟨#[]⟩
 ·have e1:=eq_true h1
  push_cast [iO,tN]
  repeat' (first|((first|refine pG ?_|refine pQ ?_|refine pU ?_);push_cast [iO,tN,e1,ne_eq,not_true_eq_false])|(refine pif (fun h=>?_) (fun h=>?_)<;>first|exact pN h|push_cast [iO,tN,e1,ne_eq,not_true_eq_false]))
  (refine retK_of [] ?_;push_cast [iO,tN])
 ·by_cases h2:s.size≤32
  ·have h2':(s.size:Int)≤32:=by omega
   have hh:=rin_pure s refSet (by omega)
   obtain ⟨c,hc⟩:∃ c,inT s refSet=c:=⟨_,rfl⟩
   rw [hc] at hh ⊢
   unfold refSet at hh
   obtain ⟨d1,hd1⟩:∃ d1,(s=⟨#[46]⟩)=d1:=⟨_,rfl⟩
   obtain ⟨d2,hd2⟩:∃ d2,(s=⟨#[46,46]⟩)=d2:=⟨_,rfl⟩
   by_cases e3:s=⟨#[46]⟩
   ·have e4:=eq_true e3
    cases c
    all_goals push_cast [iO,tN]
    all_goals repeat' (first|(refine plc [] (hh) ?_ ?_;push_cast [iO,tN,h1,h2',e4,ne_eq,not_false_eq_true,not_true_eq_false];rintro r os ⟨rfl,rfl⟩;push_cast [iO,tN,h1,h2',e4,ne_eq,not_false_eq_true,not_true_eq_false])|((first|refine pG ?_|refine pQ ?_|refine pU ?_);push_cast [iO,tN,h1,h2',e4,ne_eq,not_false_eq_true,not_true_eq_false])|(refine pif (fun h=>?_) (fun h=>?_)<;>first|exact pN h|push_cast [iO,tN,h1,h2',e4,ne_eq,not_false_eq_true,not_true_eq_false]))
    all_goals (refine retK_of [] ?_;push_cast [iO,tN])
    all_goals simp [e3]
   ·by_cases e5:s=⟨#[46,46]⟩
    ·have e6:=eq_true e5
     cases c
     all_goals push_cast [iO,tN]
     all_goals repeat' (first|(refine plc [] (hh) ?_ ?_;push_cast [iO,tN,h1,h2',e3,e6,ne_eq,not_false_eq_true,not_true_eq_false];rintro r os ⟨rfl,rfl⟩;push_cast [iO,tN,h1,h2',e3,e6,ne_eq,not_false_eq_true,not_true_eq_false])|((first|refine pG ?_|refine pQ ?_|refine pU ?_);push_cast [iO,tN,h1,h2',e3,e6,ne_eq,not_false_eq_true,not_true_eq_false])|(refine pif (fun h=>?_) (fun h=>?_)<;>first|exact pN h|push_cast [iO,tN,h1,h2',e3,e6,ne_eq,not_false_eq_true,not_true_eq_false]))
     all_goals (refine retK_of [] ?_;push_cast [iO,tN])
     all_goals simp [e5]
    ·cases c
     all_goals push_cast [iO,tN]
     all_goals repeat' (first|(refine plc [] (hh) ?_ ?_;push_cast [iO,tN,h1,h2',e3,e5,ne_eq,not_false_eq_true,not_true_eq_false];rintro r os ⟨rfl,rfl⟩;push_cast [iO,tN,h1,h2',e3,e5,ne_eq,not_false_eq_true,not_true_eq_false])|((first|refine pG ?_|refine pQ ?_|refine pU ?_);push_cast [iO,tN,h1,h2',e3,e5,ne_eq,not_false_eq_true,not_true_eq_false])|(refine pif (fun h=>?_) (fun h=>?_)<;>first|exact pN h|push_cast [iO,tN,h1,h2',e3,e5,ne_eq,not_false_eq_true,not_true_eq_false]))
     all_goals (refine retK_of [] ?_;push_cast [iO,tN])
     all_goals simp [h1,h2,e3,e5]
  ·have h2':¬ (s.size:Int)≤32:=by omega
   push_cast [iO,tN]
   repeat' (first|((first|refine pG ?_|refine pQ ?_|refine pU ?_);push_cast [iO,tN,h1,h2',ne_eq,not_false_eq_true])|(refine pif (fun h=>?_) (fun h=>?_)<;>first|exact pN h|push_cast [iO,tN,h1,h2',ne_eq,not_false_eq_true]))
   (refine retK_of [] ?_;push_cast [iO,tN])
   simp [h2]
end Go.Proofs.YtmjffgienmcabaaGreatDoor
