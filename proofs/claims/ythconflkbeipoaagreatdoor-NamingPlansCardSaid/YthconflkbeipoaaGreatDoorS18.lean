/- What the program computes, and the plain laws of it, part 18. -/
import Derived.Test.YthconflkbeipoaaGreatDoorS17
namespace Go.Proofs.YthconflkbeipoaaGreatDoor
open Go.RowKit
open IntWalk renaming iteOmega → iO, toNatUp → tN
set_option linter.unusedVariables false
set_option linter.unusedSimpArgs false
def findD (l:List Dev) (n:Int):Option Dev:=l.find? fun d=>decide (d.index=n)
def chainGo (l:List Dev):Nat → Int → List Dev
 | 0,_=>[]
 | k+1,n=>match findD l n with
  | none=>[]
  | some d=>d :: chainGo l k d.parent
def chainM (l:List Dev) (n:Int):List Dev:=chainGo l l.length n
def origM (l:List Dev) (n:Int):List ByteArray:=((chainM l n).map Dev.original).reverse
def joinP (ps:List ByteArray):ByteArray:=ps.foldl (fun s p=>s++⟨#[47]⟩++p) ⟨#[]⟩
def placeM (l:List Dev) (n:Int):ByteArray:=joinP (origM l n)
structure Okt (l:List Dev):Prop where
 pos:∀ d ∈ l,1≤d.index
 nodup:(l.map Dev.index).Nodup
 par:∀ (i:Nat) (h:i < l.length),l[i].parent=0∨∃ (j:Nat) (hj:j < i),l[j].index=l[i].parent
 val:∀ d ∈ l,validS d.original=true
 dist:∀ d ∈ l,∀ e ∈ l,origM l d.index=origM l e.index → d=e
theorem findD_some {l:List Dev} {n:Int} {d:Dev} (h:findD l n=some d):d ∈ l∧d.index=n :=
 ⟨List.mem_of_find?_eq_some h,by simpa using List.find?_some h⟩
theorem findD_none {l:List Dev} {n:Int}:findD l n=none ↔ ∀ d ∈ l,d.index≠n:=by
 unfold findD
 rw [List.find?_eq_none]
 simp
theorem findD_mem {l:List Dev} (hn:(l.map Dev.index).Nodup) {d:Dev} (hd:d ∈ l):findD l d.index=some d:=by
 induction l with
 | nil=>simp at hd
 | cons x l ih =>
  unfold findD
  rw [List.map_cons,List.nodup_cons] at hn
  by_cases he:x.index=d.index
  ·rw [List.find?_cons_of_pos (by simpa using he)]
   rcases List.mem_cons.1 hd with rfl|hd
   ·rfl
   ·exact absurd (by rw [he];exact List.mem_map.2 ⟨d,hd,rfl⟩) hn.1
  ·rw [List.find?_cons_of_neg (by simpa using he)]
   rcases List.mem_cons.1 hd with rfl|hd
   ·exact absurd rfl he
   ·exact ih hn.2 hd
theorem chainGo_none {l:List Dev} {n:Int} (h:findD l n=none) (k:Nat):chainGo l k n=[]:=by
 cases k with
 | zero=>rfl
 | succ k=>rw [chainGo,h]
theorem chainGo_some {l:List Dev} {n:Int} {d:Dev} (h:findD l n=some d) (k:Nat):chainGo l (k+1) n=d :: chainGo l k d.parent:=by rw [chainGo,h]
structure Okp (l:List Dev):Prop where
 pos:∀ d ∈ l,1≤d.index
 nodup:(l.map Dev.index).Nodup
 par:∀ (i:Nat) (h:i < l.length),l[i].parent=0∨∃ (j:Nat) (hj:j < i),l[j].index=l[i].parent
theorem Okt.p {l:List Dev} (h:Okt l):Okp l:=⟨h.pos,h.nodup,h.par⟩
theorem find0 {l:List Dev} (h:∀ d ∈ l,1≤d.index) {n:Int} (hn:n≤0):findD l n=none:=findD_none.2 fun d hd e=>by have:=h d hd;omega
theorem chain_fuel {l:List Dev} (h:Okp l):∀ (i:Nat) (hi:i < l.length) (k:Nat),i+1≤k → chainGo l k l[i].index=chainGo l (i+1) l[i].index:=by
 intro i
 induction i using Nat.strongRecOn with
 | ind i ih =>
  intro hi k hk
  obtain ⟨k',rfl⟩:∃ k',k=k'+1:=⟨k - 1,by omega⟩
  have hf:=findD_mem h.nodup (List.getElem_mem hi)
  rw [chainGo_some hf,chainGo_some hf]
  congr 1
  rcases h.par i hi with h0|⟨j,hj,hp⟩
  ·rw [h0,chainGo_none (find0 h.pos (by omega)),chainGo_none (find0 h.pos (by omega))]
  ·rw [← hp,ih j hj (by omega) k' (by omega),ih j hj (by omega) i (by omega)]
theorem chain_step {l:List Dev} (h:Okp l) {d:Dev} (hd:d ∈ l):chainM l d.index=d :: chainM l d.parent:=by
 obtain ⟨i,hi,rfl⟩:=List.getElem_of_mem hd
 have hf:=findD_mem h.nodup hd
 unfold chainM
 obtain ⟨n,hn⟩:∃ n,l.length=n+1:=⟨l.length - 1,by omega⟩
 rw [hn,chainGo_some hf]
 congr 1
 rcases h.par i hi with h0|⟨j,hj,hp⟩
 ·rw [h0,chainGo_none (find0 h.pos (by omega)),chainGo_none (find0 h.pos (by omega))]
 ·rw [← hp,chain_fuel h j (by omega) n (by omega),chain_fuel h j (by omega) (n+1) (by omega)]
theorem chain_none {l:List Dev} {n:Int} (h:findD l n=none):chainM l n=[]:=chainGo_none h _
theorem orig_step {l:List Dev} (h:Okp l) {d:Dev} (hd:d ∈ l):origM l d.index=origM l d.parent++[d.original]:=by
 unfold origM
 rw [chain_step h hd]
 simp
theorem orig_none {l:List Dev} {n:Int} (h:findD l n=none):origM l n=[]:=by unfold origM;rw [chain_none h];rfl
theorem orig_ne {l:List Dev} (h:Okp l) {d:Dev} (hd:d ∈ l):origM l d.index≠[]:=by rw [orig_step h hd];simp
theorem chainGo_len {l:List Dev}:∀ (k:Nat) (n:Int),(chainGo l k n).length≤k
 | 0,_=>by simp [chainGo]
 | k+1,n=>by
  rw [chainGo]
  split
  ·simp
  ·have:=chainGo_len (l:=l) k (by assumption:Dev).parent
   simp only [List.length_cons];omega
theorem chain_len (l:List Dev) (n:Int):(chainM l n).length≤l.length:=chainGo_len _ _
theorem orig_len (l:List Dev) (n:Int):(origM l n).length≤l.length:=by unfold origM;rw [List.length_reverse,List.length_map];exact chain_len l n
theorem chainGo_mem {l:List Dev}:∀ (k:Nat) (n:Int) (d:Dev),d ∈ chainGo l k n → d ∈ l
 | 0,_,d,h=>by simp [chainGo] at h
 | k+1,n,d,h=>by
  rw [chainGo] at h
  split at h
  ·simp at h
  ·rename_i x hx
   rcases List.mem_cons.1 h with rfl|h
   ·exact (findD_some hx).1
   ·exact chainGo_mem k _ d h
theorem joinP_snoc (ps:List ByteArray) (p:ByteArray):joinP (ps++[p])=joinP ps++⟨#[47]⟩++p:=by simp [joinP]
def joinL (ps:List (List UInt8)):List UInt8:=(ps.map fun p=>47 :: p).flatten
theorem joinP_list (ps:List ByteArray):(joinP ps).data.toList=joinL (ps.map fun p=>p.data.toList):=by
 have key:∀ (ps:List ByteArray) (s:ByteArray),(ps.foldl (fun s p=>s++⟨#[47]⟩++p) s).data.toList=s.data.toList++joinL (ps.map fun p=>p.data.toList):=by
  intro ps
  induction ps with
  | nil=>intro s;simp [joinL]
  | cons p ps ih =>
   intro s
   rw [List.foldl_cons,ih]
   simp [joinL]
 have:=key ps ⟨#[]⟩
 simpa [joinP] using this
theorem joinL_cons (p:List UInt8) (ps:List (List UInt8)):joinL (p :: ps)=47 :: (p++joinL ps):=by simp [joinL]
theorem joinL_head:∀ ps:List (List UInt8),joinL ps=[]∨∃ t,joinL ps=47 :: t
 | []=>.inl rfl
 | p :: ps=>.inr ⟨_,joinL_cons p ps⟩
theorem app_split {p q:List UInt8} (hp:(47:UInt8) ∉ p) (hq:(47:UInt8) ∉ q):∀ {a b:List UInt8},(a=[]∨∃ t,a=47 :: t) → (b=[]∨∃ t,b=47 :: t) → p++a=q++b → p=q∧a=b:=by
 induction p generalizing q with
 | nil =>
  intro a b ha hb e
  cases q with
  | nil=>exact ⟨rfl,e⟩
  | cons y q =>
   rcases ha with rfl|⟨t,rfl⟩
   ·simp at e
   ·simp at e
    exact absurd (by rw [e.1];simp) hq
 | cons x p ih =>
  intro a b ha hb e
  cases q with
  | nil =>
   rcases hb with rfl|⟨t,rfl⟩
   ·simp at e
   ·simp at e
    exact absurd (by rw [e.1];simp) hp
  | cons y q =>
   simp only [List.cons_append,List.cons.injEq] at e
   obtain ⟨h1,h2⟩:=ih (q:=q) (fun h=>hp (List.mem_cons_of_mem _ h)) (fun h=>hq (List.mem_cons_of_mem _ h)) ha hb e.2
   exact ⟨by rw [e.1,h1],h2⟩
theorem joinL_inj:∀ {ps qs:List (List UInt8)},(∀ p ∈ ps,(47:UInt8) ∉ p) → (∀ q ∈ qs,(47:UInt8) ∉ q) → joinL ps=joinL qs → ps=qs
 | [],[],_,_,_=>rfl
 | [],q :: qs,_,_,h=>by rw [joinL_cons] at h;cases h
 | p :: ps,[],_,_,h=>by rw [joinL_cons] at h;cases h
 | p :: ps,q :: qs,hp,hq,h=>by
  rw [joinL_cons,joinL_cons] at h
  obtain ⟨h1,h2⟩:=app_split (hp p (by simp)) (hq q (by simp)) (joinL_head ps) (joinL_head qs) (List.cons.inj h).2
  rw [h1,joinL_inj (fun x hx=>hp x (by simp [hx])) (fun x hx=>hq x (by simp [hx])) h2]
theorem valid_slash {s:ByteArray} (h:validS s=true):(47:UInt8) ∉ s.data.toList:=fun hm=>by
 unfold validS at h
 simp only [Bool.and_eq_true] at h
 have:=List.all_eq_true.1 h.2 47 hm
 revert this
 decide
theorem joinP_inj {ps qs:List ByteArray} (hp:∀ p ∈ ps,validS p=true) (hq:∀ q ∈ qs,validS q=true) (h:joinP ps=joinP qs):ps=qs:=by
 have h1:joinL (ps.map fun p=>p.data.toList)=joinL (qs.map fun p=>p.data.toList):=by rw [← joinP_list,← joinP_list,h]
 have h2:=joinL_inj (fun p hm=>by obtain ⟨x,hx,rfl⟩:=List.mem_map.1 hm;exact valid_slash (hp x hx)) (fun q hm=>by obtain ⟨x,hx,rfl⟩:=List.mem_map.1 hm;exact valid_slash (hq x hx)) h1
 have key:∀ a b:ByteArray,a.data.toList=b.data.toList → a=b:=fun a b e=>by cases a;cases b;simp only at e;congr;exact Array.toList_inj.1 e
 exact List.map_inj_right (fun a b e=>key a b e) |>.1 h2
theorem orig_val {l:List Dev} (h:∀ d ∈ l,validS d.original=true) (n:Int):∀ p ∈ origM l n,validS p=true:=fun p hp=>by
 unfold origM at hp
 rw [List.mem_reverse] at hp
 obtain ⟨d,hd,rfl⟩:=List.mem_map.1 hp
 exact h d (chainGo_mem _ _ d hd)
theorem place_inj {l:List Dev} (h:Okt l) {d e:Dev} (hd:d ∈ l) (he:e ∈ l) (hp:placeM l d.index=placeM l e.index):d=e :=
 h.dist d hd e he (joinP_inj (orig_val h.val _) (orig_val h.val _) hp)
def beneath (a b:ByteArray):Bool:=Lib.hasPrefix b.data.toList (a++⟨#[47]⟩).data.toList
def clashM (a b:Dev):Bool:=((decide (a.kind=4) && decide (b.kind=4)) && decide (a.name=b.name)) || ((hasN a && hasN b) && (((decide (a.kind=b.kind) && decide (a.number=b.number)) || decide (nodeM a=nodeM b)) || (beneath (nodeM a) (nodeM b) || beneath (nodeM b) (nodeM a))))
def atM (l:List Dev) (own:List ByteArray) (n:Nat):Nat:=(List.range n).foldl (fun a i=>if cmpL (origM l (l.getD i default).index) own < 0 then i+1 else a) 0
theorem atM_succ (l:List Dev) (own:List ByteArray) (n:Nat):atM l own (n+1)=if cmpL (origM l (l.getD n default).index) own < 0 then n+1 else atM l own n:=by
 unfold atM
 rw [List.range_succ,List.foldl_append]
 rfl
theorem atM_le (l:List Dev) (own:List ByteArray):∀ n,atM l own n≤n
 | 0=>by simp [atM]
 | n+1=>by
  rw [atM_succ]
  have:=atM_le l own n
  split<;>omega
theorem atM_ge (l:List Dev) (own:List ByteArray) {j:Nat} (h:cmpL (origM l (l.getD j default).index) own < 0):∀ n,j < n → j+1≤atM l own n
 | 0,hn=>by omega
 | n+1,hn=>by
  rw [atM_succ]
  by_cases e:j=n
  ·subst e;rw [if_pos h];exact Nat.le_refl _
  ·have:=atM_ge l own h n (by omega)
   split<;>omega
def bad1 (l:List Dev) (own:List ByteArray) (d:Dev) (x:Dev):Bool:=decide (cmpL (origM l x.index) own=0) || clashM x d
def ownM (l:List Dev) (d:Dev):List ByteArray:=origM l d.parent++[d.original]
def insErr (l:List Dev) (d:Dev):Int :=
 if checkM d≠0 then 41 else if (findD l d.index).isSome then 44 else if d.parent≠0∧(findD l d.parent).isNone then 42 else if 256≤l.length then 40 else if 7 < (ownM l d).length then 46 else if l.any (bad1 l (ownM l d) d) then 44 else 0
def insT (l:List Dev) (d:Dev):List Dev:=l.take (atM l (ownM l d) l.length)++[d]++l.drop (atM l (ownM l d) l.length)
theorem cmpL_pre:∀ (a:List ByteArray) (x:ByteArray),cmpL a (a++[x]) < 0
 | [],x=>by simp [cmpL]
 | y :: a,x=>by rw [List.cons_append,cmpL,if_pos rfl];exact cmpL_pre a x
theorem checkM_nums {d:Dev} (h:checkM d=0):numsM d=true:=by
 cases hn:numsM d with
 | true=>rfl
 | false=>unfold checkM at h;rw [hn] at h;simp at h
theorem checkM_named {d:Dev} (h:checkM d=0):namedM d=true:=by
 cases hn:namedM d with
 | true=>rfl
 | false =>
  have h1:=checkM_nums h
  unfold checkM at h
  rw [hn,h1] at h
  simp at h
theorem check_index {d:Dev} (h:checkM d=0):1≤d.index∧d.index≤1073741824:=by
 have:=checkM_nums h
 unfold numsM at this
 simp only [Bool.and_eq_true,decide_eq_true_eq] at this
 exact this.1.1
theorem check_orig {d:Dev} (h:checkM d=0):validS d.original=true:=by
 have:=checkM_named h
 unfold namedM at this
 simp only [Bool.and_eq_true] at this
 exact this.1.1.1.2
theorem Okt.nil:Okt []:=⟨by simp,by simp,fun i h=>by simp at h,by simp,by simp⟩
theorem putl_get {α:Type} (l:List α) (d:α) (k:Nat) (hk:k≤l.length) (i:Nat):(l.take k++[d]++l.drop k)[i]? = if i < k then l[i]? else if i=k then some d else l[i - 1]?:=by
 rw [List.append_assoc,List.getElem?_append,List.length_take,Nat.min_eq_left hk]
 split
 ·rename_i h;rw [List.getElem?_take_of_lt h]
 ·rename_i h
  rw [List.singleton_append]
  by_cases e:i=k
  ·subst e;simp
  ·rw [if_neg e]
   obtain ⟨m,hm⟩:∃ m,i - k=m+1:=⟨i - k - 1,by omega⟩
   rw [hm,List.getElem?_cons_succ,List.getElem?_drop]
   congr 1
   omega
theorem put_mem {α:Type} {l:List α} {d x:α} {k:Nat}:x ∈ l.take k++[d]++l.drop k ↔ x=d∨x ∈ l:=by
 rw [List.append_assoc,List.mem_append,List.singleton_append,List.mem_cons]
 constructor
 ·rintro (h|h|h)
  ·exact .inr (List.mem_of_mem_take h)
  ·exact .inl h
  ·exact .inr (List.mem_of_mem_drop h)
 ·rintro (h|h)
  ·exact .inr (.inl h)
  ·rw [← List.take_append_drop k l,List.mem_append] at h
   rcases h with h|h
   ·exact .inl h
   ·exact .inr (.inr h)
theorem put_perm {α:Type} (l:List α) (d:α) (k:Nat):(l.take k++[d]++l.drop k).Perm (d :: l):=by
 rw [List.append_assoc,List.singleton_append]
 refine (List.perm_middle).trans ?_
 rw [List.take_append_drop]
theorem okp_get {l:List Dev} (h:Okp l) {i:Nat} {d:Dev} (hd:l[i]? = some d):d.parent=0∨∃ (j:Nat) (e:Dev),j < i∧l[j]? = some e∧e.index=d.parent:=by
 obtain ⟨hi,rfl⟩:=List.getElem?_eq_some_iff.1 hd
 rcases h.par i hi with h0|⟨j,hj,hp⟩
 ·exact .inl h0
 ·exact .inr ⟨j,_,hj,List.getElem?_eq_getElem (by omega),hp⟩
theorem okp_put {l:List Dev} (h:Okp l) {d:Dev} (k:Nat) (hk:k≤l.length) (h1:1≤d.index) (hf:findD l d.index=none) (hp:d.parent=0∨∃ (j:Nat) (e:Dev),j < k∧l[j]? = some e∧e.index=d.parent):Okp (l.take k++[d]++l.drop k):=by
 refine ⟨fun x hx=>?_,?_,fun i hi=>?_⟩
 ·rcases put_mem.1 hx with rfl|hx
  ·exact h1
  ·exact h.pos x hx
 ·rw [((put_perm l d k).map Dev.index).nodup_iff,List.map_cons,List.nodup_cons]
  refine ⟨fun hm=>?_,h.nodup⟩
  obtain ⟨x,hx,he⟩:=List.mem_map.1 hm
  exact findD_none.1 hf x hx he
 ·have hg:=putl_get l d k hk
  have up:∀ (j:Nat) (e:Dev),l[j]? = some e → (j < k∧(l.take k++[d]++l.drop k)[j]? = some e)∨(k≤j∧(l.take k++[d]++l.drop k)[j+1]? = some e):=fun j e he=>by
   by_cases hj:j < k
   ·exact .inl ⟨hj,by rw [hg,if_pos hj];exact he⟩
   ·exact .inr ⟨by omega,by rw [hg,if_neg (by omega),if_neg (by omega)];simpa using he⟩
  have fin:∀ (j:Nat) (e:Dev),j < i → (l.take k++[d]++l.drop k)[j]? = some e → e.index=(l.take k++[d]++l.drop k)[i].parent → ∃ (j:Nat) (hj:j < i),(l.take k++[d]++l.drop k)[j].index=(l.take k++[d]++l.drop k)[i].parent:=fun j e hj he hx=>by
   obtain ⟨h3,h4⟩:=List.getElem?_eq_some_iff.1 he
   exact ⟨j,hj,by rw [h4];exact hx⟩
  have hx:(l.take k++[d]++l.drop k)[i]? = some (l.take k++[d]++l.drop k)[i]:=List.getElem?_eq_getElem hi
  generalize (l.take k++[d]++l.drop k)[i]=x at hx fin ⊢
  rw [hg] at hx
  split at hx
  ·rcases okp_get h hx with h0|⟨j,e,hj,he,hi2⟩
   ·exact .inl h0
   ·rcases up j e he with ⟨_,h3⟩|⟨h3,_⟩
    ·exact .inr (fin j e hj h3 hi2)
    ·omega
  ·split at hx
   ·rename_i hik
    cases hx
    rcases hp with h0|⟨j,e,hj,he,hi2⟩
    ·exact .inl h0
    ·rcases up j e he with ⟨_,h3⟩|⟨h3,_⟩
     ·exact .inr (fin j e (by omega) h3 hi2)
     ·omega
   ·rcases okp_get h hx with h0|⟨j,e,hj,he,hi2⟩
    ·exact .inl h0
    ·rcases up j e he with ⟨_,h3⟩|⟨_,h3⟩
     ·exact .inr (fin j e (by omega) h3 hi2)
     ·exact .inr (fin (j+1) e (by omega) h3 hi2)
theorem chain_same {l m:List Dev} (hl:Okp l) (hm:Okp m) (hsub:∀ d ∈ l,d ∈ m → d.parent=0∨∃ e ∈ l,e ∈ m∧e.index=d.parent):∀ (i:Nat) (hi:i < l.length),l[i] ∈ m → chainM l l[i].index=chainM m l[i].index:=by
 intro i
 induction i using Nat.strongRecOn with
 | ind i ih =>
  intro hi him
  have hil:l[i] ∈ l:=List.getElem_mem hi
  rw [chain_step hl hil,chain_step hm him]
  congr 1
  rcases hsub _ hil him with h0|⟨e,he,hem,hx⟩
  ·rw [h0,chain_none (find0 hl.pos (by omega)),chain_none (find0 hm.pos (by omega))]
  ·rcases hl.par i hi with h0|⟨j,hj,hp⟩
   ·rw [h0] at hx;have:=hl.pos e he;omega
   ·have hj2:j < l.length:=by omega
    have hee:l[j]=e:=by
     have h1:=findD_mem hl.nodup he
     have h2:=findD_mem hl.nodup (List.getElem_mem hj2)
     rw [hp,← hx,h1] at h2
     exact (Option.some.inj h2).symm
    rw [← hp]
    exact ih j hj hj2 (by rw [hee];exact hem)
theorem orig_same {l m:List Dev} (hl:Okp l) (hm:Okp m) (hsub:∀ d ∈ l,d ∈ m → d.parent=0∨∃ e ∈ l,e ∈ m∧e.index=d.parent) {d:Dev} (hd:d ∈ l) (hdm:d ∈ m):origM l d.index=origM m d.index:=by
 obtain ⟨i,hi,rfl⟩:=List.getElem_of_mem hd
 unfold origM
 rw [chain_same hl hm hsub i hi hdm]
theorem find_of_any {l:List Dev} {n:Int} (h:(findD l n).isNone=false):∃ (j:Nat) (e:Dev),l[j]? = some e∧e.index=n:=by
 cases hf:findD l n with
 | none=>rw [hf] at h;cases h
 | some e =>
  obtain ⟨h1,h2⟩:=findD_some hf
  obtain ⟨j,hj,rfl⟩:=List.getElem_of_mem h1
  exact ⟨j,_,List.getElem?_eq_getElem hj,h2⟩
theorem ins_split {l:List Dev} {d:Dev} (h:insErr l d=0):checkM d=0∧findD l d.index=none∧(d.parent=0∨(findD l d.parent).isNone=false)∧l.length < 256∧(ownM l d).length≤7∧∀ x ∈ l,bad1 l (ownM l d) d x=false:=by
 unfold insErr at h
 split at h
 ·cases h
 rename_i h1
 split at h
 ·cases h
 rename_i h2
 split at h
 ·cases h
 rename_i h3
 split at h
 ·cases h
 rename_i h4
 split at h
 ·cases h
 rename_i h5
 split at h
 ·cases h
 rename_i h6
 refine ⟨by simpa using h1,by simpa using h2,?_,by omega,by omega,fun x hx=>?_⟩
 ·by_cases e:d.parent=0
  ·exact .inl e
  ·exact .inr (by cases hq:(findD l d.parent).isNone with|false=>rfl|true=>exact absurd ⟨e,hq⟩ h3)
 ·cases hb:bad1 l (ownM l d) d x with
  | false=>rfl
  | true=>exact absurd (List.any_eq_true.2 ⟨x,hx,hb⟩) h6
theorem Okt.ins {l:List Dev} (h:Okt l) {d:Dev} (hi:insErr l d=0):Okt (insT l d)∧(∀ x ∈ l,origM (insT l d) x.index=origM l x.index):=by
 obtain ⟨h1,h2,h3,h4,h5,h6⟩:=ins_split hi
 have hle:=atM_le l (ownM l d) l.length
 have hpar:d.parent=0∨∃ (j:Nat) (e:Dev),j < atM l (ownM l d) l.length∧l[j]? = some e∧e.index=d.parent:=by
  rcases h3 with h3|h3
  ·exact .inl h3
  ·obtain ⟨j,e,hj,he⟩:=find_of_any h3
   obtain ⟨hj2,hj3⟩:=List.getElem?_eq_some_iff.1 hj
   have hc:cmpL (origM l (l.getD j default).index) (ownM l d) < 0:=by
    rw [getD_lt l hj2,hj3,he]
    exact cmpL_pre _ _
   exact .inr ⟨j,e,by have:=atM_ge l (ownM l d) hc l.length hj2;omega,hj,he⟩
 have hok:Okp (insT l d):=okp_put h.p _ hle (check_index h1).1 h2 hpar
 have hmem:∀ x,x ∈ insT l d ↔ x=d∨x ∈ l:=fun x=>put_mem
 have hsame:∀ x ∈ l,origM (insT l d) x.index=origM l x.index:=fun x hx=>by
  refine (orig_same h.p hok (fun y hy hy2=>?_) hx ((hmem x).2 (.inr hx))).symm
  obtain ⟨i,hi2,rfl⟩:=List.getElem_of_mem hy
  rcases h.par i hi2 with h0|⟨j,hj,hp⟩
  ·exact .inl h0
  ·exact .inr ⟨l[j],List.getElem_mem _,(hmem _).2 (.inr (List.getElem_mem _)),hp⟩
 have hown:origM (insT l d) d.index=ownM l d:=by
  rw [orig_step hok ((hmem d).2 (.inl rfl)),ownM]
  congr 1
  rcases h3 with h3|h3
  ·rw [h3,orig_none (find0 hok.pos (by omega)),orig_none (find0 h.pos (by omega))]
  ·obtain ⟨j,e,hj,he⟩:=find_of_any h3
   rw [← he]
   exact hsame e (List.mem_of_getElem? hj)
 refine ⟨⟨hok.pos,hok.nodup,hok.par,fun x hx=>?_,fun x hx y hy he=>?_⟩,hsame⟩
 ·rcases (hmem x).1 hx with rfl|hx
  ·exact check_orig h1
  ·exact h.val x hx
 ·have hno:∀ x ∈ l,origM l x.index≠ownM l d:=fun x hx e=>by
   have:=h6 x hx
   unfold bad1 at this
   rw [Bool.or_eq_false_iff] at this
   exact absurd (cmpL_eq.2 e) (by simpa using this.1)
  rcases (hmem x).1 hx with rfl|hx'<;>rcases (hmem y).1 hy with rfl|hy'
  ·rfl
  ·rw [hown,hsame y hy'] at he
   exact absurd he.symm (hno y hy')
  ·rw [hown,hsame x hx'] at he
   exact absurd he (hno x hx')
  ·rw [hsame x hx',hsame y hy'] at he
   exact h.dist x hx' y hy' he
def belowM (l:List Dev) (m top:Int):Bool:=(chainM l m).any fun d=>decide (d.index=top)
def remT (l:List Dev) (n:Int):List Dev:=l.filter fun d=>!belowM l d.index n
theorem Okt.rem {l:List Dev} (h:Okt l) (n:Int):Okt (remT l n)∧(∀ x ∈ remT l n,origM (remT l n) x.index=origM l x.index):=by
 have hmem:∀ x,x ∈ remT l n ↔ x ∈ l∧belowM l x.index n=false:=fun x=>by unfold remT;rw [List.mem_filter];simp
 have hup:∀ x ∈ l,∀ e ∈ l,e.index=x.parent → belowM l x.index n=false → belowM l e.index n=false:=fun x hx e he hp hb=>by
  unfold belowM at hb ⊢
  rw [chain_step h.p hx,← hp,List.any_cons,Bool.or_eq_false_iff] at hb
  exact hb.2
 have hok:Okp (remT l n):=by
  refine ⟨fun x hx=>h.pos x ((hmem x).1 hx).1,h.nodup.sublist (List.filter_sublist.map _),fun i hi=>?_⟩
  have hs:remT l n=(remT l n).take i++(remT l n)[i] :: (remT l n).drop (i+1):=by rw [← List.drop_eq_getElem_cons hi,List.take_append_drop]
  have hs2:=hs
  conv at hs2=>lhs;unfold remT
  obtain ⟨l1,l2,e1,e2,e3⟩:=List.filter_eq_append_iff.1 hs2
  obtain ⟨l3,l4,e4,e5,e6,e7⟩:=List.filter_eq_cons_iff.1 e3
  have hil:(remT l n)[i] ∈ l:=((hmem _).1 (List.getElem_mem hi)).1
  have hib:=((hmem _).1 (List.getElem_mem hi)).2
  generalize (remT l n)[i]=x at hil hib e4 e6
  have hpos:l[l1.length+l3.length]? = some x:=by
   rw [e1,e4,List.getElem?_append_right (by omega),List.getElem?_append_right (by omega)]
   have:l1.length+l3.length - l1.length - l3.length=0:=by omega
   rw [this];rfl
  rcases okp_get h.p hpos with h0|⟨j,e,hj,he,hp⟩
  ·exact .inl h0
  ·right
   have hel:e ∈ l:=List.mem_of_getElem? he
   have heb:=hup _ hil e hel hp hib
   have he1:e ∈ l1:=by
    rw [e1,e4] at he
    by_cases hj1:j < l1.length
    ·rw [List.getElem?_append_left hj1] at he
     exact List.mem_of_getElem? he
    ·rw [List.getElem?_append_right (by omega),List.getElem?_append_left (by omega)] at he
     have:=e5 e (List.mem_of_getElem? he)
     simp [heb] at this
   have he2:e ∈ (remT l n).take i:=by
    rw [← e2,List.mem_filter]
    exact ⟨he1,by simp [heb]⟩
   obtain ⟨j',hj',hx⟩:=List.mem_take_iff_getElem.1 he2
   exact ⟨j',by omega,by rw [hx];exact hp⟩
 have hsame:∀ x ∈ remT l n,origM (remT l n) x.index=origM l x.index:=fun x hx=>by
  refine orig_same hok h.p (fun y hy hy2=>?_) hx ((hmem x).1 hx).1
  obtain ⟨i,hi2,rfl⟩:=List.getElem_of_mem hy
  rcases hok.par i hi2 with h0|⟨j,hj,hp⟩
  ·exact .inl h0
  ·exact .inr ⟨_,List.getElem_mem _,((hmem _).1 (List.getElem_mem (by omega))).1,hp⟩
 refine ⟨⟨hok.pos,hok.nodup,hok.par,fun x hx=>h.val x ((hmem x).1 hx).1,fun x hx y hy he=>?_⟩,hsame⟩
 rw [hsame x hx,hsame y hy] at he
 exact h.dist x ((hmem x).1 hx).1 y ((hmem y).1 hy).1 he
theorem rp_vals {w:World} {Γ:G}:∀ {vs xs:List Value},All2 (RP w Γ) (vs.map fun v=>.c (.v v)) xs → xs=vs
 | [],_,h=>by rw [List.map_nil,All2.nil_l] at h;exact h
 | v :: vs,xs,h=>by
  rw [List.map_cons,All2.cons_l] at h
  obtain ⟨y,m,rfl,h1,h2⟩:=h
  rw [rp_vals h2,h1.1]
theorem ext_of_below {w w':World} (hB:Below w.heap.size w w'):Ext No w w':=⟨hB.os,hB.tape,hB.output,hB.size,fun k hk _=>hB.block k hk⟩
theorem pcalls_plain {P:Program} {g:FuncId} (vs:List Value) (v:Value) (hv:v.oneCell'=true) (h:∀ w,Pin w → Calls P g vs.toArray w fun e w'=>e = .returned v∧Below w.heap.size w w') :
  PCalls P g (vs.map fun v=>.c (.v v)) [] fun r os=>r = .c (.v v)∧os=[]:=fun Γ w xs hm hx=>by
 rw [rp_vals hx]
 refine (h w hm.pin.1).mono ?_
 rintro e w' ⟨rfl,hB⟩
 have hE:=ext_of_below hB
 exact ⟨_,[],Γ,_,rfl,⟨rfl,rfl⟩,⟨rfl,hv⟩,Nat.le_refl _,hm.same (Same.of_ext hE),ext_grow hE⟩
theorem pcalls_plain2 {P:Program} {g:FuncId} (vs:List Value) (v u:Value) (hv:v.oneCell'=true) (hu:u.oneCell'=true) (h:∀ w,Pin w → Calls P g vs.toArray w fun e w'=>e = .returned (.tuple #[v,u])∧Below w.heap.size w w') :
  PCalls P g (vs.map fun v=>.c (.v v)) [] fun r os=>r = .two (.c (.v v)) (.c (.v u))∧os=[]:=fun Γ w xs hm hx=>by
 rw [rp_vals hx]
 refine (h w hm.pin.1).mono ?_
 rintro e w' ⟨rfl,hB⟩
 have hE:=ext_of_below hB
 exact ⟨_,[],Γ,_,rfl,⟨rfl,rfl⟩,⟨_,_,rfl,⟨rfl,hv⟩,⟨rfl,hu⟩⟩,Nat.le_refl _,hm.same (Same.of_ext hE),ext_grow hE⟩
theorem pcalls_row {P:Program} {g:FuncId} (vs:List Value) (T:TypeId) (rows:List (List D)) (cells:List Value) (sz:Nat) (hsz:0 < sz) (hr:∀ r ∈ rows,r.length=sz) (hn:0 < rows.length) (hc:∀ w I,All2 (RD w I) rows.flatten cells)
  (h:∀ w,Pin w → Calls P g vs.toArray w fun e w'=>∃ v,e = .returned v∧w'.ownsRow w.heap.size T sz v rows.length cells∧Below w.heap.size w w') :
  PCalls P g (vs.map fun v=>.c (.v v)) [] fun r os=>r = .c (.own 0 rows.length)∧os=[.arr T sz rows]:=fun Γ w xs hm hx=>by
 rw [rp_vals hx]
 refine (h w hm.pin.1).mono ?_
 rintro e w' ⟨v,rfl,hrow,hB⟩
 have hE:=ext_of_below hB
 have hS:=Same.of_ext hE
 have hn0:Γ.n=0:=hm.n
 obtain ⟨b,c,rfl,h4,h5,h6,h7,h8,h9⟩:=arr_of_own (k:=Γ.n) (Γ:=Γ) (rows:=rows) hrow hn hsz hr rfl
 have hro:=h9 (Γ.push b c) (by simp [G.push,upd_same]) (by simp [G.push,upd_same]) (hc _ _)
 refine ⟨_,_,Γ.push b c,_,rfl,⟨rfl,rfl⟩,?_,by simp,hm.push hS _ b c hro (fun _=>h6),grow_push hm hE b c (fun _=>h6) (Nat.zero_le _)⟩
 have hrep:OwnRep (Γ.push b c) Γ.n rows.length (.slice (some ⟨b,0,none⟩) rows.length c):=.inr ⟨by simp [G.push,upd_same,h4],by simp [G.push,upd_same],by simp [G.push,upd_same];exact h5⟩
 rw [hn0] at hrep
 exact ⟨by simp [G.push,hn0],hrep⟩
end Go.Proofs.YthconflkbeipoaaGreatDoor
