/- What the program computes, and the plain laws of it, part 27. -/
import Derived.Test.YtmbbkfffcflfcaaGreatDoorS26
namespace Go.Proofs.YtmbbkfffcflfcaaGreatDoor
open Go.RowKit
open IntWalk renaming iteOmega → O, toNatUp → U
set_option linter.unusedVariables false
set_option linter.unusedSimpArgs false
theorem Okt.nil:Okt []:=⟨by simp,by simp,fun i h=>by simp at h,by simp,by simp⟩
theorem putl_get {α:Type} (l:List α) (d:α) (k:Nat) (hk:k≤l.length) (i:Nat):(l.take k++[d]++l.drop k)[i]? = if i < k then l[i]? else if i=k then some d else l[i - 1]?:=by
 rw [List.append_assoc,List.getElem?_append,List.length_take,Nat.min_eq_left hk]
 split
 ·rename_i h;rw [List.getElem?_take_of_lt h]
 ·rename_i h
  rw [List.singleton_append]
  by_cases e:i=k
  ·subst e;simp
  ·rw [if_neg e]
   obtain ⟨m,hm⟩:∃ m,i - k=m+1:=⟨i - k - 1,by omega⟩
   rw [hm,List.getElem?_cons_succ,List.getElem?_drop]
   congr 1
   omega
theorem put_mem {α:Type} {l:List α} {d x:α} {k:Nat}:x ∈ l.take k++[d]++l.drop k ↔ x=d∨x ∈ l:=by
 rw [List.append_assoc,List.mem_append,List.singleton_append,List.mem_cons]
 constructor
 ·rintro (h|h|h)
  ·exact .inr (List.mem_of_mem_take h)
  ·exact .inl h
  ·exact .inr (List.mem_of_mem_drop h)
 ·rintro (h|h)
  ·exact .inr (.inl h)
  ·rw [← List.take_append_drop k l,List.mem_append] at h
   rcases h with h|h
   ·exact .inl h
   ·exact .inr (.inr h)
theorem put_perm {α:Type} (l:List α) (d:α) (k:Nat):(l.take k++[d]++l.drop k).Perm (d :: l):=by
 rw [List.append_assoc,List.singleton_append]
 refine (List.perm_middle).trans ?_
 rw [List.take_append_drop]
theorem okp_get {l:List Dev} (h:Okp l) {i:Nat} {d:Dev} (hd:l[i]? = some d):d.parent=0∨∃ (j:Nat) (e:Dev),j < i∧l[j]? = some e∧e.index=d.parent:=by
 obtain ⟨hi,rfl⟩:=List.getElem?_eq_some_iff.1 hd
 rcases h.par i hi with h0|⟨j,hj,hp⟩
 ·exact .inl h0
 ·exact .inr ⟨j,_,hj,List.getElem?_eq_getElem (by omega),hp⟩
theorem okp_put {l:List Dev} (h:Okp l) {d:Dev} (k:Nat) (hk:k≤l.length) (h1:1≤d.index) (hf:findD l d.index=none) (hp:d.parent=0∨∃ (j:Nat) (e:Dev),j < k∧l[j]? = some e∧e.index=d.parent):Okp (l.take k++[d]++l.drop k):=by
 refine ⟨fun x hx=>?_,?_,fun i hi=>?_⟩
 ·rcases put_mem.1 hx with rfl|hx
  ·exact h1
  ·exact h.pos x hx
 ·rw [((put_perm l d k).map Dev.index).nodup_iff,List.map_cons,List.nodup_cons]
  refine ⟨fun hm=>?_,h.nodup⟩
  obtain ⟨x,hx,he⟩:=List.mem_map.1 hm
  exact findD_none.1 hf x hx he
 ·have hg:=putl_get l d k hk
  have up:∀ (j:Nat) (e:Dev),l[j]? = some e → (j < k∧(l.take k++[d]++l.drop k)[j]? = some e)∨(k≤j∧(l.take k++[d]++l.drop k)[j+1]? = some e):=fun j e he=>by
   by_cases hj:j < k
   ·exact .inl ⟨hj,by rw [hg,if_pos hj];exact he⟩
   ·exact .inr ⟨by omega,by rw [hg,if_neg (by omega),if_neg (by omega)];simpa using he⟩
  have fin:∀ (j:Nat) (e:Dev),j < i → (l.take k++[d]++l.drop k)[j]? = some e → e.index=(l.take k++[d]++l.drop k)[i].parent → ∃ (j:Nat) (hj:j < i),(l.take k++[d]++l.drop k)[j].index=(l.take k++[d]++l.drop k)[i].parent:=fun j e hj he hx=>by
   obtain ⟨h3,h4⟩:=List.getElem?_eq_some_iff.1 he
   exact ⟨j,hj,by rw [h4];exact hx⟩
  have hx:(l.take k++[d]++l.drop k)[i]? = some (l.take k++[d]++l.drop k)[i]:=List.getElem?_eq_getElem hi
  generalize (l.take k++[d]++l.drop k)[i]=x at hx fin ⊢
  rw [hg] at hx
  split at hx
  ·rcases okp_get h hx with h0|⟨j,e,hj,he,hi2⟩
   ·exact .inl h0
   ·rcases up j e he with ⟨_,h3⟩|⟨h3,_⟩
    ·exact .inr (fin j e hj h3 hi2)
    ·omega
  ·split at hx
   ·rename_i hik
    cases hx
    rcases hp with h0|⟨j,e,hj,he,hi2⟩
    ·exact .inl h0
    ·rcases up j e he with ⟨_,h3⟩|⟨h3,_⟩
     ·exact .inr (fin j e (by omega) h3 hi2)
     ·omega
   ·rcases okp_get h hx with h0|⟨j,e,hj,he,hi2⟩
    ·exact .inl h0
    ·rcases up j e he with ⟨_,h3⟩|⟨_,h3⟩
     ·exact .inr (fin j e (by omega) h3 hi2)
     ·exact .inr (fin (j+1) e (by omega) h3 hi2)
theorem chain_same {l m:List Dev} (hl:Okp l) (hm:Okp m) (hsub:∀ d ∈ l,d ∈ m → d.parent=0∨∃ e ∈ l,e ∈ m∧e.index=d.parent):∀ (i:Nat) (hi:i < l.length),l[i] ∈ m → chainM l l[i].index=chainM m l[i].index:=by
 intro i
 induction i using Nat.strongRecOn with
 | ind i ih =>
  intro hi him
  have hil:l[i] ∈ l:=List.getElem_mem hi
  rw [chain_step hl hil,chain_step hm him]
  congr 1
  rcases hsub _ hil him with h0|⟨e,he,hem,hx⟩
  ·rw [h0,chain_none (find0 hl.pos (by omega)),chain_none (find0 hm.pos (by omega))]
  ·rcases hl.par i hi with h0|⟨j,hj,hp⟩
   ·rw [h0] at hx;have:=hl.pos e he;omega
   ·have hj2:j < l.length:=by omega
    have hee:l[j]=e:=by
     have h1:=findD_mem hl.nodup he
     have h2:=findD_mem hl.nodup (List.getElem_mem hj2)
     rw [hp,← hx,h1] at h2
     exact (Option.some.inj h2).symm
    rw [← hp]
    exact ih j hj hj2 (by rw [hee];exact hem)
theorem orig_same {l m:List Dev} (hl:Okp l) (hm:Okp m) (hsub:∀ d ∈ l,d ∈ m → d.parent=0∨∃ e ∈ l,e ∈ m∧e.index=d.parent) {d:Dev} (hd:d ∈ l) (hdm:d ∈ m):origM l d.index=origM m d.index:=by
 obtain ⟨i,hi,rfl⟩:=List.getElem_of_mem hd
 unfold origM
 rw [chain_same hl hm hsub i hi hdm]
theorem find_of_any {l:List Dev} {n:Int} (h:(findD l n).isNone=false):∃ (j:Nat) (e:Dev),l[j]? = some e∧e.index=n:=by
 cases hf:findD l n with
 | none=>rw [hf] at h;cases h
 | some e =>
  obtain ⟨h1,h2⟩:=findD_some hf
  obtain ⟨j,hj,rfl⟩:=List.getElem_of_mem h1
  exact ⟨j,_,List.getElem?_eq_getElem hj,h2⟩
theorem ins_split {l:List Dev} {d:Dev} (h:insErr l d=0):checkM d=0∧findD l d.index=none∧(d.parent=0∨(findD l d.parent).isNone=false)∧l.length < 256∧(ownM l d).length≤7∧∀ x ∈ l,bad1 l (ownM l d) d x=false:=by
 unfold insErr at h
 split at h
 ·cases h
 rename_i h1
 split at h
 ·cases h
 rename_i h2
 split at h
 ·cases h
 rename_i h3
 split at h
 ·cases h
 rename_i h4
 split at h
 ·cases h
 rename_i h5
 split at h
 ·cases h
 rename_i h6
 refine ⟨by simpa using h1,by simpa using h2,?_,by omega,by omega,fun x hx=>?_⟩
 ·by_cases e:d.parent=0
  ·exact .inl e
  ·exact .inr (by cases hq:(findD l d.parent).isNone with|false=>rfl|true=>exact absurd ⟨e,hq⟩ h3)
 ·cases hb:bad1 l (ownM l d) d x with
  | false=>rfl
  | true=>exact absurd (List.any_eq_true.2 ⟨x,hx,hb⟩) h6
theorem Okt.ins {l:List Dev} (h:Okt l) {d:Dev} (hi:insErr l d=0):Okt (insT l d)∧(∀ x ∈ l,origM (insT l d) x.index=origM l x.index):=by
 obtain ⟨h1,h2,h3,h4,h5,h6⟩:=ins_split hi
 have hle:=atM_le l (ownM l d) l.length
 have hpar:d.parent=0∨∃ (j:Nat) (e:Dev),j < atM l (ownM l d) l.length∧l[j]? = some e∧e.index=d.parent:=by
  rcases h3 with h3|h3
  ·exact .inl h3
  ·obtain ⟨j,e,hj,he⟩:=find_of_any h3
   obtain ⟨hj2,hj3⟩:=List.getElem?_eq_some_iff.1 hj
   have hc:cmpL (origM l (l.getD j default).index) (ownM l d) < 0:=by
    rw [getD_lt l hj2,hj3,he]
    exact cmpL_pre _ _
   exact .inr ⟨j,e,by have:=atM_ge l (ownM l d) hc l.length hj2;omega,hj,he⟩
 have hok:Okp (insT l d):=okp_put h.p _ hle (check_index h1).1 h2 hpar
 have hmem:∀ x,x ∈ insT l d ↔ x=d∨x ∈ l:=fun x=>put_mem
 have hsame:∀ x ∈ l,origM (insT l d) x.index=origM l x.index:=fun x hx=>by
  refine (orig_same h.p hok (fun y hy hy2=>?_) hx ((hmem x).2 (.inr hx))).symm
  obtain ⟨i,hi2,rfl⟩:=List.getElem_of_mem hy
  rcases h.par i hi2 with h0|⟨j,hj,hp⟩
  ·exact .inl h0
  ·exact .inr ⟨l[j],List.getElem_mem _,(hmem _).2 (.inr (List.getElem_mem _)),hp⟩
 have hown:origM (insT l d) d.index=ownM l d:=by
  rw [orig_step hok ((hmem d).2 (.inl rfl)),ownM]
  congr 1
  rcases h3 with h3|h3
  ·rw [h3,orig_none (find0 hok.pos (by omega)),orig_none (find0 h.pos (by omega))]
  ·obtain ⟨j,e,hj,he⟩:=find_of_any h3
   rw [← he]
   exact hsame e (List.mem_of_getElem? hj)
 refine ⟨⟨hok.pos,hok.nodup,hok.par,fun x hx=>?_,fun x hx y hy he=>?_⟩,hsame⟩
 ·rcases (hmem x).1 hx with rfl|hx
  ·exact check_orig h1
  ·exact h.val x hx
 ·have hno:∀ x ∈ l,origM l x.index≠ownM l d:=fun x hx e=>by
   have:=h6 x hx
   unfold bad1 at this
   rw [Bool.or_eq_false_iff] at this
   exact absurd (cmpL_eq.2 e) (by simpa using this.1)
  rcases (hmem x).1 hx with rfl|hx'<;>rcases (hmem y).1 hy with rfl|hy'
  ·rfl
  ·rw [hown,hsame y hy'] at he
   exact absurd he.symm (hno y hy')
  ·rw [hown,hsame x hx'] at he
   exact absurd he (hno x hx')
  ·rw [hsame x hx',hsame y hy'] at he
   exact h.dist x hx' y hy' he
def belowM (l:List Dev) (m top:Int):Bool:=(chainM l m).any fun d=>decide (d.index=top)
def remT (l:List Dev) (n:Int):List Dev:=l.filter fun d=>!belowM l d.index n
theorem Okt.rem {l:List Dev} (h:Okt l) (n:Int):Okt (remT l n)∧(∀ x ∈ remT l n,origM (remT l n) x.index=origM l x.index):=by
 have hmem:∀ x,x ∈ remT l n ↔ x ∈ l∧belowM l x.index n=false:=fun x=>by unfold remT;rw [List.mem_filter];simp
 have hup:∀ x ∈ l,∀ e ∈ l,e.index=x.parent → belowM l x.index n=false → belowM l e.index n=false:=fun x hx e he hp hb=>by
  unfold belowM at hb ⊢
  rw [chain_step h.p hx,← hp,List.any_cons,Bool.or_eq_false_iff] at hb
  exact hb.2
 have hok:Okp (remT l n):=by
  refine ⟨fun x hx=>h.pos x ((hmem x).1 hx).1,h.nodup.sublist (List.filter_sublist.map _),fun i hi=>?_⟩
  have hs:remT l n=(remT l n).take i++(remT l n)[i] :: (remT l n).drop (i+1):=by rw [← List.drop_eq_getElem_cons hi,List.take_append_drop]
  have hs2:=hs
  conv at hs2=>lhs;unfold remT
  obtain ⟨l1,l2,e1,e2,e3⟩:=List.filter_eq_append_iff.1 hs2
  obtain ⟨l3,l4,e4,e5,e6,e7⟩:=List.filter_eq_cons_iff.1 e3
  have hil:(remT l n)[i] ∈ l:=((hmem _).1 (List.getElem_mem hi)).1
  have hib:=((hmem _).1 (List.getElem_mem hi)).2
  generalize (remT l n)[i]=x at hil hib e4 e6
  have hpos:l[l1.length+l3.length]? = some x:=by
   rw [e1,e4,List.getElem?_append_right (by omega),List.getElem?_append_right (by omega)]
   have:l1.length+l3.length - l1.length - l3.length=0:=by omega
   rw [this];rfl
  rcases okp_get h.p hpos with h0|⟨j,e,hj,he,hp⟩
  ·exact .inl h0
  ·right
   have hel:e ∈ l:=List.mem_of_getElem? he
   have heb:=hup _ hil e hel hp hib
   have he1:e ∈ l1:=by
    rw [e1,e4] at he
    by_cases hj1:j < l1.length
    ·rw [List.getElem?_append_left hj1] at he
     exact List.mem_of_getElem? he
    ·rw [List.getElem?_append_right (by omega),List.getElem?_append_left (by omega)] at he
     have:=e5 e (List.mem_of_getElem? he)
     simp [heb] at this
   have he2:e ∈ (remT l n).take i:=by
    rw [← e2,List.mem_filter]
    exact ⟨he1,by simp [heb]⟩
   obtain ⟨j',hj',hx⟩:=List.mem_take_iff_getElem.1 he2
   exact ⟨j',by omega,by rw [hx];exact hp⟩
 have hsame:∀ x ∈ remT l n,origM (remT l n) x.index=origM l x.index:=fun x hx=>by
  refine orig_same hok h.p (fun y hy hy2=>?_) hx ((hmem x).1 hx).1
  obtain ⟨i,hi2,rfl⟩:=List.getElem_of_mem hy
  rcases hok.par i hi2 with h0|⟨j,hj,hp⟩
  ·exact .inl h0
  ·exact .inr ⟨_,List.getElem_mem _,((hmem _).1 (List.getElem_mem (by omega))).1,hp⟩
 refine ⟨⟨hok.pos,hok.nodup,hok.par,fun x hx=>h.val x ((hmem x).1 hx).1,fun x hx y hy he=>?_⟩,hsame⟩
 rw [hsame x hx,hsame y hy] at he
 exact h.dist x ((hmem x).1 hx).1 y ((hmem y).1 hy).1 he
def atD (l:List Dev) (p:ByteArray):Option Dev:=l.find? fun d=>decide (placeM l d.index=p)
def OrdT (l:List Dev):Prop:=l.Pairwise fun a b=>cmpL (origM l a.index) (origM l b.index) < 0
def NodT (l:List Dev):Prop:=∀ a ∈ l,∀ b ∈ l,hasN a=true → hasN b=true → nodeM a=nodeM b → a=b
theorem OrdT.nil:OrdT []:=List.Pairwise.nil
theorem NodT.nil:NodT []:=fun a ha=>by cases ha
theorem atM_last (l:List Dev) (own:List ByteArray):∀ n,atM l own n=0∨cmpL (origM l (l.getD (atM l own n - 1) default).index) own < 0
 | 0=>by simp [atM]
 | n+1=>by
  rw [atM_succ]
  split
  ·rename_i h;exact .inr h
  ·exact atM_last l own n
theorem ins_hi {l:List Dev} {d:Dev} (h:insErr l d=0):∀ x ∈ l.drop (atM l (ownM l d) l.length),cmpL (ownM l d) (origM l x.index) < 0:=fun x hx=>by
 obtain ⟨_,_,_,_,_,h6⟩:=ins_split h
 obtain ⟨i,hi,rfl⟩:=List.getElem_of_mem hx
 rw [List.length_drop] at hi
 have hb:=h6 _ (List.mem_of_mem_drop hx)
 rw [List.getElem_drop] at hb ⊢
 unfold bad1 at hb
 rw [Bool.or_eq_false_iff] at hb
 have h0:¬ cmpL (origM l (l[atM l (ownM l d) l.length+i]'(by omega)).index) (ownM l d)=0:=by simpa using hb.1
 have h1:¬ cmpL (origM l (l[atM l (ownM l d) l.length+i]'(by omega)).index) (ownM l d) < 0:=fun hc=>by
  have hj:atM l (ownM l d) l.length+i < l.length:=by omega
  rw [← getD_lt l hj] at hc
  have:=atM_ge l (ownM l d) hc l.length hj
  omega
 rw [cmpL_anti]
 omega
theorem ins_lo {l:List Dev} {d:Dev} (ho:OrdT l):∀ x ∈ l.take (atM l (ownM l d) l.length),cmpL (origM l x.index) (ownM l d) < 0:=fun x hx=>by
 have hle:=atM_le l (ownM l d) l.length
 obtain ⟨i,hi,rfl⟩:=List.getElem_of_mem hx
 rw [List.length_take] at hi
 rw [List.getElem_take]
 rcases atM_last l (ownM l d) l.length with h0|h0
 ·omega
 ·obtain ⟨k,hk⟩:∃ k,atM l (ownM l d) l.length=k:=⟨_,rfl⟩
  rw [hk] at hi h0 hle
  have hk1:k - 1 < l.length:=by omega
  rw [getD_lt l hk1] at h0
  by_cases e:i=k - 1
  ·subst e;exact h0
  ·exact cmpL_trans (List.pairwise_iff_getElem.1 ho i (k - 1) (by omega) hk1 (by omega)) h0
theorem own_orig {l:List Dev} (h:Okt l) {d:Dev} (hi:insErr l d=0):origM (insT l d) d.index=ownM l d:=by
 obtain ⟨hok,hsame⟩:=h.ins hi
 obtain ⟨_,_,h3,_,_,_⟩:=ins_split hi
 have hmem:∀ x,x ∈ insT l d ↔ x=d∨x ∈ l:=fun x=>put_mem
 rw [orig_step hok.p ((hmem d).2 (.inl rfl)),ownM]
 congr 1
 rcases h3 with h3|h3
 ·rw [h3,orig_none (find0 hok.pos (by omega)),orig_none (find0 h.pos (by omega))]
 ·obtain ⟨j,e,hj,he⟩:=find_of_any h3
  rw [← he]
  exact hsame e (List.mem_of_getElem? hj)
theorem OrdT.ins {l:List Dev} (ho:OrdT l) (h:Okt l) {d:Dev} (hi:insErr l d=0):OrdT (insT l d):=by
 obtain ⟨hok,hsame⟩:=h.ins hi
 have hown:=own_orig h hi
 have hlo:=ins_lo (d:=d) ho
 have hhi:=ins_hi hi
 have ht:∀ x ∈ l.take (atM l (ownM l d) l.length),x ∈ l:=fun x hx=>List.mem_of_mem_take hx
 have hd:∀ x ∈ l.drop (atM l (ownM l d) l.length),x ∈ l:=fun x hx=>List.mem_of_mem_drop hx
 have key:(l.take (atM l (ownM l d) l.length)++([d]++l.drop (atM l (ownM l d) l.length))).Pairwise fun a b=>cmpL (origM (insT l d) a.index) (origM (insT l d) b.index) < 0:=by
  rw [List.pairwise_append]
  refine ⟨(List.Pairwise.sublist (List.take_sublist _ _) ho).imp_of_mem fun ha hb hab=>by rw [hsame _ (ht _ ha),hsame _ (ht _ hb)];exact hab,?_,?_⟩
  ·rw [List.singleton_append,List.pairwise_cons]
   refine ⟨fun y hy=>by rw [hown,hsame _ (hd _ hy)];exact hhi y hy,(List.Pairwise.sublist (List.drop_sublist _ _) ho).imp_of_mem fun ha hb hab=>by rw [hsame _ (hd _ ha),hsame _ (hd _ hb)];exact hab⟩
  ·intro x hx y hy
   rw [hsame _ (ht _ hx)]
   rcases List.mem_append.1 hy with hy|hy
   ·rw [List.mem_singleton] at hy
    subst hy
    rw [hown]
    exact hlo x hx
   ·rw [hsame _ (hd _ hy)]
    exact cmpL_trans (hlo x hx) (hhi y hy)
 unfold OrdT
 rw [← List.append_assoc] at key
 exact key
theorem NodT.ins {l:List Dev} (hn:NodT l) {d:Dev} (hi:insErr l d=0):NodT (insT l d):=by
 obtain ⟨_,_,_,_,_,h6⟩:=ins_split hi
 have hmem:∀ x,x ∈ insT l d → x=d∨x ∈ l:=fun x hx=>put_mem.1 hx
 have hno:∀ x ∈ l,hasN x=true → hasN d=true → nodeM x≠nodeM d:=fun x hx h1 h2 e=>by
  have:=h6 x hx
  unfold bad1 clashM at this
  rw [h1,h2,e] at this
  simp at this
 intro a ha b hb h1 h2 e
 rcases hmem a ha with ea|ha'<;>rcases hmem b hb with eb|hb'
 ·rw [ea,eb]
 ·subst ea;exact absurd e.symm (hno b hb' h2 h1)
 ·subst eb;exact absurd e (hno a ha' h1 h2)
 ·exact hn a ha' b hb' h1 h2 e
def NetT (l:List Dev):Prop:=∀ a ∈ l,∀ b ∈ l,a.kind=4 → b.kind=4 → a.name=b.name → a=b
theorem NetT.nil:NetT []:=fun a ha=>by cases ha
theorem NetT.ins {l:List Dev} (hn:NetT l) {d:Dev} (hi:insErr l d=0):NetT (insT l d):=by
 obtain ⟨_,_,_,_,_,h6⟩:=ins_split hi
 have hmem:∀ x,x ∈ insT l d → x=d∨x ∈ l:=fun x hx=>put_mem.1 hx
 have hno:∀ x ∈ l,x.kind=4 → d.kind=4 → x.name≠d.name:=fun x hx h1 h2 e=>by
  have:=h6 x hx
  unfold bad1 clashM at this
  rw [h1,h2,e] at this
  simp at this
 intro a ha b hb h1 h2 e
 rcases hmem a ha with ea|ha'<;>rcases hmem b hb with eb|hb'
 ·rw [ea,eb]
 ·subst ea;exact absurd e.symm (hno b hb' h2 h1)
 ·subst eb;exact absurd e (hno a ha' h1 h2)
 ·exact hn a ha' b hb' h1 h2 e
def clashesM (l:List Dev) (d:Dev):Bool:=l.any fun x=>!decide (x.index=d.index) && clashM x d
def chgT (l:List Dev) (d:Dev):List Dev:=l.map fun x=>if x.index=d.index then d else x
def chgErr (l:List Dev) (d:Dev):Int:=match findD l d.index with
 | none=>45
 | some o=>if checkM d≠0 then 41 else if d.parent≠o.parent∨d.original≠o.original∨d.kind≠o.kind then 42 else if clashesM l d=true then 44 else 0
theorem chgT_set {l:List Dev} {d:Dev} (hn:(l.map Dev.index).Nodup) {i:Nat} (hi:i < l.length) (he:(l.getD i default).index=d.index):chgT l d=l.set i d:=by
 unfold chgT
 refine List.ext_getElem (by simp) fun j h1 h2=>?_
 rw [List.getElem_map,List.getElem_set]
 rw [List.length_map] at h1
 rw [getD_lt l hi] at he
 by_cases e:i=j
 ·subst e;rw [if_pos he,if_pos rfl]
 ·rw [if_neg e]
  rw [if_neg]
  intro e2
  apply e
  have h3:=List.pairwise_iff_getElem.1 hn
  rcases Nat.lt_trichotomy i j with h|h|h
  ·exact absurd (by rw [List.getElem_map,List.getElem_map,he,e2]) (h3 i j (by simpa using hi) (by simpa using h1) h)
  ·exact h
  ·exact absurd (by rw [List.getElem_map,List.getElem_map,he,e2]) (h3 j i (by simpa using h1) (by simpa using hi) h)
structure Keeps (f:Dev → Dev):Prop where
 ix:∀ x,(f x).index=x.index
 pa:∀ x,(f x).parent=x.parent
 orig:∀ x,(f x).original=x.original
theorem Keeps.find {f:Dev → Dev} (h:Keeps f) (l:List Dev) (n:Int):findD (l.map f) n=(findD l n).map f:=by
 unfold findD
 rw [List.find?_map]
 congr 1
 show List.find? (fun x=>decide ((f x).index=n)) l=_
 simp only [h.ix]
theorem Keeps.chain {f:Dev → Dev} (h:Keeps f) (l:List Dev):∀ (k:Nat) (n:Int),chainGo (l.map f) k n=(chainGo l k n).map f
 | 0,n=>rfl
 | k+1,n=>by
  cases hf:findD l n with
  | none =>
   have hf2:findD (l.map f) n=none:=by rw [h.find,hf];rfl
   rw [chainGo_none hf,chainGo_none hf2];rfl
  | some d =>
   have hf2:findD (l.map f) n=some (f d):=by rw [h.find,hf];rfl
   rw [chainGo_some hf,chainGo_some hf2,h.pa,Keeps.chain h l k];rfl
theorem Keeps.orig' {f:Dev → Dev} (h:Keeps f) (l:List Dev) (n:Int):origM (l.map f) n=origM l n:=by
 unfold origM chainM
 rw [h.chain,List.length_map,List.map_map]
 congr 2
 funext x
 exact h.orig x
theorem Keeps.ixs {f:Dev → Dev} (h:Keeps f) (l:List Dev):(l.map f).map Dev.index=l.map Dev.index:=by
 rw [List.map_map]
 exact List.map_congr_left fun x _=>h.ix x
theorem Keeps.okt {f:Dev → Dev} (h:Keeps f) {l:List Dev} (ht:Okt l):Okt (l.map f):=by
 refine ⟨fun d hd=>?_,by rw [h.ixs];exact ht.nodup,fun i hi=>?_,fun d hd=>?_,fun d hd e he hde=>?_⟩
 ·obtain ⟨x,hx,rfl⟩:=List.mem_map.1 hd
  rw [h.ix];exact ht.pos x hx
 ·rw [List.length_map] at hi
  rw [List.getElem_map,h.pa]
  rcases ht.par i hi with h1|⟨j,hj,h1⟩
  ·exact .inl h1
  ·exact .inr ⟨j,hj,by rw [List.getElem_map,h.ix];exact h1⟩
 ·obtain ⟨x,hx,rfl⟩:=List.mem_map.1 hd
  rw [h.orig];exact ht.val x hx
 ·obtain ⟨x,hx,rfl⟩:=List.mem_map.1 hd
  obtain ⟨y,hy,rfl⟩:=List.mem_map.1 he
  rw [h.orig',h.orig',h.ix,h.ix] at hde
  rw [ht.dist x hx y hy hde]
theorem Keeps.ord {f:Dev → Dev} (h:Keeps f) {l:List Dev} (ho:OrdT l):OrdT (l.map f):=by
 unfold OrdT
 rw [List.pairwise_map]
 refine ho.imp fun {a b} hab=>?_
 rw [h.orig',h.orig',h.ix,h.ix]
 exact hab
structure TreeV (l:List Dev):Prop where
 okt:Okt l
 ord:OrdT l
 ncl:∀ a ∈ l,∀ b ∈ l,a≠b → clashM a b=false
 chk:∀ d ∈ l,checkM d=0
 dep:∀ d ∈ l,(origM l d.index).length≤7
 len:l.length≤256
theorem clash_symm (a b:Dev):clashM a b=clashM b a:=by
 have h1:decide (a.name=b.name)=decide (b.name=a.name):=decide_eq_decide.2 eq_comm
 have h2:decide (a.kind=b.kind)=decide (b.kind=a.kind):=decide_eq_decide.2 eq_comm
 have h3:decide (a.number=b.number)=decide (b.number=a.number):=decide_eq_decide.2 eq_comm
 have h4:decide (nodeM a=nodeM b)=decide (nodeM b=nodeM a):=decide_eq_decide.2 eq_comm
 unfold clashM
 rw [h1,h2,h3,h4,Bool.and_comm (decide (a.kind=4)),Bool.and_comm (hasN a),Bool.or_comm (beneath (nodeM a) (nodeM b))]
theorem TreeV.nil:TreeV []:=⟨Okt.nil,OrdT.nil,fun d hd=>(by cases hd),fun d hd=>(by cases hd),fun d hd=>(by cases hd),Nat.zero_le _⟩
theorem TreeV.nod {l:List Dev} (h:TreeV l):NodT l:=fun a ha b hb h1 h2 e=>Decidable.byContradiction fun hne=>by
 have:=h.ncl a ha b hb hne
 unfold clashM at this
 rw [h1,h2,e] at this
 simp at this
theorem insT_in {l:List Dev} {d x:Dev}:x ∈ insT l d ↔ x=d∨x ∈ l:=by unfold insT;exact put_mem
theorem insT_le (l:List Dev) (d:Dev):(insT l d).length=l.length+1:=by
 have:=atM_le l (ownM l d) l.length
 unfold insT
 simp only [List.length_append,List.length_take,List.length_drop,List.length_cons,List.length_nil]
 omega
theorem TreeV.ins {l:List Dev} (h:TreeV l) {d:Dev} (he:insErr l d=0):TreeV (insT l d):=by
 obtain ⟨hc,_,_,hl,hd,h6⟩:=ins_split he
 obtain ⟨h1,h2⟩:=h.okt.ins he
 have hno:∀ x ∈ l,clashM x d=false:=fun x hx=>by
  have:=h6 x hx
  unfold bad1 at this
  cases hb:clashM x d with
  | false=>rfl
  | true=>rw [hb] at this;simp at this
 refine ⟨h1,h.ord.ins h.okt he,fun a ha b hb hne=>?_,fun x hx=>(insT_in.1 hx).elim (fun e=>by rw [e];exact hc) (h.chk x),fun x hx=>?_,by rw [insT_le];omega⟩
 ·rcases insT_in.1 ha with ea|ha'<;>rcases insT_in.1 hb with eb|hb'
  ·exact absurd (ea.trans eb.symm) hne
  ·rw [ea,clash_symm];exact hno b hb'
  ·rw [eb];exact hno a ha'
  ·exact h.ncl a ha' b hb' hne
 ·rcases insT_in.1 hx with e|hx'
  ·rw [e,own_orig h.okt he];exact hd
  ·rw [h2 x hx'];exact h.dep x hx'
theorem TreeV.rem {l:List Dev} (h:TreeV l) (n:Int):TreeV (remT l n):=by
 have hm:∀ x ∈ remT l n,x ∈ l:=fun x hx=>(List.mem_filter.1 hx).1
 obtain ⟨h1,h2⟩:=h.okt.rem n
 refine ⟨h1,?_,fun a ha b hb=>h.ncl a (hm a ha) b (hm b hb),fun x hx=>h.chk x (hm x hx),fun x hx=>by rw [h2 x hx];exact h.dep x (hm x hx),Nat.le_trans (List.length_filter_le _ _) h.len⟩
 unfold OrdT
 refine List.Pairwise.imp_of_mem (R:=fun a b=>cmpL (origM l a.index) (origM l b.index) < 0) (fun ha hb hab=>by rw [h2 _ ha,h2 _ hb];exact hab) ?_
 exact h.ord.filter _
def chgF (o d:Dev) (x:Dev):Dev:=if x=o then d else x
structure ChgOk (l:List Dev) (d o:Dev):Prop where
 mem:o ∈ l
 ix:o.index=d.index
 kp:Keeps (chgF o d)
 eq:chgT l d=l.map (chgF o d)
 kind:d.kind=o.kind
 chk:checkM d=0
 no:∀ x ∈ l,x≠o → clashM x d=false
theorem same_ix {l:List Dev} (hn:(l.map Dev.index).Nodup) {x y:Dev} (hx:x ∈ l) (hy:y ∈ l) (e:x.index=y.index):x=y:=by
 have h1:=findD_mem hn hx
 rw [e,findD_mem hn hy] at h1
 exact (Option.some.inj h1).symm
theorem chg_split {l:List Dev} (hn:(l.map Dev.index).Nodup) {d:Dev} (h:chgErr l d=0):∃ o,ChgOk l d o:=by
 unfold chgErr at h
 cases hf:findD l d.index with
 | none=>rw [hf] at h;cases h
 | some o =>
  rw [hf] at h
  simp only at h
  obtain ⟨hm,hi⟩:=findD_some hf
  by_cases h1:checkM d=0
  case neg=>rw [if_pos h1] at h;cases h
  rw [if_neg (fun h=>h h1)] at h
  by_cases h2:d.parent≠o.parent∨d.original≠o.original∨d.kind≠o.kind
  ·rw [if_pos h2] at h;cases h
  rw [if_neg h2] at h
  by_cases h3:clashesM l d=true
  ·rw [if_pos h3] at h;cases h
  have hp:d.parent=o.parent:=Decidable.byContradiction fun e=>h2 (.inl e)
  have ho:d.original=o.original:=Decidable.byContradiction fun e=>h2 (.inr (.inl e))
  have hk:d.kind=o.kind:=Decidable.byContradiction fun e=>h2 (.inr (.inr e))
  refine ⟨o,hm,hi,⟨fun x=>?_,fun x=>?_,fun x=>?_⟩,?_,hk,h1,fun x hx hne=>?_⟩
  ·unfold chgF;split
   ·rename_i e;rw [e];exact hi.symm
   ·rfl
  ·unfold chgF;split
   ·rename_i e;rw [e];exact hp
   ·rfl
  ·unfold chgF;split
   ·rename_i e;rw [e];exact ho
   ·rfl
  ·unfold chgT
   refine List.map_congr_left fun x hx=>?_
   unfold chgF
   by_cases e:x=o
   ·rw [if_pos e,if_pos (by rw [e];exact hi)]
   ·rw [if_neg e,if_neg (fun e2=>e (same_ix hn hx hm (e2.trans hi.symm)))]
  ·cases hc:clashM x d with
   | false=>rfl
   | true =>
    exfalso
    apply h3
    unfold clashesM
    rw [List.any_eq_true]
    refine ⟨x,hx,?_⟩
    rw [hc,Bool.and_true,Bool.not_eq_true',decide_eq_false_iff_not]
    exact fun e=>hne (same_ix hn hx hm (e.trans hi.symm))
theorem TreeV.chg {l:List Dev} (h:TreeV l) {d:Dev} (he:chgErr l d=0):TreeV (chgT l d):=by
 obtain ⟨o,hc⟩:=chg_split h.okt.nodup he
 have hF:∀ x,chgF o d x=d∧x=o∨chgF o d x=x∧x≠o:=fun x=>by
  unfold chgF
  by_cases e:x=o
  ·exact .inl ⟨if_pos e,e⟩
  ·exact .inr ⟨if_neg e,e⟩
 rw [hc.eq]
 refine ⟨hc.kp.okt h.okt,hc.kp.ord h.ord,fun a ha b hb hne=>?_,fun x hx=>?_,fun x hx=>?_,by rw [List.length_map];exact h.len⟩
 ·obtain ⟨x,hx,rfl⟩:=List.mem_map.1 ha
  obtain ⟨y,hy,rfl⟩:=List.mem_map.1 hb
  rcases hF x with ⟨e1,e2⟩|⟨e1,e2⟩<;>rcases hF y with ⟨e3,e4⟩|⟨e3,e4⟩
  ·exact absurd (e1.trans e3.symm) hne
  ·rw [e1,e3,clash_symm];exact hc.no y hy e4
  ·rw [e1,e3];exact hc.no x hx e2
  ·rw [e1,e3];exact h.ncl x hx y hy (fun e=>hne (by rw [e1,e3,e]))
 ·obtain ⟨y,hy,rfl⟩:=List.mem_map.1 hx
  rcases hF y with ⟨e1,e2⟩|⟨e1,e2⟩
  ·rw [e1];exact hc.chk
  ·rw [e1];exact h.chk y hy
 ·obtain ⟨y,hy,rfl⟩:=List.mem_map.1 hx
  rw [hc.kp.orig',hc.kp.ix]
  exact h.dep y hy
structure Evt where
 seq:Int
 act:Int
 idx:Int
 path:ByteArray
 old:ByteArray
 deriving DecidableEq,Inhabited
def Evt.d (e:Evt):List D:=[.v (.int .i64 e.seq),.v (.int .i64 e.act),.v (.int .i64 e.idx),.v (.string e.path),.v (.string e.old)]
def Evt.e (e:Evt):List E:=[.v (.int .i64 e.seq),.v (.int .i64 e.act),.v (.int .i64 e.idx),.v (.string e.path),.v (.string e.old)]
attribute [push_cast] Evt.d Evt.e
structure Ker where
 tree:List Dev
 mods:List Mod
 loaded:List ByteArray
 evs:List Evt
 top:Int
def pathM (l:List Dev) (n:Int):ByteArray:=joinP (((chainM l n).map Dev.name).reverse)
def Ker.tell (k:Ker) (a ix:Int) (path old:ByteArray):Ker:=⟨k.tree,k.mods,k.loaded,k.evs++[⟨(k.evs.length:Int)+1,a,ix,path,old⟩],k.top⟩
def Ker.emit (k:Ker) (a ix:Int) (old:ByteArray):Ker:=k.tell a ix (pathM k.tree ix) old
def Ker.withT (k:Ker) (l:List Dev):Ker:=⟨l,k.mods,k.loaded,k.evs,k.top⟩
def drvD (d:Dev) (v:ByteArray):Dev:=⟨d.index,d.parent,d.name,d.original,d.subsystem,v,d.alias_,d.kind,d.number,d.attrs⟩
def attD (d:Dev) (l:List Atr):Dev:=⟨d.index,d.parent,d.name,d.original,d.subsystem,d.driver,d.alias_,d.kind,d.number,l⟩
def nmeD (d:Dev) (u:ByteArray):Dev:=⟨d.index,d.parent,u,d.original,d.subsystem,d.driver,d.alias_,d.kind,d.number,d.attrs⟩
def Ker.drive (k:Ker) (d:Dev) (v:ByteArray):Ker × Int :=
 if chgErr k.tree (drvD d v)=0 then ((k.withT (chgT k.tree (drvD d v))).emit (if v=⟨#[]⟩ then 6 else 5) d.index ⟨#[]⟩,0) else (k,chgErr k.tree (drvD d v))
def matB (m:Mod) (d:Dev):Bool:=!decide (d.alias_=⟨#[]⟩) && m.aliases.any fun p=>matchM p d.alias_
def newD (k:Ker) (p:Int) (x:Dev):Dev:=⟨k.top+1,p,x.original,x.original,x.subsystem,⟨#[]⟩,x.alias_,x.kind,x.number,x.attrs⟩
def firstM (k:Ker) (d:Dev):Option ByteArray:=k.loaded.find? fun s=>matB ((modOf k.mods s).getD noMod) d
def parI (l:List Dev) (path:ByteArray):Int:=match atD l path with
 | some p=>p.index
 | none=>0
def Ker.put (k:Ker) (d:Dev):Ker:=(⟨insT k.tree d,k.mods,k.loaded,k.evs,d.index⟩:Ker).emit 1 d.index ⟨#[]⟩
def Ker.add (k:Ker) (path:ByteArray) (x:Dev):Ker × Int × Int :=
 if path≠⟨#[]⟩∧(atD k.tree path).isNone=true then (k,0,51) else
 if insErr k.tree (newD k (parI k.tree path) x)≠0 then (k,0,insErr k.tree (newD k (parI k.tree path) x)) else
 match firstM k (newD k (parI k.tree path) x) with
 | none=>(k.put (newD k (parI k.tree path) x),k.top+1,0)
 | some s=>(((k.put (newD k (parI k.tree path) x)).drive (newD k (parI k.tree path) x) s).1,k.top+1,((k.put (newD k (parI k.tree path) x)).drive (newD k (parI k.tree path) x) s).2)
def subtM (l:List Dev) (n:Int):List Dev:=l.filter fun d=>belowM l d.index n
def remEvs (l:List Dev):Nat → List Dev → List Evt
 | _,[]=>[]
 | n,d :: ds=>⟨(n:Int)+1,2,d.index,pathM l d.index,⟨#[]⟩⟩ :: remEvs l (n+1) ds
def Ker.remove (k:Ker) (d:Dev):Ker × Int:=(⟨remT k.tree d.index,k.mods,k.loaded,k.evs++remEvs k.tree k.evs.length (subtM k.tree d.index).reverse,k.top⟩,0)
def Ker.set (k:Ker) (d:Dev) (n:ByteArray) (na:List Atr) (same:Bool):Ker × Int :=
 if validS n=false then (k,41) else
 if chgErr k.tree (attD d na)≠0 then (k,chgErr k.tree (attD d na)) else
 (if same=true then k.withT (chgT k.tree (attD d na)) else (k.withT (chgT k.tree (attD d na))).emit 3 d.index ⟨#[]⟩,0)
def Ker.trigger (k:Ker) (d:Dev):Ker × Int:=(k.emit 3 d.index ⟨#[]⟩,0)
def Ker.rename (k:Ker) (d:Dev) (u:ByteArray):Ker × Int :=
 if d.kind≠4 then (k,55) else
 if chgErr k.tree (nmeD d u)≠0 then (k,chgErr k.tree (nmeD d u)) else
 (if d.name=u then k.withT (chgT k.tree (nmeD d u)) else (k.withT (chgT k.tree (nmeD d u))).emit 4 d.index (pathM k.tree d.index),0)
def Ker.bind (k:Ker) (d:Dev) (v:ByteArray):Ker × Int :=
 if d.driver≠⟨#[]⟩ then (k,52) else if validS v=false then (k,41) else k.drive d v
def Ker.unbind (k:Ker) (d:Dev):Ker × Int:=if d.driver=⟨#[]⟩ then (k,52) else k.drive d ⟨#[]⟩
def Ker.each (k:Ker) (q:Dev → Bool) (v:ByteArray) (l:List Dev):Ker:=l.foldl (fun k d=>if q d=true then (k.drive d v).1 else k) k
def Ker.withL (k:Ker) (l:List ByteArray):Ker:=⟨k.tree,k.mods,l,k.evs,k.top⟩
def Ker.load (k:Ker) (n:ByteArray):Ker × Int:=match modOf k.mods n with
 | none=>(k,51)
 | some m=>if inM n k.loaded=true∨m.fails=true∨(m.needs.any fun s=>!inM s k.loaded)=true then (k,53) else
  ((k.withL (k.loaded++[n])).each (fun d=>decide (d.driver=⟨#[]⟩) && matB m d) n k.tree,0)
def Ker.needed (k:Ker) (n:ByteArray):Bool:=k.loaded.any fun s=>inM n ((modOf k.mods s).getD noMod).needs
def Ker.unload (k:Ker) (n:ByteArray):Ker × Int:=match modOf k.mods n with
 | none=>(k,51)
 | some m=>if inM n k.loaded=false∨k.needed n=true then (k,53) else
  ((k.withL (k.loaded.filter fun s=>!decide (s=n))).each (fun d=>decide (d.driver=n)) ⟨#[]⟩ k.tree,0)
end Go.Proofs.YtmbbkfffcflfcaaGreatDoor
