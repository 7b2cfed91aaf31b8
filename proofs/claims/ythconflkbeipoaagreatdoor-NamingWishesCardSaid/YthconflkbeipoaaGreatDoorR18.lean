/- What the program computes, and the plain laws of it, part 18. -/
import Derived.Lib.ReplaceLaws
import Derived.Test.YthconflkbeipoaaGreatDoorR17
namespace Go.Proofs.YthconflkbeipoaaGreatDoor
open Go.RowKit
open IntWalk renaming iteOmega → iO, toNatUp → tN
set_option linter.unusedVariables false
set_option linter.unusedSimpArgs false
def nodeS (s:ByteArray):ByteArray:=⟨(Lib.replaceAll s.data.toList [33] [47]).toArray⟩
def textB (b:UInt8):Bool:=decide (32≤b.toNat) && decide (b.toNat≤126)
def textS (s:ByteArray):Bool:=s.data.toList.all textB && decide (s.size≤256)
theorem getD_byte {s:ByteArray} {k:Nat} (h:k < s.size):∃ h':k < s.data.toList.length,s.data.toList.getD k 0=s.data.toList[k]:=⟨h,by rw [List.getD_eq_getElem?_getD,List.getElem?_eq_getElem (show k < s.data.toList.length from h)];rfl⟩
theorem all_next {p:UInt8 → Bool} {s:ByteArray} {k:Nat} (h:k < s.size) (ha:(s.data.toList.take k).all p=true) (hp:p (s.data.toList.getD k 0)=true):(s.data.toList.take (k+1)).all p=true:=by
 obtain ⟨h',e⟩:=getD_byte h
 rw [List.take_succ_eq_append_getElem h',List.all_append,ha,← e,List.all_cons,hp];rfl
theorem all_not {p:UInt8 → Bool} {s:ByteArray} {k:Nat} (h:k < s.size) (hp:p (s.data.toList.getD k 0)=false):s.data.toList.all p=false:=by
 obtain ⟨h',e⟩:=getD_byte h
 exact List.all_eq_false.2 ⟨s.data.toList.getD k 0,by rw [e];exact List.getElem_mem _,by rw [hp];decide⟩
def ifaceS (s:ByteArray):Bool:=(validS s && decide (s.size≤15)) && !(s.data.toList.contains 58 || s.data.toList.contains 33)
theorem nameB_ascii (b:UInt8) (h:nameB b=true):b.toNat < 128:=by
 have:∀ b ∈ nameT,b.toNat < 128:=by decide
 exact this b (by unfold nameB at h;exact List.contains_iff_mem.1 h)
theorem valid_ascii {s:ByteArray} (h:validS s=true):∀ (j:Nat) b,s.data.toList[j]? = some b → b.toNat < 128:=fun j b hb=>by
 unfold validS at h
 simp only [Bool.and_eq_true] at h
 exact nameB_ascii b (List.all_eq_true.1 h.2 b (List.mem_of_getElem? hb))
theorem valid_size {s:ByteArray} (h:validS s=true):s.size≤32:=by
 unfold validS at h
 simp only [Bool.and_eq_true,decide_eq_true_eq] at h
 exact h.1.1.2
def linkL:List Bool:=plusL commonL [64,35,61,37]
theorem linkL_len:linkL.length=256:=by rw [linkL,plusL_len,commonL_len]
def linkP (s:ByteArray):Bool:=(decide (s≠⟨#[]⟩) && !dotsS s) && hasL linkL s
def linkS (s:ByteArray):Bool:=decide (s.size≤256) && (parts s).all linkP
theorem part_size {s x:ByteArray} (h:x ∈ parts s):x.size≤s.size:=by
 have spl_mem:∀ {l x:List UInt8},x ∈ spl l → x.length≤l.length:=by
  intro l
  induction l with
  | nil=>intro x h;simp [spl] at h;subst h;simp
  | cons b l ih =>
   intro x h
   rw [spl] at h
   split at h
   ·rcases List.mem_cons.1 h with rfl|h
    ·simp
    ·have:=ih h;simp only [List.length_cons];omega
   ·split at h
    ·rename_i e;simp at h;subst h;simp
    ·rename_i y t e
     have hy:y ∈ spl l:=by rw [e];simp
     rcases List.mem_cons.1 h with rfl|h
     ·have:=ih hy;simp only [List.length_cons];omega
     ·have hx:x ∈ spl l:=by rw [e];simp [h]
      have:=ih hx;simp only [List.length_cons];omega
 unfold parts at h
 obtain ⟨y,hy,rfl⟩:=List.mem_map.1 h
 exact spl_mem hy
def hasN (d:Dev):Bool:=decide (d.kind=2) || decide (d.kind=3)
def numsM (d:Dev):Bool:=((decide (1≤d.index) && decide (d.index≤1073741824)) && (decide (0≤d.parent) && decide (d.parent≤1073741824))) && !decide (d.parent=d.index)
def namedM (d:Dev):Bool:=(((validS d.name && validS d.original) && validS d.subsystem) && (decide (d.driver=⟨#[]⟩) || validS d.driver)) && textS d.alias_
def kindM (d:Dev):Bool:=if d.kind=4 then ifaceS d.name && ifaceS d.original else (decide (1≤d.kind) && decide (d.kind≤3)) && decide (d.name=d.original)
def numberM (d:Dev):Bool:=if hasN d then decide (1≤d.number) && decide (d.number≤1073741824) else decide (d.number=0)
def attrB (a:Atr):Bool:=(validS a.name && decide (a.value≠⟨#[]⟩)) && textS a.value
def sortedM (l:List Atr):Bool:=(List.range (l.length - 1)).all fun j=>bless (l.getD j default).name (l.getD (j+1) default).name
def attrsB (l:List Atr):Bool:=sortedM l && l.all attrB
def checkM (d:Dev):Int:=if !numsM d then 32 else if !namedM d then 30 else if !kindM d then 31 else if !numberM d then 32 else if 24 < d.attrs.length then 34 else if !attrsB d.attrs then 33 else if hasN d && !linkS (nodeS d.original) then 30 else 0
def nodeM (d:Dev):ByteArray:=if hasN d then nodeS d.original else ⟨#[]⟩
theorem sorted_next {l:List Atr} {k:Nat} (h:∀ j,j < k → bless (l.getD j default).name (l.getD (j+1) default).name=true) (hn:bless (l.getD k default).name (l.getD (k+1) default).name=true):∀ j,j < k+1 → bless (l.getD j default).name (l.getD (j+1) default).name=true:=fun j hj=>by
 by_cases e:j=k
 ·rw [e];exact hn
 ·exact h j (by omega)
theorem sorted_t {l:List Atr} {k:Nat} (hk:l.length≤k+1) (h:∀ j,j < k → bless (l.getD j default).name (l.getD (j+1) default).name=true):sortedM l=true:=List.all_eq_true.2 fun j hj=>h j (by have:=List.mem_range.1 hj;omega)
theorem sorted_f {l:List Atr} {k:Nat} (hk:k+1 < l.length) (h:bless (l.getD k default).name (l.getD (k+1) default).name=false):sortedM l=false:=List.all_eq_false.2 ⟨k,List.mem_range.2 (by omega),by rw [h];decide⟩
theorem nodeS_fit {s:ByteArray}:(nodeS s).size=s.size:=by
 have key:∀ (k:Nat) (l:List UInt8),(Lib.replaceK [33] [47] k l).length=l.length:=by
  intro k
  induction k with
  | zero=>intro l;rfl
  | succ k ih =>
   intro l
   rw [Lib.replaceK]
   split
   ·rfl
   ·rename_i h
    have hg:=Lib.index_ge l [33]
    have hl:(Lib.index l [33]).toNat < l.length:=by
     have h':Lib.index l [33] ≠ -1:=by simpa using h
     have lt:∀ l:List UInt8,Lib.index l [33] < l.length∨Lib.index l [33] = -1:=by
      intro l
      induction l with
      | nil=>exact .inr rfl
      | cons b l ih =>
       rw [Lib.index]
       split
       ·exact .inl (by simp only [List.length_cons];omega)
       ·split
        ·exact .inr rfl
        ·rename_i h2
         rcases ih with ih|ih
         ·exact .inl (by simp only [List.length_cons];omega)
         ·rw [ih] at h2;simp at h2
     rcases lt l with h2|h2
     ·omega
     ·exact absurd h2 h'
    simp only [List.length_append,List.length_take,ih,List.length_drop,List.length_cons,List.length_nil]
    omega
 show (Lib.replaceAll s.data.toList [33] [47]).length=_
 unfold Lib.replaceAll Lib.replace
 rw [if_neg (by decide),key]
 rfl
def findD (l:List Dev) (n:Int):Option Dev:=l.find? fun d=>decide (d.index=n)
def chainGo (l:List Dev):Nat → Int → List Dev
 | 0,_=>[]
 | k+1,n=>match findD l n with
  | none=>[]
  | some d=>d :: chainGo l k d.parent
def chainM (l:List Dev) (n:Int):List Dev:=chainGo l l.length n
def origM (l:List Dev) (n:Int):List ByteArray:=((chainM l n).map Dev.original).reverse
def joinP (ps:List ByteArray):ByteArray:=ps.foldl (fun s p=>s++⟨#[47]⟩++p) ⟨#[]⟩
def placeM (l:List Dev) (n:Int):ByteArray:=joinP (origM l n)
structure Okt (l:List Dev):Prop where
 pos:∀ d ∈ l,1≤d.index
 nodup:(l.map Dev.index).Nodup
 par:∀ (i:Nat) (h:i < l.length),l[i].parent=0∨∃ (j:Nat) (hj:j < i),l[j].index=l[i].parent
 val:∀ d ∈ l,validS d.original=true
 dist:∀ d ∈ l,∀ e ∈ l,origM l d.index=origM l e.index → d=e
theorem findD_some {l:List Dev} {n:Int} {d:Dev} (h:findD l n=some d):d ∈ l∧d.index=n :=
 ⟨List.mem_of_find?_eq_some h,by simpa using List.find?_some h⟩
theorem findD_none {l:List Dev} {n:Int}:findD l n=none ↔ ∀ d ∈ l,d.index≠n:=by
 unfold findD
 rw [List.find?_eq_none]
 simp
theorem findD_mem {l:List Dev} (hn:(l.map Dev.index).Nodup) {d:Dev} (hd:d ∈ l):findD l d.index=some d:=by
 induction l with
 | nil=>simp at hd
 | cons x l ih =>
  unfold findD
  rw [List.map_cons,List.nodup_cons] at hn
  by_cases he:x.index=d.index
  ·rw [List.find?_cons_of_pos (by simpa using he)]
   rcases List.mem_cons.1 hd with rfl|hd
   ·rfl
   ·exact absurd (by rw [he];exact List.mem_map.2 ⟨d,hd,rfl⟩) hn.1
  ·rw [List.find?_cons_of_neg (by simpa using he)]
   rcases List.mem_cons.1 hd with rfl|hd
   ·exact absurd rfl he
   ·exact ih hn.2 hd
theorem chainGo_none {l:List Dev} {n:Int} (h:findD l n=none) (k:Nat):chainGo l k n=[]:=by
 cases k with
 | zero=>rfl
 | succ k=>rw [chainGo,h]
theorem chainGo_some {l:List Dev} {n:Int} {d:Dev} (h:findD l n=some d) (k:Nat):chainGo l (k+1) n=d :: chainGo l k d.parent:=by rw [chainGo,h]
structure Okp (l:List Dev):Prop where
 pos:∀ d ∈ l,1≤d.index
 nodup:(l.map Dev.index).Nodup
 par:∀ (i:Nat) (h:i < l.length),l[i].parent=0∨∃ (j:Nat) (hj:j < i),l[j].index=l[i].parent
theorem Okt.p {l:List Dev} (h:Okt l):Okp l:=⟨h.pos,h.nodup,h.par⟩
theorem find0 {l:List Dev} (h:∀ d ∈ l,1≤d.index) {n:Int} (hn:n≤0):findD l n=none:=findD_none.2 fun d hd e=>by have:=h d hd;omega
theorem chain_fuel {l:List Dev} (h:Okp l):∀ (i:Nat) (hi:i < l.length) (k:Nat),i+1≤k → chainGo l k l[i].index=chainGo l (i+1) l[i].index:=by
 intro i
 induction i using Nat.strongRecOn with
 | ind i ih =>
  intro hi k hk
  obtain ⟨k',rfl⟩:∃ k',k=k'+1:=⟨k - 1,by omega⟩
  have hf:=findD_mem h.nodup (List.getElem_mem hi)
  rw [chainGo_some hf,chainGo_some hf]
  congr 1
  rcases h.par i hi with h0|⟨j,hj,hp⟩
  ·rw [h0,chainGo_none (find0 h.pos (by omega)),chainGo_none (find0 h.pos (by omega))]
  ·rw [← hp,ih j hj (by omega) k' (by omega),ih j hj (by omega) i (by omega)]
theorem chain_step {l:List Dev} (h:Okp l) {d:Dev} (hd:d ∈ l):chainM l d.index=d :: chainM l d.parent:=by
 obtain ⟨i,hi,rfl⟩:=List.getElem_of_mem hd
 have hf:=findD_mem h.nodup hd
 unfold chainM
 obtain ⟨n,hn⟩:∃ n,l.length=n+1:=⟨l.length - 1,by omega⟩
 rw [hn,chainGo_some hf]
 congr 1
 rcases h.par i hi with h0|⟨j,hj,hp⟩
 ·rw [h0,chainGo_none (find0 h.pos (by omega)),chainGo_none (find0 h.pos (by omega))]
 ·rw [← hp,chain_fuel h j (by omega) n (by omega),chain_fuel h j (by omega) (n+1) (by omega)]
theorem chain_none {l:List Dev} {n:Int} (h:findD l n=none):chainM l n=[]:=chainGo_none h _
theorem orig_step {l:List Dev} (h:Okp l) {d:Dev} (hd:d ∈ l):origM l d.index=origM l d.parent++[d.original]:=by
 unfold origM
 rw [chain_step h hd]
 simp
theorem orig_none {l:List Dev} {n:Int} (h:findD l n=none):origM l n=[]:=by unfold origM;rw [chain_none h];rfl
theorem orig_ne {l:List Dev} (h:Okp l) {d:Dev} (hd:d ∈ l):origM l d.index≠[]:=by rw [orig_step h hd];simp
theorem chainGo_len {l:List Dev}:∀ (k:Nat) (n:Int),(chainGo l k n).length≤k
 | 0,_=>by simp [chainGo]
 | k+1,n=>by
  rw [chainGo]
  split
  ·simp
  ·have:=chainGo_len (l:=l) k (by assumption:Dev).parent
   simp only [List.length_cons];omega
theorem chain_len (l:List Dev) (n:Int):(chainM l n).length≤l.length:=chainGo_len _ _
theorem orig_len (l:List Dev) (n:Int):(origM l n).length≤l.length:=by unfold origM;rw [List.length_reverse,List.length_map];exact chain_len l n
theorem chainGo_mem {l:List Dev}:∀ (k:Nat) (n:Int) (d:Dev),d ∈ chainGo l k n → d ∈ l
 | 0,_,d,h=>by simp [chainGo] at h
 | k+1,n,d,h=>by
  rw [chainGo] at h
  split at h
  ·simp at h
  ·rename_i x hx
   rcases List.mem_cons.1 h with rfl|h
   ·exact (findD_some hx).1
   ·exact chainGo_mem k _ d h
theorem joinP_snoc (ps:List ByteArray) (p:ByteArray):joinP (ps++[p])=joinP ps++⟨#[47]⟩++p:=by simp [joinP]
def joinL (ps:List (List UInt8)):List UInt8:=(ps.map fun p=>47 :: p).flatten
theorem joinP_list (ps:List ByteArray):(joinP ps).data.toList=joinL (ps.map fun p=>p.data.toList):=by
 have key:∀ (ps:List ByteArray) (s:ByteArray),(ps.foldl (fun s p=>s++⟨#[47]⟩++p) s).data.toList=s.data.toList++joinL (ps.map fun p=>p.data.toList):=by
  intro ps
  induction ps with
  | nil=>intro s;simp [joinL]
  | cons p ps ih =>
   intro s
   rw [List.foldl_cons,ih]
   simp [joinL]
 have:=key ps ⟨#[]⟩
 simpa [joinP] using this
theorem joinL_cons (p:List UInt8) (ps:List (List UInt8)):joinL (p :: ps)=47 :: (p++joinL ps):=by simp [joinL]
theorem joinL_head:∀ ps:List (List UInt8),joinL ps=[]∨∃ t,joinL ps=47 :: t
 | []=>.inl rfl
 | p :: ps=>.inr ⟨_,joinL_cons p ps⟩
theorem app_split {p q:List UInt8} (hp:(47:UInt8) ∉ p) (hq:(47:UInt8) ∉ q):∀ {a b:List UInt8},(a=[]∨∃ t,a=47 :: t) → (b=[]∨∃ t,b=47 :: t) → p++a=q++b → p=q∧a=b:=by
 induction p generalizing q with
 | nil =>
  intro a b ha hb e
  cases q with
  | nil=>exact ⟨rfl,e⟩
  | cons y q =>
   rcases ha with rfl|⟨t,rfl⟩
   ·simp at e
   ·simp at e
    exact absurd (by rw [e.1];simp) hq
 | cons x p ih =>
  intro a b ha hb e
  cases q with
  | nil =>
   rcases hb with rfl|⟨t,rfl⟩
   ·simp at e
   ·simp at e
    exact absurd (by rw [e.1];simp) hp
  | cons y q =>
   simp only [List.cons_append,List.cons.injEq] at e
   obtain ⟨h1,h2⟩:=ih (q:=q) (fun h=>hp (List.mem_cons_of_mem _ h)) (fun h=>hq (List.mem_cons_of_mem _ h)) ha hb e.2
   exact ⟨by rw [e.1,h1],h2⟩
theorem joinL_inj:∀ {ps qs:List (List UInt8)},(∀ p ∈ ps,(47:UInt8) ∉ p) → (∀ q ∈ qs,(47:UInt8) ∉ q) → joinL ps=joinL qs → ps=qs
 | [],[],_,_,_=>rfl
 | [],q :: qs,_,_,h=>by rw [joinL_cons] at h;cases h
 | p :: ps,[],_,_,h=>by rw [joinL_cons] at h;cases h
 | p :: ps,q :: qs,hp,hq,h=>by
  rw [joinL_cons,joinL_cons] at h
  obtain ⟨h1,h2⟩:=app_split (hp p (by simp)) (hq q (by simp)) (joinL_head ps) (joinL_head qs) (List.cons.inj h).2
  rw [h1,joinL_inj (fun x hx=>hp x (by simp [hx])) (fun x hx=>hq x (by simp [hx])) h2]
theorem valid_slash {s:ByteArray} (h:validS s=true):(47:UInt8) ∉ s.data.toList:=fun hm=>by
 unfold validS at h
 simp only [Bool.and_eq_true] at h
 have:=List.all_eq_true.1 h.2 47 hm
 revert this
 decide
theorem joinP_inj {ps qs:List ByteArray} (hp:∀ p ∈ ps,validS p=true) (hq:∀ q ∈ qs,validS q=true) (h:joinP ps=joinP qs):ps=qs:=by
 have h1:joinL (ps.map fun p=>p.data.toList)=joinL (qs.map fun p=>p.data.toList):=by rw [← joinP_list,← joinP_list,h]
 have h2:=joinL_inj (fun p hm=>by obtain ⟨x,hx,rfl⟩:=List.mem_map.1 hm;exact valid_slash (hp x hx)) (fun q hm=>by obtain ⟨x,hx,rfl⟩:=List.mem_map.1 hm;exact valid_slash (hq x hx)) h1
 have key:∀ a b:ByteArray,a.data.toList=b.data.toList → a=b:=fun a b e=>by cases a;cases b;simp only at e;congr;exact Array.toList_inj.1 e
 exact List.map_inj_right (fun a b e=>key a b e) |>.1 h2
theorem orig_val {l:List Dev} (h:∀ d ∈ l,validS d.original=true) (n:Int):∀ p ∈ origM l n,validS p=true:=fun p hp=>by
 unfold origM at hp
 rw [List.mem_reverse] at hp
 obtain ⟨d,hd,rfl⟩:=List.mem_map.1 hp
 exact h d (chainGo_mem _ _ d hd)
theorem place_inj {l:List Dev} (h:Okt l) {d e:Dev} (hd:d ∈ l) (he:e ∈ l) (hp:placeM l d.index=placeM l e.index):d=e :=
 h.dist d hd e he (joinP_inj (orig_val h.val _) (orig_val h.val _) hp)
def beneath (a b:ByteArray):Bool:=Lib.hasPrefix b.data.toList (a++⟨#[47]⟩).data.toList
def clashM (a b:Dev):Bool:=((decide (a.kind=4) && decide (b.kind=4)) && decide (a.name=b.name)) || ((hasN a && hasN b) && (((decide (a.kind=b.kind) && decide (a.number=b.number)) || decide (nodeM a=nodeM b)) || (beneath (nodeM a) (nodeM b) || beneath (nodeM b) (nodeM a))))
def atM (l:List Dev) (own:List ByteArray) (n:Nat):Nat:=(List.range n).foldl (fun a i=>if cmpL (origM l (l.getD i default).index) own < 0 then i+1 else a) 0
theorem atM_succ (l:List Dev) (own:List ByteArray) (n:Nat):atM l own (n+1)=if cmpL (origM l (l.getD n default).index) own < 0 then n+1 else atM l own n:=by
 unfold atM
 rw [List.range_succ,List.foldl_append]
 rfl
theorem atM_le (l:List Dev) (own:List ByteArray):∀ n,atM l own n≤n
 | 0=>by simp [atM]
 | n+1=>by
  rw [atM_succ]
  have:=atM_le l own n
  split<;>omega
theorem atM_ge (l:List Dev) (own:List ByteArray) {j:Nat} (h:cmpL (origM l (l.getD j default).index) own < 0):∀ n,j < n → j+1≤atM l own n
 | 0,hn=>by omega
 | n+1,hn=>by
  rw [atM_succ]
  by_cases e:j=n
  ·subst e;rw [if_pos h];exact Nat.le_refl _
  ·have:=atM_ge l own h n (by omega)
   split<;>omega
def bad1 (l:List Dev) (own:List ByteArray) (d:Dev) (x:Dev):Bool:=decide (cmpL (origM l x.index) own=0) || clashM x d
def ownM (l:List Dev) (d:Dev):List ByteArray:=origM l d.parent++[d.original]
def insErr (l:List Dev) (d:Dev):Int :=
 if checkM d≠0 then 41 else if (findD l d.index).isSome then 44 else if d.parent≠0∧(findD l d.parent).isNone then 42 else if 256≤l.length then 40 else if 7 < (ownM l d).length then 46 else if l.any (bad1 l (ownM l d) d) then 44 else 0
def insT (l:List Dev) (d:Dev):List Dev:=l.take (atM l (ownM l d) l.length)++[d]++l.drop (atM l (ownM l d) l.length)
theorem cmpL_pre:∀ (a:List ByteArray) (x:ByteArray),cmpL a (a++[x]) < 0
 | [],x=>by simp [cmpL]
 | y :: a,x=>by rw [List.cons_append,cmpL,if_pos rfl];exact cmpL_pre a x
theorem checkM_nums {d:Dev} (h:checkM d=0):numsM d=true:=by
 cases hn:numsM d with
 | true=>rfl
 | false=>unfold checkM at h;rw [hn] at h;simp at h
theorem checkM_named {d:Dev} (h:checkM d=0):namedM d=true:=by
 cases hn:namedM d with
 | true=>rfl
 | false =>
  have h1:=checkM_nums h
  unfold checkM at h
  rw [hn,h1] at h
  simp at h
theorem check_index {d:Dev} (h:checkM d=0):1≤d.index∧d.index≤1073741824:=by
 have:=checkM_nums h
 unfold numsM at this
 simp only [Bool.and_eq_true,decide_eq_true_eq] at this
 exact this.1.1
theorem check_orig {d:Dev} (h:checkM d=0):validS d.original=true:=by
 have:=checkM_named h
 unfold namedM at this
 simp only [Bool.and_eq_true] at this
 exact this.1.1.1.2
theorem Okt.nil:Okt []:=⟨by simp,by simp,fun i h=>by simp at h,by simp,by simp⟩
theorem putl_get {α:Type} (l:List α) (d:α) (k:Nat) (hk:k≤l.length) (i:Nat):(l.take k++[d]++l.drop k)[i]? = if i < k then l[i]? else if i=k then some d else l[i - 1]?:=by
 rw [List.append_assoc,List.getElem?_append,List.length_take,Nat.min_eq_left hk]
 split
 ·rename_i h;rw [List.getElem?_take_of_lt h]
 ·rename_i h
  rw [List.singleton_append]
  by_cases e:i=k
  ·subst e;simp
  ·rw [if_neg e]
   obtain ⟨m,hm⟩:∃ m,i - k=m+1:=⟨i - k - 1,by omega⟩
   rw [hm,List.getElem?_cons_succ,List.getElem?_drop]
   congr 1
   omega
theorem put_mem {α:Type} {l:List α} {d x:α} {k:Nat}:x ∈ l.take k++[d]++l.drop k ↔ x=d∨x ∈ l:=by
 rw [List.append_assoc,List.mem_append,List.singleton_append,List.mem_cons]
 constructor
 ·rintro (h|h|h)
  ·exact .inr (List.mem_of_mem_take h)
  ·exact .inl h
  ·exact .inr (List.mem_of_mem_drop h)
 ·rintro (h|h)
  ·exact .inr (.inl h)
  ·rw [← List.take_append_drop k l,List.mem_append] at h
   rcases h with h|h
   ·exact .inl h
   ·exact .inr (.inr h)
theorem put_perm {α:Type} (l:List α) (d:α) (k:Nat):(l.take k++[d]++l.drop k).Perm (d :: l):=by
 rw [List.append_assoc,List.singleton_append]
 refine (List.perm_middle).trans ?_
 rw [List.take_append_drop]
theorem okp_get {l:List Dev} (h:Okp l) {i:Nat} {d:Dev} (hd:l[i]? = some d):d.parent=0∨∃ (j:Nat) (e:Dev),j < i∧l[j]? = some e∧e.index=d.parent:=by
 obtain ⟨hi,rfl⟩:=List.getElem?_eq_some_iff.1 hd
 rcases h.par i hi with h0|⟨j,hj,hp⟩
 ·exact .inl h0
 ·exact .inr ⟨j,_,hj,List.getElem?_eq_getElem (by omega),hp⟩
theorem okp_put {l:List Dev} (h:Okp l) {d:Dev} (k:Nat) (hk:k≤l.length) (h1:1≤d.index) (hf:findD l d.index=none) (hp:d.parent=0∨∃ (j:Nat) (e:Dev),j < k∧l[j]? = some e∧e.index=d.parent):Okp (l.take k++[d]++l.drop k):=by
 refine ⟨fun x hx=>?_,?_,fun i hi=>?_⟩
 ·rcases put_mem.1 hx with rfl|hx
  ·exact h1
  ·exact h.pos x hx
 ·rw [((put_perm l d k).map Dev.index).nodup_iff,List.map_cons,List.nodup_cons]
  refine ⟨fun hm=>?_,h.nodup⟩
  obtain ⟨x,hx,he⟩:=List.mem_map.1 hm
  exact findD_none.1 hf x hx he
 ·have hg:=putl_get l d k hk
  have up:∀ (j:Nat) (e:Dev),l[j]? = some e → (j < k∧(l.take k++[d]++l.drop k)[j]? = some e)∨(k≤j∧(l.take k++[d]++l.drop k)[j+1]? = some e):=fun j e he=>by
   by_cases hj:j < k
   ·exact .inl ⟨hj,by rw [hg,if_pos hj];exact he⟩
   ·exact .inr ⟨by omega,by rw [hg,if_neg (by omega),if_neg (by omega)];simpa using he⟩
  have fin:∀ (j:Nat) (e:Dev),j < i → (l.take k++[d]++l.drop k)[j]? = some e → e.index=(l.take k++[d]++l.drop k)[i].parent → ∃ (j:Nat) (hj:j < i),(l.take k++[d]++l.drop k)[j].index=(l.take k++[d]++l.drop k)[i].parent:=fun j e hj he hx=>by
   obtain ⟨h3,h4⟩:=List.getElem?_eq_some_iff.1 he
   exact ⟨j,hj,by rw [h4];exact hx⟩
  have hx:(l.take k++[d]++l.drop k)[i]? = some (l.take k++[d]++l.drop k)[i]:=List.getElem?_eq_getElem hi
  generalize (l.take k++[d]++l.drop k)[i]=x at hx fin ⊢
  rw [hg] at hx
  split at hx
  ·rcases okp_get h hx with h0|⟨j,e,hj,he,hi2⟩
   ·exact .inl h0
   ·rcases up j e he with ⟨_,h3⟩|⟨h3,_⟩
    ·exact .inr (fin j e hj h3 hi2)
    ·omega
  ·split at hx
   ·rename_i hik
    cases hx
    rcases hp with h0|⟨j,e,hj,he,hi2⟩
    ·exact .inl h0
    ·rcases up j e he with ⟨_,h3⟩|⟨h3,_⟩
     ·exact .inr (fin j e (by omega) h3 hi2)
     ·omega
   ·rcases okp_get h hx with h0|⟨j,e,hj,he,hi2⟩
    ·exact .inl h0
    ·rcases up j e he with ⟨_,h3⟩|⟨_,h3⟩
     ·exact .inr (fin j e (by omega) h3 hi2)
     ·exact .inr (fin (j+1) e (by omega) h3 hi2)
theorem chain_same {l m:List Dev} (hl:Okp l) (hm:Okp m) (hsub:∀ d ∈ l,d ∈ m → d.parent=0∨∃ e ∈ l,e ∈ m∧e.index=d.parent):∀ (i:Nat) (hi:i < l.length),l[i] ∈ m → chainM l l[i].index=chainM m l[i].index:=by
 intro i
 induction i using Nat.strongRecOn with
 | ind i ih =>
  intro hi him
  have hil:l[i] ∈ l:=List.getElem_mem hi
  rw [chain_step hl hil,chain_step hm him]
  congr 1
  rcases hsub _ hil him with h0|⟨e,he,hem,hx⟩
  ·rw [h0,chain_none (find0 hl.pos (by omega)),chain_none (find0 hm.pos (by omega))]
  ·rcases hl.par i hi with h0|⟨j,hj,hp⟩
   ·rw [h0] at hx;have:=hl.pos e he;omega
   ·have hj2:j < l.length:=by omega
    have hee:l[j]=e:=by
     have h1:=findD_mem hl.nodup he
     have h2:=findD_mem hl.nodup (List.getElem_mem hj2)
     rw [hp,← hx,h1] at h2
     exact (Option.some.inj h2).symm
    rw [← hp]
    exact ih j hj hj2 (by rw [hee];exact hem)
theorem orig_same {l m:List Dev} (hl:Okp l) (hm:Okp m) (hsub:∀ d ∈ l,d ∈ m → d.parent=0∨∃ e ∈ l,e ∈ m∧e.index=d.parent) {d:Dev} (hd:d ∈ l) (hdm:d ∈ m):origM l d.index=origM m d.index:=by
 obtain ⟨i,hi,rfl⟩:=List.getElem_of_mem hd
 unfold origM
 rw [chain_same hl hm hsub i hi hdm]
theorem find_of_any {l:List Dev} {n:Int} (h:(findD l n).isNone=false):∃ (j:Nat) (e:Dev),l[j]? = some e∧e.index=n:=by
 cases hf:findD l n with
 | none=>rw [hf] at h;cases h
 | some e =>
  obtain ⟨h1,h2⟩:=findD_some hf
  obtain ⟨j,hj,rfl⟩:=List.getElem_of_mem h1
  exact ⟨j,_,List.getElem?_eq_getElem hj,h2⟩
theorem ins_split {l:List Dev} {d:Dev} (h:insErr l d=0):checkM d=0∧findD l d.index=none∧(d.parent=0∨(findD l d.parent).isNone=false)∧l.length < 256∧(ownM l d).length≤7∧∀ x ∈ l,bad1 l (ownM l d) d x=false:=by
 unfold insErr at h
 split at h
 ·cases h
 rename_i h1
 split at h
 ·cases h
 rename_i h2
 split at h
 ·cases h
 rename_i h3
 split at h
 ·cases h
 rename_i h4
 split at h
 ·cases h
 rename_i h5
 split at h
 ·cases h
 rename_i h6
 refine ⟨by simpa using h1,by simpa using h2,?_,by omega,by omega,fun x hx=>?_⟩
 ·by_cases e:d.parent=0
  ·exact .inl e
  ·exact .inr (by cases hq:(findD l d.parent).isNone with|false=>rfl|true=>exact absurd ⟨e,hq⟩ h3)
 ·cases hb:bad1 l (ownM l d) d x with
  | false=>rfl
  | true=>exact absurd (List.any_eq_true.2 ⟨x,hx,hb⟩) h6
theorem Okt.ins {l:List Dev} (h:Okt l) {d:Dev} (hi:insErr l d=0):Okt (insT l d)∧(∀ x ∈ l,origM (insT l d) x.index=origM l x.index):=by
 obtain ⟨h1,h2,h3,h4,h5,h6⟩:=ins_split hi
 have hle:=atM_le l (ownM l d) l.length
 have hpar:d.parent=0∨∃ (j:Nat) (e:Dev),j < atM l (ownM l d) l.length∧l[j]? = some e∧e.index=d.parent:=by
  rcases h3 with h3|h3
  ·exact .inl h3
  ·obtain ⟨j,e,hj,he⟩:=find_of_any h3
   obtain ⟨hj2,hj3⟩:=List.getElem?_eq_some_iff.1 hj
   have hc:cmpL (origM l (l.getD j default).index) (ownM l d) < 0:=by
    rw [getD_lt l hj2,hj3,he]
    exact cmpL_pre _ _
   exact .inr ⟨j,e,by have:=atM_ge l (ownM l d) hc l.length hj2;omega,hj,he⟩
 have hok:Okp (insT l d):=okp_put h.p _ hle (check_index h1).1 h2 hpar
 have hmem:∀ x,x ∈ insT l d ↔ x=d∨x ∈ l:=fun x=>put_mem
 have hsame:∀ x ∈ l,origM (insT l d) x.index=origM l x.index:=fun x hx=>by
  refine (orig_same h.p hok (fun y hy hy2=>?_) hx ((hmem x).2 (.inr hx))).symm
  obtain ⟨i,hi2,rfl⟩:=List.getElem_of_mem hy
  rcases h.par i hi2 with h0|⟨j,hj,hp⟩
  ·exact .inl h0
  ·exact .inr ⟨l[j],List.getElem_mem _,(hmem _).2 (.inr (List.getElem_mem _)),hp⟩
 have hown:origM (insT l d) d.index=ownM l d:=by
  rw [orig_step hok ((hmem d).2 (.inl rfl)),ownM]
  congr 1
  rcases h3 with h3|h3
  ·rw [h3,orig_none (find0 hok.pos (by omega)),orig_none (find0 h.pos (by omega))]
  ·obtain ⟨j,e,hj,he⟩:=find_of_any h3
   rw [← he]
   exact hsame e (List.mem_of_getElem? hj)
 refine ⟨⟨hok.pos,hok.nodup,hok.par,fun x hx=>?_,fun x hx y hy he=>?_⟩,hsame⟩
 ·rcases (hmem x).1 hx with rfl|hx
  ·exact check_orig h1
  ·exact h.val x hx
 ·have hno:∀ x ∈ l,origM l x.index≠ownM l d:=fun x hx e=>by
   have:=h6 x hx
   unfold bad1 at this
   rw [Bool.or_eq_false_iff] at this
   exact absurd (cmpL_eq.2 e) (by simpa using this.1)
  rcases (hmem x).1 hx with rfl|hx'<;>rcases (hmem y).1 hy with rfl|hy'
  ·rfl
  ·rw [hown,hsame y hy'] at he
   exact absurd he.symm (hno y hy')
  ·rw [hown,hsame x hx'] at he
   exact absurd he (hno x hx')
  ·rw [hsame x hx',hsame y hy'] at he
   exact h.dist x hx' y hy' he
def belowM (l:List Dev) (m top:Int):Bool:=(chainM l m).any fun d=>decide (d.index=top)
def remT (l:List Dev) (n:Int):List Dev:=l.filter fun d=>!belowM l d.index n
theorem Okt.rem {l:List Dev} (h:Okt l) (n:Int):Okt (remT l n)∧(∀ x ∈ remT l n,origM (remT l n) x.index=origM l x.index):=by
 have hmem:∀ x,x ∈ remT l n ↔ x ∈ l∧belowM l x.index n=false:=fun x=>by unfold remT;rw [List.mem_filter];simp
 have hup:∀ x ∈ l,∀ e ∈ l,e.index=x.parent → belowM l x.index n=false → belowM l e.index n=false:=fun x hx e he hp hb=>by
  unfold belowM at hb ⊢
  rw [chain_step h.p hx,← hp,List.any_cons,Bool.or_eq_false_iff] at hb
  exact hb.2
 have hok:Okp (remT l n):=by
  refine ⟨fun x hx=>h.pos x ((hmem x).1 hx).1,h.nodup.sublist (List.filter_sublist.map _),fun i hi=>?_⟩
  have hs:remT l n=(remT l n).take i++(remT l n)[i] :: (remT l n).drop (i+1):=by rw [← List.drop_eq_getElem_cons hi,List.take_append_drop]
  have hs2:=hs
  conv at hs2=>lhs;unfold remT
  obtain ⟨l1,l2,e1,e2,e3⟩:=List.filter_eq_append_iff.1 hs2
  obtain ⟨l3,l4,e4,e5,e6,e7⟩:=List.filter_eq_cons_iff.1 e3
  have hil:(remT l n)[i] ∈ l:=((hmem _).1 (List.getElem_mem hi)).1
  have hib:=((hmem _).1 (List.getElem_mem hi)).2
  generalize (remT l n)[i]=x at hil hib e4 e6
  have hpos:l[l1.length+l3.length]? = some x:=by
   rw [e1,e4,List.getElem?_append_right (by omega),List.getElem?_append_right (by omega)]
   have:l1.length+l3.length - l1.length - l3.length=0:=by omega
   rw [this];rfl
  rcases okp_get h.p hpos with h0|⟨j,e,hj,he,hp⟩
  ·exact .inl h0
  ·right
   have hel:e ∈ l:=List.mem_of_getElem? he
   have heb:=hup _ hil e hel hp hib
   have he1:e ∈ l1:=by
    rw [e1,e4] at he
    by_cases hj1:j < l1.length
    ·rw [List.getElem?_append_left hj1] at he
     exact List.mem_of_getElem? he
    ·rw [List.getElem?_append_right (by omega),List.getElem?_append_left (by omega)] at he
     have:=e5 e (List.mem_of_getElem? he)
     simp [heb] at this
   have he2:e ∈ (remT l n).take i:=by
    rw [← e2,List.mem_filter]
    exact ⟨he1,by simp [heb]⟩
   obtain ⟨j',hj',hx⟩:=List.mem_take_iff_getElem.1 he2
   exact ⟨j',by omega,by rw [hx];exact hp⟩
 have hsame:∀ x ∈ remT l n,origM (remT l n) x.index=origM l x.index:=fun x hx=>by
  refine orig_same hok h.p (fun y hy hy2=>?_) hx ((hmem x).1 hx).1
  obtain ⟨i,hi2,rfl⟩:=List.getElem_of_mem hy
  rcases hok.par i hi2 with h0|⟨j,hj,hp⟩
  ·exact .inl h0
  ·exact .inr ⟨_,List.getElem_mem _,((hmem _).1 (List.getElem_mem (by omega))).1,hp⟩
 refine ⟨⟨hok.pos,hok.nodup,hok.par,fun x hx=>h.val x ((hmem x).1 hx).1,fun x hx y hy he=>?_⟩,hsame⟩
 rw [hsame x hx,hsame y hy] at he
 exact h.dist x ((hmem x).1 hx).1 y ((hmem y).1 hy).1 he
def atD (l:List Dev) (p:ByteArray):Option Dev:=l.find? fun d=>decide (placeM l d.index=p)
end Go.Proofs.YthconflkbeipoaaGreatDoor
