/- What the program computes, and the plain laws of it, part 16. -/
import Derived.Lib.ReplaceLaws
import Derived.Lib.ItoaNum
import Derived.Test.YthconflkbeipoaaGreatDoorS15
namespace Go.Proofs.YthconflkbeipoaaGreatDoor
open Go.RowKit
open IntWalk renaming iteOmega → iO, toNatUp → tN
set_option linter.unusedVariables false
set_option linter.unusedSimpArgs false
structure Acc where
 path:ByteArray
 node:ByteArray
 user:ByteArray
 deriving DecidableEq
instance:Inhabited Acc:=⟨⟨⟨#[]⟩,⟨#[]⟩,⟨#[]⟩⟩⟩
def Acc.d (a:Acc):List D:=[.v (.string a.path),.v (.string a.node),.v (.string a.user)]
def Acc.e (a:Acc):List E:=a.d.map D.e
structure Chg where
 kind:Int
 acc:Acc
instance:Inhabited Chg:=⟨⟨0,default⟩⟩
def Chg.d (c:Chg):List D:=.v (.int .i64 c.kind) :: c.acc.d
def Chg.e (c:Chg):List E:=c.d.map D.e
attribute [push_cast] Acc.d Acc.e Chg.d Chg.e
def cmpP (a b:ByteArray):Int:=match splitP a,splitP b with
 | some l,some m=>cmpL l m
 | _,_=>0
def okP1 (a:ByteArray):Prop:=∃ l,splitP a=some l
theorem cmpP_anti (a b:ByteArray):cmpP b a = -cmpP a b:=by
 unfold cmpP
 cases splitP a<;>cases splitP b<;>simp
 exact cmpL_anti _ _
theorem cmpP_trans {a b c:ByteArray} (h1:cmpP a b < 0) (h2:cmpP b c < 0):cmpP a c < 0:=by
 unfold cmpP at *
 cases ha:splitP a<;>cases hb:splitP b<;>cases hc:splitP c<;>simp_all
 exact cmpL_trans h1 h2
theorem cmpP_irr (a:ByteArray):¬ cmpP a a < 0:=by have:=cmpP_anti a a;omega
theorem spl_inj:∀ {l m:List UInt8},spl l=spl m → l=m
 | [],[],_=>rfl
 | [],b :: m,h=>by
  rw [spl,spl] at h
  split at h
  ·injection h with _ h;exact absurd h.symm (spl_ne m)
  ·split at h<;>simp at h
 | b :: l,[],h=>by
  rw [spl,spl] at h
  split at h
  ·injection h with _ h;exact absurd h (spl_ne l)
  ·split at h<;>simp at h
 | b :: l,c :: m,h=>by
  have key:∀ (b:UInt8) (l:List UInt8),b≠47 → ∃ h t,spl l=h :: t∧spl (b :: l)=(b :: h) :: t:=by
   intro b l hb
   cases hs:spl l with
   | nil=>exact absurd hs (spl_ne l)
   | cons h t=>exact ⟨h,t,rfl,by rw [spl,if_neg hb,hs]⟩
  by_cases e1:b=47<;>by_cases e2:c=47
  ·subst e1;subst e2
   rw [spl,spl,if_pos rfl,if_pos rfl] at h
   injection h with _ h
   rw [spl_inj h]
  ·obtain ⟨h1,t1,_,i2⟩:=key c m e2
   subst e1
   rw [i2,spl,if_pos rfl] at h
   injection h with h _;cases h
  ·obtain ⟨h1,t1,_,i2⟩:=key b l e1
   subst e2
   rw [i2,spl,if_pos rfl] at h
   injection h with h _;cases h
  ·obtain ⟨h1,t1,i1,i2⟩:=key b l e1
   obtain ⟨h2,t2,j1,j2⟩:=key c m e2
   rw [i2,j2] at h
   injection h with h h'
   injection h with h h''
   subst h;subst h';subst h''
   rw [spl_inj (i1.trans j1.symm)]
theorem parts_inj {s t:ByteArray} (h:parts s=parts t):s=t:=by
 unfold parts at h
 have h2:spl s.data.toList=spl t.data.toList:=by
  have:∀ {a b:List (List UInt8)},a.map unT=b.map unT → a=b:=by
   intro a
   induction a with
   | nil=>intro b h;cases b<;>simp at h ⊢
   | cons x a ih =>
    intro b h
    cases b with
    | nil=>simp at h
    | cons y b =>
     simp only [List.map_cons,List.cons.injEq] at h
     obtain ⟨h1,h2⟩:=h
     have hx:x=y:=by have:=congrArg (fun z:ByteArray=>z.data.toList) h1;simpa [unT] using this
     rw [hx,ih h2]
  exact this h
 have h3:=spl_inj h2
 cases s;cases t
 simp only at h3
 congr
 exact Array.toList_inj.1 h3
theorem slash_rest {s:ByteArray} (h:slashS s=true):s.data.toList=47 :: (restS s).data.toList:=by
 unfold restS
 rw [if_pos h]
 unfold slashS Lib.hasPrefix at h
 rw [Lib.extract_to_end]
 cases e:s.data.toList with
 | nil=>rw [e] at h;simp [List.isPrefixOf] at h
 | cons b l=>rw [e] at h;simp [List.isPrefixOf] at h;subst h;rfl
theorem splitP_inj {a b:ByteArray} {l:List ByteArray} (ha:splitP a=some l) (hb:splitP b=some l):a=b:=by
 unfold splitP at ha hb
 split at ha
 ·rename_i h1
  split at hb
  ·rename_i h2
   cases ha
   injection hb with hb
   have hr:=parts_inj hb
   have e1:=slash_rest h1.1
   have e2:=slash_rest h2.1
   rw [hr,← e1] at e2
   cases a;cases b
   simp only at e2
   congr
   exact (Array.toList_inj.1 e2).symm
  ·cases hb
 ·cases ha
theorem cmpP_eq {a b:ByteArray} (ha:okP1 a) (hb:okP1 b):cmpP a b=0 ↔ a=b:=by
 obtain ⟨l,hl⟩:=ha
 obtain ⟨m,hm⟩:=hb
 unfold cmpP
 rw [hl,hm]
 simp only
 rw [cmpL_eq]
 exact ⟨fun h=>splitP_inj hl (by rw [hm,h]),fun h=>by subst h;rw [hl] at hm;injection hm⟩
def ltA (a b:Acc):Prop:=cmpP a.path b.path < 0
structure Right (l:List Acc):Prop where
 ok:∀ a ∈ l,okP1 a.path
 asc:l.Pairwise ltA
 nodes:(l.map Acc.node).Nodup
theorem Right.nodup {l:List Acc} (h:Right l):l.Nodup:=h.asc.imp fun {a b} h e=>by subst e;exact cmpP_irr _ h
theorem Right.sublist {l m:List Acc} (h:Right l) (hs:m.Sublist l):Right m:=⟨fun a ha=>h.ok a (hs.subset ha),h.asc.sublist hs,h.nodes.sublist (hs.map _)⟩
instance (a b:Acc):Decidable (ltA a b):=inferInstanceAs (Decidable (cmpP a.path b.path < 0))
def insA (x:Acc) (l:List Acc):List Acc:=(l.takeWhile fun y=>decide (ltA y x))++x :: l.dropWhile fun y=>decide (ltA y x)
theorem tw_pre {l:List Acc} (h:l.Pairwise ltA) (x:Acc):(∀ y ∈ l.takeWhile fun y=>decide (ltA y x),ltA y x)∧∀ y ∈ l.dropWhile fun y=>decide (ltA y x),¬ ltA y x:=by
 induction l with
 | nil=>simp
 | cons a l ih =>
  obtain ⟨h1,h2⟩:=List.pairwise_cons.1 h
  obtain ⟨i1,i2⟩:=ih h2
  by_cases hx:ltA a x
  ·rw [List.takeWhile_cons_of_pos (by simpa using hx),List.dropWhile_cons_of_pos (by simpa using hx)]
   exact ⟨fun y hy=>by rcases List.mem_cons.1 hy with rfl|hy;exact hx;exact i1 y hy,i2⟩
  ·rw [List.takeWhile_cons_of_neg (by simpa using hx),List.dropWhile_cons_of_neg (by simpa using hx)]
   refine ⟨by simp,fun y hy=>?_⟩
   rcases List.mem_cons.1 hy with rfl|hy
   ·exact hx
   ·exact fun hc=>hx (cmpP_trans (h1 y hy) hc)
theorem mem_ins {x:Acc} {l:List Acc} {y:Acc}:y ∈ insA x l ↔ y=x∨y ∈ l:=by
 have e:l=(l.takeWhile fun y=>decide (ltA y x))++l.dropWhile fun y=>decide (ltA y x):=List.takeWhile_append_dropWhile.symm
 constructor
 ·intro h
  rcases List.mem_append.1 h with h|h
  ·right;rw [e];exact List.mem_append.2 (.inl h)
  ·rcases List.mem_cons.1 h with h|h
   ·exact .inl h
   ·right;rw [e];exact List.mem_append.2 (.inr h)
 ·rintro (h|h)
  ·subst h;simp [insA]
  ·rw [e] at h
   rcases List.mem_append.1 h with h|h
   ·exact List.mem_append.2 (.inl h)
   ·exact List.mem_append.2 (.inr (List.mem_cons_of_mem _ h))
theorem Right.ins {l:List Acc} {x:Acc} (h:Right l) (hx:okP1 x.path) (hp:∀ y ∈ l,y.path≠x.path) (hn:∀ y ∈ l,y.node≠x.node):Right (insA x l):=by
 obtain ⟨t1,t2⟩:=tw_pre h.asc x
 have e:l=(l.takeWhile fun y=>decide (ltA y x))++l.dropWhile fun y=>decide (ltA y x):=List.takeWhile_append_dropWhile.symm
 have hasc:=h.asc
 have hnd:=h.nodes
 refine ⟨fun a ha=>?_,?_,?_⟩
 ·rcases mem_ins.1 ha with rfl|ha
  ·exact hx
  ·exact h.ok a ha
 ·have hgt:∀ y ∈ l.dropWhile fun y=>decide (ltA y x),ltA x y:=by
   intro y hy
   have hyl:y ∈ l:=by rw [e];exact List.mem_append.2 (.inr hy)
   have h1:=t2 y hy
   have h2:cmpP y.path x.path≠0:=fun hc=>hp y hyl ((cmpP_eq (h.ok y hyl) hx).1 hc)
   have h3:=cmpP_anti y.path x.path
   unfold ltA at *
   omega
  rw [e] at hasc
  obtain ⟨p1,p2,p3⟩:=List.pairwise_append.1 hasc
  refine List.pairwise_append.2 ⟨p1,List.pairwise_cons.2 ⟨hgt,p2⟩,fun a ha b hb=>?_⟩
  rcases List.mem_cons.1 hb with rfl|hb
  ·exact t1 a ha
  ·exact p3 a ha b hb
 ·have hperm:(insA x l).Perm (x :: l):=by
   conv=>rhs;rw [e]
   exact List.perm_middle
  refine (hperm.map Acc.node).nodup_iff.2 ?_
  rw [List.map_cons,List.nodup_cons]
  refine ⟨fun hc=>?_,h.nodes⟩
  obtain ⟨y,hy,he⟩:=List.mem_map.1 hc
  exact hn y hy he
def applyA (l:List Acc) (c:Chg):Option (List Acc) × Int :=
 if c.kind=1 then (if c.acc ∈ l then (some (l.filter fun x=>decide (x≠c.acc)),0) else (none,381))
 else if c.kind=2 then (if ∃ y ∈ l,y.path=c.acc.path∨y.node=c.acc.node then (none,382) else match splitP c.acc.path with
  | none=>(none,383)
  | some _=>(some (insA c.acc l),0))
 else (none,380)
theorem Right.apply {l m:List Acc} {c:Chg} {n:Int} (h:Right l) (ha:applyA l c=(some m,n)):Right m:=by
 unfold applyA at ha
 split at ha
 ·split at ha
  ·cases ha;exact h.sublist List.filter_sublist
  ·cases ha
 ·split at ha
  ·split at ha
   ·cases ha
   ·rename_i hno
    split at ha
    ·cases ha
    ·rename_i l0 hs
     cases ha
     exact h.ins ⟨_,hs⟩ (fun y hy e=>hno ⟨y,hy,.inl e⟩) (fun y hy e=>hno ⟨y,hy,.inr e⟩)
  ·cases ha
def nodeS (s:ByteArray):ByteArray:=⟨(Lib.replaceAll s.data.toList [33] [47]).toArray⟩
def textB (b:UInt8):Bool:=decide (32≤b.toNat) && decide (b.toNat≤126)
def textS (s:ByteArray):Bool:=s.data.toList.all textB && decide (s.size≤256)
theorem getD_byte {s:ByteArray} {k:Nat} (h:k < s.size):∃ h':k < s.data.toList.length,s.data.toList.getD k 0=s.data.toList[k]:=⟨h,by rw [List.getD_eq_getElem?_getD,List.getElem?_eq_getElem (show k < s.data.toList.length from h)];rfl⟩
theorem all_next {p:UInt8 → Bool} {s:ByteArray} {k:Nat} (h:k < s.size) (ha:(s.data.toList.take k).all p=true) (hp:p (s.data.toList.getD k 0)=true):(s.data.toList.take (k+1)).all p=true:=by
 obtain ⟨h',e⟩:=getD_byte h
 rw [List.take_succ_eq_append_getElem h',List.all_append,ha,← e,List.all_cons,hp];rfl
theorem all_not {p:UInt8 → Bool} {s:ByteArray} {k:Nat} (h:k < s.size) (hp:p (s.data.toList.getD k 0)=false):s.data.toList.all p=false:=by
 obtain ⟨h',e⟩:=getD_byte h
 exact List.all_eq_false.2 ⟨s.data.toList.getD k 0,by rw [e];exact List.getElem_mem _,by rw [hp];decide⟩
def ifaceS (s:ByteArray):Bool:=(validS s && decide (s.size≤15)) && !(s.data.toList.contains 58 || s.data.toList.contains 33)
theorem nameB_ascii (b:UInt8) (h:nameB b=true):b.toNat < 128:=by
 have:∀ b ∈ nameT,b.toNat < 128:=by decide
 exact this b (by unfold nameB at h;exact List.contains_iff_mem.1 h)
theorem valid_ascii {s:ByteArray} (h:validS s=true):∀ (j:Nat) b,s.data.toList[j]? = some b → b.toNat < 128:=fun j b hb=>by
 unfold validS at h
 simp only [Bool.and_eq_true] at h
 exact nameB_ascii b (List.all_eq_true.1 h.2 b (List.mem_of_getElem? hb))
theorem valid_size {s:ByteArray} (h:validS s=true):s.size≤32:=by
 unfold validS at h
 simp only [Bool.and_eq_true,decide_eq_true_eq] at h
 exact h.1.1.2
def linkL:List Bool:=plusL commonL [64,35,61,37]
theorem linkL_len:linkL.length=256:=by rw [linkL,plusL_len,commonL_len]
def linkP (s:ByteArray):Bool:=(decide (s≠⟨#[]⟩) && !dotsS s) && hasL linkL s
def linkS (s:ByteArray):Bool:=decide (s.size≤256) && (parts s).all linkP
theorem part_size {s x:ByteArray} (h:x ∈ parts s):x.size≤s.size:=by
 have spl_mem:∀ {l x:List UInt8},x ∈ spl l → x.length≤l.length:=by
  intro l
  induction l with
  | nil=>intro x h;simp [spl] at h;subst h;simp
  | cons b l ih =>
   intro x h
   rw [spl] at h
   split at h
   ·rcases List.mem_cons.1 h with rfl|h
    ·simp
    ·have:=ih h;simp only [List.length_cons];omega
   ·split at h
    ·rename_i e;simp at h;subst h;simp
    ·rename_i y t e
     have hy:y ∈ spl l:=by rw [e];simp
     rcases List.mem_cons.1 h with rfl|h
     ·have:=ih hy;simp only [List.length_cons];omega
     ·have hx:x ∈ spl l:=by rw [e];simp [h]
      have:=ih hx;simp only [List.length_cons];omega
 unfold parts at h
 obtain ⟨y,hy,rfl⟩:=List.mem_map.1 h
 exact spl_mem hy
structure Wsh where
 path:ByteArray
 names:List ByteArray
 deriving DecidableEq,Inhabited
def Wsh.d (w:Wsh):List D:=[.v (.string w.path),.sl 1 (w.names.map strD)]
attribute [push_cast] Wsh.d
def Wsh.e (w:Wsh):List E:=[.v (.string w.path),.sl 1 (w.names.map strD)]
attribute [push_cast] Wsh.e
def digN (n:Nat):ByteArray:=⟨(Lib.decDigits n).toArray⟩
def readGo:List UInt8 → Nat → Nat
 | [],a=>a
 | b :: l,a=>readGo l (a * 10+(b.toNat - 48))
theorem readGo_app:∀ (l m:List UInt8) (a:Nat),readGo (l++m) a=readGo m (readGo l a)
 | [],m,a=>rfl
 | b :: l,m,a=>readGo_app l m _
theorem dec_read (n:Nat):readGo (Lib.decDigits n) 0=n:=by
 induction n using Nat.strongRecOn with
 | ind n ih =>
  rw [Lib.decDigits]
  split
  ·rename_i h
   have:(UInt8.ofNat (48+n)).toNat=48+n:=by rw [UInt8.toNat_ofNat'];omega
   simp only [readGo]
   rw [this];omega
  ·rename_i h
   rw [readGo_app,ih (n / 10) (by omega)]
   have:(UInt8.ofNat (48+n % 10)).toNat=48+n % 10:=by rw [UInt8.toNat_ofNat'];omega
   simp only [readGo]
   rw [this];omega
theorem digN_inj {m n:Nat} (h:digN m=digN n):m=n:=by
 have h2:Lib.decDigits m=Lib.decDigits n:=by
  unfold digN at h
  injection h with h
  simpa using congrArg Array.toList h
 rw [← dec_read m,h2,dec_read]
def ifN (n:Nat):ByteArray:=⟨#[105,102]⟩++digN n
theorem app_inj {a b c:ByteArray} (h:a++b=a++c):b=c:=by
 have h2:=congrArg (fun s:ByteArray=>s.data.toList) h
 simp only [ByteArray.data_append,Array.toList_append] at h2
 have h3:=List.append_cancel_left h2
 cases b;cases c
 simp only at h3
 congr
 exact Array.toList_inj.1 h3
theorem ifN_inj {m n:Nat} (h:ifN m=ifN n):m=n:=digN_inj (app_inj h)
def freshGo (W:List ByteArray):Nat → Nat → Nat
 | 0,n=>n
 | k+1,n=>if inM (ifN n) W=true then freshGo W k (n+1) else n
theorem freshGo_ge (W:List ByteArray):∀ k n,n≤freshGo W k n
 | 0,n=>Nat.le_refl _
 | k+1,n=>by
  rw [freshGo]
  split
  ·have:=freshGo_ge W k (n+1);omega
  ·exact Nat.le_refl _
theorem freshGo_le (W:List ByteArray):∀ k n,freshGo W k n≤n+k
 | 0,n=>Nat.le_refl _
 | k+1,n=>by
  rw [freshGo]
  split
  ·have:=freshGo_le W k (n+1);omega
  ·omega
theorem freshGo_mid (W:List ByteArray):∀ k n m,n≤m → m < freshGo W k n → inM (ifN m) W=true
 | 0,n,m,h1,h2=>by rw [freshGo] at h2;omega
 | k+1,n,m,h1,h2=>by
  rw [freshGo] at h2
  split at h2
  ·rename_i h
   by_cases e:m=n
   ·rw [e];exact h
   ·exact freshGo_mid W k (n+1) m (by omega) h2
  ·omega
theorem nodup_sub_len {α:Type} [DecidableEq α]:∀ {l m:List α},l.Nodup → (∀ x ∈ l,x ∈ m) → l.length≤m.length
 | [],m,_,_=>Nat.zero_le _
 | a :: l,m,h,hs=>by
  obtain ⟨h1,h2⟩:=List.nodup_cons.1 h
  have ha:=hs a (by simp)
  have:=nodup_sub_len (l:=l) (m:=m.erase a) h2 fun x hx=>by
   have hx2:=hs x (by simp [hx])
   exact (List.mem_erase_of_ne (fun e=>h1 (by rw [← e];exact hx))).2 hx2
  rw [List.length_erase_of_mem ha] at this
  have hp:0 < m.length:=List.length_pos_of_mem ha
  rw [List.length_cons]
  omega
theorem freshGo_end (W:List ByteArray) {k n:Nat} (hk:W.length < k):inM (ifN (freshGo W k n)) W=false:=by
 have key:∀ k n,inM (ifN (freshGo W k n)) W=true → freshGo W k n=n+k:=by
  intro k
  induction k with
  | zero=>intro n _;rfl
  | succ k ih =>
   intro n h
   rw [freshGo] at h ⊢
   split
   ·rename_i hc
    rw [if_pos hc] at h
    rw [ih (n+1) h];omega
   ·rename_i hc
    rw [if_neg hc] at h
    exact absurd h hc
 cases hc:inM (ifN (freshGo W k n)) W with
 | false=>rfl
 | true =>
  exfalso
  have h1:=key k n hc
  have h2:((List.range k).map fun j=>ifN (n+j)).Nodup:=by
   rw [List.Nodup,List.pairwise_map]
   refine List.nodup_range.imp fun hne e=>hne ?_
   have:=ifN_inj e
   omega
  have h3:=nodup_sub_len h2 (m:=W) fun x hx=>by
   obtain ⟨j,hj,rfl⟩:=List.mem_map.1 hx
   rw [List.mem_range] at hj
   exact inM_iff.1 (freshGo_mid W k n (n+j) (by omega) (by omega))
  rw [List.length_map,List.length_range] at h3
  omega
def freshN (W:List ByteArray) (n:Nat):Nat:=freshGo W (W.length+1) n
theorem fresh_ge (W:List ByteArray) (n:Nat):n≤freshN W n:=freshGo_ge W _ n
theorem fresh_le (W:List ByteArray) (n:Nat):freshN W n≤n+W.length+1:=freshGo_le W _ n
theorem fresh_not (W:List ByteArray) (n:Nat):inM (ifN (freshN W n)) W=false:=freshGo_end W (by omega)
theorem fresh_mid (W:List ByteArray) {n m:Nat} (h1:n≤m) (h2:m < freshN W n):inM (ifN m) W=true:=freshGo_mid W _ n m h1 h2
theorem fresh_uniq {W:List ByteArray} {n m:Nat} (h1:n≤m) (h2:inM (ifN m) W=false) (h3:∀ j,n≤j → j < m → inM (ifN j) W=true):freshN W n=m:=by
 rcases Nat.lt_trichotomy (freshN W n) m with h|h|h
 ·have:=h3 _ (fresh_ge W n) h
  rw [fresh_not] at this;cases this
 ·exact h
 ·have:=fresh_mid W h1 h
  rw [h2] at this;cases this
def namesOk (ns:List ByteArray):Bool:=(List.range ns.length).all fun k=>ifaceS (ns.getD k default) && !inM (ns.getD k default) (ns.take k)
def wshAt (l:List Wsh) (i:Nat):Bool:=((splitP (l.getD i default).path).isSome && (decide (i=0) || decide (cmpP (l.getD (i - 1) default).path (l.getD i default).path < 0))) && namesOk (l.getD i default).names
def wshOk (l:List Wsh):Bool:=(List.range l.length).all (wshAt l)
theorem wshOk_at {l:List Wsh} (h:wshOk l=true) {i:Nat} (hi:i < l.length):wshAt l i=true:=List.all_eq_true.1 h i (List.mem_range.2 hi)
theorem namesOk_at {ns:List ByteArray} (h:namesOk ns=true) {k:Nat} (hk:k < ns.length):ifaceS (ns.getD k default)=true∧inM (ns.getD k default) (ns.take k)=false:=by
 have:=List.all_eq_true.1 h k (List.mem_range.2 hk)
 simpa using this
theorem iface_ne {s:ByteArray} (h:ifaceS s=true):s≠⟨#[]⟩:=fun e=>by
 subst e
 revert h
 decide +kernel
theorem iface_size {s:ByteArray} (h:ifaceS s=true):s.size≤15:=by
 unfold ifaceS at h
 simp only [Bool.and_eq_true,decide_eq_true_eq] at h
 exact h.1.2
def rankK (l:List Wsh) (r k:Nat):List (Nat × ByteArray):=((List.range k).filter fun i=>decide (r < (l.getD i default).names.length)).map fun i=>(i,(l.getD i default).names.getD r default)
theorem rankK_zero (l:List Wsh) (r:Nat):rankK l r 0=[]:=rfl
theorem rankK_t {l:List Wsh} {r k:Nat} (h:r < (l.getD k default).names.length):rankK l r (k+1)=rankK l r k++[(k,(l.getD k default).names.getD r default)]:=by
 unfold rankK
 rw [List.range_succ,List.filter_append,List.map_append,List.filter_cons_of_pos (by simpa using h),List.filter_nil,List.map_singleton]
theorem rankK_f {l:List Wsh} {r k:Nat} (h:¬ r < (l.getD k default).names.length):rankK l r (k+1)=rankK l r k:=by
 unfold rankK
 rw [List.range_succ,List.filter_append,List.map_append,List.filter_cons_of_neg (by simpa using h),List.filter_nil,List.map_nil,List.append_nil]
def prsL (l:List Wsh) (n:Nat):List (Nat × ByteArray):=(List.range n).flatMap fun r=>rankK l r l.length
theorem prsL_succ (l:List Wsh) (n:Nat):prsL l (n+1)=prsL l n++rankK l n l.length:=by
 unfold prsL
 rw [List.range_succ,List.flatMap_append,List.flatMap_singleton]
def maxR (l:List Wsh):Nat:=l.foldl (fun a w=>max a w.names.length) 0
theorem foldl_max_ge (l:List Wsh):∀ a,a≤l.foldl (fun a w=>max a w.names.length) a∧∀ w ∈ l,w.names.length≤l.foldl (fun a w=>max a w.names.length) a:=by
 induction l with
 | nil=>intro a;exact ⟨Nat.le_refl _,fun w hw=>by cases hw⟩
 | cons x l ih =>
  intro a
  obtain ⟨h1,h2⟩:=ih (max a x.names.length)
  refine ⟨Nat.le_trans (Nat.le_max_left _ _) h1,fun w hw=>?_⟩
  rcases List.mem_cons.1 hw with rfl|hw
  ·exact Nat.le_trans (Nat.le_max_right _ _) h1
  ·exact h2 w hw
theorem maxR_ge {l:List Wsh} {w:Wsh} (h:w ∈ l):w.names.length≤maxR l:=(foldl_max_ge l 0).2 w h
abbrev AsgS:=List ByteArray × List ByteArray
def stepW (st:AsgS) (p:Nat × ByteArray):AsgS:=if st.1.getD p.1 default=⟨#[]⟩∧inM p.2 st.2=false then (st.1.set p.1 p.2,addS st.2 p.2) else st
def startA (l:List Wsh):AsgS:=(List.replicate l.length ⟨#[]⟩,[])
def runA (l:List Wsh) (ps:List (Nat × ByteArray)):AsgS:=ps.foldl stepW (startA l)
theorem runA_snoc (l:List Wsh) (ps:List (Nat × ByteArray)) (p:Nat × ByteArray):runA l (ps++[p])=stepW (runA l ps) p:=by unfold runA;rw [List.foldl_append];rfl
def wantedA (ps:List (Nat × ByteArray)):List ByteArray:=ps.foldl (fun W p=>addS W p.2) []
theorem wantedA_snoc (ps:List (Nat × ByteArray)) (p:Nat × ByteArray):wantedA (ps++[p])=addS (wantedA ps) p.2:=by unfold wantedA;rw [List.foldl_append];rfl
theorem mem_wantedA (ps:List (Nat × ByteArray)) (s:ByteArray):s ∈ wantedA ps ↔ ∃ p ∈ ps,p.2=s:=by
 have key:∀ (ps:List (Nat × ByteArray)) (W:List ByteArray),s ∈ ps.foldl (fun W p=>addS W p.2) W ↔ s ∈ W∨∃ p ∈ ps,p.2=s:=by
  intro ps
  induction ps with
  | nil=>intro W;simp
  | cons p ps ih =>
   intro W
   rw [List.foldl_cons,ih,mem_addS]
   simp only [List.mem_cons,exists_eq_or_imp]
   constructor
   ·rintro ((h|h)|h)
    ·exact .inl h
    ·exact .inr (.inl h.symm)
    ·exact .inr (.inr h)
   ·rintro (h|h|h)
    ·exact .inl (.inl h)
    ·exact .inl (.inr h.symm)
    ·exact .inr h
 unfold wantedA
 rw [key]
 simp
def fillW (W:List ByteArray) (st:List ByteArray × Nat) (i:Nat):List ByteArray × Nat:=if st.1.getD i default=⟨#[]⟩ then (st.1.set i (ifN (freshN W st.2)),freshN W st.2+1) else st
def fillWK (W:List ByteArray) (vals:List ByteArray) (k:Nat):List ByteArray × Nat:=(List.range k).foldl (fillW W) (vals,0)
theorem fillWK_zero (W vals:List ByteArray):fillWK W vals 0=(vals,0):=rfl
theorem fillWK_succ (W vals:List ByteArray) (k:Nat):fillWK W vals (k+1)=fillW W (fillWK W vals k) k:=by unfold fillWK;rw [List.range_succ,List.foldl_append];rfl
def valsA (l:List Wsh):List ByteArray:=(runA l (prsL l (maxR l))).1
def namedA (l:List Wsh):List ByteArray:=(fillWK (wantedA (prsL l (maxR l))) (valsA l) l.length).1
def assignA (l:List Wsh):List Atr:=(List.range l.length).map fun i=>⟨(l.getD i default).path,(namedA l).getD i default⟩
def renN (n:Nat):ByteArray:=⟨#[114,101,110,97,109,101]⟩++digN n
theorem renN_inj {m n:Nat} (h:renN m=renN n):m=n:=digN_inj (app_inj h)
def tempGo (W:List ByteArray):Nat → Nat → Nat
 | 0,n=>n
 | k+1,n=>if inM (renN n) W=true then tempGo W k (n+1) else n
theorem tempGo_le (W:List ByteArray):∀ k n,tempGo W k n≤n+k
 | 0,n=>Nat.le_refl _
 | k+1,n=>by
  rw [tempGo]
  split
  ·have:=tempGo_le W k (n+1);omega
  ·omega
theorem tempGo_mid (W:List ByteArray):∀ k n m,n≤m → m < tempGo W k n → inM (renN m) W=true
 | 0,n,m,h1,h2=>by rw [tempGo] at h2;omega
 | k+1,n,m,h1,h2=>by
  rw [tempGo] at h2
  split at h2
  ·rename_i h
   by_cases e:m=n
   ·rw [e];exact h
   ·exact tempGo_mid W k (n+1) m (by omega) h2
  ·omega
theorem tempGo_end (W:List ByteArray) {k n:Nat} (hk:W.length < k):inM (renN (tempGo W k n)) W=false:=by
 have key:∀ k n,inM (renN (tempGo W k n)) W=true → tempGo W k n=n+k:=by
  intro k
  induction k with
  | zero=>intro n _;rfl
  | succ k ih =>
   intro n h
   rw [tempGo] at h ⊢
   split
   ·rename_i hc
    rw [if_pos hc] at h
    rw [ih (n+1) h];omega
   ·rename_i hc
    rw [if_neg hc] at h
    exact absurd h hc
 cases hc:inM (renN (tempGo W k n)) W with
 | false=>rfl
 | true =>
  exfalso
  have h1:=key k n hc
  have h2:((List.range k).map fun j=>renN (n+j)).Nodup:=by
   rw [List.Nodup,List.pairwise_map]
   refine List.nodup_range.imp fun hne e=>hne ?_
   have:=renN_inj e
   omega
  have h3:=nodup_sub_len h2 (m:=W) fun x hx=>by
   obtain ⟨j,hj,rfl⟩:=List.mem_map.1 hx
   rw [List.mem_range] at hj
   exact inM_iff.1 (tempGo_mid W k n (n+j) (by omega) (by omega))
  rw [List.length_map,List.length_range] at h3
  omega
def tempN (W:List ByteArray):Nat:=tempGo W (W.length+1) 0
theorem temp_le (W:List ByteArray):tempN W≤W.length+1:=by have:=tempGo_le W (W.length+1) 0;unfold tempN;omega
theorem temp_not (W:List ByteArray):inM (renN (tempN W)) W=false:=tempGo_end W (by omega)
theorem temp_mid (W:List ByteArray) {m:Nat} (h:m < tempN W):inM (renN m) W=true:=tempGo_mid W _ 0 m (Nat.zero_le _) h
structure Ren where
 path:ByteArray
 old:ByteArray
 new:ByteArray
 deriving DecidableEq,Inhabited
def Ren.d (r:Ren):List D:=[.v (.string r.path),.v (.string r.old),.v (.string r.new)]
attribute [push_cast] Ren.d
def Ren.e (r:Ren):List E:=[.v (.string r.path),.v (.string r.old),.v (.string r.new)]
attribute [push_cast] Ren.e
def valOf (l:List Atr) (n:ByteArray):Option ByteArray:=(l.find? fun a=>decide (a.name=n)).map Atr.value
def vals (l:List Atr):List ByteArray:=l.map Atr.value
def keys (l:List Atr):List ByteArray:=l.map Atr.name
def wrongP (names:List Atr) (x:Atr):Bool:=match valOf names x.name with
 | some v=>!decide (v=x.value)
 | none=>false
def goalP (names:List Atr) (x:Atr):ByteArray:=(valOf names x.name).getD ⟨#[]⟩
def freeP (names now:List Atr) (x:Atr):Bool:=wrongP names x && !inM (goalP names x) (vals now)
def firstI (l:List Atr) (q:Atr → Bool):Option Nat:=(List.range l.length).find? fun i=>q (l.getD i default)
theorem firstI_some {l:List Atr} {q:Atr → Bool} {i:Nat} (h:firstI l q=some i):i < l.length∧q (l.getD i default)=true∧∀ j,j < i → q (l.getD j default)=false:=by
 unfold firstI at h
 obtain ⟨h1,us,bs,h2,h3⟩:=List.find?_eq_some_iff_append.1 h
 have hm:i ∈ List.range l.length:=by rw [h2];simp
 refine ⟨List.mem_range.1 hm,h1,fun j hj=>?_⟩
 have hlen:us.length=i:=by
  have h4:(List.range l.length)[us.length]? = some i:=by rw [h2];simp
  rw [List.getElem?_eq_some_iff] at h4
  obtain ⟨h5,h6⟩:=h4
  simpa using h6
 have:j ∈ us:=by
  have h4:(List.range l.length)[j]? = some j:=by rw [List.getElem?_range];have:=List.mem_range.1 hm;omega
  rw [h2,List.getElem?_append_left (by omega)] at h4
  exact List.mem_of_getElem? h4
 simpa using h3 j this
theorem firstI_none {l:List Atr} {q:Atr → Bool} (h:firstI l q=none):∀ i,i < l.length → q (l.getD i default)=false:=fun i hi=>by
 unfold firstI at h
 rw [List.find?_eq_none] at h
 simpa using h i (List.mem_range.2 hi)
theorem firstI_of {l:List Atr} {q:Atr → Bool} {i:Nat} (h1:i < l.length) (h2:q (l.getD i default)=true) (h3:∀ j,j < i → q (l.getD j default)=false):firstI l q=some i:=by
 cases hf:firstI l q with
 | none=>have:=firstI_none hf i h1;rw [h2] at this;cases this
 | some j =>
  obtain ⟨g1,g2,g3⟩:=firstI_some hf
  rcases Nat.lt_trichotomy i j with h|h|h
  ·have:=g3 i h;rw [h2] at this;cases this
  ·rw [h]
  ·have:=h3 j h;rw [g2] at this;cases this
theorem firstI_no {l:List Atr} {q:Atr → Bool} (h:∀ i,i < l.length → q (l.getD i default)=false):firstI l q=none:=by
 cases hf:firstI l q with
 | none=>rfl
 | some j=>obtain ⟨g1,g2,_⟩:=firstI_some hf;rw [h j g1] at g2;cases g2
def tempS (names now:List Atr):ByteArray:=renN (tempN (vals names++vals now))
def nextP (names now:List Atr):Option (Nat × ByteArray):=match firstI now (freeP names now) with
 | some i=>some (i,goalP names (now.getD i default))
 | none=>match firstI now (wrongP names) with
  | some i=>some (i,tempS names now)
  | none=>none
def renP (now:List Atr) (i:Nat) (u:ByteArray):List Atr:=now.set i ⟨(now.getD i default).name,u⟩
def planGo (names:List Atr):Nat → List Atr → List Ren × List Atr
 | 0,now=>([],now)
 | k+1,now=>match nextP names now with
  | none=>([],now)
  | some (i,u)=>(⟨(now.getD i default).name,(now.getD i default).value,u⟩ :: (planGo names k (renP now i u)).1,(planGo names k (renP now i u)).2)
structure PlanOk (names now:List Atr):Prop where
 nk:(keys names).Nodup
 nv:(vals names).Nodup
 pk:(keys now).Nodup
 pv:(vals now).Nodup
 ne:∀ v ∈ vals names,v≠⟨#[]⟩
 there:∀ n ∈ keys names,n ∈ keys now
 own:∀ x ∈ now,valOf names x.name=none → x.value ∉ vals names
theorem valOf_mem {l:List Atr} {n v:ByteArray} (h:valOf l n=some v):⟨n,v⟩ ∈ l:=by
 unfold valOf at h
 cases hf:l.find? fun a=>decide (a.name=n) with
 | none=>rw [hf] at h;cases h
 | some a =>
  rw [hf] at h
  have h1:=List.find?_some hf
  simp only [decide_eq_true_eq] at h1
  injection h with h
  subst h1;subst h
  exact List.mem_of_find?_eq_some hf
theorem valOf_none {l:List Atr} {n:ByteArray} (h:valOf l n=none):n ∉ keys l:=by
 unfold valOf at h
 rw [Option.map_eq_none_iff,List.find?_eq_none] at h
 intro hm
 obtain ⟨a,ha,rfl⟩:=List.mem_map.1 hm
 exact absurd (by simp) (h a ha)
theorem valOf_of {l:List Atr} (hk:(keys l).Nodup) {a:Atr} (ha:a ∈ l):valOf l a.name=some a.value:=by
 cases hf:valOf l a.name with
 | none=>exact absurd (List.mem_map.2 ⟨a,ha,rfl⟩) (valOf_none hf)
 | some v =>
  have h1:=valOf_mem hf
  obtain ⟨i,hi,hia⟩:=List.getElem_of_mem ha
  obtain ⟨j,hj,hja⟩:=List.getElem_of_mem h1
  have:i=j:=by
   rcases Nat.lt_trichotomy i j with h|h|h
   ·have:=List.pairwise_iff_getElem.1 hk i j (by simpa [keys] using hi) (by simpa [keys] using hj) h
    simp only [keys,List.getElem_map] at this
    rw [hia,hja] at this
    exact absurd rfl this
   ·exact h
   ·have:=List.pairwise_iff_getElem.1 hk j i (by simpa [keys] using hj) (by simpa [keys] using hi) h
    simp only [keys,List.getElem_map] at this
    rw [hia,hja] at this
    exact absurd rfl this
  subst this
  rw [hia] at hja
  rw [hja]
theorem key_inj {l:List Atr} {f:Atr → ByteArray} (hk:(l.map f).Nodup) {i j:Nat} (hi:i < l.length) (hj:j < l.length) (e:f (l.getD i default)=f (l.getD j default)):i=j:=by
 rw [getD_lt l hi,getD_lt l hj] at e
 rcases Nat.lt_trichotomy i j with h|h|h
 ·have:=List.pairwise_iff_getElem.1 hk i j (by simpa using hi) (by simpa using hj) h
  simp only [List.getElem_map] at this
  exact absurd e this
 ·exact h
 ·have:=List.pairwise_iff_getElem.1 hk j i (by simpa using hj) (by simpa using hi) h
  simp only [List.getElem_map] at this
  exact absurd e.symm this
end Go.Proofs.YthconflkbeipoaaGreatDoor
