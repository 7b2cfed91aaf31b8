/- What the program computes, and the plain laws of it, part 1. -/
import Derived.WalkKit
import Derived.WalkLawsBesides
import Derived.WalkSpells
import Derived.BigQuiet
import Derived.Deep.QuietTactic
import Derived.Deep.Draws
import Derived.Lib.Hide
import Derived.StillTailTactics
import Derived.Laws.CopyOwn
import Derived.Maps.AppendAt
import Derived.Deep.AppendLies
import Derived.Lib.Bytealg
namespace Go.Proofs.YthhfpcbpiphfiaaGreatDoor
open Go.RowKit
open IntWalk renaming iteOmega → iO, toNatUp → tN
set_option linter.unusedVariables false
set_option linter.unusedSimpArgs false
theorem blist_inj (a b:ByteArray):a.toList=b.toList ↔ a=b:=by
 constructor
 ·intro e
  rw [ByteArray.toList_eq,ByteArray.toList_eq] at e
  obtain ⟨⟨x⟩⟩:=a
  obtain ⟨⟨y⟩⟩:=b
  have e:x=y:=e
  rw [e]
 ·rintro rfl;rfl
structure Ext (S:Nat → Prop) (w w':World):Prop where
 os:w'.os=w.os
 tape:w'.tape=w.tape
 output:w'.output=w.output
 size:w.heap.size≤w'.heap.size
 block:∀ k,k < w.heap.size → ¬ S k → w'.heap[k]? = w.heap[k]?
def No:Nat → Prop:=fun _=>False
namespace Ext
variable {S T:Nat → Prop} {w w' w'':World}
theorem refl (S:Nat → Prop) (w:World):Ext S w w:=⟨rfl,rfl,rfl,Nat.le_refl _,fun _ _ _=>rfl⟩
theorem trans (h:Ext S w w') (k:Ext S w' w''):Ext S w w'' :=
 ⟨k.os.trans h.os,k.tape.trans h.tape,k.output.trans h.output,Nat.le_trans h.size k.size,
  fun i hi hs=>(k.block i (Nat.lt_of_lt_of_le hi h.size) hs).trans (h.block i hi hs)⟩
theorem mono (h:Ext S w w') (hs:∀ k,S k → T k):Ext T w w':=⟨h.os,h.tape,h.output,h.size,fun i hi ht=>h.block i hi fun hS=>ht (hs i hS)⟩
theorem trans_new (h:Ext S w w') (k:Ext T w' w'') (hT:∀ i,T i → S i∨w.heap.size≤i):Ext S w w'' :=
 ⟨k.os.trans h.os,k.tape.trans h.tape,k.output.trans h.output,Nat.le_trans h.size k.size,
  fun i hi hs=>(k.block i (Nat.lt_of_lt_of_le hi h.size) (fun ht=>by rcases hT i ht with h1|h1;exact hs h1;omega)).trans (h.block i hi hs)⟩
theorem drew (h:Ext S w w'):Ext S w w'.drew:=⟨h.os,h.tape,h.output,h.size,h.block⟩
theorem alloc (h:Ext S w w') (o:Obj):Ext S w (w'.alloc o) :=
 ⟨h.os,h.tape,h.output,by have:=h.size;simp;omega,fun k hk hs=>(Below.heap_alloc w' o k (by have:=h.size;omega)).trans (h.block k hk hs)⟩
theorem setCell (h:Ext S w w') {p:Addr} (hp:S p.block∨w.heap.size≤p.block) (u:Value):Ext S w (w'.setCell p u) :=
 ⟨h.os,h.tape,h.output,by simpa [World.setCell] using h.size,
  fun k hk hs=>(Below.heap_setCell w' p u k (by rintro rfl;rcases hp with hp|hp;exact hs hp;omega)).trans (h.block k hk hs)⟩
theorem grown (h:Ext S w w') {row:Option Nat} (hg:w'.grownBy w'' row) (hr:∀ k,row=some k → S k∨w.heap.size≤k):Ext S w w'' :=
 ⟨hg.os.trans h.os,hg.tape.trans h.tape,hg.output.trans h.output,Nat.le_trans h.size hg.size,
  fun k hk hs=>(hg.block k (Nat.lt_of_lt_of_le hk h.size) (fun e=>by rcases hr k e.symm with h1|h1;exact hs h1;omega)).trans (h.block k hk hs)⟩
theorem below (h:Ext No w w'):Below w.heap.size w w':=⟨h.os,h.tape,h.output,h.size,fun k hk=>h.block k hk id⟩
theorem no (h:Ext No w w'):Ext S w w':=h.mono fun _=>False.elim
theorem base {B:Nat} {W:World} (h:Below B W w) (k:Ext S w w') (hB:B≤w.heap.size) (hS:∀ i,S i → B≤i):Below B W w' :=
 ⟨k.os.trans h.os,k.tape.trans h.tape,k.output.trans h.output,Nat.le_trans h.size k.size,
  fun i hi=>(k.block i (by omega) (fun hs=>by have:=hS i hs;omega)).trans (h.block i hi)⟩
theorem cell (h:Ext S w w') {p:Addr} (hp:p.block < w.heap.size) (hs:¬ S p.block):w'.cell? p=w.cell? p:=World.cell?_of_block (h.block p.block hp hs)
theorem frozen (h:Ext S w w') {p:Addr} (hp:p.block < w.heap.size) (hs:¬ S p.block):w'.frozen? p=w.frozen? p:=World.frozen?_of_block (h.block p.block hp hs)
end Ext
def Blk (w:World) (g:Nat) (t:TypeId) (cs:Array Value):Prop:=w.heap[g]? = some (.cells cs t (0,0))
namespace Blk
variable {w w':World} {g:Nat} {t:TypeId} {cs:Array Value} {S:Nat → Prop}
theorem lt (h:Blk w g t cs):g < w.heap.size:=by
 rcases Nat.lt_or_ge g w.heap.size with hlt|hge
 ·exact hlt
 ·unfold Blk at h;rw [Array.getElem?_eq_none hge] at h;cases h
theorem cell (h:Blk w g t cs) (i:Nat):w.cell? ⟨g,i,none⟩=cs[i]?:=cell_of_row w g i cs t (0,0) h
theorem frozen (h:Blk w g t cs) (i:Nat):w.frozen? ⟨g,i,none⟩=false:=frozen_of_row w g i cs t h
theorem new (w:World) (t:TypeId) (cs:Array Value):Blk (w.alloc (.cells cs t)) w.heap.size t cs:=heap_alloc_new w _
theorem drew (h:Blk w g t cs):Blk w.drew g t cs:=h
theorem alloc (h:Blk w g t cs) (o:Obj):Blk (w.alloc o) g t cs:=(Below.heap_alloc w o g h.lt).trans h
theorem set_ (h:Blk w g t cs) (i:Nat) (u:Value):Blk (w.setCell ⟨g,i,none⟩ u) g t (cs.setIfInBounds i u):=heap_setCell_same w g i cs t u h
theorem ext (h:Blk w g t cs) (e:Ext S w w') (hS:¬ S g):Blk w' g t cs:=(e.block g h.lt hS).trans h
theorem grown {row:Option Nat} (h:Blk w g t cs) (hb:w.grownBy w' row) (hg:some g≠row):Blk w' g t cs:=(hb.block g h.lt hg).trans h
end Blk
def Rd (w:World) (P:Nat → Prop) (size:Nat) (A:Option Addr) (n:Nat) (xs:List Value):Prop :=
 xs.length=n * size∧(0 < n → ∃ b o,A=some ⟨b,o,none⟩∧P b∧b < w.heap.size∧∀ j u,xs[j]? = some u → w.cell? ⟨b,o+j,none⟩=some u)
namespace Rd
variable {w w':World} {P Q S:Nat → Prop} {size n:Nat} {A:Option Addr} {xs:List Value}
theorem nil:Rd w P size A 0 []:=⟨by simp,fun h=>absurd h (by omega)⟩
theorem get (h:Rd w P size A n xs) (hn:0 < n):∃ b o,A=some ⟨b,o,none⟩∧P b∧b < w.heap.size∧∀ j u,xs[j]? = some u → w.cell? ⟨b,o+j,none⟩=some u:=h.2 hn
theorem keep (h:Rd w P size A n xs) (hz:w.heap.size≤w'.heap.size) (hk:∀ b o,P b → b < w.heap.size → w'.cell? ⟨b,o,none⟩=w.cell? ⟨b,o,none⟩):Rd w' P size A n xs :=
 ⟨h.1,fun hn=>by
  obtain ⟨b,o,e,hb,hlt,hc⟩:=h.2 hn
  exact ⟨b,o,e,hb,by omega,fun j u hu=>(hk _ _ hb hlt).trans (hc j u hu)⟩⟩
theorem more (h:Rd w P size A n xs) (hP:∀ b,P b → Q b):Rd w Q size A n xs :=
 ⟨h.1,fun hn=>by
  obtain ⟨b,o,e,hb,hlt,hc⟩:=h.2 hn
  exact ⟨b,o,e,hP b hb,hlt,hc⟩⟩
theorem ext (h:Rd w P size A n xs) (e:Ext S w w') (hS:∀ b,P b → ¬ S b):Rd w' P size A n xs :=
 h.keep e.size fun b o hb hlt=>e.cell (p:=⟨b,o,none⟩) hlt (hS b hb)
theorem cut (h:Rd w P size A n xs) {k cap:Nat} (hk:k≤n) (hc:n≤cap) :
  Rd w P size (if cap=k then A else A.map (·.add (k * size))) (n - k) (xs.drop (k * size)):=by
 refine ⟨by rw [List.length_drop,h.1,Nat.sub_mul],fun hn=>?_⟩
 obtain ⟨b,o,rfl,hb,hlt,hcell⟩:=h.2 (by omega)
 rw [if_neg (by omega)]
 refine ⟨b,o+k * size,by simp [Addr.add_lit],hb,hlt,fun j u hu=>?_⟩
 rw [Nat.add_assoc]
 exact hcell _ u (by rw [← hu,List.getElem?_drop])
theorem take_ (h:Rd w P size A n xs) {k:Nat} (hk:k≤n):Rd w P size A k (xs.take (k * size)):=by
 refine ⟨by rw [List.length_take,h.1];exact Nat.min_eq_left (Nat.mul_le_mul_right _ hk),fun hn=>?_⟩
 obtain ⟨b,o,rfl,hb,hlt,hcell⟩:=h.2 (by omega)
 refine ⟨b,o,rfl,hb,hlt,fun j u hu=>hcell j u ?_⟩
 rw [List.getElem?_take] at hu
 split at hu
 ·exact hu
 ·cases hu
theorem lt (h:Rd w P size A n xs):Rd w (· < w.heap.size) size A n xs :=
 ⟨h.1,fun hn=>by
  obtain ⟨b,o,e,hb,hlt,hc⟩:=h.2 hn
  exact ⟨b,o,e,hlt,hlt,hc⟩⟩
theorem drew (h:Rd w P size A n xs):Rd w.drew P size A n xs:=h
end Rd
structure SlT (P:Program) (t e:TypeId) (size bytes:Nat):Prop where
 ht:P.underlying t=some (.slice e)
 hi:∃ i z,P.info? e=some i∧i.zero=some z∧i.size=size∧i.bytes=bytes∧z.cells.size=size
 pos:0 < size
theorem own_nil (w:World) (base:Nat) (e:TypeId) (size:Nat):w.ownsRow base e size (.slice none 0 0) 0 []:=World.ownsRow_nil w base e size
theorem own_blk {w:World} {base g:Nat} {e:TypeId} {size n cap:Nat} {cs:Array Value} (h:Blk w g e cs) (hb:base≤g) (hs:cs.size=cap * size) (hn:n≤cap) (hc:cap≤maxLen) :
  w.ownsRow base e size (.slice (some ⟨g,0,none⟩) n cap) n (cs.toList.take (n * size)) :=
 ⟨by rw [List.length_take,Array.length_toList,hs];exact Nat.min_eq_left (Nat.mul_le_mul_right _ hn),.inr ⟨g,cap,cs,rfl,hb,h,hn,hc,hs,rfl⟩⟩
theorem run_append_rd {P:Program} (w:World) (base:Nat) (t ty e:TypeId) (size bytes:Nat) (hT:SlT P t e size bytes)
  (v:Value) (n:Nat) (xs:List Value) (hown:w.ownsRow base e size v n xs) (R:Nat → Prop) (A:Option Addr) (m c:Nat) (news:List Value) (hr:Rd w R size A m news) (h1:∀ u ∈ news,u.oneCell'=true)
  (h63:n+m≤maxLen) (hbytes:(n+m) * bytes≤140737488355328) (hbase:base≤w.heap.size) :
  ∃ v' w',(Builtin.append_ #[t,t] ty #[v,.slice A m c]).run P w = .ok v' w'∧w'.ownsRow base e size v' (n+m) (xs++news)∧Ext (fun k=>v.ownBlock=some k) w w' ∧
   (v'.ownBlock=v.ownBlock∨v'.ownBlock=some w.heap.size):=by
 obtain ⟨ht,⟨i,z,hi,hz,hsize,hby,hzs⟩,hsz⟩:=hT
 have hnil:A=none → ∃ v' w',(Builtin.append_ #[t,t] ty #[v,.slice none m c]).run P w = .ok v' w'∧w'.ownsRow base e size v' (n+m) (xs++news)∧Ext (fun k=>v.ownBlock=some k) w w'∧(v'.ownBlock=v.ownBlock∨v'.ownBlock=some w.heap.size):=by
  rintro rfl
  have hm:m=0:=by
   rcases Nat.eq_zero_or_pos m with h0|h0
   ·exact h0
   ·obtain ⟨b,o,h,_⟩:=hr.2 h0
    cases h
  subst hm
  have hn:news=[]:=List.eq_nil_of_length_eq_zero (by simpa using hr.1)
  subst hn
  refine ⟨v,w,?_,by simpa using hown,Ext.refl _ _,.inl rfl⟩
  rcases hown.2 with ⟨rfl,rfl⟩|⟨g,cap,cur,rfl,_,_,hnc,_⟩
  ·simp [Builtin.append_,run_underlying ht,sizeOf,typeInfo,hi,Builtin.lenOf,Builtin.firstCells]
  ·simp [Builtin.append_,run_underlying ht,sizeOf,typeInfo,hi,Builtin.lenOf,Builtin.firstCells,hnc,storeCells]
 rcases A with _|ad
 ·exact hnil rfl
 ·have hcells:∀ j u,news[j]? = some u → w.cell? (ad.add j)=some u:=by
   intro j u hu
   rcases Nat.eq_zero_or_pos m with h0|h0
   ·subst h0
    have hn:news=[]:=List.eq_nil_of_length_eq_zero (by simpa using hr.1)
    subst hn
    simp at hu
   ·obtain ⟨b,o,h,_,_,hc⟩:=hr.2 h0
    injection h with h
    subst h
    rw [Addr.add_lit]
    exact hc j u hu
  obtain ⟨v',w',hrun,h2,h3,_,h5⟩:=run_append_own_at (P:=P) w base t ty e i z size bytes ht hi hz hsize hby hzs hsz v n xs hown ad m c news hr.1 hcells h1 h63 hbytes hbase
  exact ⟨v',w',hrun,h2,(Ext.refl _ w).grown h3 (fun k hk=>.inl hk),h5⟩
def fold (v n:Int):Int:=if n≤1 then 0 else if v.tmod n < 0 then v.tmod n+n else v.tmod n
def tapeAt (L:List Int) (k:Nat):Int:=if k < L.length then L.getD k 0 else ((k:Int) * 7) % 11
end Go.Proofs.YthhfpcbpiphfiaaGreatDoor
namespace Go.Proofs.YthhfpcbpiphfiaaGreatDoor
def Pin (w:World):Prop:=∃ m,w.cell? ⟨0,0,none⟩=some (.int .i64 m)
def PinB (b:Nat):Prop:=b=0
theorem Pin.stay {w w':World} (h:∀ b,PinB b → w'.heap[b]? = w.heap[b]?) (hp:Pin w):Pin w':=by
 obtain ⟨m,hm⟩:=hp
 exact ⟨m,(World.cell?_of_block (h 0 rfl)).trans hm⟩
end Go.Proofs.YthhfpcbpiphfiaaGreatDoor
namespace Go.Proofs.YthhfpcbpiphfiaaGreatDoor
open Go.RowKit
open IntWalk renaming iteOmega → iO, toNatUp → tN
set_option linter.unusedVariables false
set_option linter.unusedSimpArgs false
attribute [push_cast] eq_self iff_self
inductive D where
 | v (x:Value)
 | sl (sz:Nat) (l:List (List D))
inductive E where
 | v (x:Value)
 | sl (sz:Nat) (l:List (List D))
 | full (sz:Nat) (l:List (List D))
 | own (k n:Nat)
 | ptr (k off:Nat)
 | row (cs:List D)
 | orow (k sz i f:Nat)
 | fn (f:Fn) (first:List D) (cap:List Nat)
 | mp (k:Nat)
 | seg (k sz lo n:Nat)
 | any
inductive KI where
 | int (k:IntKind)
 | wide (n:Nat)
 deriving DecidableEq
inductive MK where
 | s (b:ByteArray)
 | i (k:IntKind) (n:Int)
 | t (ns:List Int)
 deriving DecidableEq
def MK.v:MK → Value
 | .s b=>.string b
 | .i k n=>.int k n
 | .t ns=>.agg (ns.map (Value.int .i64)).toArray
def MK.kind:MK → Option KI
 | .s _=>none
 | .i k _=>some (.int k)
 | .t ns=>some (.wide ns.length)
inductive PV where
 | c (x:E)
 | agg (cs:List E)
 | undef
 | two (a b:PV)
 | three (a b c:PV)
structure LoopR where
 fn:FuncId
 ps:Array Tmp
 asg:Code
 body:Code
 D:Nat
 N:Nat
 st:LoopState
 pd:Option Code
inductive Ob where
 | box (ty:TypeId) (cs:List E)
 | arr (el:TypeId) (sz:Nat) (rows:List (List D))
 | map (kk:Option KI) (ag:Bool) (es:List (MK × List D))
 | loop (l:Nat) (L:LoopR) (t:List (Nat × PV))
structure S where
 t:List (Nat × PV)
 o:List Ob
def D.e:D → E
 | .v x=>.v x
 | .sl sz l=>.sl sz l
def All2 {α β:Type} (R:α → β → Prop):List α → List β → Prop
 | [],[]=>True
 | a :: l,b :: m=>R a b∧All2 R l m
 | _,_=>False
namespace All2
variable {α β γ:Type} {R R':α → β → Prop}
theorem mono_mem:∀ {l:List α} {m:List β},All2 R l m → (∀ a b,a ∈ l → R a b → R' a b) → All2 R' l m
 | [],[],_,_=>trivial
 | a :: l,b :: m,h,f=>⟨f a b (by simp) h.1,mono_mem h.2 fun a b ha=>f a b (by simp [ha])⟩
 | [],_ :: _,h,_=>h.elim
 | _ :: _,[],h,_=>h.elim
theorem mono {l:List α} {m:List β} (h:All2 R l m) (f:∀ a b,R a b → R' a b):All2 R' l m:=h.mono_mem fun a b _=>f a b
theorem length:∀ {l:List α} {m:List β},All2 R l m → l.length=m.length
 | [],[],_=>rfl
 | _ :: l,_ :: m,h=>by simp [length h.2]
 | [],_ :: _,h=>h.elim
 | _ :: _,[],h=>h.elim
theorem append:∀ {l l':List α} {m m':List β},All2 R l m → All2 R l' m' → All2 R (l++l') (m++m')
 | [],_,[],_,_,h'=>h'
 | _ :: l,_,_ :: m,_,h,h'=>⟨h.1,append h.2 h'⟩
 | [],_,_ :: _,_,h,_=>h.elim
 | _ :: _,_,[],_,h,_=>h.elim
theorem split:∀ {l l':List α} {m:List β},All2 R (l++l') m → ∃ a b,m=a++b∧All2 R l a∧All2 R l' b
 | [],_,m,h=>⟨[],m,rfl,trivial,h⟩
 | x :: l,_,y :: m,h=>by
  obtain ⟨a,b,rfl,h1,h2⟩:=split (l:=l) h.2
  exact ⟨y :: a,b,rfl,⟨h.1,h1⟩,h2⟩
 | _ :: _,_,[],h=>h.elim
theorem get:∀ {l:List α} {m:List β},All2 R l m → ∀ (i:Nat) (a:α),l[i]? = some a → ∃ b:β,m[i]? = some b∧R a b
 | [],[],_,i,a,h=>by simp at h
 | x :: l,y :: m,h,0,a,h'=>by
  simp at h'
  subst h'
  exact ⟨y,by simp,h.1⟩
 | x :: l,y :: m,h,i+1,a,h'=>by
  simp at h'
  obtain ⟨b,hb,hr⟩:=get h.2 i a h'
  exact ⟨b,by simpa using hb,hr⟩
 | [],_ :: _,h,_,_,_=>h.elim
 | _ :: _,[],h,_,_,_=>h.elim
theorem take:∀ {l:List α} {m:List β},All2 R l m → ∀ k,All2 R (l.take k) (m.take k)
 | [],[],_,k=>by simp [All2]
 | x :: l,y :: m,h,0=>trivial
 | x :: l,y :: m,h,k+1=>⟨h.1,take h.2 k⟩
 | [],_ :: _,h,_=>h.elim
 | _ :: _,[],h,_=>h.elim
theorem drop:∀ {l:List α} {m:List β},All2 R l m → ∀ k,All2 R (l.drop k) (m.drop k)
 | [],[],_,k=>by simp [All2]
 | x :: l,y :: m,h,0=>h
 | x :: l,y :: m,h,k+1=>drop h.2 k
 | [],_ :: _,h,_=>h.elim
 | _ :: _,[],h,_=>h.elim
theorem set_:∀ {l:List α} {m:List β},All2 R l m → ∀ k {a:α} {b:β},R a b → All2 R (l.set k a) (m.set k b)
 | [],[],_,k,_,_,_=>by simp [All2]
 | x :: l,y :: m,h,0,_,_,hr=>⟨hr,h.2⟩
 | x :: l,y :: m,h,k+1,_,_,hr=>⟨h.1,set_ h.2 k hr⟩
 | [],_ :: _,h,_,_,_,_=>h.elim
 | _ :: _,[],h,_,_,_,_=>h.elim
theorem map_l {f:γ → α}:∀ {l:List γ} {m:List β},All2 R (l.map f) m ↔ All2 (fun a b=>R (f a) b) l m
 | [],[]=>by simp [All2]
 | x :: l,y :: m=>by simp [All2,map_l (l:=l) (m:=m)]
 | [],_ :: _=>by simp [All2]
 | _ :: _,[]=>by simp [All2]
theorem nil_l {m:List β}:All2 R [] m ↔ m=[]:=by cases m<;>simp [All2]
theorem cons_l {a:α} {l:List α} {m:List β}:All2 R (a :: l) m ↔ ∃ b m',m=b :: m'∧R a b∧All2 R l m':=by
 cases m with
 | nil=>simp [All2]
 | cons b m =>
  constructor
  ·intro h;exact ⟨b,m,rfl,h⟩
  ·rintro ⟨b',m',h,h'⟩;cases h;exact h'
end All2
mutual
def RD (w:World) (I:Nat → Prop):D → Value → Prop
 | .v x,y=>y=x∧x.oneCell'=true
 | .sl sz l,y=>∃ A c xs,y = .slice A l.length c∧l.length≤c∧Rd w I sz A l.length xs∧RRows w I sz l xs
def RRows (w:World) (I:Nat → Prop) (sz:Nat):List (List D) → List Value → Prop
 | [],xs=>xs=[]
 | r :: l,xs=>∃ a b,xs=a++b∧r.length=sz∧RRow w I r a∧RRows w I sz l b
def RRow (w:World) (I:Nat → Prop):List D → List Value → Prop
 | [],xs=>xs=[]
 | d :: r,xs=>∃ x b,xs=x :: b∧RD w I d x∧RRow w I r b
end
theorem rrow_iff {w:World} {I:Nat → Prop}:∀ {r:List D} {xs:List Value},RRow w I r xs ↔ All2 (RD w I) r xs
 | [],xs=>by rw [RRow,All2.nil_l]
 | d :: r,xs=>by
  rw [RRow,All2.cons_l]
  constructor
  ·rintro ⟨x,b,rfl,h1,h2⟩
   exact ⟨x,b,rfl,h1,rrow_iff.1 h2⟩
  ·rintro ⟨x,b,rfl,h1,h2⟩
   exact ⟨x,b,rfl,h1,rrow_iff.2 h2⟩
theorem rrows_iff {w:World} {I:Nat → Prop} {sz:Nat}:∀ {l:List (List D)} {xs:List Value},RRows w I sz l xs ↔ (∀ r ∈ l,r.length=sz)∧All2 (RD w I) l.flatten xs
 | [],xs=>by rw [RRows];simp [All2.nil_l]
 | r :: l,xs=>by
  rw [RRows]
  constructor
  ·rintro ⟨a,b,rfl,h1,h2,h3⟩
   obtain ⟨h4,h5⟩:=rrows_iff.1 h3
   exact ⟨by simpa [h1] using h4,by simpa using (rrow_iff.1 h2).append h5⟩
  ·rintro ⟨h1,h2⟩
   simp only [List.flatten_cons] at h2
   obtain ⟨a,b,rfl,h3,h4⟩:=h2.split
   exact ⟨a,b,rfl,h1 r (by simp),rrow_iff.2 h3,rrows_iff.2 ⟨fun x hx=>h1 x (by simp [hx]),h4⟩⟩
theorem rd_sl {w:World} {I:Nat → Prop} {sz:Nat} {l:List (List D)} {y:Value} :
  RD w I (.sl sz l) y ↔ ∃ A c xs,y = .slice A l.length c∧l.length≤c∧Rd w I sz A l.length xs∧(∀ r ∈ l,r.length=sz)∧All2 (RD w I) l.flatten xs:=by
 rw [RD]
 simp only [rrows_iff]
structure Stay (w:World) (I:Nat → Prop) (w':World) (I':Nat → Prop):Prop where
 size:w.heap.size≤w'.heap.size
 block:∀ b,I b → b < w.heap.size → w'.heap[b]? = w.heap[b]?
 sub:∀ b,I b → I' b
theorem Stay.refl (w:World) (I:Nat → Prop):Stay w I w I:=⟨Nat.le_refl _,fun _ _ _=>rfl,fun _ h=>h⟩
theorem Stay.cell {w w':World} {I I':Nat → Prop} (h:Stay w I w' I') {b o:Nat} (hb:I b) (hl:b < w.heap.size):w'.cell? ⟨b,o,none⟩=w.cell? ⟨b,o,none⟩:=World.cell?_of_block (h.block b hb hl)
theorem Stay.rd {w w':World} {I I':Nat → Prop} (h:Stay w I w' I') {sz n:Nat} {A:Option Addr} {xs:List Value} (hr:Rd w I sz A n xs):Rd w' I' sz A n xs :=
 (hr.keep h.size fun b o hb hl=>h.cell hb hl).more h.sub
mutual
theorem RD.stay {w w':World} {I I':Nat → Prop} (h:Stay w I w' I'):∀ (d:D) (y:Value),RD w I d y → RD w' I' d y
 | .v x,y,hd=>by rw [RD] at hd ⊢;exact hd
 | .sl sz l,y,hd=>by
  rw [RD] at hd ⊢
  obtain ⟨A,c,xs,h1,h2,h3,h4⟩:=hd
  exact ⟨A,c,xs,h1,h2,h.rd h3,RRows.stay h l xs h4⟩
theorem RRows.stay {w w':World} {I I':Nat → Prop} (h:Stay w I w' I') {sz:Nat}:∀ (l:List (List D)) (xs:List Value),RRows w I sz l xs → RRows w' I' sz l xs
 | [],xs,hd=>by rw [RRows] at hd ⊢;exact hd
 | r :: l,xs,hd=>by
  rw [RRows] at hd ⊢
  obtain ⟨a,b,h1,h2,h3,h4⟩:=hd
  exact ⟨a,b,h1,h2,RRow.stay h r a h3,RRows.stay h l b h4⟩
theorem RRow.stay {w w':World} {I I':Nat → Prop} (h:Stay w I w' I'):∀ (r:List D) (xs:List Value),RRow w I r xs → RRow w' I' r xs
 | [],xs,hd=>by rw [RRow] at hd ⊢;exact hd
 | d :: r,xs,hd=>by
  rw [RRow] at hd ⊢
  obtain ⟨x,b,h1,h2,h3⟩:=hd
  exact ⟨x,b,h1,RD.stay h d x h2,RRow.stay h r b h3⟩
end
theorem RD.one {w:World} {I:Nat → Prop} {d:D} {y:Value} (h:RD w I d y):y.oneCell'=true:=by
 cases d with
 | v x=>rw [RD] at h;rw [h.1];exact h.2
 | sl sz l=>rw [RD] at h;obtain ⟨A,c,xs,rfl,_⟩:=h;rfl
structure G where
 n:Nat
 β:Nat → Nat
 cap:Nat → Nat
 I:Nat → Prop
def keyVal (Γ:G) (k:Nat):Value:=.pointer (some ⟨Γ.β k,0,none⟩)
def OwnRep (Γ:G) (k n:Nat) (y:Value):Prop:=(Γ.cap k=0∧(∃ A,y = .slice A 0 0)∧n=0)∨(0 < Γ.cap k∧y = .slice (some ⟨Γ.β k,0,none⟩) n (Γ.cap k)∧n≤Γ.cap k)
def SegRep (Γ:G) (k sz lo n:Nat) (y:Value):Prop:=∃ A c,y = .slice A n c∧n≤c∧(0 < n → 0 < Γ.cap k∧lo+n≤Γ.cap k∧A=some ⟨Γ.β k,lo * sz,none⟩)
def RowRep (w:World) (I:Nat → Prop) (cs:List D) (y:Value):Prop :=
 ∃ b o xs,y = .pointer (some ⟨b,o,none⟩)∧I b∧b < w.heap.size∧(∀ j u,xs[j]? = some u → w.cell? ⟨b,o+j,none⟩=some u)∧All2 (RD w I) cs xs
def isBnd:List D → Bool
 | [.v .nilFunc]=>true
 | _=>false
def fnV:Bool → Fn → List Value → List Value → Value
 | false,f,xs,ys=>.func f xs.toArray ys.toArray
 | true,f,_,ys=>.func f ys.toArray #[]
def RE (w:World) (Γ:G):E → Value → Prop
 | .v x,y=>y=x∧x.oneCell'=true
 | .sl sz l,y=>RD w Γ.I (.sl sz l) y
 | .full sz l,y=>RD w Γ.I (.sl sz l) y∧∃ A,y = .slice A l.length l.length
 | .own k n,y=>k < Γ.n∧OwnRep Γ k n y
 | .ptr k off,y=>k < Γ.n∧y = .pointer (some ⟨Γ.β k,off,none⟩)
 | .row cs,y=>RowRep w Γ.I cs y
 | .orow k sz i f,y=>k < Γ.n∧y = .pointer (some ⟨Γ.β k,i * sz+f,none⟩)
 | .fn f fi cap,y=>∃ xs,y=fnV (isBnd fi) f xs (cap.map (keyVal Γ))∧(isBnd fi=false → All2 (RD w Γ.I) fi xs)∧∀ k ∈ cap,k < Γ.n
 | .mp k,y=>k < Γ.n∧y = .map (some (Γ.β k))
 | .seg k sz lo n,y=>k < Γ.n∧SegRep Γ k sz lo n y
 | .any,y=>y.oneCell'=true
def RP (w:World) (Γ:G):PV → Value → Prop
 | .c e,y=>RE w Γ e y
 | .agg cs,y=>∃ xs,y = .agg xs.toArray∧All2 (RE w Γ) cs xs
 | .undef,y=>y=Go.undef
 | .two a b,y=>∃ p q,y = .tuple #[p,q]∧RP w Γ a p∧RP w Γ b q
 | .three a b c,y=>∃ p q r,y = .tuple #[p,q,r]∧RP w Γ a p∧RP w Γ b q∧RP w Γ c r
def RV (w:World) (I:Nat → Prop) (ag:Bool) (row:List D) (v:Value):Prop:=∃ xs,All2 (RD w I) row xs∧match ag with
 | true=>v = .agg xs.toArray
 | false=>xs=[v]
structure RM (w:World) (I:Nat → Prop) (kk:Option KI) (ag:Bool) (es:List (MK × List D)) (ms:List MapEntry) (clock:Nat):Prop where
 rows:All2 (fun e m=>m.key=e.1.v∧RV w I ag e.2 m.val) es ms
 kind:∀ e ∈ es,e.1.kind=kk
 nodup:(es.map (·.1)).Nodup
 born:(ms.map MapEntry.born).Pairwise (· < ·)
 clock:∀ b ∈ ms.map MapEntry.born,b < clock
theorem RV.stay {w w':World} {I I':Nat → Prop} {ag:Bool} {row:List D} {v:Value} (h:RV w I ag row v) (hs:∀ d ∈ row,∀ y,RD w I d y → RD w' I' d y):RV w' I' ag row v:=by
 obtain ⟨xs,h1,h2⟩:=h
 exact ⟨xs,h1.mono_mem fun d y hd hr=>hs d hd y hr,h2⟩
theorem RM.stay' {w w':World} {I I':Nat → Prop} {kk:Option KI} {ag:Bool} {es:List (MK × List D)} {ms:List MapEntry} {clock:Nat} (h:RM w I kk ag es ms clock) (hs:∀ e ∈ es,∀ d ∈ e.2,∀ y,RD w I d y → RD w' I' d y):RM w' I' kk ag es ms clock :=
 ⟨h.rows.mono_mem fun e m he hr=>⟨hr.1,hr.2.stay (hs e he)⟩,h.kind,h.nodup,h.born,h.clock⟩
theorem RM.stay {w w':World} {I I':Nat → Prop} {kk:Option KI} {ag:Bool} {es:List (MK × List D)} {ms:List MapEntry} {clock:Nat} (h:RM w I kk ag es ms clock) (hs:Stay w I w' I'):RM w' I' kk ag es ms clock :=
 h.stay' fun _ _ d _ y hr=>RD.stay hs d y hr
def look:List (Nat × PV) → Nat → Option PV
 | [],_=>none
 | (d,q) :: t,i=>if i=d then some q else look t i
def LoopR.obj (L:LoopR) (tm:Array Value):Loop:={ state:=L.st,pending:=L.pd,fn:=L.fn,tmps:=tm,params:=L.ps,assign:=L.asg,body:=L.body,defers:=L.D }
def Room (Γ:G) (k:Nat) (xs:List Value):Prop:=Γ.cap k≤xs.length∨Γ.cap k=1
def RO (w:World) (Γ:G) (k:Nat):Ob → Prop
 | .box ty cs=>0 < Γ.cap k∧∃ xs:List Value,Blk w (Γ.β k) ty xs.toArray∧All2 (RE w Γ) cs xs∧Room Γ k xs
 | .arr el sz rows=>(∀ r ∈ rows,r.length=sz)∧0 < sz∧(Γ.cap k=0 → rows=[]) ∧
   (0 < Γ.cap k → ∃ cur:Array Value,Blk w (Γ.β k) el cur∧cur.size=Γ.cap k * sz∧rows.length≤Γ.cap k∧Γ.cap k≤maxLen∧All2 (RD w Γ.I) rows.flatten (cur.toList.take (rows.length * sz)))
 | .map kk ag es=>0 < Γ.cap k∧∃ (ms:Array MapEntry) (clock:Nat),w.heap[Γ.β k]? = some (.map ms clock)∧RM w Γ.I kk ag es ms.toList clock
 | .loop l L t=>0 < Γ.cap k∧Γ.β k=l∧∃ tm:Array Value,w.heap[l]? = some (.loop (L.obj tm))∧tm.size=L.N∧∀ i q,look t i=some q → i < L.N∧RP w Γ q (tm.getD i Go.undef)
def PinOk (Γ:G) (w:World):Prop:=Pin w∧∀ b,PinB b → Γ.I b
structure MemOk (Γ:G) (os:List Ob) (w:World):Prop where
 n:Γ.n=os.length
 ob:∀ k o,os[k]? = some o → RO w Γ k o
 sep:∀ k k',k < Γ.n → k' < Γ.n → 0 < Γ.cap k → 0 < Γ.cap k' → Γ.β k=Γ.β k' → k=k'
 off:∀ k,k < Γ.n → 0 < Γ.cap k → ¬ Γ.I (Γ.β k)
 lt:∀ b,Γ.I b → b < w.heap.size
 pin:PinOk Γ w
theorem MemOk.pins {Γ Γ':G} {os:List Ob} {w w':World} (hm:MemOk Γ os w) (hs:Stay w Γ.I w' Γ'.I):PinOk Γ' w' :=
 ⟨Pin.stay (fun b hb=>hs.block b (hm.pin.2 b hb) (hm.lt b (hm.pin.2 b hb))) hm.pin.1,fun b hb=>hs.sub b (hm.pin.2 b hb)⟩
theorem RE.one {w:World} {Γ:G} {e:E} {y:Value} (h:RE w Γ e y):y.oneCell'=true:=by
 cases e with
 | v x=>rw [h.1];exact h.2
 | sl sz l=>exact RD.one h
 | full sz l=>exact RD.one h.1
 | own k n=>rcases h.2 with ⟨_,⟨A,rfl⟩,_⟩|⟨_,rfl,_⟩<;>rfl
 | seg k sz lo n=>obtain ⟨_,A,c,rfl,_⟩:=h;rfl
 | ptr k off=>rw [h.2];rfl
 | row cs=>obtain ⟨b,o,xs,rfl,_⟩:=h;rfl
 | orow k sz i f=>rw [h.2];rfl
 | fn f fi cap=>obtain ⟨xs,rfl,_⟩:=h;cases isBnd fi<;>rfl
 | mp k=>rw [h.2];rfl
 | any=>exact h
theorem RE.of_d {w:World} {Γ:G} {d:D} {y:Value} (h:RD w Γ.I d y):RE w Γ d.e y:=by
 cases d with
 | v x=>rw [RD] at h;exact h
 | sl sz l=>exact h
theorem re_of_d {w:World} {Γ:G} {r:List D} {xs:List Value} (h:All2 (RD w Γ.I) r xs):All2 (RE w Γ) (r.map D.e) xs :=
 All2.map_l.2 (h.mono fun _ _=>RE.of_d)
def E.keys:E → List Nat
 | .own k _=>[k]
 | .ptr k _=>[k]
 | .orow k _ _ _=>[k]
 | .fn _ _ cap=>cap
 | .mp k=>[k]
 | .seg k _ _ _=>[k]
 | _=>[]
def PV.keys:PV → List Nat
 | .c e=>e.keys
 | .agg cs=>cs.flatMap E.keys
 | .undef=>[]
 | .two x y=>x.keys++y.keys
 | .three x y z=>x.keys++y.keys++z.keys
def Agree (Γ Γ':G) (k:Nat):Prop:=k < Γ'.n∧Γ'.β k=Γ.β k∧Γ'.cap k=Γ.cap k
theorem RE.stay {w w':World} {Γ Γ':G} {e:E} {y:Value} (h:RE w Γ e y) (hs:Stay w Γ.I w' Γ'.I) (hk:∀ k ∈ e.keys,Agree Γ Γ' k):RE w' Γ' e y:=by
 cases e with
 | v x=>exact h
 | sl sz l=>exact RD.stay hs _ _ h
 | full sz l=>exact ⟨RD.stay hs _ _ h.1,h.2⟩
 | own k n =>
  obtain ⟨h1,h2,h3⟩:=hk k (by simp [E.keys])
  refine ⟨h1,?_⟩
  have:=h.2
  unfold OwnRep at *
  rwa [h2,h3]
 | ptr k off =>
  obtain ⟨h1,h2,h3⟩:=hk k (by simp [E.keys])
  exact ⟨h1,by rw [h2];exact h.2⟩
 | row cs =>
  obtain ⟨b,o,xs,h1,h2,h3,h4,h5⟩:=h
  exact ⟨b,o,xs,h1,hs.sub b h2,Nat.lt_of_lt_of_le h3 hs.size,fun j u hu=>(hs.cell h2 h3).trans (h4 j u hu),h5.mono fun _ _=>RD.stay hs _ _⟩
 | orow k sz i f =>
  obtain ⟨h1,h2,h3⟩:=hk k (by simp [E.keys])
  exact ⟨h1,by rw [h2];exact h.2⟩
 | fn f fi cap =>
  obtain ⟨xs,h1,h2,h3⟩:=h
  refine ⟨xs,?_,fun hb=>(h2 hb).mono fun _ _=>RD.stay hs _ _,fun k hk'=>(hk k hk').1⟩
  rw [h1]
  congr 1
  exact List.map_congr_left fun k hk'=>by unfold keyVal;rw [(hk k hk').2.1]
 | mp k =>
  obtain ⟨h1,h2,h3⟩:=hk k (by simp [E.keys])
  exact ⟨h1,by rw [h2];exact h.2⟩
 | seg k sz lo n =>
  obtain ⟨h1,h2,h3⟩:=hk k (by simp [E.keys])
  refine ⟨h1,?_⟩
  have:=h.2
  unfold SegRep at *
  rwa [h2,h3]
 | any=>exact h
theorem RE.lt {w:World} {Γ:G} {e:E} {y:Value} (h:RE w Γ e y):∀ k ∈ e.keys,k < Γ.n:=by
 intro k hk
 cases e with
 | own k' n=>simp [E.keys] at hk;subst hk;exact h.1
 | ptr k' off=>simp [E.keys] at hk;subst hk;exact h.1
 | orow k' sz i f=>simp [E.keys] at hk;subst hk;exact h.1
 | mp k'=>simp [E.keys] at hk;subst hk;exact h.1
 | seg k' sz lo n=>simp [E.keys] at hk;subst hk;exact h.1
 | fn f fi cap=>obtain ⟨xs,_,_,h3⟩:=h;exact h3 k hk
 | v x=>simp [E.keys] at hk
 | sl sz l=>simp [E.keys] at hk
 | full sz l=>simp [E.keys] at hk
 | row cs=>simp [E.keys] at hk
 | any=>simp [E.keys] at hk
theorem re_stay {w w':World} {Γ Γ':G} {cs:List E} {ys:List Value} (h:All2 (RE w Γ) cs ys) (hs:Stay w Γ.I w' Γ'.I) (hk:∀ k ∈ cs.flatMap E.keys,Agree Γ Γ' k):All2 (RE w' Γ') cs ys :=
 h.mono_mem fun e y he hr=>hr.stay hs fun k hk'=>hk k (List.mem_flatMap.2 ⟨e,he,hk'⟩)
theorem re_lt {w:World} {Γ:G}:∀ {cs:List E} {ys:List Value},All2 (RE w Γ) cs ys → ∀ k ∈ cs.flatMap E.keys,k < Γ.n
 | [],_,_,k,hk=>by simp at hk
 | e :: cs,y :: ys,h,k,hk=>by
  simp only [List.flatMap_cons,List.mem_append] at hk
  rcases hk with hk|hk
  ·exact h.1.lt k hk
  ·exact re_lt h.2 k hk
theorem RP.stay {w w':World} {Γ Γ':G}:∀ {p:PV} {y:Value},RP w Γ p y → Stay w Γ.I w' Γ'.I → (∀ k ∈ p.keys,Agree Γ Γ' k) → RP w' Γ' p y
 | .c e,y,h,hs,hk=>RE.stay h hs hk
 | .agg cs,y,⟨xs,h1,h2⟩,hs,hk=>⟨xs,h1,re_stay h2 hs hk⟩
 | .undef,y,h,_,_=>h
 | .two a b,y,⟨p,q,h1,h2,h3⟩,hs,hk =>
  ⟨p,q,h1,RP.stay h2 hs fun k hk'=>hk k (by simp [PV.keys,hk']),RP.stay h3 hs fun k hk'=>hk k (by simp [PV.keys,hk'])⟩
 | .three a b c,y,⟨p,q,r,h1,h2,h3,h4⟩,hs,hk =>
  ⟨p,q,r,h1,RP.stay h2 hs fun k hk'=>hk k (by simp [PV.keys,hk']),RP.stay h3 hs fun k hk'=>hk k (by simp [PV.keys,hk']),RP.stay h4 hs fun k hk'=>hk k (by simp [PV.keys,hk'])⟩
theorem RP.lt {w:World} {Γ:G}:∀ {p:PV} {y:Value},RP w Γ p y → ∀ k ∈ p.keys,k < Γ.n
 | .c e,y,h,k,hk=>RE.lt h k hk
 | .agg cs,y,⟨xs,h1,h2⟩,k,hk=>re_lt h2 k hk
 | .undef,y,h,k,hk=>by simp [PV.keys] at hk
 | .two a b,y,⟨p,q,h1,h2,h3⟩,k,hk=>by
  simp only [PV.keys,List.mem_append] at hk
  rcases hk with hk|hk
  ·exact RP.lt h2 k hk
  ·exact RP.lt h3 k hk
 | .three a b c,y,⟨p,q,r,h1,h2,h3,h4⟩,k,hk=>by
  simp only [PV.keys,List.mem_append] at hk
  rcases hk with (hk|hk)|hk
  ·exact RP.lt h2 k hk
  ·exact RP.lt h3 k hk
  ·exact RP.lt h4 k hk
def Mine (Γ:G) (b:Nat):Prop:=∃ k,k < Γ.n∧0 < Γ.cap k∧Γ.β k=b
structure Grow (p:Nat) (Γ:G) (w:World) (Γ':G) (w':World):Prop where
 ext:Ext (Mine Γ) w w'
 sub:∀ b,Γ.I b → Γ'.I b
 new:∀ k,k < Γ'.n → 0 < Γ'.cap k → Mine Γ (Γ'.β k)∨w.heap.size≤Γ'.β k
 imm:∀ b,Γ'.I b → Γ.I b∨Mine Γ b∨w.heap.size≤b
 keep:∀ k,k < p → Γ'.β k=Γ.β k∧Γ'.cap k=Γ.cap k
theorem Grow.refl (p:Nat) (Γ:G) (w:World):Grow p Γ w Γ w:=⟨Ext.refl _ w,fun _ h=>h,fun k hk hc=>.inl ⟨k,hk,hc,rfl⟩,fun _ h=>.inl h,fun _ _=>⟨rfl,rfl⟩⟩
theorem Grow.trans {p:Nat} {Γ Γ' Γ'':G} {w w' w'':World} (h:Grow p Γ w Γ' w') (h':Grow p Γ' w' Γ'' w''):Grow p Γ w Γ'' w'':=by
 have hm:∀ b,Mine Γ' b → Mine Γ b∨w.heap.size≤b:=by
  rintro b ⟨k,h1,h2,rfl⟩
  exact h.new k h1 h2
 have hz:=h.ext.size
 refine ⟨h.ext.trans_new h'.ext hm,fun b hb=>h'.sub b (h.sub b hb),fun k hk hc=>?_,fun b hb=>?_,fun k hk=>⟨(h'.keep k hk).1.trans (h.keep k hk).1,(h'.keep k hk).2.trans (h.keep k hk).2⟩⟩
 ·rcases h'.new k hk hc with h1|h1
  ·exact hm _ h1
  ·exact .inr (Nat.le_trans hz h1)
 ·rcases h'.imm b hb with h1|h1|h1
  ·exact h.imm b h1
  ·exact .inr (hm b h1)
  ·exact .inr (.inr (Nat.le_trans hz h1))
theorem Grow.stay {p:Nat} {Γ Γ':G} {w w':World} {os:List Ob} (h:Grow p Γ w Γ' w') (hm:MemOk Γ os w):Stay w Γ.I w' Γ'.I :=
 ⟨h.ext.size,fun b hb hl=>h.ext.block b hl fun ⟨k,h1,h2,h3⟩=>hm.off k h1 h2 (h3 ▸ hb),h.sub⟩
def S.get (s:S) (i:Nat):Option PV:=look s.t i
structure Inv (N:Nat) (Γ:G) (s:S) (a:Act) (w:World):Prop where
 size:a.tmps.size=N
 defers:True
 t:∀ i q,s.get i=some q → i < N∧RP w Γ q (a.tmps.getD i Go.undef)
 m:MemOk Γ s.o w
def S.put (s:S) (dst:Option Nat) (q:PV):S:=match dst with
 | none=>s
 | some d=>⟨(d,q) :: s.t,s.o⟩
theorem S.put_none (t:List (Nat × PV)) (o:List Ob) (q:PV):S.put ⟨t,o⟩ none q=⟨t,o⟩:=rfl
theorem Inv.put {N:Nat} {Γ:G} {s:S} {a:Act} {w:World} (h:Inv N Γ s a w) {dst:Option Nat} {q:PV} {y:Value} (hd:∀ d,dst=some d → d < N) (hq:RP w Γ q y):Inv N Γ (s.put dst q) (a.put dst y) w:=by
 cases dst with
 | none=>exact h
 | some d =>
  refine ⟨by simpa [Act.put] using h.size,h.defers,fun i q' hi=>?_,h.m⟩
  simp only [S.put,S.get,look] at hi
  have hdn:=hd d rfl
  by_cases e:i=d
  ·subst e
   simp at hi
   subst hi
   have:i < a.tmps.size:=by rw [h.size];exact hdn
   exact ⟨hdn,by simpa [Act.put,this] using hq⟩
  ·rw [if_neg e] at hi
   obtain ⟨h1,h2⟩:=h.t i q' hi
   have h3:(a.put (some d) y).tmps.getD i Go.undef=a.tmps.getD i Go.undef:=by
    simp only [Act.put]
    rw [Array.getD_eq_getD_getElem?,Array.getD_eq_getD_getElem?,Array.getElem?_setIfInBounds_ne (fun e'=>e e'.symm)]
   rw [h3]
   exact ⟨h1,h2⟩
section
variable {α:Type} {f:α → List Value} {size:Nat}
def rows (f:α → List Value) (l:List α):List Value:=l.flatMap f
variable {w w':World} {P Q S:Nat → Prop} {v:Value} {l:List α}
end
theorem bl_eq:∀ (x y:List UInt8),Op.bytesLess x y=decide (x < y)
 | [],[]=>by simp [Op.bytesLess]
 | _ :: _,[]=>by simp [Op.bytesLess]
 | [],_ :: _=>by simp [Op.bytesLess]
 | a :: x,b :: y=>by
  have ih:=bl_eq x y
  simp only [Op.bytesLess,ih,List.cons_lt_cons_iff]
  by_cases h1:a < b<;>by_cases h2:a=b<;>by_cases h3:x < y<;>simp [h1,h2,h3]
def bless (a b:ByteArray):Bool:=Op.bytesLess a.toList b.toList
theorem bless_lt (a b:ByteArray):bless a b=true ↔ a.toList < b.toList:=by
 unfold bless;rw [bl_eq];simp
theorem bless_irrefl (a:ByteArray):bless a a=false:=by
 rw [Bool.eq_false_iff,ne_eq,bless_lt];exact List.lt_irrefl _
theorem bless_asymm {a b:ByteArray} (h:bless a b=true):bless b a=false:=by
 rw [Bool.eq_false_iff,ne_eq,bless_lt];rw [bless_lt] at h;exact List.lt_asymm h
theorem bless_total {a b:ByteArray} (h:bless a b=false) (k:bless b a=false):a=b:=by
 rw [Bool.eq_false_iff,ne_eq,bless_lt] at h k
 rw [← blist_inj]
 exact List.le_antisymm (List.not_lt.1 k) (List.not_lt.1 h)
theorem bless_ne {a b:ByteArray} (h:bless a b=true):a≠b:=by
 rintro rfl;rw [bless_irrefl] at h;cases h
end Go.Proofs.YthhfpcbpiphfiaaGreatDoor
