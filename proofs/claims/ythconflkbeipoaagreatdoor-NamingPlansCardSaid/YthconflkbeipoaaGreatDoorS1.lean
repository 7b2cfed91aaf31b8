/- What the program computes, and the plain laws of it, part 1. -/
import Derived.WalkKit
import Derived.WalkLawsBesides
import Derived.WalkSpells
import Derived.BigQuiet
import Derived.Deep.QuietTactic
import Derived.Deep.Draws
import Derived.Lib.Hide
import Derived.StillTailTactics
import Derived.Laws.CopyOwn
import Derived.Maps.AppendAt
import Derived.Deep.AppendLies
import Derived.ProofKit
import Derived.OpenShut
import Derived.ShutString
import Derived.ChangeOld
import Derived.Deep.Slices
import Derived.Deep.Fields
namespace Go.Proofs.YthconflkbeipoaaGreatDoor
open Go.RowKit
open IntWalk renaming iteOmega → iO, toNatUp → tN
set_option linter.unusedVariables false
set_option linter.unusedSimpArgs false
theorem blist_inj (a b:ByteArray):a.toList=b.toList ↔ a=b:=by
 constructor
 ·intro e
  rw [ByteArray.toList_eq,ByteArray.toList_eq] at e
  obtain ⟨⟨x⟩⟩:=a
  obtain ⟨⟨y⟩⟩:=b
  have e:x=y:=e
  rw [e]
 ·rintro rfl;rfl
structure Ext (S:Nat → Prop) (w w':World):Prop where
 os:w'.os=w.os
 tape:w'.tape=w.tape
 output:w'.output=w.output
 size:w.heap.size≤w'.heap.size
 block:∀ k,k < w.heap.size → ¬ S k → w'.heap[k]? = w.heap[k]?
def No:Nat → Prop:=fun _=>False
namespace Ext
variable {S T:Nat → Prop} {w w' w'':World}
theorem refl (S:Nat → Prop) (w:World):Ext S w w:=⟨rfl,rfl,rfl,Nat.le_refl _,fun _ _ _=>rfl⟩
theorem trans (h:Ext S w w') (k:Ext S w' w''):Ext S w w'' :=
 ⟨k.os.trans h.os,k.tape.trans h.tape,k.output.trans h.output,Nat.le_trans h.size k.size,
  fun i hi hs=>(k.block i (Nat.lt_of_lt_of_le hi h.size) hs).trans (h.block i hi hs)⟩
theorem mono (h:Ext S w w') (hs:∀ k,S k → T k):Ext T w w':=⟨h.os,h.tape,h.output,h.size,fun i hi ht=>h.block i hi fun hS=>ht (hs i hS)⟩
theorem trans_new (h:Ext S w w') (k:Ext T w' w'') (hT:∀ i,T i → S i∨w.heap.size≤i):Ext S w w'' :=
 ⟨k.os.trans h.os,k.tape.trans h.tape,k.output.trans h.output,Nat.le_trans h.size k.size,
  fun i hi hs=>(k.block i (Nat.lt_of_lt_of_le hi h.size) (fun ht=>by rcases hT i ht with h1|h1;exact hs h1;omega)).trans (h.block i hi hs)⟩
theorem drew (h:Ext S w w'):Ext S w w'.drew:=⟨h.os,h.tape,h.output,h.size,h.block⟩
theorem alloc (h:Ext S w w') (o:Obj):Ext S w (w'.alloc o) :=
 ⟨h.os,h.tape,h.output,by have:=h.size;simp;omega,fun k hk hs=>(Below.heap_alloc w' o k (by have:=h.size;omega)).trans (h.block k hk hs)⟩
theorem setCell (h:Ext S w w') {p:Addr} (hp:S p.block∨w.heap.size≤p.block) (u:Value):Ext S w (w'.setCell p u) :=
 ⟨h.os,h.tape,h.output,by simpa [World.setCell] using h.size,
  fun k hk hs=>(Below.heap_setCell w' p u k (by rintro rfl;rcases hp with hp|hp;exact hs hp;omega)).trans (h.block k hk hs)⟩
theorem grown (h:Ext S w w') {row:Option Nat} (hg:w'.grownBy w'' row) (hr:∀ k,row=some k → S k∨w.heap.size≤k):Ext S w w'' :=
 ⟨hg.os.trans h.os,hg.tape.trans h.tape,hg.output.trans h.output,Nat.le_trans h.size hg.size,
  fun k hk hs=>(hg.block k (Nat.lt_of_lt_of_le hk h.size) (fun e=>by rcases hr k e.symm with h1|h1;exact hs h1;omega)).trans (h.block k hk hs)⟩
theorem below (h:Ext No w w'):Below w.heap.size w w':=⟨h.os,h.tape,h.output,h.size,fun k hk=>h.block k hk id⟩
theorem no (h:Ext No w w'):Ext S w w':=h.mono fun _=>False.elim
theorem base {B:Nat} {W:World} (h:Below B W w) (k:Ext S w w') (hB:B≤w.heap.size) (hS:∀ i,S i → B≤i):Below B W w' :=
 ⟨k.os.trans h.os,k.tape.trans h.tape,k.output.trans h.output,Nat.le_trans h.size k.size,
  fun i hi=>(k.block i (by omega) (fun hs=>by have:=hS i hs;omega)).trans (h.block i hi)⟩
theorem cell (h:Ext S w w') {p:Addr} (hp:p.block < w.heap.size) (hs:¬ S p.block):w'.cell? p=w.cell? p:=World.cell?_of_block (h.block p.block hp hs)
theorem frozen (h:Ext S w w') {p:Addr} (hp:p.block < w.heap.size) (hs:¬ S p.block):w'.frozen? p=w.frozen? p:=World.frozen?_of_block (h.block p.block hp hs)
end Ext
def Blk (w:World) (g:Nat) (t:TypeId) (cs:Array Value):Prop:=w.heap[g]? = some (.cells cs t (0,0))
namespace Blk
variable {w w':World} {g:Nat} {t:TypeId} {cs:Array Value} {S:Nat → Prop}
theorem lt (h:Blk w g t cs):g < w.heap.size:=by
 rcases Nat.lt_or_ge g w.heap.size with hlt|hge
 ·exact hlt
 ·unfold Blk at h;rw [Array.getElem?_eq_none hge] at h;cases h
theorem cell (h:Blk w g t cs) (i:Nat):w.cell? ⟨g,i,none⟩=cs[i]?:=cell_of_row w g i cs t (0,0) h
theorem frozen (h:Blk w g t cs) (i:Nat):w.frozen? ⟨g,i,none⟩=false:=frozen_of_row w g i cs t h
theorem new (w:World) (t:TypeId) (cs:Array Value):Blk (w.alloc (.cells cs t)) w.heap.size t cs:=heap_alloc_new w _
theorem drew (h:Blk w g t cs):Blk w.drew g t cs:=h
theorem alloc (h:Blk w g t cs) (o:Obj):Blk (w.alloc o) g t cs:=(Below.heap_alloc w o g h.lt).trans h
theorem set_ (h:Blk w g t cs) (i:Nat) (u:Value):Blk (w.setCell ⟨g,i,none⟩ u) g t (cs.setIfInBounds i u):=heap_setCell_same w g i cs t u h
theorem ext (h:Blk w g t cs) (e:Ext S w w') (hS:¬ S g):Blk w' g t cs:=(e.block g h.lt hS).trans h
theorem grown {row:Option Nat} (h:Blk w g t cs) (hb:w.grownBy w' row) (hg:some g≠row):Blk w' g t cs:=(hb.block g h.lt hg).trans h
end Blk
def Rd (w:World) (P:Nat → Prop) (size:Nat) (A:Option Addr) (n:Nat) (xs:List Value):Prop :=
 xs.length=n * size∧(0 < n → ∃ b o,A=some ⟨b,o,none⟩∧P b∧b < w.heap.size∧∀ j u,xs[j]? = some u → w.cell? ⟨b,o+j,none⟩=some u)
namespace Rd
variable {w w':World} {P Q S:Nat → Prop} {size n:Nat} {A:Option Addr} {xs:List Value}
theorem nil:Rd w P size A 0 []:=⟨by simp,fun h=>absurd h (by omega)⟩
theorem get (h:Rd w P size A n xs) (hn:0 < n):∃ b o,A=some ⟨b,o,none⟩∧P b∧b < w.heap.size∧∀ j u,xs[j]? = some u → w.cell? ⟨b,o+j,none⟩=some u:=h.2 hn
theorem keep (h:Rd w P size A n xs) (hz:w.heap.size≤w'.heap.size) (hk:∀ b o,P b → b < w.heap.size → w'.cell? ⟨b,o,none⟩=w.cell? ⟨b,o,none⟩):Rd w' P size A n xs :=
 ⟨h.1,fun hn=>by
  obtain ⟨b,o,e,hb,hlt,hc⟩:=h.2 hn
  exact ⟨b,o,e,hb,by omega,fun j u hu=>(hk _ _ hb hlt).trans (hc j u hu)⟩⟩
theorem more (h:Rd w P size A n xs) (hP:∀ b,P b → Q b):Rd w Q size A n xs :=
 ⟨h.1,fun hn=>by
  obtain ⟨b,o,e,hb,hlt,hc⟩:=h.2 hn
  exact ⟨b,o,e,hP b hb,hlt,hc⟩⟩
theorem ext (h:Rd w P size A n xs) (e:Ext S w w') (hS:∀ b,P b → ¬ S b):Rd w' P size A n xs :=
 h.keep e.size fun b o hb hlt=>e.cell (p:=⟨b,o,none⟩) hlt (hS b hb)
theorem cut (h:Rd w P size A n xs) {k cap:Nat} (hk:k≤n) (hc:n≤cap) :
  Rd w P size (if cap=k then A else A.map (·.add (k * size))) (n - k) (xs.drop (k * size)):=by
 refine ⟨by rw [List.length_drop,h.1,Nat.sub_mul],fun hn=>?_⟩
 obtain ⟨b,o,rfl,hb,hlt,hcell⟩:=h.2 (by omega)
 rw [if_neg (by omega)]
 refine ⟨b,o+k * size,by simp [Addr.add_lit],hb,hlt,fun j u hu=>?_⟩
 rw [Nat.add_assoc]
 exact hcell _ u (by rw [← hu,List.getElem?_drop])
theorem take_ (h:Rd w P size A n xs) {k:Nat} (hk:k≤n):Rd w P size A k (xs.take (k * size)):=by
 refine ⟨by rw [List.length_take,h.1];exact Nat.min_eq_left (Nat.mul_le_mul_right _ hk),fun hn=>?_⟩
 obtain ⟨b,o,rfl,hb,hlt,hcell⟩:=h.2 (by omega)
 refine ⟨b,o,rfl,hb,hlt,fun j u hu=>hcell j u ?_⟩
 rw [List.getElem?_take] at hu
 split at hu
 ·exact hu
 ·cases hu
theorem and (h:Rd w P size A n xs) (h':Rd w Q size A n xs):Rd w (fun b=>P b∧Q b) size A n xs :=
 ⟨h.1,fun hn=>by
  obtain ⟨b,o,e,hb,hlt,hc⟩:=h.2 hn
  obtain ⟨b',o',e',hb',_,_⟩:=h'.2 hn
  rw [e] at e'
  injection e' with e'
  injection e' with e1 _ _
  subst e1
  exact ⟨b,o,e,⟨hb,hb'⟩,hlt,hc⟩⟩
theorem lt (h:Rd w P size A n xs):Rd w (· < w.heap.size) size A n xs :=
 ⟨h.1,fun hn=>by
  obtain ⟨b,o,e,hb,hlt,hc⟩:=h.2 hn
  exact ⟨b,o,e,hlt,hlt,hc⟩⟩
theorem drew (h:Rd w P size A n xs):Rd w.drew P size A n xs:=h
end Rd
def over (L:List Value) (off:Nat) (cs:List Value):List Value:=L.take off++(cs++L.drop (off+cs.length))
theorem run_copy_sz {P:Program} (w:World) (dT sT ty elem:TypeId) (size:Nat) (dp sp:Option Addr) (dLen dCap sLen sCap g off k:Nat) (cur:Array Value) (t:TypeId) (cs:List Value)
  (hu:P.underlying dT=some (.slice elem)) (hs:(P.info? elem).map (·.size)=some size) (hg:Blk w g t cur) (hk:k=Nat.min sLen dLen) (hn:cs.length=k * size)
  (hd:0 < k → dp=some ⟨g,off,none⟩) (hsrc:0 < k → ∃ b o,sp=some ⟨b,o,none⟩∧∀ j v,cs[j]? = some v → w.cell? ⟨b,o+j,none⟩=some v)
  (hfit:off+cs.length≤cur.size) (h1:∀ v ∈ cs,v.oneCell'=true) :
  ∃ w',(Builtin.copy_ #[dT,sT] ty #[.slice dp dLen dCap,.slice sp sLen sCap]).run P w = .ok (.int .i64 (k:Int)) w'∧Blk w' g t (over cur.toList off cs).toArray∧Ext (· = g) w w':=by
 obtain ⟨i,hq,hi⟩:=Option.map_eq_some_iff.1 hs
 rcases Nat.eq_zero_or_pos k with h0|h0
 ·subst h0
  have hcs:cs=[]:=List.eq_nil_of_length_eq_zero (by simpa using hn)
  subst hcs
  refine ⟨w,?_,by simpa [over] using hg,Ext.refl _ _⟩
  cases dp<;>cases sp<;>simp [Builtin.copy_,run_underlying hu,Builtin.lenOf,Builtin.firstCells,sizeOf,typeInfo,hq,hi,← hk,loadCells,storeCells,goInt,loadCellsFrom]
 ·obtain rfl:=hd h0
  obtain ⟨b,o,rfl,hc⟩:=hsrc h0
  have hl:=run_loadCells_list (P:=P) w ⟨b,o,none⟩ cs (fun j v hv=>by rw [Addr.add_lit];exact hc j v hv)
  have hst:=run_storeCells_at P g off t cs 0 cur w hg (by simpa using hfit) h1
  rw [hn] at hl
  refine ⟨_,by simp [Builtin.copy_,run_underlying hu,Builtin.lenOf,Builtin.firstCells,sizeOf,typeInfo,hq,hi,← hk,hl,hst,goInt];rfl,?_,?_⟩
  ·exact setRow_heap w g _ _ t _ hg
  ·exact ⟨rfl,rfl,rfl,by simp [World.setRow],fun q _ hS=>setRow_other w g q _ hS⟩
theorem wpList_copy_sz {P:Program} {w:World} {ops:Array Oper} {rest:List Oper} {o:Oper} {a:Act} {Q:Exit → Act → World → Prop} (hgd:o.guard=none) (d s:Operand) (dT sT:TypeId)
  (ho:o.op = .call { callee:=.builtin .copy,args := #[d,s],argTypes := #[dT,sT] }) (elem:TypeId) (size:Nat) (hu:P.underlying dT=some (.slice elem)) (hsz:(P.info? elem).map (·.size)=some size)
  (dp sp:Option Addr) (dLen dCap sLen sCap:Nat) (hd:a.eval d = .slice dp dLen dCap) (hs:a.eval s = .slice sp sLen sCap)
  (g off k:Nat) (cur:Array Value) (t:TypeId) (cs:List Value) (hg:Blk w g t cur) (hk:k=Nat.min sLen dLen) (hn:cs.length=k * size)
  (hdp:0 < k → dp=some ⟨g,off,none⟩) (hsrc:0 < k → ∃ b o,sp=some ⟨b,o,none⟩∧∀ j v,cs[j]? = some v → w.cell? ⟨b,o+j,none⟩=some v)
  (hfit:off+cs.length≤cur.size) (h1:∀ v ∈ cs,v.oneCell'=true)
  (h:∀ w',Blk w' g t (over cur.toList off cs).toArray → Ext (· = g) w w' → wpList P ops Q rest (a.put o.dst (.int .i64 (k:Int))) w'):wpList P ops Q (o :: rest) a w:=by
 refine wpList_plain hgd fun K hK=>?_
 obtain ⟨w',hrun,hB,hE⟩:=run_copy_sz (P:=P) w dT sT o.type elem size dp sp dLen dCap sLen sCap g off k cur t cs hu hsz hg hk hn hdp hsrc hfit h1
 unfold Oper.wp
 simp [execOp,ho,resolve,invoke,builtin,hd,hs,hrun,Result.andThen]
 exact hK _ _ (h w' hB hE)
structure SlT (P:Program) (t e:TypeId) (size bytes:Nat):Prop where
 ht:P.underlying t=some (.slice e)
 hi:∃ i z,P.info? e=some i∧i.zero=some z∧i.size=size∧i.bytes=bytes∧z.cells.size=size
 pos:0 < size
theorem own_form {w:World} {base:Nat} {e:TypeId} {size n:Nat} {v:Value} {xs:List Value} (h:w.ownsRow base e size v n xs) :
  ∃ A c,v = .slice A n c∧n≤c∧(∀ g,v.ownBlock=some g → base≤g∧g < w.heap.size)∧Rd w (base ≤ ·) size A n xs:=by
 have hlt:=h.lt
 have hc:=fun g hg=>h.cells (g:=g) hg
 obtain ⟨hl,h2⟩:=h
 rcases h2 with ⟨rfl,rfl⟩|⟨g,cap,cur,rfl,hb,hg,hn,r⟩
 ·exact ⟨none,0,rfl,Nat.le_refl _,hlt,hl,fun h=>absurd h (by omega)⟩
 ·refine ⟨_,cap,rfl,hn,hlt,hl,fun _=>⟨g,0,rfl,hb,(hlt g rfl).2,fun j u hu=>?_⟩⟩
  have:=hc g rfl j u hu
  rwa [Addr.add_lit] at this
theorem own_nil (w:World) (base:Nat) (e:TypeId) (size:Nat):w.ownsRow base e size (.slice none 0 0) 0 []:=World.ownsRow_nil w base e size
theorem own_blk {w:World} {base g:Nat} {e:TypeId} {size n cap:Nat} {cs:Array Value} (h:Blk w g e cs) (hb:base≤g) (hs:cs.size=cap * size) (hn:n≤cap) (hc:cap≤maxLen) :
  w.ownsRow base e size (.slice (some ⟨g,0,none⟩) n cap) n (cs.toList.take (n * size)) :=
 ⟨by rw [List.length_take,Array.length_toList,hs];exact Nat.min_eq_left (Nat.mul_le_mul_right _ hn),.inr ⟨g,cap,cs,rfl,hb,h,hn,hc,hs,rfl⟩⟩
theorem run_append_rd {P:Program} (w:World) (base:Nat) (t ty e:TypeId) (size bytes:Nat) (hT:SlT P t e size bytes)
  (v:Value) (n:Nat) (xs:List Value) (hown:w.ownsRow base e size v n xs) (R:Nat → Prop) (A:Option Addr) (m c:Nat) (news:List Value) (hr:Rd w R size A m news) (h1:∀ u ∈ news,u.oneCell'=true)
  (h63:n+m≤maxLen) (hbytes:(n+m) * bytes≤140737488355328) (hbase:base≤w.heap.size) :
  ∃ v' w',(Builtin.append_ #[t,t] ty #[v,.slice A m c]).run P w = .ok v' w'∧w'.ownsRow base e size v' (n+m) (xs++news)∧Ext (fun k=>v.ownBlock=some k) w w' ∧
   (v'.ownBlock=v.ownBlock∨v'.ownBlock=some w.heap.size):=by
 obtain ⟨ht,⟨i,z,hi,hz,hsize,hby,hzs⟩,hsz⟩:=hT
 have hnil:A=none → ∃ v' w',(Builtin.append_ #[t,t] ty #[v,.slice none m c]).run P w = .ok v' w'∧w'.ownsRow base e size v' (n+m) (xs++news)∧Ext (fun k=>v.ownBlock=some k) w w'∧(v'.ownBlock=v.ownBlock∨v'.ownBlock=some w.heap.size):=by
  rintro rfl
  have hm:m=0:=by
   rcases Nat.eq_zero_or_pos m with h0|h0
   ·exact h0
   ·obtain ⟨b,o,h,_⟩:=hr.2 h0
    cases h
  subst hm
  have hn:news=[]:=List.eq_nil_of_length_eq_zero (by simpa using hr.1)
  subst hn
  refine ⟨v,w,?_,by simpa using hown,Ext.refl _ _,.inl rfl⟩
  rcases hown.2 with ⟨rfl,rfl⟩|⟨g,cap,cur,rfl,_,_,hnc,_⟩
  ·simp [Builtin.append_,run_underlying ht,sizeOf,typeInfo,hi,Builtin.lenOf,Builtin.firstCells]
  ·simp [Builtin.append_,run_underlying ht,sizeOf,typeInfo,hi,Builtin.lenOf,Builtin.firstCells,hnc,storeCells]
 rcases A with _|ad
 ·exact hnil rfl
 ·have hcells:∀ j u,news[j]? = some u → w.cell? (ad.add j)=some u:=by
   intro j u hu
   rcases Nat.eq_zero_or_pos m with h0|h0
   ·subst h0
    have hn:news=[]:=List.eq_nil_of_length_eq_zero (by simpa using hr.1)
    subst hn
    simp at hu
   ·obtain ⟨b,o,h,_,_,hc⟩:=hr.2 h0
    injection h with h
    subst h
    rw [Addr.add_lit]
    exact hc j u hu
  obtain ⟨v',w',hrun,h2,h3,_,h5⟩:=run_append_own_at (P:=P) w base t ty e i z size bytes ht hi hz hsize hby hzs hsz v n xs hown ad m c news hr.1 hcells h1 h63 hbytes hbase
  exact ⟨v',w',hrun,h2,(Ext.refl _ w).grown h3 (fun k hk=>.inl hk),h5⟩
theorem region_tail {P:Program} {id:Nat} {Q:Exit → Act → World → Prop} {a:Act} {w:World} {l:List Oper} (n:Nat) (hm:P.follows .mixedOrders=true) (hB:Region.lexTailB .any l.toArray n=true)
  (h:wpStill P l.toArray w.drew (fun a'=>wpList P l.toArray Q (l.drop n) a' w.drew) (l.take n) a):(Code.region id l.toArray true).wp P Q a w :=
 wp_region_still_tail n hm hB h
def fold (v n:Int):Int:=if n≤1 then 0 else if v.tmod n < 0 then v.tmod n+n else v.tmod n
def tapeAt (L:List Int) (k:Nat):Int:=if k < L.length then L.getD k 0 else ((k:Int) * 7) % 11
structure TapeIs (T:TypeId) (w:World) (b:Nat) (L:List Int) (k:Nat):Prop where
 blk:∃ A c,Blk w b T #[.slice A L.length c,.int .i64 (k:Int)]∧Rd w (· < b) 1 A L.length (L.map (Value.int .i64))
 len:L.length≤9223372036854775807
 wf:∀ i,i < L.length → -9223372036854775808≤L.getD i 0∧L.getD i 0≤9223372036854775807
theorem TapeIs.lt {T:TypeId} {w:World} {b:Nat} {L:List Int} {k:Nat} (h:TapeIs T w b L k):b < w.heap.size:=by
 obtain ⟨⟨A,c,hb,_⟩,_,_⟩:=h
 exact hb.lt
theorem TapeIs.ext {T:TypeId} {w w':World} {b:Nat} {L:List Int} {k:Nat} {S:Nat → Prop} (h:TapeIs T w b L k) (e:Ext S w w') (hS:∀ i,i≤b → ¬ S i):TapeIs T w' b L k:=by
 obtain ⟨⟨A,c,hb,hr⟩,h2,h3⟩:=h
 exact ⟨⟨A,c,hb.ext e (hS b (Nat.le_refl _)),hr.ext e fun i hi=>hS i (Nat.le_of_lt hi)⟩,h2,h3⟩
end Go.Proofs.YthconflkbeipoaaGreatDoor
namespace Go.Proofs.YthconflkbeipoaaGreatDoor
open Go.ChangeShapes Go.WideShapes Go.ChangeAt Go.RowKit
open Go.ChangeMaps (open_string shut_string)
set_option linter.unusedVariables false
set_option linter.unusedSimpArgs false
theorem int_bd {n:Int} (h:(Lit.int .i64 n).wf=true) : -9223372036854775808≤n∧n≤9223372036854775807:=by
 simpa [Lit.wf,IntKind.min,IntKind.max,IntKind.signed,IntKind.bits] using h
theorem trod_rows {H:Type} {enc:TypeId × Value → H} {P:Program} {W:World} {t e:TypeId} {size fuel:Nat} {A:Option Addr} {n c:Nat} {x:DataW H × List MemPlace}
  (ht:P.underlying t=some (.slice e)) (hC:P.cellsOf e=size) (hp:0 < size) (h:DataW.trod enc P W 0 (fun _=>true) true fuel t [.slice A n c]=some x) :
  ∃ F:Nat → List Value,n≤c∧c≤maxLen∧(∀ i,i < n → (F i).length=size∧∃ m y,DataW.trod enc P W 0 (fun _=>true) true m e (F i)=some y) ∧
   Rd W (fun _=>True) size A n ((List.range n).flatMap F):=by
 rcases Go.Deep.open_slice ht h with ⟨hcs,_⟩|⟨a,len,cap,m,fu,D,Pl,hcs,_,hl,hm,hmm,_,hi⟩
 ·simp at hcs
  obtain ⟨rfl,rfl,rfl⟩:=hcs
  exact ⟨fun _=>[],Nat.le_refl _,by simp [maxLen],fun i hi=>absurd hi (by omega),by simpa using Rd.nil⟩
 ·simp at hcs
  obtain ⟨rfl,rfl,rfl⟩:=hcs
  simp only [if_true] at hmm
  subst hmm
  obtain ⟨F,hF⟩:=Go.Deep.choose_lt (n:=n) (p:=fun i (cs':List Value)=>W.cells? 0 (a.add (i * P.cellsOf e)) (P.cellsOf e)=some cs'∧DataW.trod enc P W 0 (fun _=>true) true fu e cs'=some (D i,Pl i))
   (fun i h=>hi i (by omega))
  have hlen:∀ i,i < n → (F i).length=size:=fun i h=>by
   have:=(World.cells?_some (hF i h).1).2.1
   rw [this,hC]
  have hflat:∀ k,k≤n → ((List.range k).flatMap F).length=k * size:=by
   intro k
   induction k with
   | zero=>intro _;simp
   | succ k ih =>
    intro hk
    rw [List.range_succ,List.flatMap_append,List.length_append,ih (by omega)]
    simp [hlen k (by omega),Nat.add_mul]
  refine ⟨F,hl,hm,fun i h=>⟨hlen i h,fu,_,(hF i h).2⟩,hflat n (Nat.le_refl _),fun hn=>?_⟩
  have hcell:∀ i,i < n → ∀ j,j < size → W.cell? ((a.add (i * size)).add j)=(F i)[j]?:=fun i h j hj=>by
   have h1:=(World.cells?_some (hF i h).1).2.2 j (by rw [hC];exact hj)
   rw [hC] at h1
   exact h1
  have hget:∀ k,k≤n → ∀ j,((List.range k).flatMap F)[j]? = if j < k * size then (F (j / size))[j % size]? else none:=by
   intro k
   induction k with
   | zero=>intro _ j;simp
   | succ k ih =>
    intro hk j
    rw [List.range_succ,List.flatMap_append]
    by_cases hj:j < k * size
    ·rw [List.getElem?_append_left (by rw [hflat k (by omega)];exact hj),ih (by omega),if_pos hj,if_pos (by rw [Nat.add_mul];omega)]
    ·rw [List.getElem?_append_right (by rw [hflat k (by omega)];omega),hflat k (by omega)]
     simp only [List.flatMap_cons,List.flatMap_nil,List.append_nil]
     by_cases hj2:j < (k+1) * size
     ·have hj3:j - k * size < size:=by rw [Nat.add_mul] at hj2;omega
      have e1:j / size=k:=by
       rw [show j=(j - k * size)+k * size by omega,Nat.add_mul_div_right _ _ hp,Nat.div_eq_of_lt hj3];omega
      have e2:j % size=j - k * size:=by
       conv=>lhs;rw [show j=(j - k * size)+k * size by omega]
       rw [Nat.add_mul_mod_self_right,Nat.mod_eq_of_lt hj3]
      rw [if_pos hj2,e1,e2]
     ·rw [if_neg hj2,List.getElem?_eq_none (by rw [hlen k (by omega)];rw [Nat.add_mul] at hj2;omega)]
  obtain ⟨b,off,spot⟩:=a
  have h0:=hcell 0 (by omega) 0 hp
  have hs:spot=none:=by
   have hx:(F 0)[0]? = some ((F 0)[0]'(by rw [hlen 0 (by omega)];exact hp)):=List.getElem?_eq_getElem _
   rw [hx] at h0
   simpa [Addr.add] using World.cell?_spot h0
  subst hs
  have h0b:b < W.heap.size:=by
   have hx:(F 0)[0]? = some ((F 0)[0]'(by rw [hlen 0 (by omega)];exact hp)):=List.getElem?_eq_getElem _
   rw [hx] at h0
   have:=World.block_lt_of_cell? _ _ h0
   simpa [Addr.add_lit] using this
  refine ⟨b,off,rfl,trivial,h0b,fun j u hu=>?_⟩
  rw [hget n (Nat.le_refl _)] at hu
  split at hu
  ·rename_i hj
   have hq:j / size < n:=Nat.div_lt_of_lt_mul (by rw [Nat.mul_comm];exact hj)
   have h1:=hcell (j / size) hq (j % size) (Nat.mod_lt _ hp)
   rw [Addr.add_lit,Addr.add_lit,Nat.add_assoc,Nat.mul_comm,Nat.div_add_mod] at h1
   rw [h1,hu]
  ·cases hu
end Go.Proofs.YthconflkbeipoaaGreatDoor
namespace Go.Proofs.YthconflkbeipoaaGreatDoor
def Pin (w:World):Prop:=∃ m,w.cell? ⟨0,0,none⟩=some (.int .i64 m)
def PinB (b:Nat):Prop:=b=0
theorem Pin.stay {w w':World} (h:∀ b,PinB b → w'.heap[b]? = w.heap[b]?) (hp:Pin w):Pin w':=by
 obtain ⟨m,hm⟩:=hp
 exact ⟨m,(World.cell?_of_block (h 0 rfl)).trans hm⟩
end Go.Proofs.YthconflkbeipoaaGreatDoor
