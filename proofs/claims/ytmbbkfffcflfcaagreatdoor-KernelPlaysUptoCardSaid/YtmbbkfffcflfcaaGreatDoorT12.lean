/- What the program computes, and the plain laws of it, part 12. -/
import Derived.Test.YtmbbkfffcflfcaaGreatDoorT11
namespace Go.Proofs.YtmbbkfffcflfcaaGreatDoor
open Go.Proofs.Tryz
set_option linter.unusedSimpArgs false
set_option linter.unusedVariables false
open Go.RowKit
open IntWalk renaming iteOmega → O, toNatUp → U
section
attribute [local irreducible] PL QL aL ah bg La aV PA
set_option maxRecDepth 20000
def Kx (P:Program) (g:FuncId) (ks:List Nat) (os:List Ob) (l:List Mod) (q:Mod → Bool):Prop:=dK P g=true∧∀ x ∈ l,ah P g (.agg x.e :: ks.map fun k=>.c (.ptr k 0)) os fun r os'=>r = .c (.v (.bool (q x)))∧os'=os
def KT (q:Mod → Bool) (l:List Mod) (k:Int):Prop:=(k = -1∧∀ x ∈ l,q x=false)∨∃ i:Nat,k=i∧i < l.length∧q (l.getD i default)=true∧∀ x ∈ l.take i,q x=false
theorem wy:∀ ks:List Nat,fS (ks.map fun k=>some (PV.c (.ptr k 0))) (ks.map fun k=>PV.c (.ptr k 0))
 | []=>trivial
 | k :: ks=>⟨aE _,wy ks⟩
theorem jY (l:List Mod) (hl:l.length≤1000000000) (g:FuncId) (ks:List Nat) (os:List Ob) (q:Mod → Bool) (hp:Kx prog g ks os l q) :
  ah prog 71 [.c (.sl 6 (l.map Mod.d)),.c (.fn (.func g) [] ks)] os fun r os'=>∃ k,KT q l k∧r = .c (.v (.int .i64 k))∧os'=os:=by
 refine bA func71 rfl (by simp [ntmps71]) ?_;rw [ntmps71,results71];push_cast [O,U];repeat' ((first|refine au ?_|refine pif ?_ ?_<;>intro h<;>try exact pN h)<;>push_cast [O,U])
 refine dh (α:=Nat) (fun k=>k≤l.length∧∀ x ∈ l.take k,q x=false) (fun k=>⟨[(8,.c (.v (.int .i64 k))),(7,.c (.v (.int .i64 l.length))),(6,.c (.sl 6 (l.map Mod.d))),(0,.c (.sl 6 (l.map Mod.d))),(1,.c (.fn (.func g) [] ks))],os⟩) (fun k=>l.length - k) 0 ⟨ac,by simp⟩ (cV (by push_cast [O,U]) rfl) ?_;rintro k ⟨hk,hpre⟩;by_cases hlt:k < l.length
 ·have hm:l.getD k default ∈ l:=by rw [ai l hlt];exact List.getElem_mem _
  have hc:=hp.2 _ hm;have hpre2:q (l.getD k default)=false → ∀ x ∈ l.take (k+1),q x=false:=fun h x hx=>by
   rw [List.take_succ_eq_append_getElem hlt] at hx;rcases List.mem_append.1 hx with hx|hx
   ·exact hpre x hx
   ·simp at hx;subst hx;rw [← ai l hlt];exact h
  cases hq:q (l.getD k default);all_goals rw [hq] at hc
  all_goals repeat' ((first|(refine dc rfl (by push_cast [O,U]) rfl hp.1 (by push_cast [O,U]) ?_ hc ?_;(focus (unfold bC;push_cast [O,U];exact wy ks));rintro r os ⟨rfl,rfl⟩;refine an ?_)|refine au ?_|refine pif ?_ ?_<;>intro h<;>try exact pN h)<;>push_cast [O,U])
  ·exact ⟨k+1,⟨ac,hpre2 hq⟩,cV (by push_cast [O,U]) rfl,ac⟩
  ·exact ⟨_,rfl,by push_cast [O,U],k,.inr ⟨k,rfl,hlt,hq,hpre⟩,rfl,rfl⟩
 ·rw [List.take_of_length_le ac] at hpre;repeat' ((first|refine au ?_|refine pif ?_ ?_<;>intro h<;>try exact pN h)<;>push_cast [O,U])
  exact ⟨_,rfl,by push_cast [O,U],-1,.inl ⟨rfl,hpre⟩,rfl,rfl⟩
set_option maxRecDepth 20000
def IA (P:Program) (g:FuncId) (ks:List Nat) (os:List Ob) (l:List ByteArray) (q:ByteArray → Bool):Prop:=dK P g=true∧∀ x ∈ l,ah P g (.c (.v (.string x)) :: ks.map fun k=>.c (.ptr k 0)) os fun r os'=>r = .c (.v (.bool (q x)))∧os'=os
def KU (q:ByteArray → Bool) (l:List ByteArray) (k:Int):Prop:=(k = -1∧∀ x ∈ l,q x=false)∨∃ i:Nat,k=i∧i < l.length∧q (l.getD i default)=true∧∀ x ∈ l.take i,q x=false
theorem wz:∀ ks:List Nat,fS (ks.map fun k=>some (PV.c (.ptr k 0))) (ks.map fun k=>PV.c (.ptr k 0))
 | []=>trivial
 | k :: ks=>⟨aE _,wz ks⟩
theorem pS (l:List ByteArray) (hl:l.length≤1000000000) (g:FuncId) (ks:List Nat) (os:List Ob) (q:ByteArray → Bool) (hp:IA prog g ks os l q) :
  ah prog 123 [.c (.sl 1 (l.map aU)),.c (.fn (.func g) [] ks)] os fun r os'=>∃ k,KU q l k∧r = .c (.v (.int .i64 k))∧os'=os:=by
 refine bA func123 rfl (by simp [ntmps123]) ?_;rw [ntmps123,results123];push_cast [O,U];repeat' ((first|refine au ?_|refine pif ?_ ?_<;>intro h<;>try exact pN h)<;>push_cast [O,U])
 refine dh (α:=Nat) (fun k=>k≤l.length∧∀ x ∈ l.take k,q x=false) (fun k=>⟨[(8,.c (.v (.int .i64 k))),(7,.c (.v (.int .i64 l.length))),(6,.c (.sl 1 (l.map aU))),(0,.c (.sl 1 (l.map aU))),(1,.c (.fn (.func g) [] ks))],os⟩) (fun k=>l.length - k) 0 ⟨ac,by simp⟩ (cV (by push_cast [O,U]) rfl) ?_;rintro k ⟨hk,hpre⟩;by_cases hlt:k < l.length
 ·have hm:l.getD k default ∈ l:=by rw [ai l hlt];exact List.getElem_mem _
  have hc:=hp.2 _ hm;have hpre2:q (l.getD k default)=false → ∀ x ∈ l.take (k+1),q x=false:=fun h x hx=>by
   rw [List.take_succ_eq_append_getElem hlt] at hx;rcases List.mem_append.1 hx with hx|hx
   ·exact hpre x hx
   ·simp at hx;subst hx;rw [← ai l hlt];exact h
  cases hq:q (l.getD k default);all_goals rw [hq] at hc
  all_goals repeat' ((first|(refine dc rfl (by push_cast [O,U]) rfl hp.1 (by push_cast [O,U]) ?_ hc ?_;(focus (unfold bC;push_cast [O,U];exact wz ks));rintro r os ⟨rfl,rfl⟩;refine an ?_)|refine au ?_|refine pif ?_ ?_<;>intro h<;>try exact pN h)<;>push_cast [O,U])
  ·exact ⟨k+1,⟨ac,hpre2 hq⟩,cV (by push_cast [O,U]) rfl,ac⟩
  ·exact ⟨_,rfl,by push_cast [O,U],k,.inr ⟨k,rfl,hlt,hq,hpre⟩,rfl,rfl⟩
 ·rw [List.take_of_length_le ac] at hpre;repeat' ((first|refine au ?_|refine pif ?_ ?_<;>intro h<;>try exact pN h)<;>push_cast [O,U])
  exact ⟨_,rfl,by push_cast [O,U],-1,.inl ⟨rfl,hpre⟩,rfl,rfl⟩
theorem cD (l:List ByteArray) (hl:l.length≤1000000000) (g:FuncId) (ks:List Nat) (os:List Ob) (q:ByteArray → Bool) (hp:IA prog g ks os l q) :
  ah prog 73 [.c (.sl 1 (l.map aU)),.c (.fn (.func g) [] ks)] os fun r os'=>r = .c (.v (.bool (l.any q)))∧os'=os:=by
 refine bA func73 rfl (by simp [ntmps73]) ?_;rw [ntmps73,results73];push_cast [O,U];repeat' ((first|(refine dc rfl (by push_cast [O,U]) rfl aj (by push_cast [O,U]) ?_ (pS l hl g ks os q hp) ?_;(focus (unfold bC;push_cast [O,U]));rintro r os ⟨k,hk,rfl,rfl⟩;refine an ?_)|refine au ?_|refine pif ?_ ?_<;>intro h<;>try exact pN h)<;>push_cast [O,U])
 refine ⟨_,rfl,by push_cast [O,U],?_,rfl⟩;rcases hk with ⟨rfl,h⟩|⟨i,rfl,hi,hq,_⟩
 ·have:l.any q=false:=by rw [List.any_eq_false];intro x hx;simp [h x hx]
  rw [this];rfl
 ·have:l.any q=true:=List.any_eq_true.2 ⟨l.getD i default,by rw [ai l hi];exact List.getElem_mem _,hq⟩;rw [this];simp
end
section
attribute [local irreducible] PL QL aL ah bg La aV
set_option maxRecDepth 20000
theorem uO (l:List ByteArray) (s:ByteArray) (hl:l.length≤9223372036854775807) :
  ah prog 24 [.c (.sl 1 (l.map aU)),.c (.v (.string s))] [] fun r os=>r = .c (.v (.bool (inM s l)))∧os=[]:=by
 refine aw func24 ntmps24 results24 ?_;push_cast [O,U];repeat' ((first|refine au ?_|refine pif ?_ ?_<;>intro h<;>try exact pN h)<;>push_cast [O,U])
 refine dh (α:=Nat) (fun k=>k≤l.length∧s ∉ l.take k) (fun k=>⟨[(5,.c (.v (.int .i64 k))),(0,.c (.sl 1 (l.map aU))),(1,.c (.v (.string s)))],[]⟩) (fun k=>l.length - k) 0 ⟨ac,by simp⟩ aA ?_;rintro k ⟨hk,hpre⟩;by_cases hlt:k < l.length
 ·have e1:=ai l hlt;repeat' ((first|refine au ?_|refine pif ?_ ?_<;>intro h<;>try exact pN h)<;>push_cast [O,U])
  ·(refine K9 [] ?_;push_cast [O,U]);rw [e1] at h;subst h;exact (gp.2 (List.getElem_mem _)).symm
  ·refine ⟨k+1,⟨ac,?_⟩,aA,ac⟩;rw [e1] at h;rw [List.take_succ_eq_append_getElem hlt];simp only [List.mem_append,List.mem_singleton,not_or];exact ⟨hpre,fun e=>h e.symm⟩
 ·repeat' ((first|refine au ?_|refine pif ?_ ?_<;>intro h<;>try exact pN h)<;>push_cast [O,U])
  (refine K9 [] ?_;push_cast [O,U]);rw [List.take_of_length_le ac] at hpre;exact (gA.2 hpre).symm
def Mod.w (m:Mod):List E:=[.v (.string ⟨#[]⟩),.v (.slice none 0 0),.v (.slice none 0 0),.v (.slice none 0 0),.v (.slice none 0 0),.v (.bool false)]
attribute [push_cast] Mod.w
theorem iu (l:List Mod) (n:ByteArray) (hl:l.length≤9223372036854775807) :
  ah prog 23 [.c (.sl 6 (l.map Mod.d)),.c (.v (.string n))] [] fun r os=>r = .two (.agg ((aJ l n).getD bW).e) (.c (.v (.bool (aJ l n).isSome)))∧os=[]:=by
 refine aw func23 ntmps23 results23 ?_;push_cast [O,U];repeat' ((first|refine au ?_|refine pif ?_ ?_<;>intro h<;>try exact pN h)<;>push_cast [O,U])
 refine dh (α:=Nat) (fun k=>k≤l.length∧∀ x ∈ l.take k,x.name≠n) (fun k=>⟨[(6,.c (.v (.int .i64 k))),(5,.c (.v (.bool false))),(4,.c (.ptr 0 0)),(0,.c (.sl 6 (l.map Mod.d))),(1,.c (.v (.string n)))],[.box 33 bW.w]⟩) (fun k=>l.length - k) 0 ⟨ac,by simp⟩ aA ?_;rintro k ⟨hk,hpre⟩;by_cases hlt:k < l.length
 ·have e1:=ai l hlt;repeat' ((first|refine au ?_|refine pif ?_ ?_<;>intro h<;>try exact pN h)<;>push_cast [O,U])
  ·(refine K9 [] ?_;push_cast [O,U]);rw [e1] at h;have hf:aJ l n=some l[k]:=by
    unfold aJ;rw [List.find?_eq_some_iff_append];refine ⟨by simpa using h,l.take k,l.drop (k+1),by rw [← List.drop_eq_getElem_cons hlt,List.take_append_drop],fun x hx=>by simpa using hpre x hx⟩
   rw [e1,hf];simp
  ·refine ⟨k+1,⟨ac,?_⟩,aA,ac⟩;rw [e1] at h;rw [List.take_succ_eq_append_getElem hlt];intro x hx;rcases List.mem_append.1 hx with hx|hx
   ·exact hpre x hx
   ·simp only [List.mem_singleton] at hx;subst hx;exact h
 ·repeat' ((first|refine au ?_|refine pif ?_ ?_<;>intro h<;>try exact pN h)<;>push_cast [O,U])
  (refine K9 [] ?_;push_cast [O,U]);have hf:aJ l n=none:=by
   rw [List.take_of_length_le ac] at hpre;unfold aJ;rw [List.find?_eq_none];intro x hx;simpa using hpre x hx
  rw [hf];simp [bW]
end
section
attribute [local irreducible] PL QL aL ah bg La aV PA
set_option maxRecDepth 20000
theorem eY (l:List ByteArray) (hl:l.length≤1000000000) :
  ah prog 46 [.c (.sl 1 (l.map aU))] [] fun r os=>r = .c (.own 0 l.length)∧os=[.arr 9 1 (l.map aU)]:=by
 refine jw (R:=fun r os=>(r = .c (.own 0 l.length)∧os=[.arr 9 1 (l.map aU)])∨(r = .c (.v (.slice none 0 0))∧os=[]∧l=[])) 9 1 ac ?_ (by
  rintro r os (h|⟨rfl,rfl,rfl⟩)
  ·exact .inl h
  ·exact .inr ⟨rfl,rfl,rfl⟩)
 by_cases h0:l=[]
 ·subst h0;refine iK (l1:=[]) (l2:=[]) fun A c=>?_
  cases A with
  | none =>
   refine ah.mono (R:=fun r os=>r = .c (.v (.slice none 0 0))∧os=[]) ?_ (fun r os h=>.inr ⟨h.1,h.2,rfl⟩);refine aw func46 ntmps46 results46 ?_;push_cast [O,U];repeat' ((first|refine au ?_|refine pif ?_ ?_<;>intro h<;>try exact pN h)<;>push_cast [O,U])
   exact am []
  | some a =>
   refine ah.mono (R:=fun r os=>r = .c (.own 0 0)∧os=[.arr 9 1 []]) ?_ (fun r os h=>.inl h);refine aw func46 ntmps46 results46 ?_;push_cast [O,U];repeat' ((first|refine au ?_|refine pif ?_ ?_<;>intro h<;>try exact pN h)<;>push_cast [O,U])
   exact am [0]
 ·have h1:0 < l.length:=List.length_pos_iff.2 h0;refine ah.mono (R:=fun r os=>r = .c (.own 0 l.length)∧os=[.arr 9 1 (l.map aU)]) ?_ (fun r os h=>.inl h);refine aw func46 ntmps46 results46 ?_;push_cast [O,U];repeat' ((first|refine au ?_|refine pif ?_ ?_<;>intro h<;>try exact pN h)<;>push_cast [O,U])
  exact am [0]
end
section
def leD:D → D → Prop
 | .v x,.v y=>x=y
 | .v x,.sl _ l=>qI x=true∧l=[]
 | .sl sz l,.sl sz' l'=>sz=sz'∧l=l'
 | _,_=>False
def yr:List D → List D → Prop
 | [],[]=>True
 | a :: l,b :: m=>leD a b∧yr l m
 | _,_=>False
theorem Jm {w:World} {I:Nat → Prop} {d d':D} {y:Value} (h:leD d d') (hr:RD w I d y):RD w I d' y:=by
 cases d with
 | v x =>
  cases d' with
  | v z=>obtain rfl:x=z:=h;exact hr
  | sl sz l =>
   obtain ⟨h,rfl⟩:=h;obtain ⟨A,c,rfl⟩:=v8 h;rw [RD] at hr;rw [dB,hr.1];exact ⟨A,c,[],rfl,Nat.zero_le _,Rd.nil,by simp,trivial⟩
 | sl sz l =>
  cases d' with
  | v z=>exact h.elim
  | sl sz' l'=>obtain ⟨rfl,rfl⟩:=h;exact hr
theorem Ao {w:World} {I:Nat → Prop}:∀ {r r':List D} {ys:List Value},yr r r' → ay (RD w I) r ys → ay (RD w I) r' ys
 | [],[],_,_,hr=>hr
 | a :: l,b :: m,y :: ys,h,hr=>⟨Jm h.1 hr.1,Ao h.2 hr.2⟩
 | _ :: _,_ :: _,[],_,hr=>hr.elim
 | [],_ :: _,_,h,_=>h.elim
 | _ :: _,[],_,h,_=>h.elim
theorem pe:∀ {r r':List D},yr r r' → r.length=r'.length
 | [],[],_=>rfl
 | a :: l,b :: m,h=>by simp [pe h.2]
 | [],_ :: _,h=>h.elim
 | _ :: _,[],h=>h.elim
attribute [push_cast] leD yr
def kK:List (List D) → List (List D) → Prop
 | [],[]=>True
 | a :: l,b :: m=>yr a b∧kK l m
 | _,_=>False
theorem tq {w:World} {I:Nat → Prop}:∀ {r r':List (List D)} {ys:List Value},kK r r' → ay (RD w I) r.flatten ys → ay (RD w I) r'.flatten ys
 | [],[],_,_,hr=>hr
 | a :: l,b :: m,ys,h,hr=>by
  simp only [List.flatten_cons] at hr ⊢;obtain ⟨x,y,rfl,h1,h2⟩:=hr.split;exact (Ao h.1 h1).append (tq h.2 h2)
 | [],_ :: _,_,h,_=>h.elim
 | _ :: _,[],_,h,_=>h.elim
theorem lR:∀ {r r':List (List D)},kK r r' → r.length=r'.length
 | [],[],_=>rfl
 | a :: l,b :: m,h=>by simp [lR h.2]
 | [],_ :: _,h=>h.elim
 | _ :: _,[],h=>h.elim
theorem qV {sz:Nat}:∀ {r r':List (List D)},kK r r' → (∀ x ∈ r,x.length=sz) → ∀ x ∈ r',x.length=sz
 | [],[],_,_,x,hx=>by simp at hx
 | a :: l,b :: m,h,hr,x,hx=>by
  rcases List.mem_cons.1 hx with rfl|hx
  ·rw [← pe h.1];exact hr a (by simp)
  ·exact qV h.2 (fun y hy=>hr y (by simp [hy])) x hx
 | [],_ :: _,h,_,_,_=>h.elim
 | _ :: _,[],h,_,_,_=>h.elim
attribute [push_cast] kK
theorem tr {N p:Nat} {s:S} (i:Nat) {sz:Nat} {l:List (List D)} (l':List (List D)) (hi:s.get i=some (.c (.full sz l))) (h:kK l l'):bg N p s ⟨(i,.c (.sl sz l')) :: s.t,s.o⟩:=by
 intro Γ a w hA;refine ⟨Γ,⟨⟨hA.inv.size,hA.inv.defers,fun j q hq=>?_,hA.inv.m⟩,hA.le⟩,cq.refl _ _ _⟩;simp only [S.get,cM] at hq;split at hq
 ·rename_i e;subst e;cases hq;obtain ⟨h1,h2,_⟩:=hA.inv.t j _ hi;refine ⟨h1,?_⟩;obtain ⟨A,c,xs,h3,h4,h5,h6,h7⟩:=dB.1 h2;show RD w Γ.I (.sl sz l') _;rw [dB,h3];have hl:=lR h;exact ⟨A,c,xs,by rw [hl],ac,by rw [← hl];exact h5,qV h h6,tq h h7⟩
 ·exact hA.inv.t j q hq
theorem qW {P:Program} (w:World) (base:Nat) (t ty e:TypeId) (size bytes:Nat) (hT:SlT P t e size bytes)
  (ad:Addr) (n c0:Nat) (xs:List Value) (hl:xs.length=n * size) (holds:∀ j u,xs[j]? = some u → w.cell? (ad.add j)=some u) (R':Nat → Prop) (A':Option Addr) (m c:Nat) (news:List Value) (hr:Rd w R' size A' m news)
  (h0:0 < m) (hg:c0 < n+m) (h63:n+m≤maxLen) (hbytes:(n+m) * bytes≤140737488355328) (hbase:base≤w.heap.size) :
  ∃ v' w',(Builtin.append_ #[t,t] ty #[.slice (some ad) n c0,.slice A' m c]).run P w = .ok v' w'∧w'.ownsRow base e size v' (n+m) (xs++news)∧Ext No w w':=by
 obtain ⟨ht,⟨i,z,hi,hz,hsize,hby,hzs⟩,hsz⟩:=hT;subst hsize;subst hby;obtain ⟨b',o',rfl,hb',hlt',hc'⟩:=hr.2 h0;have hsmall:n+m≤9223372036854775807:=by simp only [maxLen] at h63;omega
 have hlen:(xs++news).length=(n+m) * i.size:=by rw [List.length_append,hl,hr.1,Nat.add_mul]
 have hnews:∀ j u,news[j]? = some u → w.cell? ((⟨b',o',none⟩:Addr).add j)=some u:=fun j u hu=>by rw [Addr.add_lit];exact hc' j u hu
 have grown:(w.drew.alloc (.cells (xs.toArray++news.toArray++Builtin.zeroCells z.cells (grownCap w (n+m) c0 e - (n+m))) e)).ownsRow base e i.size
    (.slice (some ⟨w.heap.size,0,none⟩) (n+m) (grownCap w (n+m) c0 e)) (n+m) (xs++news):=by
  have hge:=grownCap_ge w (n+m) c0 e;have hcm:grownCap w (n+m) c0 e≤maxLen:=grownCap_le_maxLen w (n+m) c0 e h63;refine ⟨hlen,.inr ⟨w.heap.size,_,_,rfl,hbase,heap_alloc_new w.drew _,hge,hcm,?_,?_⟩⟩
  ·simp only [Array.size_append,List.size_toArray,size_zeroCells,hzs,hl,hr.1,← Nat.add_mul];congr 1;omega
  ·simp only [Array.toList_append,List.append_assoc];rw [← List.append_assoc,← hlen];exact List.take_left
 have hrun:=run_append_grow (P:=P) w t ty e i z ht hi hz ad n c0 xs hl holds ⟨b',o',none⟩ m c news hr.1 hnews hg ac (growslice_fits hg hbytes);exact ⟨_,_,hrun,grown,(Ext.refl No w).drew.alloc _⟩
theorem G8 {P:Program} {N p:Nat} {Γ:G} {s:S} {a:Act} {w:World} {o:Oper} {t e:TypeId} {sz by':Nat} {x z:Operand} {k:Nat} {rows ys:List (List D)} (ho:o.op = .call { callee:=.builtin .append,args := #[x,z],argTypes := #[t,t] })
  (hel:cY P t=some (e,sz)) (hby:bytOf P e=some by') (hsz:0 < sz) (hz:(zerOf P e).map List.length=some sz) (hx:s.ev x=some (.c (.own k rows.length))) (hk:s.o[k]? = some (.arr e sz rows))
  (hys:srcRows s.o sz (s.ev z)=some ys) (h0:0 < ys.length) (hb1:((rows.length:Int)+ys.length) * by'≤140737488355328) (hb2:(rows.length:Int)+ys.length≤9223372036854775807) (hI:Inv N Γ s a w) (hp:p≤Γ.n) :
  lP P N p Γ s a w o (.c (.own k (rows.length+ys.length))) (s.o.set k (.arr e sz (rows++ys))) none∨lP P N p Γ s a w o (.c (.own s.o.length (rows.length+ys.length))) (s.o++[.arr e sz (rows++ys)]) none:=by
 obtain ⟨hT,i,hu,hi⟩:=yf hel hby hsz hz;obtain ⟨hyr,A,c,news,hzv,hrd,hnx⟩:=uC hI.m hys (fun q hq=>S.ev_ok hq hI);have hone:=ky hnx;have hexec:∀ (v v':Value) (w':World),a.eval x=v → (Builtin.append_ #[t,t] o.type #[v,.slice A ys.length c]).run P w = .ok v' w' → (execOp a.eval o).run P w = .ok (.value v') w':=by
  intro v v' w' hv hr;simp only [execOp,ho,resolve,invoke,builtin,Sem.run_bind,Sem.run_pure,Result.andThen_ok,List.map_toArray,List.map_cons,List.map_nil,hv,hzv,hr]
 obtain ⟨hkn,hrep⟩:=S.ev_ok hx hI;have hro:=hI.m.ob k _ hk;obtain ⟨g1,g2,g3,g4⟩:=hro;have hrl:∀ r ∈ rows++ys,r.length=sz:=fun r hr=>by
  rcases List.mem_append.1 hr with hr|hr
  ·exact g1 r hr
  ·exact hyr r hr
 have hbb:(rows.length+ys.length) * by'≤140737488355328:=by have:=hb1;rw [← Int.natCast_add,← Int.natCast_mul] at this;omega
 have hmx:rows.length+ys.length≤maxLen:=by simp only [maxLen];omega
 rcases hrep with ⟨hc0,⟨A0,hv⟩,hn0⟩|⟨hcp,hv,hnc⟩
 ·
  have hr0:rows=[]:=List.eq_nil_of_length_eq_zero hn0;subst hr0;right;obtain ⟨v',w',hr,h2,h3⟩:=gh (P:=P) w w.heap.size t o.type e sz by' hT (fun _=>True) _ A0 0 [] ⟨by simp,fun h=>absurd h ac⟩ A ys.length c news hrd h0 (by simpa using hmx) (by simpa using hbb) (Nat.le_refl _);simp only [List.length_nil,Nat.zero_add,List.nil_append] at *;exact qg hI hp (hexec _ _ _ hv hr) h3 h2 ac hsz hyr rfl (hnx.mono fun _ _=>RD.stay ((bS.of_ext h3).stay Γ.I) _ _)
 ·obtain ⟨cur,q1,q2,q3,q4,q5⟩:=g4 hcp;by_cases hroom:rows.length+ys.length≤Γ.cap k
  ·left;have hown:w.ownsRow 0 e sz (.slice (some ⟨Γ.β k,0,none⟩) rows.length (Γ.cap k)) rows.length (cur.toList.take (rows.length * sz)) :=
    uw q1 (Nat.zero_le _) q2 hnc q4
   obtain ⟨v',w',hr,h2,h3,h5⟩:=iI (P:=P) w 0 t o.type e sz by' hT _ _ _ hown _ A ys.length c news hrd hone hmx hbb (Nat.zero_le _);obtain ⟨b',o',hA,hb',hlt',hc'⟩:=hrd.2 h0;obtain ⟨i2,hi2,hisz,hiby⟩:∃ i2,P.info? e=some i2∧i2.size=sz∧i2.bytes=by':=by
    obtain ⟨_,⟨i2,z2,h1,_,h3,h4,_⟩,_⟩:=hT;exact ⟨i2,h1,h3,h4⟩
   have hfit:rows.length * i2.size+news.length≤cur.size:=by rw [hisz,hrd.1,q2,← Nat.add_mul];exact Nat.mul_le_mul_right _ hroom
   have hrun2:=run_append_room (P:=P) w t o.type e i2 hu hi2 (Γ.β k) rows.length (Γ.cap k) cur q1 ⟨b',o',none⟩ ys.length c news (by rw [hisz];exact hrd.1) (fun j u hu=>by rw [Addr.add_lit];exact hc' j u hu) hone hroom hfit;rw [hA] at hr;rw [hrun2] at hr;injection hr with hr1 hr2
   subst hr1;have hE:Ext (fun i=>i=Γ.β k) w w':=h3.mono fun j hj=>by simp [Value.ownBlock] at hj;exact hj.symm
   have hs:dC w Γ.I w' Γ.I:=⟨hE.size,fun i hi hl=>hE.block i hl fun h2=>hI.m.off k hkn hcp (h2 ▸ hi),fun i hi=>hi⟩
   obtain ⟨_,h2⟩:=h2;have hblk:∃ cur',Blk w' (Γ.β k) e cur'∧cur'.size=Γ.cap k * sz∧cur'.toList.take ((rows.length+ys.length) * sz)=cur.toList.take (rows.length * sz)++news:=by
    rcases h2 with ⟨h2,_⟩|⟨g,cap,cur',h2,_,hg,_,_,hcs,htk⟩
    ·cases h2
    ·injection h2 with e1 e2 e3
     injection e1 with e1
     injection e1 with e1
     subst e1;subst e3;exact ⟨cur',hg,hcs,htk⟩
   obtain ⟨cur',hb1',hcs,htk⟩:=hblk;refine ⟨.slice (some ⟨Γ.β k,0,none⟩) (rows.length+ys.length) (Γ.cap k),w',Γ,?_,⟨hkn,.inr ⟨hcp,rfl,hroom⟩⟩,⟨hI.size,hI.defers,fun i q hq=>?_,⟨by rw [hI.m.n,List.length_set],fun j o' ho'=>?_,hI.m.sep,hI.m.off,fun b hb=>Nat.lt_of_lt_of_le (hI.m.lt b hb) hE.size,hI.m.pins hs⟩⟩,⟨hE.mono fun i h1=>⟨k,hkn,hcp,h1.symm⟩,fun _ h=>h,fun j hj hc=>.inl ⟨j,hj,hc,rfl⟩,fun _ h=>.inl h,fun _ _=>⟨rfl,rfl⟩⟩⟩
   ·have:=hexec _ _ _ hv (by rw [hA,hrun2]);rw [this,hr2]
   ·obtain ⟨i1,i2⟩:=hI.t i q hq;exact ⟨i1,i2.stay hs fun j hj=>⟨i2.lt j hj,rfl,rfl⟩⟩
   ·by_cases hjk:k=j
    ·subst hjk;have hkl:k < s.o.length:=by rw [← hI.m.n];exact hkn
     rw [List.getElem?_set_self hkl] at ho';cases ho';refine ⟨hrl,hsz,fun h=>absurd h ac,fun _=>⟨cur',hb1',hcs,by rw [List.length_append];exact hroom,q4,?_⟩⟩;rw [List.length_append,htk,List.flatten_append];exact (q5.mono fun _ _=>RD.stay hs _ _).append (hnx.mono fun _ _=>RD.stay hs _ _)
    ·rw [List.getElem?_set_ne hjk] at ho';have hj:j < Γ.n:=by rw [hI.m.n];exact (List.getElem?_eq_some_iff.1 ho').1
     exact (hI.m.ob j o' ho').stay hs (fun i hi=>⟨hi,rfl,rfl⟩) hj fun hcj=>hE.block _ (bV hI.m hj hcj) fun h=>hjk (hI.m.sep k j hkn hj hcp hcj h.symm)
  ·right;have holds:∀ j u,(cur.toList.take (rows.length * sz))[j]? = some u → w.cell? ((⟨Γ.β k,0,none⟩:Addr).add j)=some u:=by
    intro j u hu;rw [Addr.add_lit,Nat.zero_add,q1.cell];rw [List.getElem?_take] at hu;split at hu
    ·simpa using hu
    ·cases hu
   have hxl:(cur.toList.take (rows.length * sz)).length=rows.length * sz:=by
    rw [List.length_take];have hcz:cur.toList.length=cur.size:=Array.length_toList;rw [hcz,q2];exact Nat.min_eq_left (Nat.mul_le_mul_right _ hnc)
   obtain ⟨v',w',hr,h2,h3⟩:=qW (P:=P) w w.heap.size t o.type e sz by' hT ⟨Γ.β k,0,none⟩ rows.length (Γ.cap k) _ hxl holds _ A ys.length c news hrd h0 ac hmx hbb (Nat.le_refl _);refine qg hI hp (hexec _ _ _ hv hr) h3 h2 ac hsz hrl (by simp) ?_;rw [List.flatten_append];exact (q5.append hnx).mono fun _ _=>RD.stay ((bS.of_ext h3).stay Γ.I) _ _
section
variable {P:Program} {N p:Nat} {ops:Array Oper} {rest:List Oper} {o:Oper} {s:S} {K:S → Prop}
theorem mY {t e:TypeId} {sz by':Nat} {x z:Operand} (k:Nat) {rows ys:List (List D)} (ho:o.op = .call { callee:=.builtin .append,args := #[x,z],argTypes := #[t,t] }) (hg:gd ops s o.guard=some true) (hd:bp N o.dst)
  (hel:cY P t=some (e,sz)) (hby:bytOf P e=some by') (hsz:0 < sz) (hz:(zerOf P e).map List.length=some sz) (hk:s.o[k]? = some (.arr e sz rows)) (hx:s.ev x=some (.c (.own k rows.length)))
  (hys:srcRows s.o sz (s.ev z)=some ys) (h0:0 < ys.length) (hb1:((rows.length:Int)+ys.length) * by'≤140737488355328) (hb2:(rows.length:Int)+ys.length≤9223372036854775807)
  (hA:PL P N p ops rest (S.put ⟨s.t,s.o.set k (.arr e sz (rows++ys))⟩ o.dst (.c (.own k (rows.length+ys.length)))) K)
  (hB:PL P N p ops rest (S.put ⟨s.t,s.o++[.arr e sz (rows++ys)]⟩ o.dst (.c (.own s.o.length (rows.length+ys.length)))) K):PL P N p ops (o :: rest) s K:=by
 intro Γ a w Q hS hK;rcases G8 (p:=p) ho hel hby hsz hz hx hk hys h0 hb1 hb2 hS.inv hS.le with h|h
 ·obtain ⟨y,w',Γ',h1,h2,h3,h4⟩:=h;unfold wpListIn;rw [if_pos (fG hg hS.inv)];have hle:p≤Γ'.n:=by have h5:=hS.le;rw [hS.inv.m.n] at h5;rw [h3.m.n,List.length_set];exact h5
  exact eP h1 (hA Γ' _ w' Q ⟨Inv.put h3 (ec hd) h2,hle⟩ fun s' Γ'' a' w'' hk ha hg' hd'=>hK s' Γ'' a' w'' hk ha (h4.trans hg') (hd'.trans (bK _ _ _)))
 ·obtain ⟨y,w',Γ',h1,h2,h3,h4⟩:=h;unfold wpListIn;rw [if_pos (fG hg hS.inv)];have hle:p≤Γ'.n:=by have h5:=hS.le;rw [hS.inv.m.n] at h5;rw [h3.m.n,List.length_append];omega
  exact eP h1 (hB Γ' _ w' Q ⟨Inv.put h3 (ec hd) h2,hle⟩ fun s' Γ'' a' w'' hk ha hg' hd'=>hK s' Γ'' a' w'' hk ha (h4.trans hg') (hd'.trans (bK _ _ _)))
end
end
end Go.Proofs.YtmbbkfffcflfcaaGreatDoor
