/- What the program computes, and the plain laws of it, part 16. -/
import Derived.Test.YtmbbkfffcflfcaaGreatDoorS15
namespace Go.Proofs.YtmbbkfffcflfcaaGreatDoor
attribute [local irreducible] PL QL PWPr PCalls Weak RetK Kontr PA
open Go.RowKit
open IntWalk renaming iteOmega → O, toNatUp → U
set_option linter.unusedVariables false
set_option linter.unusedSimpArgs false
set_option maxRecDepth 20000
def PredS (P:Program) (g:FuncId) (ks:List Nat) (os:List Ob) (l:List ByteArray) (q:ByteArray → Bool):Prop:=bodyOk P g=true∧∀ x ∈ l,PCalls P g (.c (.v (.string x)) :: ks.map fun k=>.c (.ptr k 0)) os fun r os'=>r = .c (.v (.bool (q x)))∧os'=os
def idxS (q:ByteArray → Bool) (l:List ByteArray) (k:Int):Prop:=(k = -1∧∀ x ∈ l,q x=false)∨∃ i:Nat,k=i∧i < l.length∧q (l.getD i default)=true∧∀ x ∈ l.take i,q x=false
theorem allSomeS:∀ ks:List Nat,allSome (ks.map fun k=>some (PV.c (.ptr k 0))) (ks.map fun k=>PV.c (.ptr k 0))
 | []=>trivial
 | k :: ks=>⟨leP_refl _,allSomeS ks⟩
theorem indexFuncS_pure (l:List ByteArray) (hl:l.length≤1000000000) (g:FuncId) (ks:List Nat) (os:List Ob) (q:ByteArray → Bool) (hp:PredS Tryz.prog g ks os l q) :
  PCalls Tryz.prog 123 [.c (.sl 1 (l.map strD)),.c (.fn (.func g) [] ks)] os fun r os'=>∃ k,idxS q l k∧r = .c (.v (.int .i64 k))∧os'=os:=by
 refine pcalls_of_all Tryz.func123 rfl (by simp [Tryz.ntmps123]) ?_
 rw [Tryz.ntmps123,Tryz.results123]
 push_cast [O,U]
 repeat' ((first|refine pG ?_|refine pQ ?_|refine pU ?_|refine pif ?_ ?_<;>intro h<;>try exact pN h)<;>push_cast [O,U])
 refine pwp_loop2 (α:=Nat) (fun k=>k≤l.length∧∀ x ∈ l.take k,q x=false) (fun k=>⟨[(8,.c (.v (.int .i64 k))),(7,.c (.v (.int .i64 l.length))),(6,.c (.sl 1 (l.map strD))),(0,.c (.sl 1 (l.map strD))),(1,.c (.fn (.func g) [] ks))],os⟩) (fun k=>l.length - k) 0 ⟨by omega,by simp⟩ (weak_slots (by push_cast [O,U]) rfl) ?_
 rintro k ⟨hk,hpre⟩
 by_cases hlt:k < l.length
 ·have hm:l.getD k default ∈ l:=by rw [getD_lt l hlt];exact List.getElem_mem _
  have hc:=hp.2 _ hm
  have hpre2:q (l.getD k default)=false → ∀ x ∈ l.take (k+1),q x=false:=fun h x hx=>by
   rw [List.take_succ_eq_append_getElem hlt] at hx
   rcases List.mem_append.1 hx with hx|hx
   ·exact hpre x hx
   ·simp at hx;subst hx;rw [← getD_lt l hlt];exact h
  cases hq:q (l.getD k default)
  all_goals rw [hq] at hc
  all_goals repeat' ((first|(refine pl_call_all rfl (by push_cast [O,U]) rfl hp.1 (by push_cast [O,U]) ?_ hc ?_;(focus (unfold callArgs;push_cast [O,U];exact allSomeS ks));rintro r os ⟨rfl,rfl⟩;refine pl_of_pops ?_)|refine pG ?_|refine pQ ?_|refine pU ?_|refine pif ?_ ?_<;>intro h<;>try exact pN h)<;>push_cast [O,U])
  ·exact ⟨k+1,⟨by omega,hpre2 hq⟩,weak_slots (by push_cast [O,U]) rfl,by omega⟩
  ·exact ⟨_,rfl,by push_cast [O,U],k,.inr ⟨k,rfl,hlt,hq,hpre⟩,rfl,rfl⟩
 ·rw [List.take_of_length_le (by omega)] at hpre
  repeat' ((first|refine pG ?_|refine pQ ?_|refine pU ?_|refine pif ?_ ?_<;>intro h<;>try exact pN h)<;>push_cast [O,U])
  exact ⟨_,rfl,by push_cast [O,U],-1,.inl ⟨rfl,hpre⟩,rfl,rfl⟩
theorem containsFuncS_pure (l:List ByteArray) (hl:l.length≤1000000000) (g:FuncId) (ks:List Nat) (os:List Ob) (q:ByteArray → Bool) (hp:PredS Tryz.prog g ks os l q) :
  PCalls Tryz.prog 73 [.c (.sl 1 (l.map strD)),.c (.fn (.func g) [] ks)] os fun r os'=>r = .c (.v (.bool (l.any q)))∧os'=os:=by
 refine pcalls_of_all Tryz.func73 rfl (by simp [Tryz.ntmps73]) ?_
 rw [Tryz.ntmps73,Tryz.results73]
 push_cast [O,U]
 repeat' ((first|(refine pl_call_all rfl (by push_cast [O,U]) rfl (by kernel_rfl) (by push_cast [O,U]) ?_ (indexFuncS_pure l hl g ks os q hp) ?_;(focus (unfold callArgs;push_cast [O,U]));rintro r os ⟨k,hk,rfl,rfl⟩;refine pl_of_pops ?_)|refine pG ?_|refine pQ ?_|refine pU ?_|refine pif ?_ ?_<;>intro h<;>try exact pN h)<;>push_cast [O,U])
 refine ⟨_,rfl,by push_cast [O,U],?_,rfl⟩
 rcases hk with ⟨rfl,h⟩|⟨i,rfl,hi,hq,_⟩
 ·have:l.any q=false:=by rw [List.any_eq_false];intro x hx;simp [h x hx]
  rw [this];rfl
 ·have:l.any q=true:=List.any_eq_true.2 ⟨l.getD i default,by rw [getD_lt l hi];exact List.getElem_mem _,hq⟩
  rw [this];simp
end Go.Proofs.YtmbbkfffcflfcaaGreatDoor
namespace Go.Proofs.YtmbbkfffcflfcaaGreatDoor
attribute [local irreducible] PL QL PWPr PCalls Weak RetK Kontr
open Go.RowKit
open IntWalk renaming iteOmega → O, toNatUp → U
set_option linter.unusedVariables false
set_option linter.unusedSimpArgs false
set_option maxRecDepth 20000
theorem in_pure (l:List ByteArray) (s:ByteArray) (hl:l.length≤9223372036854775807) :
  PCalls Tryz.prog 24 [.c (.sl 1 (l.map strD)),.c (.v (.string s))] [] fun r os=>r = .c (.v (.bool (inM s l)))∧os=[]:=by
 refine pcalls_of Tryz.func24 rfl (by simp [Tryz.ntmps24]) ?_
 rw [Tryz.ntmps24,Tryz.results24]
 push_cast [O,U]
 repeat' ((first|refine pG ?_|refine pQ ?_|refine pU ?_|refine pif ?_ ?_<;>intro h<;>try exact pN h)<;>push_cast [O,U])
 refine pwp_loop2 (α:=Nat) (fun k=>k≤l.length∧s ∉ l.take k) (fun k=>⟨[(5,.c (.v (.int .i64 k))),(0,.c (.sl 1 (l.map strD))),(1,.c (.v (.string s)))],[]⟩) (fun k=>l.length - k) 0 ⟨by omega,by simp⟩ (by (refine weak_fg ?_;push_cast [O,U])) ?_
 rintro k ⟨hk,hpre⟩
 by_cases hlt:k < l.length
 ·have e1:=getD_lt l hlt
  repeat' ((first|refine pG ?_|refine pQ ?_|refine pU ?_|refine pif ?_ ?_<;>intro h<;>try exact pN h)<;>push_cast [O,U])
  ·(refine retK_of [] ?_;push_cast [O,U])
   rw [e1] at h
   subst h
   exact (inM_iff.2 (List.getElem_mem _)).symm
  ·refine ⟨k+1,⟨by omega,?_⟩,by (refine weak_fg ?_;push_cast [O,U]),by omega⟩
   rw [e1] at h
   rw [List.take_succ_eq_append_getElem hlt]
   simp only [List.mem_append,List.mem_singleton,not_or]
   exact ⟨hpre,fun e=>h e.symm⟩
 ·repeat' ((first|refine pG ?_|refine pQ ?_|refine pU ?_|refine pif ?_ ?_<;>intro h<;>try exact pN h)<;>push_cast [O,U])
  (refine retK_of [] ?_;push_cast [O,U])
  rw [List.take_of_length_le (by omega)] at hpre
  exact (inM_false.2 hpre).symm
def Mod.w (m:Mod):List E:=[.v (.string ⟨#[]⟩),.v (.slice none 0 0),.v (.slice none 0 0),.v (.slice none 0 0),.v (.slice none 0 0),.v (.bool false)]
attribute [push_cast] Mod.w
theorem module_pure (l:List Mod) (n:ByteArray) (hl:l.length≤9223372036854775807) :
  PCalls Tryz.prog 23 [.c (.sl 6 (l.map Mod.d)),.c (.v (.string n))] [] fun r os=>r = .two (.agg ((modOf l n).getD noMod).e) (.c (.v (.bool (modOf l n).isSome)))∧os=[]:=by
 refine pcalls_of Tryz.func23 rfl (by simp [Tryz.ntmps23]) ?_
 rw [Tryz.ntmps23,Tryz.results23]
 push_cast [O,U]
 repeat' ((first|refine pG ?_|refine pQ ?_|refine pU ?_|refine pif ?_ ?_<;>intro h<;>try exact pN h)<;>push_cast [O,U])
 refine pwp_loop2 (α:=Nat) (fun k=>k≤l.length∧∀ x ∈ l.take k,x.name≠n) (fun k=>⟨[(6,.c (.v (.int .i64 k))),(5,.c (.v (.bool false))),(4,.c (.ptr 0 0)),(0,.c (.sl 6 (l.map Mod.d))),(1,.c (.v (.string n)))],[.box 33 noMod.w]⟩) (fun k=>l.length - k) 0 ⟨by omega,by simp⟩ (by (refine weak_fg ?_;push_cast [O,U])) ?_
 rintro k ⟨hk,hpre⟩
 by_cases hlt:k < l.length
 ·have e1:=getD_lt l hlt
  repeat' ((first|refine pG ?_|refine pQ ?_|refine pU ?_|refine pif ?_ ?_<;>intro h<;>try exact pN h)<;>push_cast [O,U])
  ·(refine retK_of [] ?_;push_cast [O,U])
   rw [e1] at h
   have hf:modOf l n=some l[k]:=by
    unfold modOf
    rw [List.find?_eq_some_iff_append]
    refine ⟨by simpa using h,l.take k,l.drop (k+1),by rw [← List.drop_eq_getElem_cons hlt,List.take_append_drop],fun x hx=>by simpa using hpre x hx⟩
   rw [e1,hf]
   simp
  ·refine ⟨k+1,⟨by omega,?_⟩,by (refine weak_fg ?_;push_cast [O,U]),by omega⟩
   rw [e1] at h
   rw [List.take_succ_eq_append_getElem hlt]
   intro x hx
   rcases List.mem_append.1 hx with hx|hx
   ·exact hpre x hx
   ·simp only [List.mem_singleton] at hx
    subst hx
    exact h
 ·repeat' ((first|refine pG ?_|refine pQ ?_|refine pU ?_|refine pif ?_ ?_<;>intro h<;>try exact pN h)<;>push_cast [O,U])
  (refine retK_of [] ?_;push_cast [O,U])
  have hf:modOf l n=none:=by
   rw [List.take_of_length_le (by omega)] at hpre
   unfold modOf
   rw [List.find?_eq_none]
   intro x hx
   simpa using hpre x hx
  rw [hf]
  simp [noMod]
end Go.Proofs.YtmbbkfffcflfcaaGreatDoor
namespace Go.Proofs.YtmbbkfffcflfcaaGreatDoor
attribute [local irreducible] PL QL PWPr PCalls Weak RetK Kontr PA
open Go.RowKit
open IntWalk renaming iteOmega → O, toNatUp → U
set_option linter.unusedVariables false
set_option linter.unusedSimpArgs false
set_option maxRecDepth 20000
theorem clone_pure (l:List ByteArray) (hl:l.length≤1000000000) :
  PCalls Tryz.prog 46 [.c (.sl 1 (l.map strD))] [] fun r os=>r = .c (.own 0 l.length)∧os=[.arr 9 1 (l.map strD)]:=by
 refine pcalls_adopt (R:=fun r os=>(r = .c (.own 0 l.length)∧os=[.arr 9 1 (l.map strD)])∨(r = .c (.v (.slice none 0 0))∧os=[]∧l=[])) 9 1 (by omega) ?_ (by
  rintro r os (h|⟨rfl,rfl,rfl⟩)
  ·exact .inl h
  ·exact .inr ⟨rfl,rfl,rfl⟩)
 by_cases h0:l=[]
 ·subst h0
  refine pcalls_split0 (l1:=[]) (l2:=[]) fun A c=>?_
  cases A with
  | none =>
   refine PCalls.mono (R:=fun r os=>r = .c (.v (.slice none 0 0))∧os=[]) ?_ (fun r os h=>.inr ⟨h.1,h.2,rfl⟩)
   refine pcalls_of Tryz.func46 rfl (by simp [Tryz.ntmps46]) ?_
   rw [Tryz.ntmps46,Tryz.results46]
   push_cast [O,U]
   repeat' ((first|refine pG ?_|refine pQ ?_|refine pU ?_|refine pif ?_ ?_<;>intro h<;>try exact pN h)<;>push_cast [O,U])
   (refine retK_of [] ?_;push_cast [O,U])
  | some a =>
   refine PCalls.mono (R:=fun r os=>r = .c (.own 0 0)∧os=[.arr 9 1 []]) ?_ (fun r os h=>.inl h)
   refine pcalls_of Tryz.func46 rfl (by simp [Tryz.ntmps46]) ?_
   rw [Tryz.ntmps46,Tryz.results46]
   push_cast [O,U]
   repeat' ((first|refine pG ?_|refine pQ ?_|refine pU ?_|refine pif ?_ ?_<;>intro h<;>try exact pN h)<;>push_cast [O,U])
   (refine retK_of [0] ?_;push_cast [O,U])
 ·have h1:0 < l.length:=List.length_pos_iff.2 h0
  refine PCalls.mono (R:=fun r os=>r = .c (.own 0 l.length)∧os=[.arr 9 1 (l.map strD)]) ?_ (fun r os h=>.inl h)
  refine pcalls_of Tryz.func46 rfl (by simp [Tryz.ntmps46]) ?_
  rw [Tryz.ntmps46,Tryz.results46]
  push_cast [O,U]
  repeat' ((first|refine pG ?_|refine pQ ?_|refine pU ?_|refine pif ?_ ?_<;>intro h<;>try exact pN h)<;>push_cast [O,U])
  (refine retK_of [0] ?_;push_cast [O,U])
end Go.Proofs.YtmbbkfffcflfcaaGreatDoor
namespace Go.Proofs.YtmbbkfffcflfcaaGreatDoor
open Go.RowKit
open IntWalk renaming iteOmega → O, toNatUp → U
set_option linter.unusedVariables false
set_option linter.unusedSimpArgs false
def leD:D → D → Prop
 | .v x,.v y=>x=y
 | .v x,.sl _ l=>isEmp x=true∧l=[]
 | .sl sz l,.sl sz' l'=>sz=sz'∧l=l'
 | _,_=>False
def leDs:List D → List D → Prop
 | [],[]=>True
 | a :: l,b :: m=>leD a b∧leDs l m
 | _,_=>False
theorem leD_ok {w:World} {I:Nat → Prop} {d d':D} {y:Value} (h:leD d d') (hr:RD w I d y):RD w I d' y:=by
 cases d with
 | v x =>
  cases d' with
  | v z=>obtain rfl:x=z:=h;exact hr
  | sl sz l =>
   obtain ⟨h,rfl⟩:=h
   obtain ⟨A,c,rfl⟩:=isEmp_ok h
   rw [RD] at hr
   rw [rd_sl,hr.1]
   exact ⟨A,c,[],rfl,Nat.zero_le _,Rd.nil,by simp,trivial⟩
 | sl sz l =>
  cases d' with
  | v z=>exact h.elim
  | sl sz' l'=>obtain ⟨rfl,rfl⟩:=h;exact hr
theorem leDs_ok {w:World} {I:Nat → Prop}:∀ {r r':List D} {ys:List Value},leDs r r' → All2 (RD w I) r ys → All2 (RD w I) r' ys
 | [],[],_,_,hr=>hr
 | a :: l,b :: m,y :: ys,h,hr=>⟨leD_ok h.1 hr.1,leDs_ok h.2 hr.2⟩
 | _ :: _,_ :: _,[],_,hr=>hr.elim
 | [],_ :: _,_,h,_=>h.elim
 | _ :: _,[],_,h,_=>h.elim
theorem leDs_length:∀ {r r':List D},leDs r r' → r.length=r'.length
 | [],[],_=>rfl
 | a :: l,b :: m,h=>by simp [leDs_length h.2]
 | [],_ :: _,h=>h.elim
 | _ :: _,[],h=>h.elim
attribute [push_cast] leD leDs
def leRows:List (List D) → List (List D) → Prop
 | [],[]=>True
 | a :: l,b :: m=>leDs a b∧leRows l m
 | _,_=>False
theorem leRows_ok {w:World} {I:Nat → Prop}:∀ {r r':List (List D)} {ys:List Value},leRows r r' → All2 (RD w I) r.flatten ys → All2 (RD w I) r'.flatten ys
 | [],[],_,_,hr=>hr
 | a :: l,b :: m,ys,h,hr=>by
  simp only [List.flatten_cons] at hr ⊢
  obtain ⟨x,y,rfl,h1,h2⟩:=hr.split
  exact (leDs_ok h.1 h1).append (leRows_ok h.2 h2)
 | [],_ :: _,_,h,_=>h.elim
 | _ :: _,[],_,h,_=>h.elim
theorem leRows_length:∀ {r r':List (List D)},leRows r r' → r.length=r'.length
 | [],[],_=>rfl
 | a :: l,b :: m,h=>by simp [leRows_length h.2]
 | [],_ :: _,h=>h.elim
 | _ :: _,[],h=>h.elim
theorem leRows_mem {sz:Nat}:∀ {r r':List (List D)},leRows r r' → (∀ x ∈ r,x.length=sz) → ∀ x ∈ r',x.length=sz
 | [],[],_,_,x,hx=>by simp at hx
 | a :: l,b :: m,h,hr,x,hx=>by
  rcases List.mem_cons.1 hx with rfl|hx
  ·rw [← leDs_length h.1];exact hr a (by simp)
  ·exact leRows_mem h.2 (fun y hy=>hr y (by simp [hy])) x hx
 | [],_ :: _,h,_,_,_=>h.elim
 | _ :: _,[],h,_,_,_=>h.elim
attribute [push_cast] leRows
theorem weak_rows {N p:Nat} {s:S} (i:Nat) {sz:Nat} {l:List (List D)} (l':List (List D)) (hi:s.get i=some (.c (.full sz l))) (h:leRows l l'):Weak N p s ⟨(i,.c (.sl sz l')) :: s.t,s.o⟩:=by
 intro Γ a w hA
 refine ⟨Γ,⟨⟨hA.inv.size,hA.inv.defers,fun j q hq=>?_,hA.inv.m⟩,hA.le⟩,Grow.refl _ _ _⟩
 simp only [S.get,look] at hq
 split at hq
 ·rename_i e
  subst e
  cases hq
  obtain ⟨h1,h2,_⟩:=hA.inv.t j _ hi
  refine ⟨h1,?_⟩
  obtain ⟨A,c,xs,h3,h4,h5,h6,h7⟩:=rd_sl.1 h2
  show RD w Γ.I (.sl sz l') _
  rw [rd_sl,h3]
  have hl:=leRows_length h
  exact ⟨A,c,xs,by rw [hl],by omega,by rw [← hl];exact h5,leRows_mem h h6,leRows_ok h h7⟩
 ·exact hA.inv.t j q hq
theorem run_append_out {P:Program} (w:World) (base:Nat) (t ty e:TypeId) (size bytes:Nat) (hT:SlT P t e size bytes)
  (ad:Addr) (n c0:Nat) (xs:List Value) (hl:xs.length=n * size) (holds:∀ j u,xs[j]? = some u → w.cell? (ad.add j)=some u) (R':Nat → Prop) (A':Option Addr) (m c:Nat) (news:List Value) (hr:Rd w R' size A' m news)
  (h0:0 < m) (hg:c0 < n+m) (h63:n+m≤maxLen) (hbytes:(n+m) * bytes≤140737488355328) (hbase:base≤w.heap.size) :
  ∃ v' w',(Builtin.append_ #[t,t] ty #[.slice (some ad) n c0,.slice A' m c]).run P w = .ok v' w'∧w'.ownsRow base e size v' (n+m) (xs++news)∧Ext No w w':=by
 obtain ⟨ht,⟨i,z,hi,hz,hsize,hby,hzs⟩,hsz⟩:=hT
 subst hsize
 subst hby
 obtain ⟨b',o',rfl,hb',hlt',hc'⟩:=hr.2 h0
 have hsmall:n+m≤9223372036854775807:=by simp only [maxLen] at h63;omega
 have hlen:(xs++news).length=(n+m) * i.size:=by rw [List.length_append,hl,hr.1,Nat.add_mul]
 have hnews:∀ j u,news[j]? = some u → w.cell? ((⟨b',o',none⟩:Addr).add j)=some u:=fun j u hu=>by rw [Addr.add_lit];exact hc' j u hu
 have grown:(w.drew.alloc (.cells (xs.toArray++news.toArray++Builtin.zeroCells z.cells (grownCap w (n+m) c0 e - (n+m))) e)).ownsRow base e i.size
    (.slice (some ⟨w.heap.size,0,none⟩) (n+m) (grownCap w (n+m) c0 e)) (n+m) (xs++news):=by
  have hge:=grownCap_ge w (n+m) c0 e
  have hcm:grownCap w (n+m) c0 e≤maxLen:=grownCap_le_maxLen w (n+m) c0 e h63
  refine ⟨hlen,.inr ⟨w.heap.size,_,_,rfl,hbase,heap_alloc_new w.drew _,hge,hcm,?_,?_⟩⟩
  ·simp only [Array.size_append,List.size_toArray,size_zeroCells,hzs,hl,hr.1,← Nat.add_mul]
   congr 1
   omega
  ·simp only [Array.toList_append,List.append_assoc]
   rw [← List.append_assoc,← hlen]
   exact List.take_left
 have hrun:=run_append_grow (P:=P) w t ty e i z ht hi hz ad n c0 xs hl holds ⟨b',o',none⟩ m c news hr.1 hnews hg (by omega) (growslice_fits hg hbytes)
 exact ⟨_,_,hrun,grown,(Ext.refl No w).drew.alloc _⟩
theorem app_two {P:Program} {N p:Nat} {Γ:G} {s:S} {a:Act} {w:World} {o:Oper} {t e:TypeId} {sz by':Nat} {x z:Operand} {k:Nat} {rows ys:List (List D)} (ho:o.op = .call { callee:=.builtin .append,args := #[x,z],argTypes := #[t,t] })
  (hel:elOf P t=some (e,sz)) (hby:bytOf P e=some by') (hsz:0 < sz) (hz:(zerOf P e).map List.length=some sz) (hx:s.ev x=some (.c (.own k rows.length))) (hk:s.o[k]? = some (.arr e sz rows))
  (hys:srcRows s.o sz (s.ev z)=some ys) (h0:0 < ys.length) (hb1:((rows.length:Int)+ys.length) * by'≤140737488355328) (hb2:(rows.length:Int)+ys.length≤9223372036854775807) (hI:Inv N Γ s a w) (hp:p≤Γ.n) :
  AppOk P N p Γ s a w o (.c (.own k (rows.length+ys.length))) (s.o.set k (.arr e sz (rows++ys))) none∨AppOk P N p Γ s a w o (.c (.own s.o.length (rows.length+ys.length))) (s.o++[.arr e sz (rows++ys)]) none:=by
 obtain ⟨hT,i,hu,hi⟩:=slT_of hel hby hsz hz
 obtain ⟨hyr,A,c,news,hzv,hrd,hnx⟩:=src_ok hI.m hys (fun q hq=>S.ev_ok hq hI)
 have hone:=rd_one hnx
 have hexec:∀ (v v':Value) (w':World),a.eval x=v → (Builtin.append_ #[t,t] o.type #[v,.slice A ys.length c]).run P w = .ok v' w' → (execOp a.eval o).run P w = .ok (.value v') w':=by
  intro v v' w' hv hr
  simp only [execOp,ho,resolve,invoke,builtin,Sem.run_bind,Sem.run_pure,Result.andThen_ok,List.map_toArray,List.map_cons,List.map_nil,hv,hzv,hr]
 obtain ⟨hkn,hrep⟩:=S.ev_ok hx hI
 have hro:=hI.m.ob k _ hk
 obtain ⟨g1,g2,g3,g4⟩:=hro
 have hrl:∀ r ∈ rows++ys,r.length=sz:=fun r hr=>by
  rcases List.mem_append.1 hr with hr|hr
  ·exact g1 r hr
  ·exact hyr r hr
 have hbb:(rows.length+ys.length) * by'≤140737488355328:=by have:=hb1;rw [← Int.natCast_add,← Int.natCast_mul] at this;omega
 have hmx:rows.length+ys.length≤maxLen:=by simp only [maxLen];omega
 rcases hrep with ⟨hc0,⟨A0,hv⟩,hn0⟩|⟨hcp,hv,hnc⟩
 ·
  have hr0:rows=[]:=List.eq_nil_of_length_eq_zero hn0
  subst hr0
  right
  obtain ⟨v',w',hr,h2,h3⟩:=run_append_full (P:=P) w w.heap.size t o.type e sz by' hT (fun _=>True) _ A0 0 [] ⟨by simp,fun h=>absurd h (by omega)⟩ A ys.length c news hrd h0 (by simpa using hmx) (by simpa using hbb) (Nat.le_refl _)
  simp only [List.length_nil,Nat.zero_add,List.nil_append] at *
  exact app_new hI hp (hexec _ _ _ hv hr) h3 h2 (by omega) hsz hyr rfl (hnx.mono fun _ _=>RD.stay ((Same.of_ext h3).stay Γ.I) _ _)
 ·obtain ⟨cur,q1,q2,q3,q4,q5⟩:=g4 hcp
  by_cases hroom:rows.length+ys.length≤Γ.cap k
  ·left
   have hown:w.ownsRow 0 e sz (.slice (some ⟨Γ.β k,0,none⟩) rows.length (Γ.cap k)) rows.length (cur.toList.take (rows.length * sz)) :=
    own_blk q1 (Nat.zero_le _) q2 hnc q4
   obtain ⟨v',w',hr,h2,h3,h5⟩:=run_append_rd (P:=P) w 0 t o.type e sz by' hT _ _ _ hown _ A ys.length c news hrd hone hmx hbb (Nat.zero_le _)
   obtain ⟨b',o',hA,hb',hlt',hc'⟩:=hrd.2 h0
   obtain ⟨i2,hi2,hisz,hiby⟩:∃ i2,P.info? e=some i2∧i2.size=sz∧i2.bytes=by':=by
    obtain ⟨_,⟨i2,z2,h1,_,h3,h4,_⟩,_⟩:=hT
    exact ⟨i2,h1,h3,h4⟩
   have hfit:rows.length * i2.size+news.length≤cur.size:=by rw [hisz,hrd.1,q2,← Nat.add_mul];exact Nat.mul_le_mul_right _ hroom
   have hrun2:=run_append_room (P:=P) w t o.type e i2 hu hi2 (Γ.β k) rows.length (Γ.cap k) cur q1 ⟨b',o',none⟩ ys.length c news (by rw [hisz];exact hrd.1) (fun j u hu=>by rw [Addr.add_lit];exact hc' j u hu) hone hroom hfit
   rw [hA] at hr
   rw [hrun2] at hr
   injection hr with hr1 hr2
   subst hr1
   have hE:Ext (fun i=>i=Γ.β k) w w':=h3.mono fun j hj=>by simp [Value.ownBlock] at hj;exact hj.symm
   have hs:Stay w Γ.I w' Γ.I:=⟨hE.size,fun i hi hl=>hE.block i hl fun h2=>hI.m.off k hkn hcp (h2 ▸ hi),fun i hi=>hi⟩
   obtain ⟨_,h2⟩:=h2
   have hblk:∃ cur',Blk w' (Γ.β k) e cur'∧cur'.size=Γ.cap k * sz∧cur'.toList.take ((rows.length+ys.length) * sz)=cur.toList.take (rows.length * sz)++news:=by
    rcases h2 with ⟨h2,_⟩|⟨g,cap,cur',h2,_,hg,_,_,hcs,htk⟩
    ·cases h2
    ·injection h2 with e1 e2 e3
     injection e1 with e1
     injection e1 with e1
     subst e1;subst e3
     exact ⟨cur',hg,hcs,htk⟩
   obtain ⟨cur',hb1',hcs,htk⟩:=hblk
   refine ⟨.slice (some ⟨Γ.β k,0,none⟩) (rows.length+ys.length) (Γ.cap k),w',Γ,?_,⟨hkn,.inr ⟨hcp,rfl,hroom⟩⟩,⟨hI.size,hI.defers,fun i q hq=>?_,⟨by rw [hI.m.n,List.length_set],fun j o' ho'=>?_,hI.m.sep,hI.m.off,fun b hb=>Nat.lt_of_lt_of_le (hI.m.lt b hb) hE.size,hI.m.pins hs⟩⟩,⟨hE.mono fun i h1=>⟨k,hkn,hcp,h1.symm⟩,fun _ h=>h,fun j hj hc=>.inl ⟨j,hj,hc,rfl⟩,fun _ h=>.inl h,fun _ _=>⟨rfl,rfl⟩⟩⟩
   ·have:=hexec _ _ _ hv (by rw [hA,hrun2])
    rw [this,hr2]
   ·obtain ⟨i1,i2⟩:=hI.t i q hq
    exact ⟨i1,i2.stay hs fun j hj=>⟨i2.lt j hj,rfl,rfl⟩⟩
   ·by_cases hjk:k=j
    ·subst hjk
     have hkl:k < s.o.length:=by rw [← hI.m.n];exact hkn
     rw [List.getElem?_set_self hkl] at ho'
     cases ho'
     refine ⟨hrl,hsz,fun h=>absurd h (by omega),fun _=>⟨cur',hb1',hcs,by rw [List.length_append];exact hroom,q4,?_⟩⟩
     rw [List.length_append,htk,List.flatten_append]
     exact (q5.mono fun _ _=>RD.stay hs _ _).append (hnx.mono fun _ _=>RD.stay hs _ _)
    ·rw [List.getElem?_set_ne hjk] at ho'
     have hj:j < Γ.n:=by rw [hI.m.n];exact (List.getElem?_eq_some_iff.1 ho').1
     exact (hI.m.ob j o' ho').stay hs (fun i hi=>⟨hi,rfl,rfl⟩) hj fun hcj=>hE.block _ (mine_lt hI.m hj hcj) fun h=>hjk (hI.m.sep k j hkn hj hcp hcj h.symm)
  ·right
   have holds:∀ j u,(cur.toList.take (rows.length * sz))[j]? = some u → w.cell? ((⟨Γ.β k,0,none⟩:Addr).add j)=some u:=by
    intro j u hu
    rw [Addr.add_lit,Nat.zero_add,q1.cell]
    rw [List.getElem?_take] at hu
    split at hu
    ·simpa using hu
    ·cases hu
   have hxl:(cur.toList.take (rows.length * sz)).length=rows.length * sz:=by
    rw [List.length_take]
    have hcz:cur.toList.length=cur.size:=Array.length_toList
    rw [hcz,q2]
    exact Nat.min_eq_left (Nat.mul_le_mul_right _ hnc)
   obtain ⟨v',w',hr,h2,h3⟩:=run_append_out (P:=P) w w.heap.size t o.type e sz by' hT ⟨Γ.β k,0,none⟩ rows.length (Γ.cap k) _ hxl holds _ A ys.length c news hrd h0 (by omega) hmx hbb (Nat.le_refl _)
   refine app_new hI hp (hexec _ _ _ hv hr) h3 h2 (by omega) hsz hrl (by simp) ?_
   rw [List.flatten_append]
   exact (q5.append hnx).mono fun _ _=>RD.stay ((Same.of_ext h3).stay Γ.I) _ _
section
variable {P:Program} {N p:Nat} {ops:Array Oper} {rest:List Oper} {o:Oper} {s:S} {K:S → Prop}
theorem pl_app2 {t e:TypeId} {sz by':Nat} {x z:Operand} (k:Nat) {rows ys:List (List D)} (ho:o.op = .call { callee:=.builtin .append,args := #[x,z],argTypes := #[t,t] }) (hg:gd ops s o.guard=some true) (hd:dstOk N o.dst)
  (hel:elOf P t=some (e,sz)) (hby:bytOf P e=some by') (hsz:0 < sz) (hz:(zerOf P e).map List.length=some sz) (hk:s.o[k]? = some (.arr e sz rows)) (hx:s.ev x=some (.c (.own k rows.length)))
  (hys:srcRows s.o sz (s.ev z)=some ys) (h0:0 < ys.length) (hb1:((rows.length:Int)+ys.length) * by'≤140737488355328) (hb2:(rows.length:Int)+ys.length≤9223372036854775807)
  (hA:PL P N p ops rest (S.put ⟨s.t,s.o.set k (.arr e sz (rows++ys))⟩ o.dst (.c (.own k (rows.length+ys.length)))) K)
  (hB:PL P N p ops rest (S.put ⟨s.t,s.o++[.arr e sz (rows++ys)]⟩ o.dst (.c (.own s.o.length (rows.length+ys.length)))) K):PL P N p ops (o :: rest) s K:=by
 intro Γ a w Q hS hK
 rcases app_two (p:=p) ho hel hby hsz hz hx hk hys h0 hb1 hb2 hS.inv hS.le with h|h
 ·obtain ⟨y,w',Γ',h1,h2,h3,h4⟩:=h
  unfold wpListIn
  rw [if_pos (gd_ok hg hS.inv)]
  have hle:p≤Γ'.n:=by have h5:=hS.le;rw [hS.inv.m.n] at h5;rw [h3.m.n,List.length_set];exact h5
  exact wpIn_run h1 (hA Γ' _ w' Q ⟨Inv.put h3 (dst_lt hd) h2,hle⟩ fun s' Γ'' a' w'' hk ha hg' hd'=>hK s' Γ'' a' w'' hk ha (h4.trans hg') (hd'.trans (put_defers _ _ _)))
 ·obtain ⟨y,w',Γ',h1,h2,h3,h4⟩:=h
  unfold wpListIn
  rw [if_pos (gd_ok hg hS.inv)]
  have hle:p≤Γ'.n:=by have h5:=hS.le;rw [hS.inv.m.n] at h5;rw [h3.m.n,List.length_append];omega
  exact wpIn_run h1 (hB Γ' _ w' Q ⟨Inv.put h3 (dst_lt hd) h2,hle⟩ fun s' Γ'' a' w'' hk ha hg' hd'=>hK s' Γ'' a' w'' hk ha (h4.trans hg') (hd'.trans (put_defers _ _ _)))
end
end Go.Proofs.YtmbbkfffcflfcaaGreatDoor
