import Derived.Lib.AppendZerosOnto
import Derived.Test.YtmbbkfffcflfcaaGreatDoorS49
namespace Go.Proofs.YtmbbkfffcflfcaaGreatDoor
open Go.RowKit
theorem tab34:szOf Tryz.prog 34=some 1∧aggOf Tryz.prog 34=some false∧bytOf Tryz.prog 34=some 24∧zerOf Tryz.prog 34=some [.v (.slice none 0 0)]∧zvOf Tryz.prog 34=some (.c (.v (.slice none 0 0)))∧isSl Tryz.prog 34=true∧elOf Tryz.prog 34=some (22,1)∧isBytes Tryz.prog 34=false:=⟨by kernel_rfl,by kernel_rfl,by kernel_rfl,by kernel_rfl,by kernel_rfl,by kernel_rfl,by kernel_rfl,by kernel_rfl⟩
attribute [push_cast] tab34
end Go.Proofs.YtmbbkfffcflfcaaGreatDoor
namespace Go.Proofs.YtmbbkfffcflfcaaGreatDoor
open Go.RowKit
open IntWalk renaming iteOmega → O, toNatUp → U
set_option linter.unusedVariables false
set_option linter.unusedSimpArgs false
section
variable {P:Program} {N p:Nat} {ops:Array Oper} {o:Oper} {rest:List Oper} {s:S} {K:S → Prop}
theorem pl_ptrne {t t':TypeId} {x z:Operand} {k off:Nat} (ho:o.op = .binOp .neq t x z t') (hg:gd ops s o.guard=some true) (hx:s.ev x=some (.c (.ptr k off))) (hz:s.ev z=some (.c (.v (.pointer none)))) (ht:isPt P t=true) (hd:dstOk N o.dst)
  (hK:PL P N p ops rest (s.put o.dst (.c (.v (.bool true)))) K):PL P N p ops (o :: rest) s K:=by
 refine pl_same (q:=.c (.v (.bool true))) hg (fun Γ a w hI=>?_) hd hK
 obtain ⟨_,hx1⟩:=S.ev_ok hx hI
 obtain ⟨hz1,_⟩:=S.ev_ok hz hI
 exact ⟨_,⟨rfl,rfl⟩,fun w' _=>by simp [execOp,ho,hx1,hz1,guard_scalar,(run_ptrq ht w' (some _)).2]⟩
end
end Go.Proofs.YtmbbkfffcflfcaaGreatDoor
namespace Go.Proofs.YtmbbkfffcflfcaaGreatDoor
open Go.RowKit
open IntWalk renaming iteOmega → O, toNatUp → U
set_option linter.unusedVariables false
set_option linter.unusedSimpArgs false
theorem run_append_zeroB {P:Program} (w:World) (t ty e:TypeId) (i:TypeInfo) (ht:P.underlying t=some (.slice e)) (hi:P.info? e=some i) (A B:Option Addr) (n cap c:Nat) (hn:n≤cap) (hB:B=none → n=0) :
  (Builtin.append_ #[t,t] ty #[.slice B n cap,.slice A 0 c]).run P w = .ok (.slice B n cap) w:=by
 cases A<;>cases B
 ·have:=hB rfl
  subst this
  simp [Builtin.append_,run_underlying ht,sizeOf,typeInfo,hi,Builtin.lenOf,Builtin.firstCells,storeCells]
 ·simp [Builtin.append_,run_underlying ht,sizeOf,typeInfo,hi,Builtin.lenOf,Builtin.firstCells,hn,storeCells]
 ·have:=hB rfl
  subst this
  simp [Builtin.append_,run_underlying ht,sizeOf,typeInfo,hi,Builtin.lenOf,Builtin.firstCells,loadCells,loadCellsFrom,storeCells]
 ·simp [Builtin.append_,run_underlying ht,sizeOf,typeInfo,hi,Builtin.lenOf,Builtin.firstCells,hn,loadCells,loadCellsFrom,storeCells]
section
variable {P:Program} {N p:Nat} {ops:Array Oper} {rest:List Oper} {o:Oper} {s:S} {K:S → Prop}
theorem pl_appnilS {t e:TypeId} {sz by':Nat} {x z:Operand} {l:List (List D)} (ho:o.op = .call { callee:=.builtin .append,args := #[x,z],argTypes := #[t,t] }) (hg:gd ops s o.guard=some true) (hx:s.ev x=some (.c (.sl sz l))) (hys:srcRows s.o sz (s.ev z)=some []) (hel:elOf P t=some (e,sz)) (hby:bytOf P e=some by') (hsz:0 < sz) (hz:(zerOf P e).map List.length=some sz) (hd:dstOk N o.dst)
  (hK:PL P N p ops rest (s.put o.dst (.c (.sl sz l))) K):PL P N p ops (o :: rest) s K:=by
 refine pl_same (q:=.c (.sl sz l)) hg (fun Γ a w hI=>?_) hd hK
 obtain ⟨hT,i,hu,hi⟩:=slT_of hel hby hsz hz
 obtain ⟨hyr,A,c,news,hzv,hrd,hnx⟩:=src_ok hI.m hys (fun q hq=>S.ev_ok hq hI)
 have hx1:=S.ev_ok hx hI
 obtain ⟨A2,c2,xs,hv,hlc,hxr,hxl,hxx⟩:=rd_sl.1 hx1
 refine ⟨a.eval x,hx1,fun w' hS=>?_⟩
 have hA:A2=none → l.length=0:=fun hA=>by
  rcases Nat.eq_zero_or_pos l.length with h0|h0
  ·exact h0
  ·obtain ⟨b,f,e4,_⟩:=hxr.get h0
   rw [hA] at e4
   cases e4
 have h0:=run_append_zeroB (P:=P) w' t o.type e i hu hi A A2 l.length c2 c hlc hA
 have hzv2:a.eval z = .slice A 0 c:=hzv
 simp only [execOp,ho,resolve,invoke,builtin,Sem.run_bind,Sem.run_pure,Result.andThen_ok,List.map_toArray,List.map_cons,List.map_nil,hv,hzv2,h0]
end
end Go.Proofs.YtmbbkfffcflfcaaGreatDoor
namespace Go.Proofs.YtmbbkfffcflfcaaGreatDoor
open Go.RowKit
open IntWalk renaming iteOmega → O, toNatUp → U
set_option linter.unusedVariables false
set_option linter.unusedSimpArgs false
section
variable {P:Program} {N p:Nat} {ops:Array Oper} {o:Oper} {rest:List Oper} {s:S} {K:S → Prop}
theorem pl_nilne {t t':TypeId} {x z:Operand} (ho:o.op = .binOp .neq t x z t') (hg:gd ops s o.guard=some true) (hx:s.ev x=some (.c (.v (.pointer none)))) (hz:s.ev z=some (.c (.v (.pointer none)))) (ht:isPt P t=true) (hd:dstOk N o.dst)
  (hK:PL P N p ops rest (s.put o.dst (.c (.v (.bool false)))) K):PL P N p ops (o :: rest) s K:=by
 refine pl_same (q:=.c (.v (.bool false))) hg (fun Γ a w hI=>?_) hd hK
 obtain ⟨hx1,_⟩:=S.ev_ok hx hI
 obtain ⟨hz1,_⟩:=S.ev_ok hz hI
 exact ⟨_,⟨rfl,rfl⟩,fun w' _=>by simp [execOp,ho,hx1,hz1,guard_scalar,(run_ptrq ht w' none).2]⟩
end
end Go.Proofs.YtmbbkfffcflfcaaGreatDoor
namespace Go.Proofs.YtmbbkfffcflfcaaGreatDoor
open Go.RowKit
open IntWalk renaming iteOmega → O, toNatUp → U
set_option linter.unusedVariables false
set_option linter.unusedSimpArgs false
theorem zeros_flat (z:Array Value):∀ m:Nat,(Builtin.zeroCells z m).toList=(List.replicate m z.toList).flatten
 | 0=>by simp [Builtin.zeroCells]
 | m+1=>by
  have ih:=zeros_flat z m
  unfold Builtin.zeroCells at ih ⊢
  rw [Array.toList_map,Array.toList_range] at ih ⊢
  rw [Nat.add_mul,Nat.one_mul,List.range_add,List.map_append,ih,List.replicate_succ',List.flatten_append,List.map_map]
  congr 1
  simp only [List.flatten_cons,List.flatten_nil,List.append_nil]
  refine List.ext_getElem (by simp) fun j h1 h2=>?_
  rw [List.length_map,List.length_range] at h1
  simp only [List.getElem_map,List.getElem_range,Function.comp,Array.getElem_toList]
  rw [Nat.mul_comm,Nat.mul_add_mod,Nat.mod_eq_of_lt h1]
  exact getElem!_pos z j h1
theorem run_zeros_room {P:Program} (w:World) (t tn ty e:TypeId) (i:TypeInfo) (z:Value) (kq kn:IntKind) (ht:P.underlying t=some (.slice e)) (htn:P.underlying tn=some (.int kn)) (hi:P.info? e=some i) (hz:i.zero=some z)
  (hzs:z.cells.size=i.size) (hsz:0 < i.size) (g n cap m:Nat) (h1:∀ u ∈ (Builtin.zeroCells z.cells m).toList,u.oneCell'=true) (cur:Array Value) (hg:w.heap[g]? = some (.cells cur e (0,0))) (hcs:cur.size=cap * i.size) (hroom:n+m≤cap)
  (h63:n+m≤9223372036854775807) (hbytes:m * i.bytes≤140737488355328) :
  (Builtin.append_ #[t,tn] ty #[.slice (some ⟨g,0,none⟩) n cap,.int kq m]).run P w = .ok (.slice (some ⟨g,0,none⟩) (n+m) cap) (w.setRow g (cur.toList.take (n * i.size)++(Builtin.zeroCells z.cells m).toList++cur.toList.drop (n * i.size+(Builtin.zeroCells z.cells m).toList.length)).toArray):=by
 have hw:IntKind.i64.wrap (m:Int)=m:=by rw [IntKind.wrap_i64];omega
 have hneg:¬ ((m:Int) < 0):=by omega
 have h48i:¬ (281474976710656 < (m:Int) * (i.bytes:Int)):=by rw [← Int.natCast_mul];omega
 have hzl:(Builtin.zeroCells z.cells m).toList.length=m * i.size:=by rw [Array.length_toList,size_zeroCells,hzs]
 have hfit:n * i.size+(Builtin.zeroCells z.cells m).toList.length≤cur.size:=by rw [hzl,hcs,← Nat.add_mul];exact Nat.mul_le_mul_right _ hroom
 have hst:=run_storeCells_at P g (n * i.size) e (Builtin.zeroCells z.cells m).toList 0 cur w hg (by simpa using hfit) h1
 simp only [Nat.add_zero] at hst
 rcases Nat.eq_zero_or_pos m with hm|hm
 ·subst hm
  have hz0:(Builtin.zeroCells z.cells 0).toList=[]:=List.eq_nil_of_length_eq_zero (by rw [hzl];simp)
  rw [hz0] at hst ⊢
  simp only [Nat.add_zero] at hroom
  have hw0:IntKind.i64.wrap 0=0:=by decide
  simp [Builtin.append_,run_underlying ht,run_underlying htn,sizeOf,typeInfo,hi,asInt,asIntOf,hroom,Addr.add_lit,hst,hw0]
 ·have hns:¬ (m * i.size=0):=Nat.mul_ne_zero (by omega) (by omega)
  simp [Builtin.append_,run_underlying ht,run_underlying htn,sizeOf,typeInfo,zeroValue,hi,hz,asInt,asIntOf,hw,hneg,h48i,hns,hroom,Addr.add_lit,hst]
theorem run_zeros_grow {P:Program} (w:World) (t tn ty e:TypeId) (i:TypeInfo) (z:Value) (kq kn:IntKind) (ht:P.underlying t=some (.slice e)) (htn:P.underlying tn=some (.int kn)) (hi:P.info? e=some i) (hz:i.zero=some z)
  (hzs:z.cells.size=i.size) (hsz:0 < i.size) (A:Option Addr) (n cap m:Nat) (xs:List Value) (hxl:xs.length=n * i.size) (hold:(Builtin.firstCells i.size n (.slice A n cap)).run P w.drew = .ok xs.toArray w.drew) (hm:0 < m) (hg:cap < n+m)
  (h63:n+m≤maxLen) (hbytes:(n+m) * i.bytes≤140737488355328) :
  ∃ v' w',(Builtin.append_ #[t,tn] ty #[.slice A n cap,.int kq m]).run P w = .ok v' w'∧w'.ownsRow w.heap.size e i.size v' (n+m) (xs++(Builtin.zeroCells z.cells m).toList)∧Ext No w w':=by
 have hsmall:n+m≤9223372036854775807:=by simp only [maxLen] at h63;omega
 have hb2:m * i.bytes≤140737488355328:=Nat.le_trans (Nat.mul_le_mul_right _ (Nat.le_add_left m n)) hbytes
 have hzl:(Builtin.zeroCells z.cells m).toList.length=m * i.size:=by rw [Array.length_toList,size_zeroCells,hzs]
 have hlen:(xs++(Builtin.zeroCells z.cells m).toList).length=(n+m) * i.size:=by rw [List.length_append,hxl,hzl,Nat.add_mul]
 have hfit:=growslice_fits (need:=n+m) (old:=cap) hg hbytes
 have hr:=Go.Lib.run_append_grow_zeros (P:=P) w t tn ty e i z kq kn ht htn hi hz A n cap xs hold m hm hsz hg (by omega) (by omega) hfit
 have hge:=grownCap_ge w (n+m) cap e
 have hcm:grownCap w (n+m) cap e≤maxLen:=grownCap_le_maxLen w (n+m) cap e h63
 refine ⟨_,_,hr,⟨hlen,.inr ⟨w.heap.size,_,_,rfl,Nat.le_refl _,heap_alloc_new w.drew _,hge,hcm,?_,?_⟩⟩,(Ext.refl No w).drew.alloc _⟩
 ·simp only [Array.size_append,List.size_toArray,size_zeroCells,hzs,hxl,← Nat.add_mul]
  congr 1
  omega
 ·simp only [Array.toList_append,List.append_assoc]
  rw [← List.append_assoc,← hlen]
  exact List.take_left
theorem zeros_of {P:Program} {e:TypeId} {zv:List Value} (h:zerOf P e=some (zv.map E.v)):∃ i z,P.info? e=some i∧i.zero=some z∧z.cells.toList=zv∧∀ u ∈ zv,u.oneCell'=true:=by
 unfold zerOf at h
 split at h
 ·rename_i i hi
  split at h
  ·rename_i v hv
   split at h
   ·rename_i hc
    have h2:v.cells.toList=zv:=by
     have h3:=Option.some.inj h
     have:Function.Injective E.v:=fun a b hab=>by cases hab;rfl
     exact (List.map_inj_right this).1 h3
    refine ⟨i,v,hi,hv,h2,fun u hu=>?_⟩
    rw [← h2] at hu
    exact List.all_eq_true.1 hc u hu
   ·cases h
  ·cases h
 ·cases h
theorem zrow_rd {w:World} {I:Nat → Prop} {zv:List Value} (h1:∀ u ∈ zv,u.oneCell'=true):∀ m:Nat,All2 (RD w I) (List.replicate m (zv.map D.v)).flatten (List.replicate m zv).flatten
 | 0=>by simp [All2]
 | m+1=>by
  rw [List.replicate_succ,List.replicate_succ,List.flatten_cons,List.flatten_cons]
  refine All2.append ?_ (zrow_rd h1 m)
  have:∀ l:List Value,(∀ u ∈ l,u.oneCell'=true) → All2 (RD w I) (l.map D.v) l:=by
   intro l
   induction l with
   | nil=>intro _;trivial
   | cons a l ih=>intro hl;exact ⟨⟨rfl,hl a (by simp)⟩,ih fun u hu=>hl u (by simp [hu])⟩
  exact this zv h1
theorem app_z {P:Program} {N p:Nat} {Γ:G} {s:S} {a:Act} {w:World} {o:Oper} {t tn e:TypeId} {sz by':Nat} {x y:Operand} {k m:Nat} {rows:List (List D)} {kq kn:IntKind} {zv:List Value} (ho:o.op = .call { callee:=.builtin .append,args := #[x,y],argTypes := #[t,tn] })
  (hel:elOf P t=some (e,sz)) (htn:P.underlying tn=some (.int kn)) (hby:bytOf P e=some by') (hsz:0 < sz) (hz:zerOf P e=some (zv.map E.v)) (hzl:zv.length=sz) (hx:s.ev x=some (.c (.own k rows.length))) (hk:s.o[k]? = some (.arr e sz rows))
  (hy:s.ev y=some (.c (.v (.int kq m)))) (hb1:((rows.length:Int)+m) * by'≤140737488355328) (hb2:(rows.length:Int)+m≤9223372036854775807) (hI:Inv N Γ s a w) (hp:p≤Γ.n) :
  AppOk P N p Γ s a w o (.c (.own k (rows.length+m))) (s.o.set k (.arr e sz (rows++List.replicate m (zv.map D.v)))) none∨AppOk P N p Γ s a w o (.c (.own s.o.length (rows.length+m))) (s.o++[.arr e sz (rows++List.replicate m (zv.map D.v))]) none:=by
 obtain ⟨i,z,hi,hzz,hzc,hz1⟩:=zeros_of hz
 obtain ⟨hu,hs⟩:=el_run hel
 have hisz:i.size=sz:=by
  obtain ⟨i',hi',h⟩:=Option.map_eq_some_iff.1 hs
  rw [hi] at hi';cases hi';exact h
 have hiby:i.bytes=by':=by
  obtain ⟨i',hi',h⟩:=Option.map_eq_some_iff.1 hby
  rw [hi] at hi';cases hi';exact h
 have hzs:z.cells.size=sz:=by rw [← Array.length_toList,hzc,hzl]
 have hzf:(Builtin.zeroCells z.cells m).toList=(List.replicate m zv).flatten:=by rw [zeros_flat,hzc]
 have hnx:=fun (w:World) (I:Nat → Prop)=>zrow_rd (w:=w) (I:=I) hz1 m
 have hyr:∀ r ∈ List.replicate m (zv.map D.v),r.length=sz:=fun r hr=>by rw [List.eq_of_mem_replicate hr,List.length_map,hzl]
 have hyv:a.eval y = .int kq m:=(S.ev_ok hy hI).1
 have hexec:∀ (v v':Value) (w':World),a.eval x=v → (Builtin.append_ #[t,tn] o.type #[v,.int kq m]).run P w = .ok v' w' → (execOp a.eval o).run P w = .ok (.value v') w':=by
  intro v v' w' hv hr
  simp only [execOp,ho,resolve,invoke,builtin,Sem.run_bind,Sem.run_pure,Result.andThen_ok,List.map_toArray,List.map_cons,List.map_nil,hv,hyv,hr]
 obtain ⟨hkn,hrep⟩:=S.ev_ok hx hI
 have hro:=hI.m.ob k _ hk
 obtain ⟨g1,g2,g3,g4⟩:=hro
 have hrl:∀ r ∈ rows++List.replicate m (zv.map D.v),r.length=sz:=fun r hr=>by
  rcases List.mem_append.1 hr with hr|hr
  ·exact g1 r hr
  ·exact hyr r hr
 have hbb:(rows.length+m) * by'≤140737488355328:=by have:=hb1;rw [← Int.natCast_add,← Int.natCast_mul] at this;omega
 have hmx:rows.length+m≤maxLen:=by simp only [maxLen];omega
 rcases hrep with ⟨hc0,⟨A0,hv⟩,hn0⟩|⟨hcp,hv,hnc⟩
 ·have hr0:rows=[]:=List.eq_nil_of_length_eq_zero hn0
  subst hr0
  rcases Nat.eq_zero_or_pos m with rfl|hm
  ·left
   have hr:(Builtin.append_ #[t,tn] o.type #[.slice A0 0 0,.int kq (0:Nat)]).run P w = .ok (.slice A0 0 0) w:=by
    have hw0:IntKind.i64.wrap 0=0:=by decide
    cases A0<;>simp [Builtin.append_,run_underlying hu,run_underlying htn,sizeOf,typeInfo,hi,asInt,asIntOf,storeCells,hw0]
   refine ⟨_,w,Γ,hexec _ _ _ hv hr,⟨hkn,.inl ⟨hc0,⟨A0,rfl⟩,rfl⟩⟩,?_,⟨(Ext.refl No w).mono (fun _ h=>h.elim),fun _ h=>h,fun j hj hc=>.inl ⟨j,hj,hc,rfl⟩,fun _ h=>.inl h,fun _ _=>⟨rfl,rfl⟩⟩⟩
   simp only [List.replicate_zero,List.append_nil]
   have hset:s.o.set k (.arr e sz [])=s.o:=by
    obtain ⟨h1,h2⟩:=List.getElem?_eq_some_iff.1 hk
    rw [← h2]
    exact List.set_getElem_self h1
   rw [hset]
   exact hI
  ·right
   have hold:(Builtin.firstCells i.size 0 (.slice A0 0 0)).run P w.drew = .ok (([]:List Value).toArray) w.drew:=by cases A0<;>simp [Builtin.firstCells,loadCells,loadCellsFrom]
   obtain ⟨v',w',hr,h2,h3⟩:=run_zeros_grow (P:=P) w t tn o.type e i z kq kn hu htn hi hzz (hzs.trans hisz.symm) (by omega) A0 0 0 m [] (by simp) hold hm (by omega) (by simpa using hmx) (by rw [hiby];simpa using hbb)
   rw [hzf,hisz] at h2
   simp only [List.length_nil,Nat.zero_add,List.nil_append] at *
   exact app_new hI hp (hexec _ _ _ hv hr) h3 h2 (by omega) hsz hyr (by simp) (hnx _ _)
 ·obtain ⟨cur,q1,q2,q3,q4,q5⟩:=g4 hcp
  have hown:w.ownsRow 0 e sz (.slice (some ⟨Γ.β k,0,none⟩) rows.length (Γ.cap k)) rows.length (cur.toList.take (rows.length * sz)) :=
   own_blk q1 (Nat.zero_le _) q2 hnc q4
  by_cases hroom:rows.length+m≤Γ.cap k
  ·left
   have hr:=run_zeros_room (P:=P) w t tn o.type e i z kq kn hu htn hi hzz (hzs.trans hisz.symm) (by omega) (Γ.β k) rows.length (Γ.cap k) m (by rw [hzf];intro u hu;obtain ⟨l,hl,hul⟩:=List.mem_flatten.1 hu;rw [List.eq_of_mem_replicate hl] at hul;exact hz1 u hul) cur q1 (by rw [hisz];exact q2) hroom (by omega) (by rw [hiby];exact Nat.le_trans (Nat.mul_le_mul_right _ (Nat.le_add_left m _)) hbb)
   have hzl2:(Builtin.zeroCells z.cells m).toList.length=m * sz:=by rw [Array.length_toList,size_zeroCells,hzs]
   rw [hisz] at hr
   obtain ⟨w',hw'⟩:∃ w',w.setRow (Γ.β k) (cur.toList.take (rows.length * sz)++(Builtin.zeroCells z.cells m).toList++cur.toList.drop (rows.length * sz+(Builtin.zeroCells z.cells m).toList.length)).toArray=w':=⟨_,rfl⟩
   rw [hw'] at hr
   have hfit:rows.length * sz+m * sz≤cur.size:=by rw [q2,← Nat.add_mul];exact Nat.mul_le_mul_right _ hroom
   have hgb:w.grownBy w' (some (Γ.β k)):=by rw [← hw'];exact ⟨rfl,rfl,rfl,by simp,fun j _ hk=>setRow_other w _ j _ (fun e=>hk (by rw [e]))⟩
   have hE:Ext (fun i=>i=Γ.β k) w w':=(Ext.refl _ w).grown hgb (fun k hk=>.inl (by cases hk;rfl))
   have hs:Stay w Γ.I w' Γ.I:=⟨hE.size,fun i hi hl=>hE.block i hl fun h2=>hI.m.off k hkn hcp (h2 ▸ hi),fun i hi=>hi⟩
   have hblk:∃ cur',Blk w' (Γ.β k) e cur'∧cur'.size=Γ.cap k * sz∧cur'.toList.take ((rows.length+m) * sz)=cur.toList.take (rows.length * sz)++(List.replicate m zv).flatten:=by
    refine ⟨(cur.toList.take (rows.length * sz)++(Builtin.zeroCells z.cells m).toList++cur.toList.drop (rows.length * sz+(Builtin.zeroCells z.cells m).toList.length)).toArray,by rw [← hw'];exact setRow_heap w _ cur _ e _ q1,?_,?_⟩
    ·simp only [List.size_toArray,List.length_append,List.length_take,List.length_drop,Array.length_toList] at hzl2 ⊢
     omega
    ·rw [← hzf]
     have:(cur.toList.take (rows.length * sz)++(Builtin.zeroCells z.cells m).toList).length=(rows.length+m) * sz:=by
      simp only [List.length_append,List.length_take,Array.length_toList] at hzl2 ⊢
      rw [Nat.add_mul];omega
     rw [← this]
     exact List.take_left
   obtain ⟨cur',hb1',hcs,htk⟩:=hblk
   refine ⟨_,w',Γ,hexec _ _ _ hv hr,⟨hkn,.inr ⟨hcp,rfl,hroom⟩⟩,⟨hI.size,hI.defers,fun i q hq=>?_,⟨by rw [hI.m.n,List.length_set],fun j o' ho'=>?_,hI.m.sep,hI.m.off,fun b hb=>Nat.lt_of_lt_of_le (hI.m.lt b hb) hE.size,hI.m.pins hs⟩⟩,⟨hE.mono fun i h1=>⟨k,hkn,hcp,h1.symm⟩,fun _ h=>h,fun j hj hc=>.inl ⟨j,hj,hc,rfl⟩,fun _ h=>.inl h,fun _ _=>⟨rfl,rfl⟩⟩⟩
   ·obtain ⟨i1,i2⟩:=hI.t i q hq
    exact ⟨i1,i2.stay hs fun j hj=>⟨i2.lt j hj,rfl,rfl⟩⟩
   ·by_cases hjk:k=j
    ·subst hjk
     have hkl:k < s.o.length:=by rw [← hI.m.n];exact hkn
     rw [List.getElem?_set_self hkl] at ho'
     cases ho'
     refine ⟨hrl,hsz,fun h=>absurd h (by omega),fun _=>⟨cur',hb1',hcs,by rw [List.length_append,List.length_replicate];exact hroom,q4,?_⟩⟩
     rw [List.length_append,List.length_replicate,htk,List.flatten_append]
     exact (q5.mono fun _ _=>RD.stay hs _ _).append (hnx _ _)
    ·rw [List.getElem?_set_ne hjk] at ho'
     have hj:j < Γ.n:=by rw [hI.m.n];exact (List.getElem?_eq_some_iff.1 ho').1
     exact (hI.m.ob j o' ho').stay hs (fun i hi=>⟨hi,rfl,rfl⟩) hj fun hcj=>hE.block _ (mine_lt hI.m hj hcj) fun h=>hjk (hI.m.sep k j hkn hj hcp hcj h.symm)
  ·right
   have holds:∀ j u,(cur.toList.take (rows.length * sz))[j]? = some u → w.drew.cell? ((⟨Γ.β k,0,none⟩:Addr).add j)=some u:=hown.cells (g:=Γ.β k) rfl
   have hxl:(cur.toList.take (rows.length * sz)).length=rows.length * i.size:=by rw [hisz];exact hown.1
   have hold:=run_firstCells_some (P:=P) w.drew i.size rows.length ⟨Γ.β k,0,none⟩ rows.length (Γ.cap k) _ hxl holds
   have hm:0 < m:=by omega
   obtain ⟨v',w',hr,h2,h3⟩:=run_zeros_grow (P:=P) w t tn o.type e i z kq kn hu htn hi hzz (hzs.trans hisz.symm) (by omega) (some ⟨Γ.β k,0,none⟩) rows.length (Γ.cap k) m _ hxl hold hm (by omega) hmx (by rw [hiby];exact hbb)
   rw [hzf,hisz] at h2
   refine app_new hI hp (hexec _ _ _ hv hr) h3 h2 (by omega) hsz hrl (by simp) ?_
   rw [List.flatten_append]
   exact (q5.mono fun _ _=>RD.stay ((Same.of_ext h3).stay Γ.I) _ _).append (hnx _ _)
section
variable {P:Program} {N p:Nat} {ops:Array Oper} {rest:List Oper} {o:Oper} {s:S} {K:S → Prop}
theorem pl_appz {t tn e:TypeId} {sz by':Nat} {x y:Operand} (k m:Nat) (zv:List Value) {rows:List (List D)} {kq kn:IntKind} (ho:o.op = .call { callee:=.builtin .append,args := #[x,y],argTypes := #[t,tn] }) (hg:gd ops s o.guard=some true) (hd:dstOk N o.dst)
  (hel:elOf P t=some (e,sz)) (htn:P.underlying tn=some (.int kn)) (hby:bytOf P e=some by') (hsz:0 < sz) (hz:zerOf P e=some (zv.map E.v)) (hzl:zv.length=sz) (hx:s.ev x=some (.c (.own k rows.length))) (hk:s.o[k]? = some (.arr e sz rows))
  (hy:s.ev y=some (.c (.v (.int kq m)))) (hb1:((rows.length:Int)+m) * by'≤140737488355328) (hb2:(rows.length:Int)+m≤9223372036854775807)
  (hA:PL P N p ops rest (S.put ⟨s.t,s.o.set k (.arr e sz (rows++List.replicate m (zv.map D.v)))⟩ o.dst (.c (.own k (rows.length+m)))) K)
  (hB:PL P N p ops rest (S.put ⟨s.t,s.o++[.arr e sz (rows++List.replicate m (zv.map D.v))]⟩ o.dst (.c (.own s.o.length (rows.length+m)))) K):PL P N p ops (o :: rest) s K:=by
 intro Γ a w Q hS hK
 rcases app_z (p:=p) ho hel htn hby hsz hz hzl hx hk hy hb1 hb2 hS.inv hS.le with h|h
 ·obtain ⟨y,w',Γ',h1,h2,h3,h4⟩:=h
  unfold wpListIn
  rw [if_pos (gd_ok hg hS.inv)]
  have hle:p≤Γ'.n:=by have h5:=hS.le;rw [hS.inv.m.n] at h5;rw [h3.m.n,List.length_set];exact h5
  exact wpIn_run h1 (hA Γ' _ w' Q ⟨Inv.put h3 (dst_lt hd) h2,hle⟩ fun s' Γ'' a' w'' hk ha hg' hd'=>hK s' Γ'' a' w'' hk ha (h4.trans hg') (hd'.trans (put_defers _ _ _)))
 ·obtain ⟨y,w',Γ',h1,h2,h3,h4⟩:=h
  unfold wpListIn
  rw [if_pos (gd_ok hg hS.inv)]
  have hle:p≤Γ'.n:=by have h5:=hS.le;rw [hS.inv.m.n] at h5;rw [h3.m.n,List.length_append];omega
  exact wpIn_run h1 (hB Γ' _ w' Q ⟨Inv.put h3 (dst_lt hd) h2,hle⟩ fun s' Γ'' a' w'' hk ha hg' hd'=>hK s' Γ'' a' w'' hk ha (h4.trans hg') (hd'.trans (put_defers _ _ _)))
end
end Go.Proofs.YtmbbkfffcflfcaaGreatDoor
namespace Go.Proofs.YtmbbkfffcflfcaaGreatDoor
open Go.ChangeShapes Go.WideShapes Go.ChangeAt Go.RowKit
set_option linter.unusedVariables false
set_option linter.unusedSimpArgs false
def shMod:List Sh:=[.str,.sl [.str],.sl [.str],.sl [.str],.sl [.str],.bool]
theorem sh_mods:shOf Tryz.prog 30 22=some [.sl shMod]:=by kernel_rfl
theorem strs_fit {rows:List (List D)} (h:∀ r ∈ rows,TR [.str] r):∃ l:List ByteArray,rows=l.map strD∧∀ s ∈ l,Fit s:=by
 induction rows with
 | nil=>exact ⟨[],rfl,fun s hs=>by cases hs⟩
 | cons r rows ih =>
  obtain ⟨l,rfl,hl⟩:=ih fun r' hr'=>h r' (by simp [hr'])
  have h1:=h r (by simp)
  simp only [TR,TD] at h1
  obtain ⟨_,_,rfl,⟨a,rfl,ha⟩,rfl⟩:=h1
  refine ⟨a :: l,rfl,fun s hs=>?_⟩
  rcases List.mem_cons.1 hs with rfl|hs
  ·simpa [Fit,maxLen] using ha
  ·exact hl s hs
theorem mods_of {rows:List (List D)} (h:∀ r ∈ rows,TR shMod r):∃ l:List Mod,rows=l.map Mod.d∧∀ m ∈ l,ModFit m:=by
 induction rows with
 | nil=>exact ⟨[],rfl,fun s hs=>by cases hs⟩
 | cons r rows ih =>
  obtain ⟨l,rfl,hl⟩:=ih fun r' hr'=>h r' (by simp [hr'])
  have h1:=h r (by simp)
  simp only [shMod,TR,TD] at h1
  obtain ⟨_,_,rfl,⟨a1,rfl,f1⟩,_,_,rfl,⟨w2,rfl,n2,t2⟩,_,_,rfl,⟨w3,rfl,n3,t3⟩,_,_,rfl,⟨w4,rfl,n4,t4⟩,_,_,rfl,⟨w5,rfl,n5,t5⟩,_,_,rfl,⟨b6,rfl⟩,rfl⟩:=h1
  obtain ⟨l2,rfl,g2⟩:=strs_fit (rows:=w2) fun r hr=>by have:=t2 r hr;simpa only [TR,TD] using this
  obtain ⟨l3,rfl,g3⟩:=strs_fit (rows:=w3) fun r hr=>by have:=t3 r hr;simpa only [TR,TD] using this
  obtain ⟨l4,rfl,g4⟩:=strs_fit (rows:=w4) fun r hr=>by have:=t4 r hr;simpa only [TR,TD] using this
  obtain ⟨l5,rfl,g5⟩:=strs_fit (rows:=w5) fun r hr=>by have:=t5 r hr;simpa only [TR,TD] using this
  refine ⟨⟨a1,l2,l3,l4,l5,b6⟩ :: l,rfl,fun m hm=>?_⟩
  rcases List.mem_cons.1 hm with rfl|hm
  ·rw [List.length_map] at n2 n3 n4 n5
   exact ⟨by simpa [Fit,maxLen] using f1,g2,g3,g4,g5,by simpa [maxLen] using n2,by simpa [maxLen] using n3,by simpa [maxLen] using n4,by simpa [maxLen] using n5⟩
  ·exact hl m hm
end Go.Proofs.YtmbbkfffcflfcaaGreatDoor
namespace Go.Proofs.YtmbbkfffcflfcaaGreatDoor
attribute [local irreducible] PL QL PWPr PCalls Weak RetK Kontr PA PCallsG
open Go.RowKit
open IntWalk renaming iteOmega → O, toNatUp → U
set_option linter.unusedVariables false
set_option linter.unusedSimpArgs false
set_option maxRecDepth 20000
theorem WMod.few {m:Mod} (h:WMod m):m.aliases.length≤16∧m.needs.length≤16∧m.pre.length≤16∧m.post.length≤16:=by
 have h1:=h.ok
 unfold modB at h1
 simp only [Bool.and_eq_true] at h1
 have h2:=h1.1.1.1
 unfold fewB at h2
 simp only [Bool.and_eq_true,decide_eq_true_eq] at h2
 exact ⟨h2.1.1.1,h2.1.1.2,h2.1.2,h2.2⟩
theorem knewT {l:List Mod} (hl:l.length≤9223372036854775807) (hm:∀ m ∈ l,ModFit m) (hb:newB l=true):PCalls Tryz.prog 16 [.c (.sl 6 (l.map Mod.d))] [] fun r os=>r = .two (.c (.ptr 0 0)) (.c (.v (.int .i64 0)))∧os=kerO ⟨[],l,[],[],0⟩ :=
 (knew_pure l hl hm).mono fun r os h=>by rw [if_pos hb] at h;exact h
theorem knewF {l:List Mod} (hl:l.length≤9223372036854775807) (hm:∀ m ∈ l,ModFit m) (hb:newB l=false):PCalls Tryz.prog 16 [.c (.sl 6 (l.map Mod.d))] [] fun r os=>r = .two (.c (.v (.pointer none))) (.c (.v (.int .i64 54)))∧os=[] :=
 (knew_pure l hl hm).mono fun r os h=>by rw [if_neg (by rw [hb];decide)] at h;exact h
theorem rnewT {l:List Mod} (hl:l.length≤9223372036854775807) (hm:∀ m ∈ l,ModFit m) (hb:newB l=true):PCalls Tryz.prog 17 [.c (.sl 6 (l.map Mod.d))] [] fun r os=>r = .two (.agg (Ker.re ⟨[],l,[],[],0⟩)) (.c (.v (.int .i64 0)))∧os=[] :=
 (rnew_pure l hl hm).mono fun r os h=>by rw [hb] at h;exact h
theorem rnewF {l:List Mod} (hl:l.length≤9223372036854775807) (hm:∀ m ∈ l,ModFit m) (hb:newB l=false):PCalls Tryz.prog 17 [.c (.sl 6 (l.map Mod.d))] [] fun r os=>r = .two (.agg (Ker.re ⟨[],[],[],[],0⟩)) (.c (.v (.int .i64 54)))∧os=[] :=
 (rnew_pure l hl hm).mono fun r os h=>by rw [hb] at h;exact h
theorem fit_set {l:List Mod} {g:Nat} {m:Mod} (h:∀ x ∈ l,ModFit x) (hm:ModFit m):∀ x ∈ l.set g m,ModFit x:=fun x hx=>by
 rcases List.mem_or_eq_of_mem_set hx with hx|rfl
 ·exact h x hx
 ·exact hm
set_option maxHeartbeats 32000000 in
theorem modules05_pure (raw:List Mod) (hrf:∀ m ∈ raw,ModFit m) (hrl:raw.length≤9223372036854775807) (L:List Int) (hL:∀ x ∈ L,-9223372036854775808≤x∧x≤9223372036854775807) (hl:L.length≤9223372036854775807) :
  PCalls Tryz.prog 3 [.c (.sl 6 (raw.map Mod.d)),.c (.sl 1 (L.map fun x=>[.v (.int .i64 x)]))] [] fun r os=>r = .c (.v (.bool true))∧os=[]:=by
 refine pcalls_of Tryz.func3 rfl (by simp [Tryz.ntmps3]) ?_
 rw [Tryz.ntmps3,Tryz.results3]
 have hkn:=known05_pure
 push_cast [O,U]
 have cB:CutB 15 [33,34,47,60,73]:=trivial
 by_cases h20:raw.length≤20
 case neg =>
  have h20':(20:Int) < (raw.length:Int):=by omega
  repeat' ((first|refine plE [] hkn ?_ ?_|refine pC ?_|refine pQC ?_|refine pU ?_|refine pif ?_ ?_<;>intro h<;>try exact pN h)<;>push_cast [O,U,h20'])
  (refine retK_of [] ?_;push_cast [O,U])
 have hm:=wmods_pure L 0 (by decide) hL hl
 repeat' ((first|refine pC ?_|refine pQC ?_|refine pU ?_|refine pif ?_ ?_<;>intro h<;>try exact pN h)<;>push_cast [O,U])
 refine pl_call2 false [0] rfl rfl (by kernel_rfl) hm ?_ nofun ?_
 ·push_cast [O,U]
 rintro r os ⟨l,hs,rfl,rfl⟩
 have hS:=StartM.of hs
 have hll:=hS.len
 have hlf:∀ m ∈ l,ModFit m:=fun m hm=>(hS.w m hm).fit
 have nex:=fun (j:Nat) (hj:j < 1000000) (m:Int) (hm:0 < m) (hm2:m≤9223372036854775807)=>next_ex L j m hj hm hm2 hL hl
 refine pl_of_pops ?_
 push_cast [O,U]
 by_cases hl0:0 < l.length
 case neg =>
  have hl0':¬ (0:Int) < (l.length:Int):=by omega
  repeat' ((first|refine pC ?_|refine pQC ?_|refine pU ?_|refine pif ?_ ?_<;>intro h<;>try exact pN h)<;>push_cast [O,U,hl0'])
  have htM:=List.take_of_length_le (l:=(l).map Mod.d) (i:=(l).length) (by simp)
  have hMf:∀ m ∈ l,ModFit m:=hlf
  have hMl:(l).length≤9223372036854775807:=(by omega)
  refine pl_weak (weak_frz 1 (by omega)) ?_
  push_cast [O,U,htM]
  refine pl_of_pops ?_
  push_cast [O,U]
  repeat' ((first|refine pC ?_|refine pQC ?_|refine pU ?_|refine pif ?_ ?_<;>intro h<;>try exact pN h)<;>push_cast [O,U])
  (apply pwp_loop3 (α:=Nat) 15 [33,34,47,60,73] (fun i=>[(10,.c (.v (.int .i64 i)))]) (fun i=>[]) (fun i=>i≤2) (fun i=>2 - i) (0);(focus ((try push_cast [O,U]);rfl));(focus exact (Nat.zero_le _));(focus ((refine weak_fg ?_;try push_cast [O,U]);(try (rfl)))))
  intro i hi
  push_cast [O,U]
  have hi3:i=0∨i=1∨i=2:=by omega
  rcases hi3 with rfl|rfl|rfl
  ·push_cast [O,U]
   cases hb:newB (raw) with
   | true =>
    have k1:=knewT (l:=raw) hrl hrf hb
    have r1:=rnewT (l:=raw) hrl hrf hb
    repeat' ((first|refine plE [] k1 ?_ ?_;focus (push_cast [O,U];done)|refine plE [] r1 ?_ ?_;focus (push_cast [O,U];done)|(refine pl_ptrne rfl rfl rfl rfl (by kernel_rfl) (by simp [dstOk]) (pl_of_pops ?_))|refine pC ?_|refine pQC ?_|refine pU ?_|refine pif ?_ ?_<;>intro h<;>try exact pN h)<;>push_cast [O,U])
    exact ⟨1,by omega,by (refine weak_fg ?_;push_cast [O,U]),by omega⟩
   | false =>
    have k1:=knewF (l:=raw) hrl hrf hb
    have r1:=rnewF (l:=raw) hrl hrf hb
    repeat' ((first|refine plE [] k1 ?_ ?_;focus (push_cast [O,U];done)|refine plE [] r1 ?_ ?_;focus (push_cast [O,U];done)|(refine pl_nilne rfl rfl rfl rfl (by kernel_rfl) (by simp [dstOk]) (pl_of_pops ?_))|refine pC ?_|refine pQC ?_|refine pU ?_|refine pif ?_ ?_<;>intro h<;>try exact pN h)<;>push_cast [O,U])
    exact ⟨1,by omega,by (refine weak_fg ?_;push_cast [O,U]),by omega⟩
  ·push_cast [O,U]
   cases hb:newB (l) with
   | true =>
    have k1:=knewT (l:=l) hMl hMf hb
    have r1:=rnewT (l:=l) hMl hMf hb
    repeat' ((first|refine plE [] k1 ?_ ?_;focus (push_cast [O,U];done)|refine plE [] r1 ?_ ?_;focus (push_cast [O,U];done)|(refine pl_ptrne rfl rfl rfl rfl (by kernel_rfl) (by simp [dstOk]) (pl_of_pops ?_))|refine pC ?_|refine pQC ?_|refine pU ?_|refine pif ?_ ?_<;>intro h<;>try exact pN h)<;>push_cast [O,U])
    exact ⟨2,by omega,by (refine weak_fg ?_;push_cast [O,U]),by omega⟩
   | false =>
    have k1:=knewF (l:=l) hMl hMf hb
    have r1:=rnewF (l:=l) hMl hMf hb
    repeat' ((first|refine plE [] k1 ?_ ?_;focus (push_cast [O,U];done)|refine plE [] r1 ?_ ?_;focus (push_cast [O,U];done)|(refine pl_nilne rfl rfl rfl rfl (by kernel_rfl) (by simp [dstOk]) (pl_of_pops ?_))|refine pC ?_|refine pQC ?_|refine pU ?_|refine pif ?_ ?_<;>intro h<;>try exact pN h)<;>push_cast [O,U])
    exact ⟨2,by omega,by (refine weak_fg ?_;push_cast [O,U]),by omega⟩
  ·push_cast [O,U]
   repeat' ((first|refine plE [] hkn ?_ ?_|refine pC ?_|refine pQC ?_|refine pU ?_|refine pif ?_ ?_<;>intro h<;>try exact pN h)<;>push_cast [O,U])
   (refine retK_of [] ?_;push_cast [O,U])
 have hl0':(0:Int) < (l.length:Int):=by omega
 have n1:=nex 8 (by decide) l.length hl0' (by omega)
 have n2:=nex 9 (by decide) 6 (by decide) (by decide)
 repeat' ((first|refine pC ?_|refine pQC ?_|refine pU ?_|refine pif ?_ ?_<;>intro h<;>try exact pN h)<;>push_cast [O,U,hl0'])
 (refine plc [0] (n1) ?_ ?_;push_cast [O,U];rintro r os ⟨v,⟨va,vb⟩,rfl,rfl⟩;push_cast [O,U])
 obtain ⟨g,rfl⟩:∃ g:Nat,v=(g:Int):=⟨v.toNat,by omega⟩
 have hgl:g < l.length:=by omega
 have hgm:l.getD g default ∈ l:=by rw [getD_lt _ hgl];exact List.getElem_mem _
 have hw:=hS.w (l.getD g default) hgm
 have hwf:=hw.fit
 obtain ⟨f1,f2,f3,f4⟩:=hw.few
 have h0m:(l.getD 0 default).name.size≤9223372036854775807:=(hlf (l.getD 0 default) (by rw [getD_lt _ hl0];exact List.getElem_mem _)).name
 (refine plc [0] (n2) ?_ ?_;push_cast [O,U];rintro r os ⟨v,⟨va2,vb2⟩,rfl,rfl⟩;push_cast [O,U])
 refine pif (fun h0=>?_) (fun h0=>?_)
 ·push_cast [O,U]
  have o1:=one_ex L 10 [⟨#[]⟩,⟨#[97,32,98]⟩,(l.getD 0 default).name] (by decide) (by simp) (by simp) hL hl
  (refine plc [0] (o1) ?_ ?_;push_cast [O,U];rintro r os ⟨s,hsm,rfl,rfl⟩;push_cast [O,U])
  have hsf:Fit s:=by
   simp only [List.mem_cons,List.not_mem_nil,or_false] at hsm
   rcases hsm with rfl|rfl|rfl
   ·decide
   ·decide
   ·exact h0m
  obtain ⟨M,hM⟩:∃ M,l.set g ⟨s,(l.getD g default).aliases,(l.getD g default).needs,(l.getD g default).pre,(l.getD g default).post,(l.getD g default).fails⟩=M:=⟨_,rfl⟩
  have hML:M.length=l.length:=by rw [← hM,List.length_set]
  have hMf:∀ m ∈ M,ModFit m:=by rw [← hM];exact fit_set hlf (show ModFit ⟨s,(l.getD g default).aliases,(l.getD g default).needs,(l.getD g default).pre,(l.getD g default).post,(l.getD g default).fails⟩ from ⟨hsf,hwf.als,hwf.ne,hwf.pr,hwf.po,hwf.l1,hwf.l2,hwf.l3,hwf.l4⟩)
  have hrow:(List.map Mod.d l).set g [D.v (Value.string s),D.sl 1 (List.map strD (l.getD g default).aliases),D.sl 1 (List.map strD (l.getD g default).needs),D.sl 1 (List.map strD (l.getD g default).pre),D.sl 1 (List.map strD (l.getD g default).post),D.v (Value.bool (l.getD g default).fails)]=M.map Mod.d:=by rw [← hM,List.map_set];rfl
  rw [hrow]
  have htM:=List.take_of_length_le (l:=M.map Mod.d) (i:=l.length) (by simp [hML])
  have hMl:(M).length≤9223372036854775807:=(by omega)
  refine pl_weak (weak_frz 1 (by omega)) ?_
  push_cast [O,U,htM]
  refine pl_of_pops ?_
  push_cast [O,U]
  repeat' ((first|refine pC ?_|refine pQC ?_|refine pU ?_|refine pif ?_ ?_<;>intro h<;>try exact pN h)<;>push_cast [O,U])
  (apply pwp_loop3 (α:=Nat) 15 [33,34,47,60,73] (fun i=>[(10,.c (.v (.int .i64 i)))]) (fun i=>[]) (fun i=>i≤2) (fun i=>2 - i) (0);(focus ((try push_cast [O,U]);rfl));(focus exact (Nat.zero_le _));(focus ((refine weak_fg ?_;try push_cast [O,U]);(try (rfl)))))
  intro i hi
  push_cast [O,U]
  have hi3:i=0∨i=1∨i=2:=by omega
  rcases hi3 with rfl|rfl|rfl
  ·push_cast [O,U]
   cases hb:newB (raw) with
   | true =>
    have k1:=knewT (l:=raw) hrl hrf hb
    have r1:=rnewT (l:=raw) hrl hrf hb
    repeat' ((first|refine plE [] k1 ?_ ?_;focus (push_cast [O,U];done)|refine plE [] r1 ?_ ?_;focus (push_cast [O,U];done)|(refine pl_ptrne rfl rfl rfl rfl (by kernel_rfl) (by simp [dstOk]) (pl_of_pops ?_))|refine pC ?_|refine pQC ?_|refine pU ?_|refine pif ?_ ?_<;>intro h<;>try exact pN h)<;>push_cast [O,U])
    exact ⟨1,by omega,by (refine weak_fg ?_;push_cast [O,U]),by omega⟩
   | false =>
    have k1:=knewF (l:=raw) hrl hrf hb
    have r1:=rnewF (l:=raw) hrl hrf hb
    repeat' ((first|refine plE [] k1 ?_ ?_;focus (push_cast [O,U];done)|refine plE [] r1 ?_ ?_;focus (push_cast [O,U];done)|(refine pl_nilne rfl rfl rfl rfl (by kernel_rfl) (by simp [dstOk]) (pl_of_pops ?_))|refine pC ?_|refine pQC ?_|refine pU ?_|refine pif ?_ ?_<;>intro h<;>try exact pN h)<;>push_cast [O,U])
    exact ⟨1,by omega,by (refine weak_fg ?_;push_cast [O,U]),by omega⟩
  ·push_cast [O,U]
   cases hb:newB (M) with
   | true =>
    have k1:=knewT (l:=M) hMl hMf hb
    have r1:=rnewT (l:=M) hMl hMf hb
    repeat' ((first|refine plE [] k1 ?_ ?_;focus (push_cast [O,U];done)|refine plE [] r1 ?_ ?_;focus (push_cast [O,U];done)|(refine pl_ptrne rfl rfl rfl rfl (by kernel_rfl) (by simp [dstOk]) (pl_of_pops ?_))|refine pC ?_|refine pQC ?_|refine pU ?_|refine pif ?_ ?_<;>intro h<;>try exact pN h)<;>push_cast [O,U])
    exact ⟨2,by omega,by (refine weak_fg ?_;push_cast [O,U]),by omega⟩
   | false =>
    have k1:=knewF (l:=M) hMl hMf hb
    have r1:=rnewF (l:=M) hMl hMf hb
    repeat' ((first|refine plE [] k1 ?_ ?_;focus (push_cast [O,U];done)|refine plE [] r1 ?_ ?_;focus (push_cast [O,U];done)|(refine pl_nilne rfl rfl rfl rfl (by kernel_rfl) (by simp [dstOk]) (pl_of_pops ?_))|refine pC ?_|refine pQC ?_|refine pU ?_|refine pif ?_ ?_<;>intro h<;>try exact pN h)<;>push_cast [O,U])
    exact ⟨2,by omega,by (refine weak_fg ?_;push_cast [O,U]),by omega⟩
  ·push_cast [O,U]
   repeat' ((first|refine plE [] hkn ?_ ?_|refine pC ?_|refine pQC ?_|refine pU ?_|refine pif ?_ ?_<;>intro h<;>try exact pN h)<;>push_cast [O,U])
   (refine retK_of [] ?_;push_cast [O,U])
 push_cast [O,U]
 refine pif (fun h1=>?_) (fun h1=>?_)
 ·by_cases hz:0 < (l.getD g default).aliases.length
  ·have tk:List.take (1+(l.getD g default).aliases.length) ([D.v (Value.string ⟨#[91,120]⟩)] :: List.map strD (l.getD g default).aliases)=List.map strD (⟨#[91,120]⟩ :: (l.getD g default).aliases):=by rw [List.take_of_length_le (by simp;omega)];rfl
   push_cast [O,U,hz]
   refine pl_weak (weak_frz 2 (by omega)) ?_
   push_cast [O,U]
   refine pl_of_pops ?_
   push_cast [O,U]
   rw [tk]
   obtain ⟨M,hM⟩:∃ M,l.set g ⟨(l.getD g default).name,⟨#[91,120]⟩ :: (l.getD g default).aliases,(l.getD g default).needs,(l.getD g default).pre,(l.getD g default).post,(l.getD g default).fails⟩=M:=⟨_,rfl⟩
   have hML:M.length=l.length:=by rw [← hM,List.length_set]
   have hMf:∀ m ∈ M,ModFit m:=by rw [← hM];exact fit_set hlf (show ModFit ⟨(l.getD g default).name,⟨#[91,120]⟩ :: (l.getD g default).aliases,(l.getD g default).needs,(l.getD g default).pre,(l.getD g default).post,(l.getD g default).fails⟩ from ⟨hwf.name,(fun x hx=>(List.mem_cons.1 hx).elim (fun e=>e ▸ (by decide)) (hwf.als x)),hwf.ne,hwf.pr,hwf.po,(by simp only [List.length_cons];omega),hwf.l2,hwf.l3,hwf.l4⟩)
   have hrow:(List.map Mod.d l).set g [D.v (Value.string (l.getD g default).name),D.sl 1 (List.map strD (⟨#[91,120]⟩ :: (l.getD g default).aliases)),D.sl 1 (List.map strD (l.getD g default).needs),D.sl 1 (List.map strD (l.getD g default).pre),D.sl 1 (List.map strD (l.getD g default).post),D.v (Value.bool (l.getD g default).fails)]=M.map Mod.d:=by rw [← hM,List.map_set];rfl
   rw [hrow]
   have htM:=List.take_of_length_le (l:=M.map Mod.d) (i:=l.length) (by simp [hML])
   have hMl:(M).length≤9223372036854775807:=(by omega)
   refine pl_weak (weak_frz 1 (by omega)) ?_
   push_cast [O,U,htM]
   refine pl_of_pops ?_
   push_cast [O,U]
   repeat' ((first|refine pC ?_|refine pQC ?_|refine pU ?_|refine pif ?_ ?_<;>intro h<;>try exact pN h)<;>push_cast [O,U])
   (apply pwp_loop3 (α:=Nat) 15 [33,34,47,60,73] (fun i=>[(10,.c (.v (.int .i64 i)))]) (fun i=>[]) (fun i=>i≤2) (fun i=>2 - i) (0);(focus ((try push_cast [O,U]);rfl));(focus exact (Nat.zero_le _));(focus ((refine weak_fg ?_;try push_cast [O,U]);(try (rfl)))))
   intro i hi
   push_cast [O,U]
   have hi3:i=0∨i=1∨i=2:=by omega
   rcases hi3 with rfl|rfl|rfl
   ·push_cast [O,U]
    cases hb:newB (raw) with
    | true =>
     have k1:=knewT (l:=raw) hrl hrf hb
     have r1:=rnewT (l:=raw) hrl hrf hb
     repeat' ((first|refine plE [] k1 ?_ ?_;focus (push_cast [O,U];done)|refine plE [] r1 ?_ ?_;focus (push_cast [O,U];done)|(refine pl_ptrne rfl rfl rfl rfl (by kernel_rfl) (by simp [dstOk]) (pl_of_pops ?_))|refine pC ?_|refine pQC ?_|refine pU ?_|refine pif ?_ ?_<;>intro h<;>try exact pN h)<;>push_cast [O,U])
     exact ⟨1,by omega,by (refine weak_fg ?_;push_cast [O,U]),by omega⟩
    | false =>
     have k1:=knewF (l:=raw) hrl hrf hb
     have r1:=rnewF (l:=raw) hrl hrf hb
     repeat' ((first|refine plE [] k1 ?_ ?_;focus (push_cast [O,U];done)|refine plE [] r1 ?_ ?_;focus (push_cast [O,U];done)|(refine pl_nilne rfl rfl rfl rfl (by kernel_rfl) (by simp [dstOk]) (pl_of_pops ?_))|refine pC ?_|refine pQC ?_|refine pU ?_|refine pif ?_ ?_<;>intro h<;>try exact pN h)<;>push_cast [O,U])
     exact ⟨1,by omega,by (refine weak_fg ?_;push_cast [O,U]),by omega⟩
   ·push_cast [O,U]
    cases hb:newB (M) with
    | true =>
     have k1:=knewT (l:=M) hMl hMf hb
     have r1:=rnewT (l:=M) hMl hMf hb
     repeat' ((first|refine plE [] k1 ?_ ?_;focus (push_cast [O,U];done)|refine plE [] r1 ?_ ?_;focus (push_cast [O,U];done)|(refine pl_ptrne rfl rfl rfl rfl (by kernel_rfl) (by simp [dstOk]) (pl_of_pops ?_))|refine pC ?_|refine pQC ?_|refine pU ?_|refine pif ?_ ?_<;>intro h<;>try exact pN h)<;>push_cast [O,U])
     exact ⟨2,by omega,by (refine weak_fg ?_;push_cast [O,U]),by omega⟩
    | false =>
     have k1:=knewF (l:=M) hMl hMf hb
     have r1:=rnewF (l:=M) hMl hMf hb
     repeat' ((first|refine plE [] k1 ?_ ?_;focus (push_cast [O,U];done)|refine plE [] r1 ?_ ?_;focus (push_cast [O,U];done)|(refine pl_nilne rfl rfl rfl rfl (by kernel_rfl) (by simp [dstOk]) (pl_of_pops ?_))|refine pC ?_|refine pQC ?_|refine pU ?_|refine pif ?_ ?_<;>intro h<;>try exact pN h)<;>push_cast [O,U])
     exact ⟨2,by omega,by (refine weak_fg ?_;push_cast [O,U]),by omega⟩
   ·push_cast [O,U]
    repeat' ((first|refine plE [] hkn ?_ ?_|refine pC ?_|refine pQC ?_|refine pU ?_|refine pif ?_ ?_<;>intro h<;>try exact pN h)<;>push_cast [O,U])
    (refine retK_of [] ?_;push_cast [O,U])
  ·have hz0:(l.getD g default).aliases=[]:=List.eq_nil_of_length_eq_zero (by omega)
   have hz1:List.map strD (l.getD g default).aliases=[]:=by rw [hz0];rfl
   push_cast [O,U,hz]
   rw [hz1]
   refine pl_weak (weak_rows 51 (List.map strD [⟨#[91,120]⟩]) rfl (by simp [strD,leRows,leDs,leD,isEmp])) ?_
   push_cast [O,U]
   refine pl_appnilS (e:=9) (sz:=1) (by':=16) (l:=List.map strD [⟨#[91,120]⟩]) rfl (by push_cast [O,U]) (by push_cast [O,U]) (by push_cast [O,U]) (by push_cast [O,U]) (by push_cast [O,U]) (by decide) (by push_cast [O,U]) (by simp [dstOk]) ?_
   push_cast [O,U]
   refine pl_of_pops ?_
   push_cast [O,U]
   obtain ⟨M,hM⟩:∃ M,l.set g ⟨(l.getD g default).name,⟨#[91,120]⟩ :: (l.getD g default).aliases,(l.getD g default).needs,(l.getD g default).pre,(l.getD g default).post,(l.getD g default).fails⟩=M:=⟨_,rfl⟩
   have hML:M.length=l.length:=by rw [← hM,List.length_set]
   have hMf:∀ m ∈ M,ModFit m:=by rw [← hM];exact fit_set hlf (show ModFit ⟨(l.getD g default).name,⟨#[91,120]⟩ :: (l.getD g default).aliases,(l.getD g default).needs,(l.getD g default).pre,(l.getD g default).post,(l.getD g default).fails⟩ from ⟨hwf.name,(fun x hx=>(List.mem_cons.1 hx).elim (fun e=>e ▸ (by decide)) (hwf.als x)),hwf.ne,hwf.pr,hwf.po,(by simp only [List.length_cons];omega),hwf.l2,hwf.l3,hwf.l4⟩)
   have hrow:(List.map Mod.d l).set g [D.v (Value.string (l.getD g default).name),D.sl 1 [[D.v (Value.string ⟨#[91,120]⟩)]],D.sl 1 (List.map strD (l.getD g default).needs),D.sl 1 (List.map strD (l.getD g default).pre),D.sl 1 (List.map strD (l.getD g default).post),D.v (Value.bool (l.getD g default).fails)]=M.map Mod.d:=by rw [← hM,List.map_set];simp only [Mod.d,hz0,List.map_cons,List.map_nil,strD]
   rw [hrow]
   have htM:=List.take_of_length_le (l:=M.map Mod.d) (i:=l.length) (by simp [hML])
   have hMl:(M).length≤9223372036854775807:=(by omega)
   refine pl_weak (weak_frz 1 (by omega)) ?_
   push_cast [O,U,htM]
   refine pl_of_pops ?_
   push_cast [O,U]
   repeat' ((first|refine pC ?_|refine pQC ?_|refine pU ?_|refine pif ?_ ?_<;>intro h<;>try exact pN h)<;>push_cast [O,U])
   (apply pwp_loop3 (α:=Nat) 15 [33,34,47,60,73] (fun i=>[(10,.c (.v (.int .i64 i)))]) (fun i=>[]) (fun i=>i≤2) (fun i=>2 - i) (0);(focus ((try push_cast [O,U]);rfl));(focus exact (Nat.zero_le _));(focus ((refine weak_fg ?_;try push_cast [O,U]);(try (rfl)))))
   intro i hi
   push_cast [O,U]
   have hi3:i=0∨i=1∨i=2:=by omega
   rcases hi3 with rfl|rfl|rfl
   ·push_cast [O,U]
    cases hb:newB (raw) with
    | true =>
     have k1:=knewT (l:=raw) hrl hrf hb
     have r1:=rnewT (l:=raw) hrl hrf hb
     repeat' ((first|refine plE [] k1 ?_ ?_;focus (push_cast [O,U];done)|refine plE [] r1 ?_ ?_;focus (push_cast [O,U];done)|(refine pl_ptrne rfl rfl rfl rfl (by kernel_rfl) (by simp [dstOk]) (pl_of_pops ?_))|refine pC ?_|refine pQC ?_|refine pU ?_|refine pif ?_ ?_<;>intro h<;>try exact pN h)<;>push_cast [O,U])
     exact ⟨1,by omega,by (refine weak_fg ?_;push_cast [O,U]),by omega⟩
    | false =>
     have k1:=knewF (l:=raw) hrl hrf hb
     have r1:=rnewF (l:=raw) hrl hrf hb
     repeat' ((first|refine plE [] k1 ?_ ?_;focus (push_cast [O,U];done)|refine plE [] r1 ?_ ?_;focus (push_cast [O,U];done)|(refine pl_nilne rfl rfl rfl rfl (by kernel_rfl) (by simp [dstOk]) (pl_of_pops ?_))|refine pC ?_|refine pQC ?_|refine pU ?_|refine pif ?_ ?_<;>intro h<;>try exact pN h)<;>push_cast [O,U])
     exact ⟨1,by omega,by (refine weak_fg ?_;push_cast [O,U]),by omega⟩
   ·push_cast [O,U]
    cases hb:newB (M) with
    | true =>
     have k1:=knewT (l:=M) hMl hMf hb
     have r1:=rnewT (l:=M) hMl hMf hb
     repeat' ((first|refine plE [] k1 ?_ ?_;focus (push_cast [O,U];done)|refine plE [] r1 ?_ ?_;focus (push_cast [O,U];done)|(refine pl_ptrne rfl rfl rfl rfl (by kernel_rfl) (by simp [dstOk]) (pl_of_pops ?_))|refine pC ?_|refine pQC ?_|refine pU ?_|refine pif ?_ ?_<;>intro h<;>try exact pN h)<;>push_cast [O,U])
     exact ⟨2,by omega,by (refine weak_fg ?_;push_cast [O,U]),by omega⟩
    | false =>
     have k1:=knewF (l:=M) hMl hMf hb
     have r1:=rnewF (l:=M) hMl hMf hb
     repeat' ((first|refine plE [] k1 ?_ ?_;focus (push_cast [O,U];done)|refine plE [] r1 ?_ ?_;focus (push_cast [O,U];done)|(refine pl_nilne rfl rfl rfl rfl (by kernel_rfl) (by simp [dstOk]) (pl_of_pops ?_))|refine pC ?_|refine pQC ?_|refine pU ?_|refine pif ?_ ?_<;>intro h<;>try exact pN h)<;>push_cast [O,U])
     exact ⟨2,by omega,by (refine weak_fg ?_;push_cast [O,U]),by omega⟩
   ·push_cast [O,U]
    repeat' ((first|refine plE [] hkn ?_ ?_|refine pC ?_|refine pQC ?_|refine pU ?_|refine pif ?_ ?_<;>intro h<;>try exact pN h)<;>push_cast [O,U])
    (refine retK_of [] ?_;push_cast [O,U])
 push_cast [O,U]
 refine pif (fun h2=>?_) (fun h2=>?_)
 ·by_cases hz:0 < (l.getD g default).needs.length
  ·have tk:List.take (1+(l.getD g default).needs.length) ([D.v (Value.string ⟨#[97,47,98]⟩)] :: List.map strD (l.getD g default).needs)=List.map strD (⟨#[97,47,98]⟩ :: (l.getD g default).needs):=by rw [List.take_of_length_le (by simp;omega)];rfl
   push_cast [O,U,hz]
   refine pl_weak (weak_frz 2 (by omega)) ?_
   push_cast [O,U]
   refine pl_of_pops ?_
   push_cast [O,U]
   rw [tk]
   obtain ⟨M,hM⟩:∃ M,l.set g ⟨(l.getD g default).name,(l.getD g default).aliases,⟨#[97,47,98]⟩ :: (l.getD g default).needs,(l.getD g default).pre,(l.getD g default).post,(l.getD g default).fails⟩=M:=⟨_,rfl⟩
   have hML:M.length=l.length:=by rw [← hM,List.length_set]
   have hMf:∀ m ∈ M,ModFit m:=by rw [← hM];exact fit_set hlf (show ModFit ⟨(l.getD g default).name,(l.getD g default).aliases,⟨#[97,47,98]⟩ :: (l.getD g default).needs,(l.getD g default).pre,(l.getD g default).post,(l.getD g default).fails⟩ from ⟨hwf.name,hwf.als,(fun x hx=>(List.mem_cons.1 hx).elim (fun e=>e ▸ (by decide)) (hwf.ne x)),hwf.pr,hwf.po,hwf.l1,(by simp only [List.length_cons];omega),hwf.l3,hwf.l4⟩)
   have hrow:(List.map Mod.d l).set g [D.v (Value.string (l.getD g default).name),D.sl 1 (List.map strD (l.getD g default).aliases),D.sl 1 (List.map strD (⟨#[97,47,98]⟩ :: (l.getD g default).needs)),D.sl 1 (List.map strD (l.getD g default).pre),D.sl 1 (List.map strD (l.getD g default).post),D.v (Value.bool (l.getD g default).fails)]=M.map Mod.d:=by rw [← hM,List.map_set];rfl
   rw [hrow]
   have htM:=List.take_of_length_le (l:=M.map Mod.d) (i:=l.length) (by simp [hML])
   have hMl:(M).length≤9223372036854775807:=(by omega)
   refine pl_weak (weak_frz 1 (by omega)) ?_
   push_cast [O,U,htM]
   refine pl_of_pops ?_
   push_cast [O,U]
   repeat' ((first|refine pC ?_|refine pQC ?_|refine pU ?_|refine pif ?_ ?_<;>intro h<;>try exact pN h)<;>push_cast [O,U])
   (apply pwp_loop3 (α:=Nat) 15 [33,34,47,60,73] (fun i=>[(10,.c (.v (.int .i64 i)))]) (fun i=>[]) (fun i=>i≤2) (fun i=>2 - i) (0);(focus ((try push_cast [O,U]);rfl));(focus exact (Nat.zero_le _));(focus ((refine weak_fg ?_;try push_cast [O,U]);(try (rfl)))))
   intro i hi
   push_cast [O,U]
   have hi3:i=0∨i=1∨i=2:=by omega
   rcases hi3 with rfl|rfl|rfl
   ·push_cast [O,U]
    cases hb:newB (raw) with
    | true =>
     have k1:=knewT (l:=raw) hrl hrf hb
     have r1:=rnewT (l:=raw) hrl hrf hb
     repeat' ((first|refine plE [] k1 ?_ ?_;focus (push_cast [O,U];done)|refine plE [] r1 ?_ ?_;focus (push_cast [O,U];done)|(refine pl_ptrne rfl rfl rfl rfl (by kernel_rfl) (by simp [dstOk]) (pl_of_pops ?_))|refine pC ?_|refine pQC ?_|refine pU ?_|refine pif ?_ ?_<;>intro h<;>try exact pN h)<;>push_cast [O,U])
     exact ⟨1,by omega,by (refine weak_fg ?_;push_cast [O,U]),by omega⟩
    | false =>
     have k1:=knewF (l:=raw) hrl hrf hb
     have r1:=rnewF (l:=raw) hrl hrf hb
     repeat' ((first|refine plE [] k1 ?_ ?_;focus (push_cast [O,U];done)|refine plE [] r1 ?_ ?_;focus (push_cast [O,U];done)|(refine pl_nilne rfl rfl rfl rfl (by kernel_rfl) (by simp [dstOk]) (pl_of_pops ?_))|refine pC ?_|refine pQC ?_|refine pU ?_|refine pif ?_ ?_<;>intro h<;>try exact pN h)<;>push_cast [O,U])
     exact ⟨1,by omega,by (refine weak_fg ?_;push_cast [O,U]),by omega⟩
   ·push_cast [O,U]
    cases hb:newB (M) with
    | true =>
     have k1:=knewT (l:=M) hMl hMf hb
     have r1:=rnewT (l:=M) hMl hMf hb
     repeat' ((first|refine plE [] k1 ?_ ?_;focus (push_cast [O,U];done)|refine plE [] r1 ?_ ?_;focus (push_cast [O,U];done)|(refine pl_ptrne rfl rfl rfl rfl (by kernel_rfl) (by simp [dstOk]) (pl_of_pops ?_))|refine pC ?_|refine pQC ?_|refine pU ?_|refine pif ?_ ?_<;>intro h<;>try exact pN h)<;>push_cast [O,U])
     exact ⟨2,by omega,by (refine weak_fg ?_;push_cast [O,U]),by omega⟩
    | false =>
     have k1:=knewF (l:=M) hMl hMf hb
     have r1:=rnewF (l:=M) hMl hMf hb
     repeat' ((first|refine plE [] k1 ?_ ?_;focus (push_cast [O,U];done)|refine plE [] r1 ?_ ?_;focus (push_cast [O,U];done)|(refine pl_nilne rfl rfl rfl rfl (by kernel_rfl) (by simp [dstOk]) (pl_of_pops ?_))|refine pC ?_|refine pQC ?_|refine pU ?_|refine pif ?_ ?_<;>intro h<;>try exact pN h)<;>push_cast [O,U])
     exact ⟨2,by omega,by (refine weak_fg ?_;push_cast [O,U]),by omega⟩
   ·push_cast [O,U]
    repeat' ((first|refine plE [] hkn ?_ ?_|refine pC ?_|refine pQC ?_|refine pU ?_|refine pif ?_ ?_<;>intro h<;>try exact pN h)<;>push_cast [O,U])
    (refine retK_of [] ?_;push_cast [O,U])
  ·have hz0:(l.getD g default).needs=[]:=List.eq_nil_of_length_eq_zero (by omega)
   have hz1:List.map strD (l.getD g default).needs=[]:=by rw [hz0];rfl
   push_cast [O,U,hz]
   rw [hz1]
   refine pl_weak (weak_rows 64 (List.map strD [⟨#[97,47,98]⟩]) rfl (by simp [strD,leRows,leDs,leD,isEmp])) ?_
   push_cast [O,U]
   refine pl_appnilS (e:=9) (sz:=1) (by':=16) (l:=List.map strD [⟨#[97,47,98]⟩]) rfl (by push_cast [O,U]) (by push_cast [O,U]) (by push_cast [O,U]) (by push_cast [O,U]) (by push_cast [O,U]) (by decide) (by push_cast [O,U]) (by simp [dstOk]) ?_
   push_cast [O,U]
   refine pl_of_pops ?_
   push_cast [O,U]
   obtain ⟨M,hM⟩:∃ M,l.set g ⟨(l.getD g default).name,(l.getD g default).aliases,⟨#[97,47,98]⟩ :: (l.getD g default).needs,(l.getD g default).pre,(l.getD g default).post,(l.getD g default).fails⟩=M:=⟨_,rfl⟩
   have hML:M.length=l.length:=by rw [← hM,List.length_set]
   have hMf:∀ m ∈ M,ModFit m:=by rw [← hM];exact fit_set hlf (show ModFit ⟨(l.getD g default).name,(l.getD g default).aliases,⟨#[97,47,98]⟩ :: (l.getD g default).needs,(l.getD g default).pre,(l.getD g default).post,(l.getD g default).fails⟩ from ⟨hwf.name,hwf.als,(fun x hx=>(List.mem_cons.1 hx).elim (fun e=>e ▸ (by decide)) (hwf.ne x)),hwf.pr,hwf.po,hwf.l1,(by simp only [List.length_cons];omega),hwf.l3,hwf.l4⟩)
   have hrow:(List.map Mod.d l).set g [D.v (Value.string (l.getD g default).name),D.sl 1 (List.map strD (l.getD g default).aliases),D.sl 1 [[D.v (Value.string ⟨#[97,47,98]⟩)]],D.sl 1 (List.map strD (l.getD g default).pre),D.sl 1 (List.map strD (l.getD g default).post),D.v (Value.bool (l.getD g default).fails)]=M.map Mod.d:=by rw [← hM,List.map_set];simp only [Mod.d,hz0,List.map_cons,List.map_nil,strD]
   rw [hrow]
   have htM:=List.take_of_length_le (l:=M.map Mod.d) (i:=l.length) (by simp [hML])
   have hMl:(M).length≤9223372036854775807:=(by omega)
   refine pl_weak (weak_frz 1 (by omega)) ?_
   push_cast [O,U,htM]
   refine pl_of_pops ?_
   push_cast [O,U]
   repeat' ((first|refine pC ?_|refine pQC ?_|refine pU ?_|refine pif ?_ ?_<;>intro h<;>try exact pN h)<;>push_cast [O,U])
   (apply pwp_loop3 (α:=Nat) 15 [33,34,47,60,73] (fun i=>[(10,.c (.v (.int .i64 i)))]) (fun i=>[]) (fun i=>i≤2) (fun i=>2 - i) (0);(focus ((try push_cast [O,U]);rfl));(focus exact (Nat.zero_le _));(focus ((refine weak_fg ?_;try push_cast [O,U]);(try (rfl)))))
   intro i hi
   push_cast [O,U]
   have hi3:i=0∨i=1∨i=2:=by omega
   rcases hi3 with rfl|rfl|rfl
   ·push_cast [O,U]
    cases hb:newB (raw) with
    | true =>
     have k1:=knewT (l:=raw) hrl hrf hb
     have r1:=rnewT (l:=raw) hrl hrf hb
     repeat' ((first|refine plE [] k1 ?_ ?_;focus (push_cast [O,U];done)|refine plE [] r1 ?_ ?_;focus (push_cast [O,U];done)|(refine pl_ptrne rfl rfl rfl rfl (by kernel_rfl) (by simp [dstOk]) (pl_of_pops ?_))|refine pC ?_|refine pQC ?_|refine pU ?_|refine pif ?_ ?_<;>intro h<;>try exact pN h)<;>push_cast [O,U])
     exact ⟨1,by omega,by (refine weak_fg ?_;push_cast [O,U]),by omega⟩
    | false =>
     have k1:=knewF (l:=raw) hrl hrf hb
     have r1:=rnewF (l:=raw) hrl hrf hb
     repeat' ((first|refine plE [] k1 ?_ ?_;focus (push_cast [O,U];done)|refine plE [] r1 ?_ ?_;focus (push_cast [O,U];done)|(refine pl_nilne rfl rfl rfl rfl (by kernel_rfl) (by simp [dstOk]) (pl_of_pops ?_))|refine pC ?_|refine pQC ?_|refine pU ?_|refine pif ?_ ?_<;>intro h<;>try exact pN h)<;>push_cast [O,U])
     exact ⟨1,by omega,by (refine weak_fg ?_;push_cast [O,U]),by omega⟩
   ·push_cast [O,U]
    cases hb:newB (M) with
    | true =>
     have k1:=knewT (l:=M) hMl hMf hb
     have r1:=rnewT (l:=M) hMl hMf hb
     repeat' ((first|refine plE [] k1 ?_ ?_;focus (push_cast [O,U];done)|refine plE [] r1 ?_ ?_;focus (push_cast [O,U];done)|(refine pl_ptrne rfl rfl rfl rfl (by kernel_rfl) (by simp [dstOk]) (pl_of_pops ?_))|refine pC ?_|refine pQC ?_|refine pU ?_|refine pif ?_ ?_<;>intro h<;>try exact pN h)<;>push_cast [O,U])
     exact ⟨2,by omega,by (refine weak_fg ?_;push_cast [O,U]),by omega⟩
    | false =>
     have k1:=knewF (l:=M) hMl hMf hb
     have r1:=rnewF (l:=M) hMl hMf hb
     repeat' ((first|refine plE [] k1 ?_ ?_;focus (push_cast [O,U];done)|refine plE [] r1 ?_ ?_;focus (push_cast [O,U];done)|(refine pl_nilne rfl rfl rfl rfl (by kernel_rfl) (by simp [dstOk]) (pl_of_pops ?_))|refine pC ?_|refine pQC ?_|refine pU ?_|refine pif ?_ ?_<;>intro h<;>try exact pN h)<;>push_cast [O,U])
     exact ⟨2,by omega,by (refine weak_fg ?_;push_cast [O,U]),by omega⟩
   ·push_cast [O,U]
    repeat' ((first|refine plE [] hkn ?_ ?_|refine pC ?_|refine pQC ?_|refine pU ?_|refine pif ?_ ?_<;>intro h<;>try exact pN h)<;>push_cast [O,U])
    (refine retK_of [] ?_;push_cast [O,U])
 push_cast [O,U]
 refine pif (fun h3=>?_) (fun h3=>?_)
 ·push_cast [O,U]
  have n3:=nex 10 (by decide) 3 (by decide) (by decide)
  (refine plc [0] (n3) ?_ ?_;push_cast [O,U];rintro r os ⟨z,⟨za,zb⟩,rfl,rfl⟩;push_cast [O,U])
  obtain ⟨z,rfl⟩:∃ z':Nat,z=(z':Int):=⟨z.toNat,by omega⟩
  have tk:List.map strD (l.getD g default).post++List.replicate z [D.v (Value.string ⟨#[]⟩)]=List.map strD ((l.getD g default).post++List.replicate z ⟨#[]⟩):=by
   rw [List.map_append,List.map_replicate]
   rfl
  refine pl_appz (e:=9) (sz:=1) (by':=16) (kq:=.i64) (kn:=.i64) (rows:=List.map strD (l.getD g default).post) 2 z [Value.string ⟨#[]⟩] rfl (by push_cast [O,U]) (by simp [dstOk]) (by push_cast [O,U]) (by kernel_rfl) (by push_cast [O,U]) (by decide) (by push_cast [O,U,List.map_cons,List.map_nil]) rfl (by push_cast [O,U]) (by push_cast [O,U]) (by push_cast [O,U]) (by rw [List.length_map];omega) (by rw [List.length_map];omega) ?_ ?_
  ·refine pl_weak (weak_frz 2 (by omega)) ?_
   push_cast [O,U]
   refine pl_of_pops ?_
   push_cast [O,U]
   rw [tk]
   obtain ⟨M,hM⟩:∃ M,l.set g ⟨(l.getD g default).name,(l.getD g default).aliases,(l.getD g default).needs,(l.getD g default).pre,(l.getD g default).post++List.replicate z ⟨#[]⟩,(l.getD g default).fails⟩=M:=⟨_,rfl⟩
   have hML:M.length=l.length:=by rw [← hM,List.length_set]
   have hMf:∀ m ∈ M,ModFit m:=by rw [← hM];exact fit_set hlf (show ModFit ⟨(l.getD g default).name,(l.getD g default).aliases,(l.getD g default).needs,(l.getD g default).pre,(l.getD g default).post++List.replicate z ⟨#[]⟩,(l.getD g default).fails⟩ from ⟨hwf.name,hwf.als,hwf.ne,hwf.pr,(fun x hx=>(List.mem_append.1 hx).elim (hwf.po x) (fun h=>List.eq_of_mem_replicate h ▸ (by decide))),hwf.l1,hwf.l2,hwf.l3,(by simp only [List.length_append,List.length_replicate];omega)⟩)
   have hrow:(List.map Mod.d l).set g [D.v (Value.string (l.getD g default).name),D.sl 1 (List.map strD (l.getD g default).aliases),D.sl 1 (List.map strD (l.getD g default).needs),D.sl 1 (List.map strD (l.getD g default).pre),D.sl 1 (List.map strD ((l.getD g default).post++List.replicate z ⟨#[]⟩)),D.v (Value.bool (l.getD g default).fails)]=M.map Mod.d:=by rw [← hM,List.map_set];rfl
   rw [hrow]
   have htM:=List.take_of_length_le (l:=M.map Mod.d) (i:=l.length) (by simp [hML])
   have hMl:(M).length≤9223372036854775807:=(by omega)
   refine pl_weak (weak_frz 1 (by omega)) ?_
   push_cast [O,U,htM]
   refine pl_of_pops ?_
   push_cast [O,U]
   repeat' ((first|refine pC ?_|refine pQC ?_|refine pU ?_|refine pif ?_ ?_<;>intro h<;>try exact pN h)<;>push_cast [O,U])
   (apply pwp_loop3 (α:=Nat) 15 [33,34,47,60,73] (fun i=>[(10,.c (.v (.int .i64 i)))]) (fun i=>[]) (fun i=>i≤2) (fun i=>2 - i) (0);(focus ((try push_cast [O,U]);rfl));(focus exact (Nat.zero_le _));(focus ((refine weak_fg ?_;try push_cast [O,U]);(try (rfl)))))
   intro i hi
   push_cast [O,U]
   have hi3:i=0∨i=1∨i=2:=by omega
   rcases hi3 with rfl|rfl|rfl
   ·push_cast [O,U]
    cases hb:newB (raw) with
    | true =>
     have k1:=knewT (l:=raw) hrl hrf hb
     have r1:=rnewT (l:=raw) hrl hrf hb
     repeat' ((first|refine plE [] k1 ?_ ?_;focus (push_cast [O,U];done)|refine plE [] r1 ?_ ?_;focus (push_cast [O,U];done)|(refine pl_ptrne rfl rfl rfl rfl (by kernel_rfl) (by simp [dstOk]) (pl_of_pops ?_))|refine pC ?_|refine pQC ?_|refine pU ?_|refine pif ?_ ?_<;>intro h<;>try exact pN h)<;>push_cast [O,U])
     exact ⟨1,by omega,by (refine weak_fg ?_;push_cast [O,U]),by omega⟩
    | false =>
     have k1:=knewF (l:=raw) hrl hrf hb
     have r1:=rnewF (l:=raw) hrl hrf hb
     repeat' ((first|refine plE [] k1 ?_ ?_;focus (push_cast [O,U];done)|refine plE [] r1 ?_ ?_;focus (push_cast [O,U];done)|(refine pl_nilne rfl rfl rfl rfl (by kernel_rfl) (by simp [dstOk]) (pl_of_pops ?_))|refine pC ?_|refine pQC ?_|refine pU ?_|refine pif ?_ ?_<;>intro h<;>try exact pN h)<;>push_cast [O,U])
     exact ⟨1,by omega,by (refine weak_fg ?_;push_cast [O,U]),by omega⟩
   ·push_cast [O,U]
    cases hb:newB (M) with
    | true =>
     have k1:=knewT (l:=M) hMl hMf hb
     have r1:=rnewT (l:=M) hMl hMf hb
     repeat' ((first|refine plE [] k1 ?_ ?_;focus (push_cast [O,U];done)|refine plE [] r1 ?_ ?_;focus (push_cast [O,U];done)|(refine pl_ptrne rfl rfl rfl rfl (by kernel_rfl) (by simp [dstOk]) (pl_of_pops ?_))|refine pC ?_|refine pQC ?_|refine pU ?_|refine pif ?_ ?_<;>intro h<;>try exact pN h)<;>push_cast [O,U])
     exact ⟨2,by omega,by (refine weak_fg ?_;push_cast [O,U]),by omega⟩
    | false =>
     have k1:=knewF (l:=M) hMl hMf hb
     have r1:=rnewF (l:=M) hMl hMf hb
     repeat' ((first|refine plE [] k1 ?_ ?_;focus (push_cast [O,U];done)|refine plE [] r1 ?_ ?_;focus (push_cast [O,U];done)|(refine pl_nilne rfl rfl rfl rfl (by kernel_rfl) (by simp [dstOk]) (pl_of_pops ?_))|refine pC ?_|refine pQC ?_|refine pU ?_|refine pif ?_ ?_<;>intro h<;>try exact pN h)<;>push_cast [O,U])
     exact ⟨2,by omega,by (refine weak_fg ?_;push_cast [O,U]),by omega⟩
   ·push_cast [O,U]
    repeat' ((first|refine plE [] hkn ?_ ?_|refine pC ?_|refine pQC ?_|refine pU ?_|refine pif ?_ ?_<;>intro h<;>try exact pN h)<;>push_cast [O,U])
    (refine retK_of [] ?_;push_cast [O,U])
  ·refine pl_weak (weak_frz 3 (by omega)) ?_
   push_cast [O,U]
   refine pl_of_pops ?_
   push_cast [O,U]
   rw [tk]
   obtain ⟨M,hM⟩:∃ M,l.set g ⟨(l.getD g default).name,(l.getD g default).aliases,(l.getD g default).needs,(l.getD g default).pre,(l.getD g default).post++List.replicate z ⟨#[]⟩,(l.getD g default).fails⟩=M:=⟨_,rfl⟩
   have hML:M.length=l.length:=by rw [← hM,List.length_set]
   have hMf:∀ m ∈ M,ModFit m:=by rw [← hM];exact fit_set hlf (show ModFit ⟨(l.getD g default).name,(l.getD g default).aliases,(l.getD g default).needs,(l.getD g default).pre,(l.getD g default).post++List.replicate z ⟨#[]⟩,(l.getD g default).fails⟩ from ⟨hwf.name,hwf.als,hwf.ne,hwf.pr,(fun x hx=>(List.mem_append.1 hx).elim (hwf.po x) (fun h=>List.eq_of_mem_replicate h ▸ (by decide))),hwf.l1,hwf.l2,hwf.l3,(by simp only [List.length_append,List.length_replicate];omega)⟩)
   have hrow:(List.map Mod.d l).set g [D.v (Value.string (l.getD g default).name),D.sl 1 (List.map strD (l.getD g default).aliases),D.sl 1 (List.map strD (l.getD g default).needs),D.sl 1 (List.map strD (l.getD g default).pre),D.sl 1 (List.map strD ((l.getD g default).post++List.replicate z ⟨#[]⟩)),D.v (Value.bool (l.getD g default).fails)]=M.map Mod.d:=by rw [← hM,List.map_set];rfl
   rw [hrow]
   have htM:=List.take_of_length_le (l:=M.map Mod.d) (i:=l.length) (by simp [hML])
   have hMl:(M).length≤9223372036854775807:=(by omega)
   refine pl_weak (weak_frz 1 (by omega)) ?_
   push_cast [O,U,htM]
   refine pl_of_pops ?_
   push_cast [O,U]
   repeat' ((first|refine pC ?_|refine pQC ?_|refine pU ?_|refine pif ?_ ?_<;>intro h<;>try exact pN h)<;>push_cast [O,U])
   (apply pwp_loop3 (α:=Nat) 15 [33,34,47,60,73] (fun i=>[(10,.c (.v (.int .i64 i)))]) (fun i=>[]) (fun i=>i≤2) (fun i=>2 - i) (0);(focus ((try push_cast [O,U]);rfl));(focus exact (Nat.zero_le _));(focus ((refine weak_fg ?_;try push_cast [O,U]);(try (rfl)))))
   intro i hi
   push_cast [O,U]
   have hi3:i=0∨i=1∨i=2:=by omega
   rcases hi3 with rfl|rfl|rfl
   ·push_cast [O,U]
    cases hb:newB (raw) with
    | true =>
     have k1:=knewT (l:=raw) hrl hrf hb
     have r1:=rnewT (l:=raw) hrl hrf hb
     repeat' ((first|refine plE [] k1 ?_ ?_;focus (push_cast [O,U];done)|refine plE [] r1 ?_ ?_;focus (push_cast [O,U];done)|(refine pl_ptrne rfl rfl rfl rfl (by kernel_rfl) (by simp [dstOk]) (pl_of_pops ?_))|refine pC ?_|refine pQC ?_|refine pU ?_|refine pif ?_ ?_<;>intro h<;>try exact pN h)<;>push_cast [O,U])
     exact ⟨1,by omega,by (refine weak_fg ?_;push_cast [O,U]),by omega⟩
    | false =>
     have k1:=knewF (l:=raw) hrl hrf hb
     have r1:=rnewF (l:=raw) hrl hrf hb
     repeat' ((first|refine plE [] k1 ?_ ?_;focus (push_cast [O,U];done)|refine plE [] r1 ?_ ?_;focus (push_cast [O,U];done)|(refine pl_nilne rfl rfl rfl rfl (by kernel_rfl) (by simp [dstOk]) (pl_of_pops ?_))|refine pC ?_|refine pQC ?_|refine pU ?_|refine pif ?_ ?_<;>intro h<;>try exact pN h)<;>push_cast [O,U])
     exact ⟨1,by omega,by (refine weak_fg ?_;push_cast [O,U]),by omega⟩
   ·push_cast [O,U]
    cases hb:newB (M) with
    | true =>
     have k1:=knewT (l:=M) hMl hMf hb
     have r1:=rnewT (l:=M) hMl hMf hb
     repeat' ((first|refine plE [] k1 ?_ ?_;focus (push_cast [O,U];done)|refine plE [] r1 ?_ ?_;focus (push_cast [O,U];done)|(refine pl_ptrne rfl rfl rfl rfl (by kernel_rfl) (by simp [dstOk]) (pl_of_pops ?_))|refine pC ?_|refine pQC ?_|refine pU ?_|refine pif ?_ ?_<;>intro h<;>try exact pN h)<;>push_cast [O,U])
     exact ⟨2,by omega,by (refine weak_fg ?_;push_cast [O,U]),by omega⟩
    | false =>
     have k1:=knewF (l:=M) hMl hMf hb
     have r1:=rnewF (l:=M) hMl hMf hb
     repeat' ((first|refine plE [] k1 ?_ ?_;focus (push_cast [O,U];done)|refine plE [] r1 ?_ ?_;focus (push_cast [O,U];done)|(refine pl_nilne rfl rfl rfl rfl (by kernel_rfl) (by simp [dstOk]) (pl_of_pops ?_))|refine pC ?_|refine pQC ?_|refine pU ?_|refine pif ?_ ?_<;>intro h<;>try exact pN h)<;>push_cast [O,U])
     exact ⟨2,by omega,by (refine weak_fg ?_;push_cast [O,U]),by omega⟩
   ·push_cast [O,U]
    repeat' ((first|refine plE [] hkn ?_ ?_|refine pC ?_|refine pQC ?_|refine pU ?_|refine pif ?_ ?_<;>intro h<;>try exact pN h)<;>push_cast [O,U])
    (refine retK_of [] ?_;push_cast [O,U])
 ·push_cast [O,U]
  have htM:=List.take_of_length_le (l:=(l).map Mod.d) (i:=(l).length) (by simp)
  have hMf:∀ m ∈ l,ModFit m:=hlf
  have hMl:(l).length≤9223372036854775807:=(by omega)
  refine pl_weak (weak_frz 1 (by omega)) ?_
  push_cast [O,U,htM]
  refine pl_of_pops ?_
  push_cast [O,U]
  repeat' ((first|refine pC ?_|refine pQC ?_|refine pU ?_|refine pif ?_ ?_<;>intro h<;>try exact pN h)<;>push_cast [O,U])
  (apply pwp_loop3 (α:=Nat) 15 [33,34,47,60,73] (fun i=>[(10,.c (.v (.int .i64 i)))]) (fun i=>[]) (fun i=>i≤2) (fun i=>2 - i) (0);(focus ((try push_cast [O,U]);rfl));(focus exact (Nat.zero_le _));(focus ((refine weak_fg ?_;try push_cast [O,U]);(try (rfl)))))
  intro i hi
  push_cast [O,U]
  have hi3:i=0∨i=1∨i=2:=by omega
  rcases hi3 with rfl|rfl|rfl
  ·push_cast [O,U]
   cases hb:newB (raw) with
   | true =>
    have k1:=knewT (l:=raw) hrl hrf hb
    have r1:=rnewT (l:=raw) hrl hrf hb
    repeat' ((first|refine plE [] k1 ?_ ?_;focus (push_cast [O,U];done)|refine plE [] r1 ?_ ?_;focus (push_cast [O,U];done)|(refine pl_ptrne rfl rfl rfl rfl (by kernel_rfl) (by simp [dstOk]) (pl_of_pops ?_))|refine pC ?_|refine pQC ?_|refine pU ?_|refine pif ?_ ?_<;>intro h<;>try exact pN h)<;>push_cast [O,U])
    exact ⟨1,by omega,by (refine weak_fg ?_;push_cast [O,U]),by omega⟩
   | false =>
    have k1:=knewF (l:=raw) hrl hrf hb
    have r1:=rnewF (l:=raw) hrl hrf hb
    repeat' ((first|refine plE [] k1 ?_ ?_;focus (push_cast [O,U];done)|refine plE [] r1 ?_ ?_;focus (push_cast [O,U];done)|(refine pl_nilne rfl rfl rfl rfl (by kernel_rfl) (by simp [dstOk]) (pl_of_pops ?_))|refine pC ?_|refine pQC ?_|refine pU ?_|refine pif ?_ ?_<;>intro h<;>try exact pN h)<;>push_cast [O,U])
    exact ⟨1,by omega,by (refine weak_fg ?_;push_cast [O,U]),by omega⟩
  ·push_cast [O,U]
   cases hb:newB (l) with
   | true =>
    have k1:=knewT (l:=l) hMl hMf hb
    have r1:=rnewT (l:=l) hMl hMf hb
    repeat' ((first|refine plE [] k1 ?_ ?_;focus (push_cast [O,U];done)|refine plE [] r1 ?_ ?_;focus (push_cast [O,U];done)|(refine pl_ptrne rfl rfl rfl rfl (by kernel_rfl) (by simp [dstOk]) (pl_of_pops ?_))|refine pC ?_|refine pQC ?_|refine pU ?_|refine pif ?_ ?_<;>intro h<;>try exact pN h)<;>push_cast [O,U])
    exact ⟨2,by omega,by (refine weak_fg ?_;push_cast [O,U]),by omega⟩
   | false =>
    have k1:=knewF (l:=l) hMl hMf hb
    have r1:=rnewF (l:=l) hMl hMf hb
    repeat' ((first|refine plE [] k1 ?_ ?_;focus (push_cast [O,U];done)|refine plE [] r1 ?_ ?_;focus (push_cast [O,U];done)|(refine pl_nilne rfl rfl rfl rfl (by kernel_rfl) (by simp [dstOk]) (pl_of_pops ?_))|refine pC ?_|refine pQC ?_|refine pU ?_|refine pif ?_ ?_<;>intro h<;>try exact pN h)<;>push_cast [O,U])
    exact ⟨2,by omega,by (refine weak_fg ?_;push_cast [O,U]),by omega⟩
  ·push_cast [O,U]
   repeat' ((first|refine plE [] hkn ?_ ?_|refine pC ?_|refine pQC ?_|refine pU ?_|refine pif ?_ ?_<;>intro h<;>try exact pN h)<;>push_cast [O,U])
   (refine retK_of [] ?_;push_cast [O,U])
end Go.Proofs.YtmbbkfffcflfcaaGreatDoor
