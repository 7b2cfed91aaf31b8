/- What the program computes, and the plain laws of it, part 17. -/
import Derived.WideKeyEntry
import Derived.Test.YthconflkbeipoaaGreatDoorS16
namespace Go.Proofs.YthconflkbeipoaaGreatDoor
open Go.RowKit
open IntWalk renaming iteOmega → iO, toNatUp → tN
set_option linter.unusedVariables false
set_option linter.unusedSimpArgs false
theorem run_append_out {P:Program} (w:World) (base:Nat) (t ty e:TypeId) (size bytes:Nat) (hT:SlT P t e size bytes)
  (ad:Addr) (n c0:Nat) (xs:List Value) (hl:xs.length=n * size) (holds:∀ j u,xs[j]? = some u → w.cell? (ad.add j)=some u) (R':Nat → Prop) (A':Option Addr) (m c:Nat) (news:List Value) (hr:Rd w R' size A' m news)
  (h0:0 < m) (hg:c0 < n+m) (h63:n+m≤maxLen) (hbytes:(n+m) * bytes≤140737488355328) (hbase:base≤w.heap.size) :
  ∃ v' w',(Builtin.append_ #[t,t] ty #[.slice (some ad) n c0,.slice A' m c]).run P w = .ok v' w'∧w'.ownsRow base e size v' (n+m) (xs++news)∧Ext No w w':=by
 obtain ⟨ht,⟨i,z,hi,hz,hsize,hby,hzs⟩,hsz⟩:=hT
 subst hsize
 subst hby
 obtain ⟨b',o',rfl,hb',hlt',hc'⟩:=hr.2 h0
 have hsmall:n+m≤9223372036854775807:=by simp only [maxLen] at h63;omega
 have hlen:(xs++news).length=(n+m) * i.size:=by rw [List.length_append,hl,hr.1,Nat.add_mul]
 have hnews:∀ j u,news[j]? = some u → w.cell? ((⟨b',o',none⟩:Addr).add j)=some u:=fun j u hu=>by rw [Addr.add_lit];exact hc' j u hu
 have grown:(w.drew.alloc (.cells (xs.toArray++news.toArray++Builtin.zeroCells z.cells (grownCap w (n+m) c0 e - (n+m))) e)).ownsRow base e i.size
    (.slice (some ⟨w.heap.size,0,none⟩) (n+m) (grownCap w (n+m) c0 e)) (n+m) (xs++news):=by
  have hge:=grownCap_ge w (n+m) c0 e
  have hcm:grownCap w (n+m) c0 e≤maxLen:=grownCap_le_maxLen w (n+m) c0 e h63
  refine ⟨hlen,.inr ⟨w.heap.size,_,_,rfl,hbase,heap_alloc_new w.drew _,hge,hcm,?_,?_⟩⟩
  ·simp only [Array.size_append,List.size_toArray,size_zeroCells,hzs,hl,hr.1,← Nat.add_mul]
   congr 1
   omega
  ·simp only [Array.toList_append,List.append_assoc]
   rw [← List.append_assoc,← hlen]
   exact List.take_left
 have hrun:=run_append_grow (P:=P) w t ty e i z ht hi hz ad n c0 xs hl holds ⟨b',o',none⟩ m c news hr.1 hnews hg (by omega) (growslice_fits hg hbytes)
 exact ⟨_,_,hrun,grown,(Ext.refl No w).drew.alloc _⟩
theorem app_two {P:Program} {N p:Nat} {Γ:G} {s:S} {a:Act} {w:World} {o:Oper} {t e:TypeId} {sz by':Nat} {x z:Operand} {k:Nat} {rows ys:List (List D)} (ho:o.op = .call { callee:=.builtin .append,args := #[x,z],argTypes := #[t,t] })
  (hel:elOf P t=some (e,sz)) (hby:bytOf P e=some by') (hsz:0 < sz) (hz:(zerOf P e).map List.length=some sz) (hx:s.ev x=some (.c (.own k rows.length))) (hk:s.o[k]? = some (.arr e sz rows))
  (hys:srcRows s.o sz (s.ev z)=some ys) (h0:0 < ys.length) (hb1:((rows.length:Int)+ys.length) * by'≤140737488355328) (hb2:(rows.length:Int)+ys.length≤9223372036854775807) (hI:Inv N Γ s a w) (hp:p≤Γ.n) :
  AppOk P N p Γ s a w o (.c (.own k (rows.length+ys.length))) (s.o.set k (.arr e sz (rows++ys))) none∨AppOk P N p Γ s a w o (.c (.own s.o.length (rows.length+ys.length))) (s.o++[.arr e sz (rows++ys)]) none:=by
 obtain ⟨hT,i,hu,hi⟩:=slT_of hel hby hsz hz
 obtain ⟨hyr,A,c,news,hzv,hrd,hnx⟩:=src_ok hI.m hys (fun q hq=>S.ev_ok hq hI)
 have hone:=rd_one hnx
 have hexec:∀ (v v':Value) (w':World),a.eval x=v → (Builtin.append_ #[t,t] o.type #[v,.slice A ys.length c]).run P w = .ok v' w' → (execOp a.eval o).run P w = .ok (.value v') w':=by
  intro v v' w' hv hr
  simp only [execOp,ho,resolve,invoke,builtin,Sem.run_bind,Sem.run_pure,Result.andThen_ok,List.map_toArray,List.map_cons,List.map_nil,hv,hzv,hr]
 obtain ⟨hkn,hrep⟩:=S.ev_ok hx hI
 have hro:=hI.m.ob k _ hk
 obtain ⟨g1,g2,g3,g4⟩:=hro
 have hrl:∀ r ∈ rows++ys,r.length=sz:=fun r hr=>by
  rcases List.mem_append.1 hr with hr|hr
  ·exact g1 r hr
  ·exact hyr r hr
 have hbb:(rows.length+ys.length) * by'≤140737488355328:=by have:=hb1;rw [← Int.natCast_add,← Int.natCast_mul] at this;omega
 have hmx:rows.length+ys.length≤maxLen:=by simp only [maxLen];omega
 rcases hrep with ⟨hc0,⟨A0,hv⟩,hn0⟩|⟨hcp,hv,hnc⟩
 ·
  have hr0:rows=[]:=List.eq_nil_of_length_eq_zero hn0
  subst hr0
  right
  obtain ⟨v',w',hr,h2,h3⟩:=run_append_full (P:=P) w w.heap.size t o.type e sz by' hT (fun _=>True) _ A0 0 [] ⟨by simp,fun h=>absurd h (by omega)⟩ A ys.length c news hrd h0 (by simpa using hmx) (by simpa using hbb) (Nat.le_refl _)
  simp only [List.length_nil,Nat.zero_add,List.nil_append] at *
  exact app_new hI hp (hexec _ _ _ hv hr) h3 h2 (by omega) hsz hyr rfl (hnx.mono fun _ _=>RD.stay ((Same.of_ext h3).stay Γ.I) _ _)
 ·obtain ⟨cur,q1,q2,q3,q4,q5⟩:=g4 hcp
  by_cases hroom:rows.length+ys.length≤Γ.cap k
  ·left
   have hown:w.ownsRow 0 e sz (.slice (some ⟨Γ.β k,0,none⟩) rows.length (Γ.cap k)) rows.length (cur.toList.take (rows.length * sz)) :=
    own_blk q1 (Nat.zero_le _) q2 hnc q4
   obtain ⟨v',w',hr,h2,h3,h5⟩:=run_append_rd (P:=P) w 0 t o.type e sz by' hT _ _ _ hown _ A ys.length c news hrd hone hmx hbb (Nat.zero_le _)
   obtain ⟨b',o',hA,hb',hlt',hc'⟩:=hrd.2 h0
   obtain ⟨i2,hi2,hisz,hiby⟩:∃ i2,P.info? e=some i2∧i2.size=sz∧i2.bytes=by':=by
    obtain ⟨_,⟨i2,z2,h1,_,h3,h4,_⟩,_⟩:=hT
    exact ⟨i2,h1,h3,h4⟩
   have hfit:rows.length * i2.size+news.length≤cur.size:=by rw [hisz,hrd.1,q2,← Nat.add_mul];exact Nat.mul_le_mul_right _ hroom
   have hrun2:=run_append_room (P:=P) w t o.type e i2 hu hi2 (Γ.β k) rows.length (Γ.cap k) cur q1 ⟨b',o',none⟩ ys.length c news (by rw [hisz];exact hrd.1) (fun j u hu=>by rw [Addr.add_lit];exact hc' j u hu) hone hroom hfit
   rw [hA] at hr
   rw [hrun2] at hr
   injection hr with hr1 hr2
   subst hr1
   have hE:Ext (fun i=>i=Γ.β k) w w':=h3.mono fun j hj=>by simp [Value.ownBlock] at hj;exact hj.symm
   have hs:Stay w Γ.I w' Γ.I:=⟨hE.size,fun i hi hl=>hE.block i hl fun h2=>hI.m.off k hkn hcp (h2 ▸ hi),fun i hi=>hi⟩
   obtain ⟨_,h2⟩:=h2
   have hblk:∃ cur',Blk w' (Γ.β k) e cur'∧cur'.size=Γ.cap k * sz∧cur'.toList.take ((rows.length+ys.length) * sz)=cur.toList.take (rows.length * sz)++news:=by
    rcases h2 with ⟨h2,_⟩|⟨g,cap,cur',h2,_,hg,_,_,hcs,htk⟩
    ·cases h2
    ·injection h2 with e1 e2 e3
     injection e1 with e1
     injection e1 with e1
     subst e1;subst e3
     exact ⟨cur',hg,hcs,htk⟩
   obtain ⟨cur',hb1',hcs,htk⟩:=hblk
   refine ⟨.slice (some ⟨Γ.β k,0,none⟩) (rows.length+ys.length) (Γ.cap k),w',Γ,?_,⟨hkn,.inr ⟨hcp,rfl,hroom⟩⟩,⟨hI.size,hI.defers,fun i q hq=>?_,⟨by rw [hI.m.n,List.length_set],fun j o' ho'=>?_,hI.m.sep,hI.m.off,fun b hb=>Nat.lt_of_lt_of_le (hI.m.lt b hb) hE.size,hI.m.pins hs⟩⟩,⟨hE.mono fun i h1=>⟨k,hkn,hcp,h1.symm⟩,fun _ h=>h,fun j hj hc=>.inl ⟨j,hj,hc,rfl⟩,fun _ h=>.inl h,fun _ _=>⟨rfl,rfl⟩⟩⟩
   ·have:=hexec _ _ _ hv (by rw [hA,hrun2])
    rw [this,hr2]
   ·obtain ⟨i1,i2⟩:=hI.t i q hq
    exact ⟨i1,i2.stay hs fun j hj=>⟨i2.lt j hj,rfl,rfl⟩⟩
   ·by_cases hjk:k=j
    ·subst hjk
     have hkl:k < s.o.length:=by rw [← hI.m.n];exact hkn
     rw [List.getElem?_set_self hkl] at ho'
     cases ho'
     refine ⟨hrl,hsz,fun h=>absurd h (by omega),fun _=>⟨cur',hb1',hcs,by rw [List.length_append];exact hroom,q4,?_⟩⟩
     rw [List.length_append,htk,List.flatten_append]
     exact (q5.mono fun _ _=>RD.stay hs _ _).append (hnx.mono fun _ _=>RD.stay hs _ _)
    ·rw [List.getElem?_set_ne hjk] at ho'
     have hj:j < Γ.n:=by rw [hI.m.n];exact (List.getElem?_eq_some_iff.1 ho').1
     exact (hI.m.ob j o' ho').stay hs (fun i hi=>⟨hi,rfl,rfl⟩) hj fun hcj=>hE.block _ (mine_lt hI.m hj hcj) fun h=>hjk (hI.m.sep k j hkn hj hcp hcj h.symm)
  ·right
   have holds:∀ j u,(cur.toList.take (rows.length * sz))[j]? = some u → w.cell? ((⟨Γ.β k,0,none⟩:Addr).add j)=some u:=by
    intro j u hu
    rw [Addr.add_lit,Nat.zero_add,q1.cell]
    rw [List.getElem?_take] at hu
    split at hu
    ·simpa using hu
    ·cases hu
   have hxl:(cur.toList.take (rows.length * sz)).length=rows.length * sz:=by
    rw [List.length_take]
    have hcz:cur.toList.length=cur.size:=Array.length_toList
    rw [hcz,q2]
    exact Nat.min_eq_left (Nat.mul_le_mul_right _ hnc)
   obtain ⟨v',w',hr,h2,h3⟩:=run_append_out (P:=P) w w.heap.size t o.type e sz by' hT ⟨Γ.β k,0,none⟩ rows.length (Γ.cap k) _ hxl holds _ A ys.length c news hrd h0 (by omega) hmx hbb (Nat.le_refl _)
   refine app_new hI hp (hexec _ _ _ hv hr) h3 h2 (by omega) hsz hrl (by simp) ?_
   rw [List.flatten_append]
   exact (q5.append hnx).mono fun _ _=>RD.stay ((Same.of_ext h3).stay Γ.I) _ _
section
variable {P:Program} {N p:Nat} {ops:Array Oper} {rest:List Oper} {o:Oper} {s:S} {K:S → Prop}
theorem pl_app2 {t e:TypeId} {sz by':Nat} {x z:Operand} (k:Nat) {rows ys:List (List D)} (ho:o.op = .call { callee:=.builtin .append,args := #[x,z],argTypes := #[t,t] }) (hg:gd ops s o.guard=some true) (hd:dstOk N o.dst)
  (hel:elOf P t=some (e,sz)) (hby:bytOf P e=some by') (hsz:0 < sz) (hz:(zerOf P e).map List.length=some sz) (hk:s.o[k]? = some (.arr e sz rows)) (hx:s.ev x=some (.c (.own k rows.length)))
  (hys:srcRows s.o sz (s.ev z)=some ys) (h0:0 < ys.length) (hb1:((rows.length:Int)+ys.length) * by'≤140737488355328) (hb2:(rows.length:Int)+ys.length≤9223372036854775807)
  (hA:PL P N p ops rest (S.put ⟨s.t,s.o.set k (.arr e sz (rows++ys))⟩ o.dst (.c (.own k (rows.length+ys.length)))) K)
  (hB:PL P N p ops rest (S.put ⟨s.t,s.o++[.arr e sz (rows++ys)]⟩ o.dst (.c (.own s.o.length (rows.length+ys.length)))) K):PL P N p ops (o :: rest) s K:=by
 intro Γ a w Q hS hK
 rcases app_two (p:=p) ho hel hby hsz hz hx hk hys h0 hb1 hb2 hS.inv hS.le with h|h
 ·obtain ⟨y,w',Γ',h1,h2,h3,h4⟩:=h
  unfold wpListIn
  rw [if_pos (gd_ok hg hS.inv)]
  have hle:p≤Γ'.n:=by have h5:=hS.le;rw [hS.inv.m.n] at h5;rw [h3.m.n,List.length_set];exact h5
  exact wpIn_run h1 (hA Γ' _ w' Q ⟨Inv.put h3 (dst_lt hd) h2,hle⟩ fun s' Γ'' a' w'' hk ha hg' hd'=>hK s' Γ'' a' w'' hk ha (h4.trans hg') (hd'.trans (put_defers _ _ _)))
 ·obtain ⟨y,w',Γ',h1,h2,h3,h4⟩:=h
  unfold wpListIn
  rw [if_pos (gd_ok hg hS.inv)]
  have hle:p≤Γ'.n:=by have h5:=hS.le;rw [hS.inv.m.n] at h5;rw [h3.m.n,List.length_append];omega
  exact wpIn_run h1 (hB Γ' _ w' Q ⟨Inv.put h3 (dst_lt hd) h2,hle⟩ fun s' Γ'' a' w'' hk ha hg' hd'=>hK s' Γ'' a' w'' hk ha (h4.trans hg') (hd'.trans (put_defers _ _ _)))
end
def allSome:List (Option PV) → List PV → Prop
 | [],[]=>True
 | some q :: l,r :: m=>leP q r∧allSome l m
 | _,_=>False
theorem allSome_ok {w:World} {Γ:G}:∀ {l:List (Option PV)} {m:List PV} {ys:List Value},allSome l m → All2 (fun q y=>∀ r,q=some r → RP w Γ r y) l ys → All2 (RP w Γ) m ys
 | [],[],_,_,h=>by rw [All2.nil_l] at h ⊢;exact h
 | some q :: l,r :: m,y :: ys,h,hr=>⟨leP_ok h.1 (hr.1 q rfl),allSome_ok h.2 hr.2⟩
 | some _ :: _,_ :: _,[],_,hr=>hr.elim
 | [],_ :: _,_,h,_=>h.elim
 | none :: _,_,_,h,_=>h.elim
 | some _ :: _,[],_,h,_=>h.elim
section
variable {P:Program} {N p:Nat} {ops:Array Oper} {rest:List Oper} {o:Oper} {s:S} {K:S → Prop}
theorem pl_call_all {f:Operand} {args:Array Operand} {tys:Array TypeId} {g:FuncId} {ds:List D} {cap:List Nat} {args':List PV} {R:PV → List Ob → Prop}
  (ho:o.op = .call ⟨.value f,args,tys⟩) (hg:gd ops s o.guard=some true) (hf:s.ev f=some (.c (.fn (.func g) ds cap))) (hb:bodyOk P g=true) (hd:dstOk N o.dst)
  (ha:allSome (callArgs s ds args.toList cap) args') (hc:PCalls P g args' s.o R)
  (hK:∀ r os'',R r os'' → PL P N p ops rest (S.put ⟨s.t,os''⟩ o.dst r) K):PL P N p ops (o :: rest) s K:=by
 intro Γ a w Q hA hQ
 obtain ⟨xs,ys,hfv,hargs⟩:=callArgs_ok hA.inv hf args
 have hseen:=allSome_ok ha hargs
 unfold wpListIn
 rw [if_pos (gd_ok hg hA.inv)]
 refine wpIn_enter (run_enter ho hfv hb) ?_
 have:=hc _ w _ hA.inv.m hseen
 rw [Array.toArray_toList] at this
 refine this.mono ?_
 rintro e w' ⟨r,os'',Γ',y,rfl,hR,hr,hlen,hm',hgr⟩
 have hle:p≤s.o.length:=by rw [← hA.inv.m.n];exact hA.le
 have hag:∀ j,j < Γ.n → Agree Γ Γ' j:=fun j hj=>by
  have hj':j < s.o.length:=by rw [← hA.inv.m.n];exact hj
  exact ⟨by rw [hm'.n];omega,(hgr.keep j hj').1,(hgr.keep j hj').2⟩
 have hI:=hA.inv.heap hm' (hgr.stay hA.inv.m) hag
 refine ⟨y,rfl,hK r os'' hR Γ' _ w' Q ⟨hI.put (dst_lt hd) hr,by rw [hm'.n];omega⟩ fun s' Γ2 a2 w2 hk hA2 hg2 hd2=>hQ s' Γ2 a2 w2 hk hA2 ?_ (hd2.trans (put_defers _ _ _))⟩
 have hgp:Grow p Γ w Γ' w':=⟨hgr.ext,hgr.sub,hgr.new,hgr.imm,fun k hk=>hgr.keep k (by omega)⟩
 exact hgp.trans hg2
theorem weak_slots {s':S} (ht:subT s s'.t) (ho:s'.o=s.o):Weak N p s s':=by
 intro Γ a w hA
 refine ⟨Γ,⟨⟨hA.inv.size,hA.inv.defers,fun i q hq=>?_,by rw [ho];exact hA.inv.m⟩,hA.le⟩,Grow.refl _ _ _⟩
 obtain ⟨r,hr,hle⟩:=subT_look ht hq
 obtain ⟨i1,i2⟩:=hA.inv.t i r hr
 exact ⟨i1,leP_ok hle i2⟩
end
def RetA (P:Program) (rs:List ResultVar) (p:Nat) (R:PV → List Ob → Prop) (s:S):Prop:=∃ r,resP P s rs=some r∧p≤s.o.length∧R r s.o
def RetQA (P:Program) (rs:List ResultVar) (p:Nat) (R:PV → List Ob → Prop):Exit → S → Prop
 | .normal,s=>RetA P rs p R s
 | .ret,s=>RetA P rs p R s
 | _,_=>False
theorem RetQA_normal (P:Program) (rs:List ResultVar) (p:Nat) (R:PV → List Ob → Prop) (s:S):RetQA P rs p R .normal s=RetA P rs p R s:=rfl
theorem RetQA_ret (P:Program) (rs:List ResultVar) (p:Nat) (R:PV → List Ob → Prop) (s:S):RetQA P rs p R .ret s=RetA P rs p R s:=rfl
attribute [push_cast] RetQA_normal RetQA_ret allSome
theorem pcalls_of_all {P:Program} {g:FuncId} {fn:Func} {c:Code} {args:List PV} {os:List Ob} {R:PV → List Ob → Prop} (hf:P.funcs[g]? = some fn) (hb:fn.body=some c) (hn:args.length≤fn.ntmps)
  (h:PWP P fn.ntmps os.length c (RetQA P fn.results.toList os.length R) ⟨parT 0 args,os⟩):PCalls P g args os R:=by
 refine calls_pwp (T:=RetA P fn.results.toList os.length R) hf hb hn (fun e s hq=>?_) (fun s' Γ Γ' a' w w' ht hI hg=>?_) h
 ·cases e with
  | normal=>exact ⟨.inl rfl,hq⟩
  | ret=>exact ⟨.inr rfl,hq⟩
  | exit j=>exact hq.elim
  | goto l=>exact hq.elim
  | panic ch=>exact hq.elim
  | outgrown=>exact hq.elim
 ·obtain ⟨r,h1,h2,h3⟩:=ht
  obtain ⟨y,h8,h9⟩:=resP_ok hI h1
  exact ⟨y,h8,r,s'.o,Γ',h3,h9,h2,hI.m,hg⟩
theorem Inv.fresh {N:Nat} {Γ:G} {s:S} {a:Act} {w:World} (h:Inv N Γ s a w) {d:Nat} {y:Value} (hd:s.get d=none):Inv N Γ s (a.put (some d) y) w:=by
 refine ⟨by simpa [Act.put] using h.size,h.defers,fun i q' hi=>?_,h.m⟩
 have e:i≠d:=fun e=>by rw [e,hd] at hi;cases hi
 obtain ⟨h1,h2⟩:=h.t i q' hi
 have h3:(a.put (some d) y).tmps.getD i Go.undef=a.tmps.getD i Go.undef:=by
  simp only [Act.put]
  rw [Array.getD_eq_getD_getElem?,Array.getD_eq_getD_getElem?,Array.getElem?_setIfInBounds_ne (fun e'=>e e'.symm)]
 rw [h3]
 exact ⟨h1,h2⟩
section
variable {P:Program} {N p:Nat} {ops:Array Oper} {s:S} {K:S → Prop} {fuel:Nat} {listed:Array Bool}
end
section
variable {P:Program} {N p:Nat} {ops:Array Oper} {rest:List Oper} {o:Oper} {s:S} {K:S → Prop}
end
section
variable {P:Program} {N p:Nat} {ops:Array Oper} {rest:List Oper} {o:Oper} {s:S} {K:S → Prop}
theorem litP_inv {t:TypeId} {len sz:Nat} {e:TypeId} {parts:List (Nat × Option PV)} {l:List (List D)} (hel:elOf P t=some (e,sz)) (h:litP P t len parts=some (.c (.full sz l))):len=parts.length∧0 < sz∧len * sz≤16777216∧(zerOf P e).map List.length=some sz∧partRows sz 0 parts=some l:=by
 unfold litP at h
 rw [hel] at h
 simp only at h
 split at h
 ·rename_i hc
  obtain ⟨l',hl,e'⟩:=Option.map_eq_some_iff.1 h
  injection e' with e'
  injection e' with _ e'
  subst e'
  exact ⟨hc.1,hc.2.1,hc.2.2.1,hc.2.2.2,hl⟩
 ·cases h
theorem pl_litown {t e:TypeId} {len sz:Nat} {parts:Array (Nat × Operand)} {l:List (List D)} (ho:o.op = .buildSlice t len parts) (hg:gd ops s o.guard=some true) (hel:elOf P t=some (e,sz)) (h0:0 < len)
  (h:litP P t len (parts.toList.map fun x=>(x.1,s.ev x.2))=some (.c (.full sz l))) (hd:dstOk N o.dst) (hK:PL P N p ops rest (S.put ⟨s.t,s.o++[.arr e sz l]⟩ o.dst (.c (.own s.o.length l.length))) K):PL P N p ops (o :: rest) s K:=by
 refine pl_heap (q:=.c (.own s.o.length l.length)) (os:=s.o++[.arr e sz l]) hg (fun Γ a w hA=>?_) (by simp) hd hK
 have hI:=hA.inv
 have hn:=hI.m.n
 obtain ⟨hlen,hsz,hsm,hz,hl⟩:=litP_inv hel h
 obtain ⟨hu,hsz'⟩:=el_run hel
 obtain ⟨zs,hzs,hzl⟩:=Option.map_eq_some_iff.1 hz
 obtain ⟨ie,z,hie,hzz,hzr⟩:=zer_ok hzs
 have hies:ie.size=sz:=by obtain ⟨i',hi',e'⟩:=Option.map_eq_some_iff.1 hsz';rw [hie] at hi';cases hi';exact e'
 have hlm:parts.toList.length=len:=by rw [hlen,List.length_map]
 obtain ⟨ys,g1,g2,g3,g4,m,g5,g6⟩:=partRows_ok (sz:=sz) _ _ 0 l ((Array.range (len * sz)).map (z.cells[· % z.cells.size]!)) (parts_ok hI parts.toList) hl (by simp [hlm])
 simp only [List.length_map,hlm] at g2
 simp only [Nat.zero_mul,List.take_zero,List.nil_append,Nat.zero_add,List.length_map,hlm] at g6
 rw [List.drop_eq_nil_of_le (by simp),List.append_nil] at g6
 have hrun:(execOp a.eval o).run P w = .ok (.value (.slice (some ⟨w.heap.size,0,none⟩) len len)) (w.alloc (.cells ys e)):=by
  have hb:=run_buildSlice (P:=P) w t e len (parts.map fun (i,x)=>(i,a.eval x)) ys ie z hu hie hzz (by rw [hies];simp;omega) (by rw [hies];have:=Nat.mul_pos h0 hsz;omega) (by rw [hies,Array.toList_map];exact g1)
  simp only [execOp,ho,Sem.run_bind,hb,Result.andThen_ok,Sem.run_pure]
 have hE:Ext No w (w.alloc (.cells ys e)):=(Ext.refl No w).alloc _
 have hS:=Same.of_ext hE
 have hag:=push_agree Γ w.heap.size len
 have hlc:len≤maxLen:=Nat.le_trans (Nat.le_trans (Nat.le_mul_of_pos_right len hsz) hsm) (by decide)
 have hm:MemOk (Γ.push w.heap.size len) (s.o++[.arr e sz l]) (w.alloc (.cells ys e)):=by
  refine hI.m.push hS _ _ _ ⟨g3,hsz,fun h=>?_,fun _=>⟨ys,?_,?_,?_,?_,?_⟩⟩ (fun _=>Nat.le_refl _)
  ·simp only [G.push,upd_same] at h;omega
  ·simp only [G.push,upd_same];exact Blk.new w e ys
  ·simp only [G.push,upd_same];rw [g4];simp
  ·simp only [G.push,upd_same];omega
  ·simp only [G.push,upd_same];exact hlc
  ·rw [g2,g6,List.take_of_length_le (by rw [← g6,Array.length_toList,g4];simp)]
   exact g5.mono fun _ _=>RD.stay (hS.stay Γ.I) _ _
 refine ⟨_,_,Γ.push w.heap.size len,.inl hrun,⟨by simp [G.push,hn],.inr ⟨?_,?_,?_⟩⟩,hI.heap hm (hS.stay Γ.I) hag,grow_push hI.m hE _ _ (fun _=>Nat.le_refl _) hA.le⟩
 ·simp only [G.push,← hn,upd_same];exact h0
 ·simp only [G.push,← hn,upd_same,g2]
 ·simp only [G.push,← hn,upd_same];omega
end
section
variable {P:Program} {N p:Nat} {ops:Array Oper} {s:S} {K:S → Prop} {fuel:Nat} {listed:Array Bool}
end
section
variable {P:Program} {N p:Nat} {ops:Array Oper} {rest:List Oper} {o:Oper} {s:S} {K:S → Prop}
section
variable {Q:Exit → S → Prop}
theorem pwp_regionL {rd:Option Nat} {id:Nat} {l:List Oper} (h:PL P N p l.toArray l s (fun s'=>Q .normal s')) (hp:plains l=true:=by kernel_rfl):PWPr rd P N p (.region id l.toArray false) Q s:=fun z Γ a w hA hD=>by
 refine wpIn_region_lit (list_rd hp ?_)
 exact h Γ a w _ hA fun s' Γ' a' w' hk hA' hg hd=>⟨s',Γ',hk,hA',hg,hD.grow hg hd⟩
end
end
section
variable {P:Program} {N p:Nat} {ops:Array Oper} {rest:List Oper} {o:Oper} {s:S} {K:S → Prop}
theorem pl_run1 {q:PV} (hg:gd ops s o.guard=some true) (h:run1 P p s o.op = .val q) (hd:dstOk N o.dst) (hK:PL P N p ops rest (s.put o.dst q) K):PL P N p ops (o :: rest) s K:=pl_val hg (run1_val h) hd hK
theorem pl_cat {t t':TypeId} {x z:Operand} {a b:ByteArray} (ho:o.op = .binOp .add t x z t') (hg:gd ops s o.guard=some true) (hx:s.ev x=some (.c (.v (.string a)))) (hz:s.ev z=some (.c (.v (.string b)))) (hf:(a.size:Int)+b.size≤9223372036854775807) (hd:dstOk N o.dst)
  (hK:PL P N p ops rest (s.put o.dst (.c (.v (.string (a++b))))) K):PL P N p ops (o :: rest) s K:=by
 refine pl_val (q:=.c (.v (.string (a++b)))) hg ?_ hd hK
 rw [ho]
 show binP P .add t (s.ev x) (s.ev z)=_
 rw [hx,hz]
 simp only [binP,binV,strOp,if_pos hf,Option.map_some]
end
section
variable {rd:Option Nat} {P:Program} {N p:Nat} {Q:Exit → S → Prop} {s:S}
theorem pwp_mid3 {x y:Code} {α:Type} (B:Nat) (ex:List Nat) (f:α → List (Nat × PV)) (g:α → List (Nat × Ob)) (Φ:α → Prop) (x0:α) {t0:List (Nat × PV)} (ht:cutT B ex ((f x0).map Prod.fst) s.t=t0)
  (h1:PWPr rd P N p x (thenE (fun s'=>∃ a,Φ a∧Weak N p s' ⟨f a++t0,setM s.o (g a)⟩) Q) s)
  (h2:∀ a,Φ a → PWPr rd P N p y Q ⟨f a++t0,setM s.o (g a)⟩):PWPr rd P N p (x.seq y) Q s:=by
 refine pwp_seq fun K hK=>pwp_mono h1 fun e s' h=>?_
 cases e with
 | normal =>
  obtain ⟨a,ha,hw⟩:=h
  exact hK s' (pwp_weak hw (h2 a ha))
 | _=>exact h
theorem pwp_mid4 {x y:Code} {α:Type} (B:Nat) (ex:List Nat) (f:α → List (Nat × PV)) (g:α → List (Nat × Ob)) (n:α → List Ob) (Φ:α → Prop) (x0:α) {t0:List (Nat × PV)} (ht:cutT B ex ((f x0).map Prod.fst) s.t=t0)
  (h1:PWPr rd P N p x (thenE (fun s'=>∃ a,Φ a∧Weak N p s' ⟨f a++t0,setM s.o (g a)++n a⟩) Q) s)
  (h2:∀ a,Φ a → PWPr rd P N p y Q ⟨f a++t0,setM s.o (g a)++n a⟩):PWPr rd P N p (x.seq y) Q s:=by
 refine pwp_seq fun K hK=>pwp_mono h1 fun e s' h=>?_
 cases e with
 | normal =>
  obtain ⟨a,ha,hw⟩:=h
  exact hK s' (pwp_weak hw (h2 a ha))
 | _=>exact h
end
def HidR (X:Prop):Prop:=X
theorem hidR (id:Nat) {rd:Option Nat} {P:Program} {N p:Nat} {Q:Exit → S → Prop} {s:S} {ops:Array Oper} (h:HidR (PWPr rd P N p (.region id ops true) Q s)):PWPr rd P N p (.region id ops true) Q s:=h
theorem unhid {X:Prop} (h:X):HidR X:=h
attribute [irreducible] HidR
end Go.Proofs.YthconflkbeipoaaGreatDoor
namespace Go.Proofs.YthconflkbeipoaaGreatDoor
attribute [local irreducible] PL QL PWPr PCalls Weak RetK Kontr PA
open Go.RowKit
open IntWalk renaming iteOmega → iO, toNatUp → tN
set_option linter.unusedVariables false
set_option linter.unusedSimpArgs false
set_option maxRecDepth 20000
theorem valOf_at {l:List Atr} {k:Nat} {n:ByteArray} (hk:k < l.length) (hp:∀ x ∈ l.take k,x.name≠n) (hn:(l.getD k default).name=n):valOf l n=some (l.getD k default).value:=by
 unfold valOf
 have h:l.find? (fun a=>decide (a.name=n))=some (l.getD k default):=by
  rw [List.find?_eq_some_iff_append]
  refine ⟨by simpa using hn,l.take k,l.drop (k+1),?_,fun a ha=>by simpa using hp a ha⟩
  rw [getD_lt l hk,← List.drop_eq_getElem_cons hk,List.take_append_drop]
 rw [h]
 rfl
theorem valOf_no {l:List Atr} {n:ByteArray} (h:∀ x ∈ l,x.name≠n):valOf l n=none:=by
 unfold valOf
 rw [Option.map_eq_none_iff,List.find?_eq_none]
 intro x hx
 simpa using h x hx
theorem name_nx {l:List Atr} {k:Nat} {n:ByteArray} (hk:k < l.length) (hp:∀ x ∈ l.take k,x.name≠n) (hn:(l.getD k default).name≠n):∀ x ∈ l.take (k+1),x.name≠n:=fun x hx=>by
 rw [List.take_succ_eq_append_getElem hk,List.mem_append,List.mem_singleton] at hx
 rcases hx with hx|hx
 ·exact hp x hx
 ·rw [hx,← getD_lt l hk];exact hn
set_option maxHeartbeats 1000000 in
theorem dget_pure (l:List Atr) (n:ByteArray) (hl:l.length≤9223372036854775807) :
  PCalls Tryz.prog 77 [.c (.sl 2 (l.map Atr.d)),.c (.v (.string n))] [] fun r os=>r = .two (.c (.v (.string ((valOf l n).getD ⟨#[]⟩)))) (.c (.v (.bool ((valOf l n).isSome))))∧os=[]:=by
 refine pcalls_of Tryz.func77 rfl (by simp [Tryz.ntmps77]) ?_
 rw [Tryz.ntmps77,Tryz.results77]
 push_cast [iO,tN]
 have cB:CutB 8 [8,9,10]:=trivial
 repeat' (first|((first|refine pC ?_|refine pQC ?_|refine pU ?_);push_cast [iO,tN])|(refine pif (fun h=>?_) (fun h=>?_)<;>first|exact pN h|push_cast [iO,tN]))
 (apply pwp_loop3 (α:=Nat) 8 [8,9,10] (fun k=>[(10,.c (.v (.int .i64 k)))]) (fun k=>[]) (fun k=>k≤l.length∧∀ y ∈ l.take k,y.name≠n) (fun k=>l.length - k) (0);(focus ((try push_cast [iO,tN]);rfl));(focus exact ⟨Nat.zero_le _,by simp⟩);(focus ((refine weak_fg ?_;try push_cast [iO,tN]))))
 rintro k ⟨hk,h0⟩
 push_cast [iO,tN]
 by_cases hlt:k < l.length
 ·by_cases hn:(l.getD k default).name=n
  ·have hg:=valOf_at hlt h0 hn
   have hn':=eq_true hn
   repeat' (first|((first|refine pC ?_|refine pQC ?_|refine pU ?_);push_cast [iO,tN,hn'])|(refine pif (fun h=>?_) (fun h=>?_)<;>first|exact pN h|push_cast [iO,tN,hn']))
   (refine retK_of [] ?_;push_cast [iO,tN,hg,Option.getD_some,Option.isSome_some])
  ·have h1:=name_nx hlt h0 hn
   repeat' (first|((first|refine pC ?_|refine pQC ?_|refine pU ?_);push_cast [iO,tN,hn])|(refine pif (fun h=>?_) (fun h=>?_)<;>first|exact pN h|push_cast [iO,tN,hn]))
   exact ⟨k+1,⟨by omega,h1⟩,by (refine weak_fg ?_;push_cast [iO,tN]),by omega⟩
 ·rw [List.take_of_length_le (by omega)] at h0
  have hg:=valOf_no h0
  repeat' (first|((first|refine pC ?_|refine pQC ?_|refine pU ?_);push_cast [iO,tN])|(refine pif (fun h=>?_) (fun h=>?_)<;>first|exact pN h|push_cast [iO,tN]))
  (refine retK_of [] ?_;push_cast [iO,tN,hg,Option.getD_none,Option.isSome_none])
set_option maxHeartbeats 1000000 in
theorem rget03a_pure (l:List Atr) (n:ByteArray) (hl:l.length≤9223372036854775807) :
  PCalls Tryz.prog 47 [.c (.sl 2 (l.map Atr.d)),.c (.v (.string n))] [] fun r os=>r = .two (.c (.v (.string ((valOf l n).getD ⟨#[]⟩)))) (.c (.v (.bool ((valOf l n).isSome))))∧os=[]:=by
 refine pcalls_of Tryz.func47 rfl (by simp [Tryz.ntmps47]) ?_
 rw [Tryz.ntmps47,Tryz.results47]
 push_cast [iO,tN]
 have cB:CutB 7 []:=trivial
 repeat' (first|((first|refine pC ?_|refine pQC ?_|refine pU ?_);push_cast [iO,tN])|(refine pif (fun h=>?_) (fun h=>?_)<;>first|exact pN h|push_cast [iO,tN]))
 (apply pwp_loop3 (α:=Nat) 7 [] (fun k=>[(6,.c (.v (.int .i64 k)))]) (fun k=>[]) (fun k=>k≤l.length∧∀ y ∈ l.take k,y.name≠n) (fun k=>l.length - k) (0);(focus ((try push_cast [iO,tN]);rfl));(focus exact ⟨Nat.zero_le _,by simp⟩);(focus ((refine weak_fg ?_;try push_cast [iO,tN]))))
 rintro k ⟨hk,h0⟩
 push_cast [iO,tN]
 by_cases hlt:k < l.length
 ·by_cases hn:(l.getD k default).name=n
  ·have hg:=valOf_at hlt h0 hn
   have hn':=eq_true hn
   repeat' (first|((first|refine pC ?_|refine pQC ?_|refine pU ?_);push_cast [iO,tN,hn'])|(refine pif (fun h=>?_) (fun h=>?_)<;>first|exact pN h|push_cast [iO,tN,hn']))
   (refine retK_of [] ?_;push_cast [iO,tN,hg,Option.getD_some,Option.isSome_some])
  ·have h1:=name_nx hlt h0 hn
   repeat' (first|((first|refine pC ?_|refine pQC ?_|refine pU ?_);push_cast [iO,tN,hn])|(refine pif (fun h=>?_) (fun h=>?_)<;>first|exact pN h|push_cast [iO,tN,hn]))
   exact ⟨k+1,⟨by omega,h1⟩,by (refine weak_fg ?_;push_cast [iO,tN]),by omega⟩
 ·rw [List.take_of_length_le (by omega)] at h0
  have hg:=valOf_no h0
  repeat' (first|((first|refine pC ?_|refine pQC ?_|refine pU ?_);push_cast [iO,tN])|(refine pif (fun h=>?_) (fun h=>?_)<;>first|exact pN h|push_cast [iO,tN]))
  (refine retK_of [] ?_;push_cast [iO,tN,hg,Option.getD_none,Option.isSome_none])
set_option maxHeartbeats 1000000 in
theorem rvalue_pure (l:List Atr) (n:ByteArray) (hl:l.length≤9223372036854775807) :
  PCalls Tryz.prog 51 [.c (.sl 2 (l.map Atr.d)),.c (.v (.string n))] [] fun r os=>r = .two (.c (.v (.string ((valOf l n).getD ⟨#[]⟩)))) (.c (.v (.bool ((valOf l n).isSome))))∧os=[]:=by
 refine pcalls_of Tryz.func51 rfl (by simp [Tryz.ntmps51]) ?_
 rw [Tryz.ntmps51,Tryz.results51]
 push_cast [iO,tN]
 have cB:CutB 7 []:=trivial
 repeat' (first|((first|refine pC ?_|refine pQC ?_|refine pU ?_);push_cast [iO,tN])|(refine pif (fun h=>?_) (fun h=>?_)<;>first|exact pN h|push_cast [iO,tN]))
 (apply pwp_loop3 (α:=Nat) 7 [] (fun k=>[(6,.c (.v (.int .i64 k)))]) (fun k=>[]) (fun k=>k≤l.length∧∀ y ∈ l.take k,y.name≠n) (fun k=>l.length - k) (0);(focus ((try push_cast [iO,tN]);rfl));(focus exact ⟨Nat.zero_le _,by simp⟩);(focus ((refine weak_fg ?_;try push_cast [iO,tN]))))
 rintro k ⟨hk,h0⟩
 push_cast [iO,tN]
 by_cases hlt:k < l.length
 ·by_cases hn:(l.getD k default).name=n
  ·have hg:=valOf_at hlt h0 hn
   have hn':=eq_true hn
   repeat' (first|((first|refine pC ?_|refine pQC ?_|refine pU ?_);push_cast [iO,tN,hn'])|(refine pif (fun h=>?_) (fun h=>?_)<;>first|exact pN h|push_cast [iO,tN,hn']))
   (refine retK_of [] ?_;push_cast [iO,tN,hg,Option.getD_some,Option.isSome_some])
  ·have h1:=name_nx hlt h0 hn
   repeat' (first|((first|refine pC ?_|refine pQC ?_|refine pU ?_);push_cast [iO,tN,hn])|(refine pif (fun h=>?_) (fun h=>?_)<;>first|exact pN h|push_cast [iO,tN,hn]))
   exact ⟨k+1,⟨by omega,h1⟩,by (refine weak_fg ?_;push_cast [iO,tN]),by omega⟩
 ·rw [List.take_of_length_le (by omega)] at h0
  have hg:=valOf_no h0
  repeat' (first|((first|refine pC ?_|refine pQC ?_|refine pU ?_);push_cast [iO,tN])|(refine pif (fun h=>?_) (fun h=>?_)<;>first|exact pN h|push_cast [iO,tN]))
  (refine retK_of [] ?_;push_cast [iO,tN,hg,Option.getD_none,Option.isSome_none])
theorem rhas_pure (l:List Atr) (s:ByteArray) (hl:l.length≤9223372036854775807) :
  PCalls Tryz.prog 52 [.c (.sl 2 (l.map Atr.d)),.c (.v (.string s))] [] fun r os=>r = .c (.v (.bool (inM s (vals l))))∧os=[]:=by
 refine pcalls_of Tryz.func52 rfl (by simp [Tryz.ntmps52]) ?_
 rw [Tryz.ntmps52,Tryz.results52]
 push_cast [iO,tN]
 have cB:CutB 6 []:=trivial
 repeat' (first|((first|refine pC ?_|refine pQC ?_|refine pU ?_);push_cast [iO,tN])|(refine pif (fun h=>?_) (fun h=>?_)<;>first|exact pN h|push_cast [iO,tN]))
 (apply pwp_loop3 (α:=Nat) 6 [] (fun k=>[(5,.c (.v (.int .i64 k)))]) (fun k=>[]) (fun k=>k≤l.length∧∀ y ∈ l.take k,y.value≠s) (fun k=>l.length - k) (0);(focus ((try push_cast [iO,tN]);rfl));(focus exact ⟨Nat.zero_le _,by simp⟩);(focus ((refine weak_fg ?_;try push_cast [iO,tN]))))
 rintro k ⟨hk,hpre⟩
 push_cast [iO,tN]
 by_cases hlt:k < l.length
 ·by_cases hq:(l.getD k default).value=s
  ·have hm:inM s (vals l)=true:=inM_iff.2 (List.mem_map.2 ⟨_,by rw [getD_lt l hlt];exact List.getElem_mem _,hq⟩)
   repeat' (first|((first|refine pC ?_|refine pQC ?_|refine pU ?_);push_cast [iO,tN,hq])|(refine pif (fun h=>?_) (fun h=>?_)<;>first|exact pN h|push_cast [iO,tN,hq]))
   (refine retK_of [] ?_;push_cast [iO,tN,hm])
  ·repeat' (first|((first|refine pC ?_|refine pQC ?_|refine pU ?_);push_cast [iO,tN,hq])|(refine pif (fun h=>?_) (fun h=>?_)<;>first|exact pN h|push_cast [iO,tN,hq]))
   refine ⟨k+1,⟨by omega,fun x hx=>?_⟩,by (refine weak_fg ?_;push_cast [iO,tN]),by omega⟩
   rw [List.take_succ_eq_append_getElem hlt,List.mem_append,List.mem_singleton] at hx
   rcases hx with hx|hx
   ·exact hpre x hx
   ·rw [hx,← getD_lt l hlt];exact hq
 ·rw [List.take_of_length_le (by omega)] at hpre
  have hm:inM s (vals l)=false:=inM_false.2 fun h=>by
   obtain ⟨x,hx,he⟩:=List.mem_map.1 h
   exact hpre x hx he
  repeat' (first|((first|refine pC ?_|refine pQC ?_|refine pU ?_);push_cast [iO,tN])|(refine pif (fun h=>?_) (fun h=>?_)<;>first|exact pN h|push_cast [iO,tN]))
  (refine retK_of [] ?_;push_cast [iO,tN,hm])
end Go.Proofs.YthconflkbeipoaaGreatDoor
namespace Go.Proofs.YthconflkbeipoaaGreatDoor
open Go.RowKit
open IntWalk renaming iteOmega → iO, toNatUp → tN
set_option linter.unusedVariables false
set_option linter.unusedSimpArgs false
def hasN (d:Dev):Bool:=decide (d.kind=2) || decide (d.kind=3)
def numsM (d:Dev):Bool:=((decide (1≤d.index) && decide (d.index≤1073741824)) && (decide (0≤d.parent) && decide (d.parent≤1073741824))) && !decide (d.parent=d.index)
def namedM (d:Dev):Bool:=(((validS d.name && validS d.original) && validS d.subsystem) && (decide (d.driver=⟨#[]⟩) || validS d.driver)) && textS d.alias_
def kindM (d:Dev):Bool:=if d.kind=4 then ifaceS d.name && ifaceS d.original else (decide (1≤d.kind) && decide (d.kind≤3)) && decide (d.name=d.original)
def numberM (d:Dev):Bool:=if hasN d then decide (1≤d.number) && decide (d.number≤1073741824) else decide (d.number=0)
def attrB (a:Atr):Bool:=(validS a.name && decide (a.value≠⟨#[]⟩)) && textS a.value
def sortedM (l:List Atr):Bool:=(List.range (l.length - 1)).all fun j=>bless (l.getD j default).name (l.getD (j+1) default).name
def attrsB (l:List Atr):Bool:=sortedM l && l.all attrB
def checkM (d:Dev):Int:=if !numsM d then 32 else if !namedM d then 30 else if !kindM d then 31 else if !numberM d then 32 else if 24 < d.attrs.length then 34 else if !attrsB d.attrs then 33 else if hasN d && !linkS (nodeS d.original) then 30 else 0
def nodeM (d:Dev):ByteArray:=if hasN d then nodeS d.original else ⟨#[]⟩
theorem sorted_next {l:List Atr} {k:Nat} (h:∀ j,j < k → bless (l.getD j default).name (l.getD (j+1) default).name=true) (hn:bless (l.getD k default).name (l.getD (k+1) default).name=true):∀ j,j < k+1 → bless (l.getD j default).name (l.getD (j+1) default).name=true:=fun j hj=>by
 by_cases e:j=k
 ·rw [e];exact hn
 ·exact h j (by omega)
theorem sorted_t {l:List Atr} {k:Nat} (hk:l.length≤k+1) (h:∀ j,j < k → bless (l.getD j default).name (l.getD (j+1) default).name=true):sortedM l=true:=List.all_eq_true.2 fun j hj=>h j (by have:=List.mem_range.1 hj;omega)
theorem sorted_f {l:List Atr} {k:Nat} (hk:k+1 < l.length) (h:bless (l.getD k default).name (l.getD (k+1) default).name=false):sortedM l=false:=List.all_eq_false.2 ⟨k,List.mem_range.2 (by omega),by rw [h];decide⟩
theorem nodeS_fit {s:ByteArray}:(nodeS s).size=s.size:=by
 have key:∀ (k:Nat) (l:List UInt8),(Lib.replaceK [33] [47] k l).length=l.length:=by
  intro k
  induction k with
  | zero=>intro l;rfl
  | succ k ih =>
   intro l
   rw [Lib.replaceK]
   split
   ·rfl
   ·rename_i h
    have hg:=Lib.index_ge l [33]
    have hl:(Lib.index l [33]).toNat < l.length:=by
     have h':Lib.index l [33] ≠ -1:=by simpa using h
     have lt:∀ l:List UInt8,Lib.index l [33] < l.length∨Lib.index l [33] = -1:=by
      intro l
      induction l with
      | nil=>exact .inr rfl
      | cons b l ih =>
       rw [Lib.index]
       split
       ·exact .inl (by simp only [List.length_cons];omega)
       ·split
        ·exact .inr rfl
        ·rename_i h2
         rcases ih with ih|ih
         ·exact .inl (by simp only [List.length_cons];omega)
         ·rw [ih] at h2;simp at h2
     rcases lt l with h2|h2
     ·omega
     ·exact absurd h2 h'
    simp only [List.length_append,List.length_take,ih,List.length_drop,List.length_cons,List.length_nil]
    omega
 show (Lib.replaceAll s.data.toList [33] [47]).length=_
 unfold Lib.replaceAll Lib.replace
 rw [if_neg (by decide),key]
 rfl
end Go.Proofs.YthconflkbeipoaaGreatDoor
