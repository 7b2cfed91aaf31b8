/- What the program computes, and the plain laws of it, part 15. -/
import Derived.WideKeyEntry
import Derived.Test.YthhfpcbpiphfiaaGreatDoorR14
namespace Go.Proofs.YthhfpcbpiphfiaaGreatDoor
open Go.RowKit
open IntWalk renaming iteOmega → iO, toNatUp → tN
set_option linter.unusedVariables false
set_option linter.unusedSimpArgs false
theorem run_append_out {P:Program} (w:World) (base:Nat) (t ty e:TypeId) (size bytes:Nat) (hT:SlT P t e size bytes)
  (ad:Addr) (n c0:Nat) (xs:List Value) (hl:xs.length=n * size) (holds:∀ j u,xs[j]? = some u → w.cell? (ad.add j)=some u) (R':Nat → Prop) (A':Option Addr) (m c:Nat) (news:List Value) (hr:Rd w R' size A' m news)
  (h0:0 < m) (hg:c0 < n+m) (h63:n+m≤maxLen) (hbytes:(n+m) * bytes≤140737488355328) (hbase:base≤w.heap.size) :
  ∃ v' w',(Builtin.append_ #[t,t] ty #[.slice (some ad) n c0,.slice A' m c]).run P w = .ok v' w'∧w'.ownsRow base e size v' (n+m) (xs++news)∧Ext No w w':=by
 obtain ⟨ht,⟨i,z,hi,hz,hsize,hby,hzs⟩,hsz⟩:=hT
 subst hsize
 subst hby
 obtain ⟨b',o',rfl,hb',hlt',hc'⟩:=hr.2 h0
 have hsmall:n+m≤9223372036854775807:=by simp only [maxLen] at h63;omega
 have hlen:(xs++news).length=(n+m) * i.size:=by rw [List.length_append,hl,hr.1,Nat.add_mul]
 have hnews:∀ j u,news[j]? = some u → w.cell? ((⟨b',o',none⟩:Addr).add j)=some u:=fun j u hu=>by rw [Addr.add_lit];exact hc' j u hu
 have grown:(w.drew.alloc (.cells (xs.toArray++news.toArray++Builtin.zeroCells z.cells (grownCap w (n+m) c0 e - (n+m))) e)).ownsRow base e i.size
    (.slice (some ⟨w.heap.size,0,none⟩) (n+m) (grownCap w (n+m) c0 e)) (n+m) (xs++news):=by
  have hge:=grownCap_ge w (n+m) c0 e
  have hcm:grownCap w (n+m) c0 e≤maxLen:=grownCap_le_maxLen w (n+m) c0 e h63
  refine ⟨hlen,.inr ⟨w.heap.size,_,_,rfl,hbase,heap_alloc_new w.drew _,hge,hcm,?_,?_⟩⟩
  ·simp only [Array.size_append,List.size_toArray,size_zeroCells,hzs,hl,hr.1,← Nat.add_mul]
   congr 1
   omega
  ·simp only [Array.toList_append,List.append_assoc]
   rw [← List.append_assoc,← hlen]
   exact List.take_left
 have hrun:=run_append_grow (P:=P) w t ty e i z ht hi hz ad n c0 xs hl holds ⟨b',o',none⟩ m c news hr.1 hnews hg (by omega) (growslice_fits hg hbytes)
 exact ⟨_,_,hrun,grown,(Ext.refl No w).drew.alloc _⟩
theorem app_two {P:Program} {N p:Nat} {Γ:G} {s:S} {a:Act} {w:World} {o:Oper} {t e:TypeId} {sz by':Nat} {x z:Operand} {k:Nat} {rows ys:List (List D)} (ho:o.op = .call { callee:=.builtin .append,args := #[x,z],argTypes := #[t,t] })
  (hel:elOf P t=some (e,sz)) (hby:bytOf P e=some by') (hsz:0 < sz) (hz:(zerOf P e).map List.length=some sz) (hx:s.ev x=some (.c (.own k rows.length))) (hk:s.o[k]? = some (.arr e sz rows))
  (hys:srcRows s.o sz (s.ev z)=some ys) (h0:0 < ys.length) (hb1:((rows.length:Int)+ys.length) * by'≤140737488355328) (hb2:(rows.length:Int)+ys.length≤9223372036854775807) (hI:Inv N Γ s a w) (hp:p≤Γ.n) :
  AppOk P N p Γ s a w o (.c (.own k (rows.length+ys.length))) (s.o.set k (.arr e sz (rows++ys))) none∨AppOk P N p Γ s a w o (.c (.own s.o.length (rows.length+ys.length))) (s.o++[.arr e sz (rows++ys)]) none:=by
 obtain ⟨hT,i,hu,hi⟩:=slT_of hel hby hsz hz
 obtain ⟨hyr,A,c,news,hzv,hrd,hnx⟩:=src_ok hI.m hys (fun q hq=>S.ev_ok hq hI)
 have hone:=rd_one hnx
 have hexec:∀ (v v':Value) (w':World),a.eval x=v → (Builtin.append_ #[t,t] o.type #[v,.slice A ys.length c]).run P w = .ok v' w' → (execOp a.eval o).run P w = .ok (.value v') w':=by
  intro v v' w' hv hr
  simp only [execOp,ho,resolve,invoke,builtin,Sem.run_bind,Sem.run_pure,Result.andThen_ok,List.map_toArray,List.map_cons,List.map_nil,hv,hzv,hr]
 obtain ⟨hkn,hrep⟩:=S.ev_ok hx hI
 have hro:=hI.m.ob k _ hk
 obtain ⟨g1,g2,g3,g4⟩:=hro
 have hrl:∀ r ∈ rows++ys,r.length=sz:=fun r hr=>by
  rcases List.mem_append.1 hr with hr|hr
  ·exact g1 r hr
  ·exact hyr r hr
 have hbb:(rows.length+ys.length) * by'≤140737488355328:=by have:=hb1;rw [← Int.natCast_add,← Int.natCast_mul] at this;omega
 have hmx:rows.length+ys.length≤maxLen:=by simp only [maxLen];omega
 rcases hrep with ⟨hc0,⟨A0,hv⟩,hn0⟩|⟨hcp,hv,hnc⟩
 ·
  have hr0:rows=[]:=List.eq_nil_of_length_eq_zero hn0
  subst hr0
  right
  obtain ⟨v',w',hr,h2,h3⟩:=run_append_full (P:=P) w w.heap.size t o.type e sz by' hT (fun _=>True) _ A0 0 [] ⟨by simp,fun h=>absurd h (by omega)⟩ A ys.length c news hrd h0 (by simpa using hmx) (by simpa using hbb) (Nat.le_refl _)
  simp only [List.length_nil,Nat.zero_add,List.nil_append] at *
  exact app_new hI hp (hexec _ _ _ hv hr) h3 h2 (by omega) hsz hyr rfl (hnx.mono fun _ _=>RD.stay ((Same.of_ext h3).stay Γ.I) _ _)
 ·obtain ⟨cur,q1,q2,q3,q4,q5⟩:=g4 hcp
  by_cases hroom:rows.length+ys.length≤Γ.cap k
  ·left
   have hown:w.ownsRow 0 e sz (.slice (some ⟨Γ.β k,0,none⟩) rows.length (Γ.cap k)) rows.length (cur.toList.take (rows.length * sz)) :=
    own_blk q1 (Nat.zero_le _) q2 hnc q4
   obtain ⟨v',w',hr,h2,h3,h5⟩:=run_append_rd (P:=P) w 0 t o.type e sz by' hT _ _ _ hown _ A ys.length c news hrd hone hmx hbb (Nat.zero_le _)
   obtain ⟨b',o',hA,hb',hlt',hc'⟩:=hrd.2 h0
   obtain ⟨i2,hi2,hisz,hiby⟩:∃ i2,P.info? e=some i2∧i2.size=sz∧i2.bytes=by':=by
    obtain ⟨_,⟨i2,z2,h1,_,h3,h4,_⟩,_⟩:=hT
    exact ⟨i2,h1,h3,h4⟩
   have hfit:rows.length * i2.size+news.length≤cur.size:=by rw [hisz,hrd.1,q2,← Nat.add_mul];exact Nat.mul_le_mul_right _ hroom
   have hrun2:=run_append_room (P:=P) w t o.type e i2 hu hi2 (Γ.β k) rows.length (Γ.cap k) cur q1 ⟨b',o',none⟩ ys.length c news (by rw [hisz];exact hrd.1) (fun j u hu=>by rw [Addr.add_lit];exact hc' j u hu) hone hroom hfit
   rw [hA] at hr
   rw [hrun2] at hr
   injection hr with hr1 hr2
   subst hr1
   have hE:Ext (fun i=>i=Γ.β k) w w':=h3.mono fun j hj=>by simp [Value.ownBlock] at hj;exact hj.symm
   have hs:Stay w Γ.I w' Γ.I:=⟨hE.size,fun i hi hl=>hE.block i hl fun h2=>hI.m.off k hkn hcp (h2 ▸ hi),fun i hi=>hi⟩
   obtain ⟨_,h2⟩:=h2
   have hblk:∃ cur',Blk w' (Γ.β k) e cur'∧cur'.size=Γ.cap k * sz∧cur'.toList.take ((rows.length+ys.length) * sz)=cur.toList.take (rows.length * sz)++news:=by
    rcases h2 with ⟨h2,_⟩|⟨g,cap,cur',h2,_,hg,_,_,hcs,htk⟩
    ·cases h2
    ·injection h2 with e1 e2 e3
     injection e1 with e1
     injection e1 with e1
     subst e1;subst e3
     exact ⟨cur',hg,hcs,htk⟩
   obtain ⟨cur',hb1',hcs,htk⟩:=hblk
   refine ⟨.slice (some ⟨Γ.β k,0,none⟩) (rows.length+ys.length) (Γ.cap k),w',Γ,?_,⟨hkn,.inr ⟨hcp,rfl,hroom⟩⟩,⟨hI.size,hI.defers,fun i q hq=>?_,⟨by rw [hI.m.n,List.length_set],fun j o' ho'=>?_,hI.m.sep,hI.m.off,fun b hb=>Nat.lt_of_lt_of_le (hI.m.lt b hb) hE.size,hI.m.pins hs⟩⟩,⟨hE.mono fun i h1=>⟨k,hkn,hcp,h1.symm⟩,fun _ h=>h,fun j hj hc=>.inl ⟨j,hj,hc,rfl⟩,fun _ h=>.inl h,fun _ _=>⟨rfl,rfl⟩⟩⟩
   ·have:=hexec _ _ _ hv (by rw [hA,hrun2])
    rw [this,hr2]
   ·obtain ⟨i1,i2⟩:=hI.t i q hq
    exact ⟨i1,i2.stay hs fun j hj=>⟨i2.lt j hj,rfl,rfl⟩⟩
   ·by_cases hjk:k=j
    ·subst hjk
     have hkl:k < s.o.length:=by rw [← hI.m.n];exact hkn
     rw [List.getElem?_set_self hkl] at ho'
     cases ho'
     refine ⟨hrl,hsz,fun h=>absurd h (by omega),fun _=>⟨cur',hb1',hcs,by rw [List.length_append];exact hroom,q4,?_⟩⟩
     rw [List.length_append,htk,List.flatten_append]
     exact (q5.mono fun _ _=>RD.stay hs _ _).append (hnx.mono fun _ _=>RD.stay hs _ _)
    ·rw [List.getElem?_set_ne hjk] at ho'
     have hj:j < Γ.n:=by rw [hI.m.n];exact (List.getElem?_eq_some_iff.1 ho').1
     exact (hI.m.ob j o' ho').stay hs (fun i hi=>⟨hi,rfl,rfl⟩) hj fun hcj=>hE.block _ (mine_lt hI.m hj hcj) fun h=>hjk (hI.m.sep k j hkn hj hcp hcj h.symm)
  ·right
   have holds:∀ j u,(cur.toList.take (rows.length * sz))[j]? = some u → w.cell? ((⟨Γ.β k,0,none⟩:Addr).add j)=some u:=by
    intro j u hu
    rw [Addr.add_lit,Nat.zero_add,q1.cell]
    rw [List.getElem?_take] at hu
    split at hu
    ·simpa using hu
    ·cases hu
   have hxl:(cur.toList.take (rows.length * sz)).length=rows.length * sz:=by
    rw [List.length_take]
    have hcz:cur.toList.length=cur.size:=Array.length_toList
    rw [hcz,q2]
    exact Nat.min_eq_left (Nat.mul_le_mul_right _ hnc)
   obtain ⟨v',w',hr,h2,h3⟩:=run_append_out (P:=P) w w.heap.size t o.type e sz by' hT ⟨Γ.β k,0,none⟩ rows.length (Γ.cap k) _ hxl holds _ A ys.length c news hrd h0 (by omega) hmx hbb (Nat.le_refl _)
   refine app_new hI hp (hexec _ _ _ hv hr) h3 h2 (by omega) hsz hrl (by simp) ?_
   rw [List.flatten_append]
   exact (q5.append hnx).mono fun _ _=>RD.stay ((Same.of_ext h3).stay Γ.I) _ _
section
variable {P:Program} {N p:Nat} {ops:Array Oper} {rest:List Oper} {o:Oper} {s:S} {K:S → Prop}
theorem pl_app2 {t e:TypeId} {sz by':Nat} {x z:Operand} (k:Nat) {rows ys:List (List D)} (ho:o.op = .call { callee:=.builtin .append,args := #[x,z],argTypes := #[t,t] }) (hg:gd ops s o.guard=some true) (hd:dstOk N o.dst)
  (hel:elOf P t=some (e,sz)) (hby:bytOf P e=some by') (hsz:0 < sz) (hz:(zerOf P e).map List.length=some sz) (hk:s.o[k]? = some (.arr e sz rows)) (hx:s.ev x=some (.c (.own k rows.length)))
  (hys:srcRows s.o sz (s.ev z)=some ys) (h0:0 < ys.length) (hb1:((rows.length:Int)+ys.length) * by'≤140737488355328) (hb2:(rows.length:Int)+ys.length≤9223372036854775807)
  (hA:PL P N p ops rest (S.put ⟨s.t,s.o.set k (.arr e sz (rows++ys))⟩ o.dst (.c (.own k (rows.length+ys.length)))) K)
  (hB:PL P N p ops rest (S.put ⟨s.t,s.o++[.arr e sz (rows++ys)]⟩ o.dst (.c (.own s.o.length (rows.length+ys.length)))) K):PL P N p ops (o :: rest) s K:=by
 intro Γ a w Q hS hK
 rcases app_two (p:=p) ho hel hby hsz hz hx hk hys h0 hb1 hb2 hS.inv hS.le with h|h
 ·obtain ⟨y,w',Γ',h1,h2,h3,h4⟩:=h
  unfold wpListIn
  rw [if_pos (gd_ok hg hS.inv)]
  have hle:p≤Γ'.n:=by have h5:=hS.le;rw [hS.inv.m.n] at h5;rw [h3.m.n,List.length_set];exact h5
  exact wpIn_run h1 (hA Γ' _ w' Q ⟨Inv.put h3 (dst_lt hd) h2,hle⟩ fun s' Γ'' a' w'' hk ha hg' hd'=>hK s' Γ'' a' w'' hk ha (h4.trans hg') (hd'.trans (put_defers _ _ _)))
 ·obtain ⟨y,w',Γ',h1,h2,h3,h4⟩:=h
  unfold wpListIn
  rw [if_pos (gd_ok hg hS.inv)]
  have hle:p≤Γ'.n:=by have h5:=hS.le;rw [hS.inv.m.n] at h5;rw [h3.m.n,List.length_append];omega
  exact wpIn_run h1 (hB Γ' _ w' Q ⟨Inv.put h3 (dst_lt hd) h2,hle⟩ fun s' Γ'' a' w'' hk ha hg' hd'=>hK s' Γ'' a' w'' hk ha (h4.trans hg') (hd'.trans (put_defers _ _ _)))
end
theorem own_moved {P:Program} {N p:Nat} {Γ:G} {s:S} {a:Act} {w:World} {o:Oper} {k:Nat} {q:PV} {ob ob':Ob} (hI:Inv N Γ s a w) (hpk:p≤k) (hk:s.o[k]? = some ob) (b c':Nat) (v':Value) (w':World)
  (hr:(execOp a.eval o).run P w = .ok (.value v') w') (hE:Ext (fun i=>0 < Γ.cap k∧i=Γ.β k) w w') (hb':(0 < Γ.cap k∧b=Γ.β k)∨w.heap.size≤b∨c'=0)
  (hfin:∀ Γ':G,Γ'.n=Γ.n → Γ'.I=Γ.I → Γ'.β k=b → Γ'.cap k=c' → (∀ j,j < Γ.n → j≠k → Agree Γ Γ' j) → Stay w Γ.I w' Γ'.I → RO w' Γ' k ob'∧RP w' Γ' q v') :
  AppOk P N p Γ s a w o q (setO (killO k s.o) k ob') (some k):=by
 have hkl:k < s.o.length:=(List.getElem?_eq_some_iff.1 hk).1
 have hkn:k < Γ.n:=by rw [hI.m.n];exact hkl
 have hΓ:∃ Γ':G,Γ'=⟨Γ.n,upd Γ.β k b,upd Γ.cap k c',Γ.I⟩:=⟨_,rfl⟩
 obtain ⟨Γ',hΓ⟩:=hΓ
 have q1:Γ'.n=Γ.n:=by rw [hΓ]
 have q2:Γ'.I=Γ.I:=by rw [hΓ]
 have q3:Γ'.β k=b:=by rw [hΓ];exact upd_same _ _ _
 have q4:Γ'.cap k=c':=by rw [hΓ];exact upd_same _ _ _
 have q5:∀ j,j≠k → Γ'.β j=Γ.β j∧Γ'.cap j=Γ.cap j:=fun j hj=>by rw [hΓ];exact ⟨upd_ne _ _ hj,upd_ne _ _ hj⟩
 have hs:Stay w Γ.I w' Γ'.I:=⟨hE.size,fun i hi hl=>hE.block i hl fun ⟨h1,h2⟩=>hI.m.off k hkn h1 (h2 ▸ hi),fun i hi=>by rw [q2];exact hi⟩
 have hag:∀ j,j < Γ.n → j≠k → Agree Γ Γ' j:=fun j hj hjk=>⟨by rw [q1];exact hj,(q5 j hjk).1,(q5 j hjk).2⟩
 obtain ⟨hro,hrep'⟩:=hfin Γ' q1 q2 q3 q4 hag hs
 refine ⟨v',w',Γ',hr,hrep',⟨hI.size,hI.defers,fun i q hq=>?_,?_⟩,?_⟩
 ·simp only [S.get] at hq
  rw [look_kill] at hq
  obtain ⟨q0,hq0,rfl⟩:=Option.map_eq_some_iff.1 hq
  obtain ⟨i1,i2⟩:=hI.t i q0 hq0
  obtain ⟨i3,i4⟩:=RP.kill k i2
  exact ⟨i1,i3.stay hs fun j hj=>hag j (i3.lt j hj) fun e=>i4 (e ▸ hj)⟩
 ·refine ⟨by rw [q1,hI.m.n,setO,List.length_set,killO_length],fun j o' ho'=>?_,fun j j' hj hj' hcj hcj' he=>?_,fun j hj hcj=>?_,fun i hi=>?_,hI.m.pins hs⟩
  ·simp only [setO] at ho'
   by_cases hjk:k=j
   ·subst hjk
    rw [List.getElem?_set_self (by rw [killO_length];exact hkl)] at ho'
    cases ho'
    exact hro
   ·rw [List.getElem?_set_ne hjk,killO_get] at ho'
    obtain ⟨o0,ho0,rfl⟩:=Option.map_eq_some_iff.1 ho'
    have hj:j < Γ.n:=by rw [hI.m.n];exact (List.getElem?_eq_some_iff.1 ho0).1
    have h0:=hI.m.ob j o0 ho0
    have hblk:0 < Γ.cap j → w'.heap[Γ.β j]? = w.heap[Γ.β j]?:=fun hcj=>hE.block _ (mine_lt hI.m hj hcj) fun ⟨h1,h2⟩=>hjk (hI.m.sep k j hkn hj h1 hcj h2.symm)
    cases o0 with
    | box ty cs =>
     obtain ⟨j1,xs,j2,j3,j6⟩:=h0
     obtain ⟨j4,j5⟩:=re_kill k j3
     refine ⟨by rw [(q5 j (Ne.symm hjk)).2];exact j1,xs,by rw [(q5 j (Ne.symm hjk)).1];exact (hblk j1).trans j2,re_stay j4 hs (fun i hi=>hag i (re_lt j4 i hi) fun e=>j5 (e ▸ hi)),by unfold Room;rw [(q5 j (Ne.symm hjk)).2];exact j6⟩
    | arr el' sz'' rows' =>
     obtain ⟨j1,j2,j3,j4⟩:=h0
     refine ⟨j1,j2,by rw [(q5 j (Ne.symm hjk)).2];exact j3,fun hcj=>?_⟩
     rw [(q5 j (Ne.symm hjk)).2] at hcj ⊢
     obtain ⟨cur,m1,m2,m3,m4,m5⟩:=j4 hcj
     exact ⟨cur,by rw [(q5 j (Ne.symm hjk)).1];exact (hblk hcj).trans m1,m2,m3,m4,m5.mono fun _ _=>RD.stay hs _ _⟩
    | map kk' ag es =>
     obtain ⟨j1,ms,ck,j2,j3⟩:=h0
     exact ⟨by rw [(q5 j (Ne.symm hjk)).2];exact j1,ms,ck,by rw [(q5 j (Ne.symm hjk)).1];exact (hblk j1).trans j2,j3.stay hs⟩
    | loop l L t =>
     obtain ⟨j1,j2,tm,j3,j4,j5⟩:=h0
     have hb5:=hblk j1
     rw [j2] at hb5
     refine ⟨by rw [(q5 j (Ne.symm hjk)).2];exact j1,by rw [(q5 j (Ne.symm hjk)).1];exact j2,tm,hb5.trans j3,j4,fun i q hq=>?_⟩
     rw [look_kill] at hq
     obtain ⟨q0,hq0,rfl⟩:=Option.map_eq_some_iff.1 hq
     obtain ⟨i1,i2⟩:=j5 i q0 hq0
     obtain ⟨i3,i4⟩:=RP.kill k i2
     exact ⟨i1,i3.stay hs fun i' hi'=>hag i' (i3.lt i' hi') fun e=>i4 (e ▸ hi')⟩
  ·rw [q1] at hj hj'
   by_cases e1:j=k<;>by_cases e2:j'=k
   ·omega
   ·subst e1
    rw [q3,(q5 j' e2).1] at he
    rw [q4] at hcj
    rw [(q5 j' e2).2] at hcj'
    have:=mine_lt hI.m hj' hcj'
    rcases hb' with ⟨h1,h2⟩|h1|h1
    ·exact hI.m.sep j j' hj hj' h1 hcj' (by rw [← he,h2])
    ·omega
    ·omega
   ·subst e2
    rw [q3,(q5 j e1).1] at he
    rw [q4] at hcj'
    rw [(q5 j e1).2] at hcj
    have:=mine_lt hI.m hj hcj
    rcases hb' with ⟨h1,h2⟩|h1|h1
    ·exact hI.m.sep j j' hj hj' hcj h1 (by rw [he,h2])
    ·omega
    ·omega
   ·rw [(q5 j e1).1,(q5 j' e2).1] at he
    rw [(q5 j e1).2] at hcj
    rw [(q5 j' e2).2] at hcj'
    exact hI.m.sep j j' hj hj' hcj hcj' he
  ·rw [q1] at hj
   rw [q2]
   by_cases e1:j=k
   ·subst e1
    rw [q3]
    rw [q4] at hcj
    rcases hb' with ⟨h1,h2⟩|h1|h1
    ·rw [h2];exact hI.m.off j hj h1
    ·intro hi;have:=hI.m.lt _ hi;omega
    ·omega
   ·rw [(q5 j e1).1]
    rw [(q5 j e1).2] at hcj
    exact hI.m.off j hj hcj
  ·rw [q2] at hi
   exact Nat.lt_of_lt_of_le (hI.m.lt i hi) hE.size
 ·refine ⟨hE.mono fun i ⟨h1,h2⟩=>⟨k,hkn,h1,h2.symm⟩,fun i hi=>by rw [q2];exact hi,fun j hj hcj=>?_,fun i hi=>by rw [q2] at hi;exact .inl hi,fun j hj=>?_⟩
  ·rw [q1] at hj
   by_cases e1:j=k
   ·subst e1
    rw [q3]
    rw [q4] at hcj
    rcases hb' with ⟨h1,h2⟩|h1|h1
    ·exact .inl ⟨j,hj,h1,h2.symm⟩
    ·exact .inr h1
    ·omega
   ·rw [(q5 j e1).1]
    rw [(q5 j e1).2] at hcj
    exact .inl ⟨j,hj,hcj,rfl⟩
  ·have:j≠k:=by omega
   exact q5 j this
theorem set_one:∀ (arr:Array Value),arr.size=1 → ∀ x:Value,arr.setIfInBounds 0 x = #[x]
 | ⟨[]⟩,h,_=>by simp at h
 | ⟨[_]⟩,_,_=>by simp
 | ⟨_ :: _ :: _⟩,h,_=>by simp at h
theorem all2_cons {α β:Type} {R:α → β → Prop} {a:α} {b:β} {l:List α} {m:List β} (h:R a b) (h':All2 R l m):All2 R (a :: l) (b :: m):=⟨h,h'⟩
theorem re_any {w:World} {Γ:G}:∀ {ys:List Value},(∀ y ∈ ys,y.oneCell'=true) → All2 (RE w Γ) (List.replicate ys.length .any) ys
 | [],_=>trivial
 | y :: ys,h=>⟨h y (by simp),re_any fun z hz=>h z (by simp [hz])⟩
section
variable {P:Program} {N p:Nat} {ops:Array Oper} {rest:List Oper} {o:Oper} {s:S} {K:S → Prop}
section
variable {Q:Exit → S → Prop}
theorem pwp_regionL {rd:Option Nat} {id:Nat} {l:List Oper} (h:PL P N p l.toArray l s (fun s'=>Q .normal s')) (hp:plains l=true:=by kernel_rfl):PWPr rd P N p (.region id l.toArray false) Q s:=fun z Γ a w hA hD=>by
 refine wpIn_region_lit (list_rd hp ?_)
 exact h Γ a w _ hA fun s' Γ' a' w' hk hA' hg hd=>⟨s',Γ',hk,hA',hg,hD.grow hg hd⟩
end
theorem pl_nest {t e:TypeId} {x0:Operand} {c0 z:E} (ho:o.op = .buildSlice t 1 #[(0,x0)]) (hg:gd ops s o.guard=some true) (hel:elOf P t=some (e,1)) (hz:zerOf P e=some [z])
  (h0:s.ev x0=some (.c c0)) (hd:dstOk N o.dst) (hK:PL P N p ops rest (S.put ⟨s.t,s.o++[.box e [c0]]⟩ o.dst (.c (.own s.o.length 1))) K):PL P N p ops (o :: rest) s K:=by
 refine pl_heap (q:=.c (.own s.o.length 1)) (os:=s.o++[.box e [c0]]) hg (fun Γ a w hA=>?_) (by simp) hd hK
 obtain ⟨hu,hsz'⟩:=el_run hel
 have hI:=hA.inv
 have r0:=S.ev_ok h0 hI
 have k0:=one_cells (RE.one r0)
 have hE:Ext No w (w.alloc (.cells #[a.eval x0] e)):=(Ext.refl No w).alloc _
 have hS:=Same.of_ext hE
 have hag:=push_agree Γ w.heap.size 1
 have hn:=hI.m.n
 have hm:MemOk (Γ.push w.heap.size 1) (s.o++[.box e [c0]]) (w.alloc (.cells #[a.eval x0] e)):=by
  refine hI.m.push hS _ _ _ ⟨by simp [G.push,upd_same],[a.eval x0],?_,?_,.inl (by simp [G.push,upd_same])⟩ (fun _=>Nat.le_refl _)
  ·simp only [G.push,upd_same];exact Blk.new w e #[a.eval x0]
  ·have hx:All2 (RE w Γ) [c0] [a.eval x0]:=⟨r0,trivial⟩
   exact re_stay hx (hS.stay Γ.I) fun k hk=>hag k (re_lt hx k hk)
 obtain ⟨ie,zv,hie,hzz,hzr⟩:=zer_ok hz
 have hies:ie.size=1:=by obtain ⟨i',hi',e'⟩:=Option.map_eq_some_iff.1 hsz';rw [hie] at hi';cases hi';exact e'
 have hrun:(execOp a.eval o).run P w = .ok (.value (.slice (some ⟨w.heap.size,0,none⟩) 1 1)) (w.alloc (.cells #[a.eval x0] e)):=by
  have hb:=run_buildSlice (P:=P) w t e 1 #[(0,a.eval x0)] #[a.eval x0] ie zv hu hie hzz (by rw [hies];decide) (by rw [hies];decide) (by
   rw [hies]
   simp [Instr.fill,k0]
   exact set_one _ (by simp) _)
  simp only [execOp,ho,Sem.run_bind]
  have hp:(#[(0,x0)]:Array (Nat × Operand)).map (fun (i,x)=>(i,a.eval x)) = #[(0,a.eval x0)]:=by simp
  rw [hp,hb]
  simp only [Result.andThen_ok,Sem.run_pure]
 refine ⟨_,_,Γ.push w.heap.size 1,.inl hrun,⟨by simp [G.push,hn],.inr ⟨?_,?_,?_⟩⟩,hI.heap hm (hS.stay Γ.I) hag,grow_push hI.m hE _ _ (fun _=>Nat.le_refl _) hA.le⟩
 ·simp [G.push,← hn,upd_same]
 ·simp [G.push,← hn,upd_same]
 ·simp [G.push,← hn,upd_same]
theorem pl_appbox {t e:TypeId} {by':Nat} {x z:Operand} (k:Nat) {n:Nat} {cs:List E} {d:D} {z0:E} (ho:o.op = .call { callee:=.builtin .append,args := #[x,z],argTypes := #[t,t] }) (hg:gd ops s o.guard=some true) (hd:dstOk N o.dst)
  (hel:elOf P t=some (e,1)) (hby:bytOf P e=some by') (hz:zerOf P e=some [z0]) (hk:s.o[k]? = some (.box e cs)) (hx:s.ev x=some (.c (.own k n))) (hn0:n≤cs.length) (h1:0 < cs.length) (hpk:p≤k)
  (hys:srcRows s.o 1 (s.ev z)=some [[d]]) (hb1:((n:Int)+1) * by'≤140737488355328) (hb2:(n:Int)+1≤9223372036854775807)
  (hK:∀ m,PL P N p ops rest (S.put ⟨killT k s.t,setO (killO k s.o) k (.box e ((cs.take n).map (E.kill k)++d.e :: List.replicate m .any))⟩ o.dst (.c (.own k (n+1)))) K):PL P N p ops (o :: rest) s K:=by
 intro Γ a w Q hS hKQ
 have hI:=hS.inv
 have key:∃ m,AppOk P N p Γ s a w o (.c (.own k (n+1))) (setO (killO k s.o) k (.box e ((cs.take n).map (E.kill k)++d.e :: List.replicate m .any))) (some k):=by
  obtain ⟨hT,i,hu,hi⟩:=slT_of hel hby Nat.one_pos (by rw [hz];rfl)
  obtain ⟨hyr,A,c,news,hzv,hrd,hnx⟩:=src_ok hI.m hys (fun q hq=>S.ev_ok hq hI)
  have hone:=rd_one hnx
  have hexec:∀ (v v':Value) (w':World),a.eval x=v → (Builtin.append_ #[t,t] o.type #[v,.slice A 1 c]).run P w = .ok v' w' → (execOp a.eval o).run P w = .ok (.value v') w':=by
   intro v v' w' hv hr
   simp only [execOp,ho,resolve,invoke,builtin,Sem.run_bind,Sem.run_pure,Result.andThen_ok,List.map_toArray,List.map_cons,List.map_nil,hv,hzv,hr,List.length_cons,List.length_nil,Nat.zero_add]
  obtain ⟨hkn,hrep⟩:=S.ev_ok hx hI
  obtain ⟨h0,xs,hb,hxs,hroom⟩:=hI.m.ob k _ hk
  rcases hrep with ⟨hc0,_⟩|⟨hcp,hv,hnc⟩
  ·omega
  have hxl:=hxs.length
  obtain ⟨y,rfl,hdy⟩:∃ y,news=[y]∧RD w Γ.I d y:=by
   simp only [List.flatten_cons,List.flatten_nil,List.append_nil] at hnx
   obtain ⟨y,m',rfl,hy,hm'⟩:=All2.cons_l.1 hnx
   rw [All2.nil_l] at hm'
   subst hm'
   exact ⟨y,rfl,hy⟩
  obtain ⟨b',o',hA,hb',hlt',hc'⟩:=hrd.2 (by simp)
  have hyc:∀ j u,[y][j]? = some u → w.cell? ((⟨b',o',none⟩:Addr).add j)=some u:=fun j u hu=>by rw [Addr.add_lit];exact hc' j u hu
  obtain ⟨ie,zv,hie,hzz,hzr⟩:=zer_ok hz
  obtain ⟨_,hsz'⟩:=el_run hel
  have hies:ie.size=1:=by obtain ⟨i',hi',e'⟩:=Option.map_eq_some_iff.1 hsz';rw [hie] at hi';cases hi';exact e'
  have hieb:ie.bytes=by':=by
   obtain ⟨i',hi',e'⟩:=Option.map_eq_some_iff.1 (show (P.info? e).map (·.bytes)=some by' from hby);rw [hie] at hi';cases hi';exact e'
  have hzone:∀ u ∈ zv.cells.toList,u.oneCell'=true:=re_one (hzr w Γ)
  have hpre:∀ {w':World} {Γ':G},Stay w Γ.I w' Γ'.I → (∀ j,j < Γ.n → j≠k → Agree Γ Γ' j) → All2 (RE w' Γ') ((cs.take n).map (E.kill k)) (xs.take n):=fun hs hag=>by
   obtain ⟨i3,i4⟩:=re_kill k (hxs.take n)
   exact re_stay i3 hs fun j hj=>hag j (re_lt i3 j hj) fun e=>i4 (e ▸ hj)
  by_cases hrm:n+1≤Γ.cap k
  ·
   have hnx':n+1≤xs.length:=by
    unfold Room at hroom
    rcases hroom with h|h<;>omega
   have hrun:=run_append_room (P:=P) w t o.type e ie hu hie (Γ.β k) n (Γ.cap k) xs.toArray hb ⟨b',o',none⟩ 1 c [y] (by rw [hies];rfl) hyc (by intro u hu;simp at hu;subst hu;exact hdy.one) hrm (by rw [hies];simp;omega)
   rw [hies] at hrun
   simp only [Nat.mul_one,List.length_cons,List.length_nil,Nat.zero_add] at hrun
   refine ⟨(xs.drop (n+1)).length,own_moved hI hpk hk (Γ.β k) (Γ.cap k) _ _ (hexec _ _ _ hv (by rw [hA];exact hrun)) ?_ (.inl ⟨hcp,rfl⟩) fun Γ' q1 q2 q3 q4 hag hs=>⟨⟨by rw [q4];exact hcp,xs.take n++[y]++xs.drop (n+1),?_,?_,?_⟩,by rw [q1];exact hkn,.inr ⟨by rw [q4];exact hcp,by rw [q3,q4],by rw [q4];exact hrm⟩⟩⟩
   ·exact ⟨rfl,rfl,rfl,by simp [World.setRow],fun q _ hS=>setRow_other w (Γ.β k) q _ fun e=>hS ⟨hcp,e⟩⟩
   ·rw [q3]
    exact setRow_heap w (Γ.β k) _ _ e _ hb
   ·rw [List.append_assoc]
    have h9:=(hpre hs hag).append (all2_cons (RE.of_d (RD.stay hs _ _ hdy)) (re_any fun u hu=>re_one hxs u (List.mem_of_mem_drop (i:=n+1) hu)))
    simpa only [List.append_assoc,List.cons_append,List.nil_append] using h9
   ·unfold Room at hroom ⊢
    rw [q4]
    refine hroom.imp (fun h=>?_) id
    simp only [List.length_append,List.length_take,List.length_drop,List.length_cons,List.length_nil]
    omega
  ·
   have hcc:Γ.cap k=n:=by omega
   have hnl:n≤xs.length:=by omega
   have holds:∀ j u,(xs.take n)[j]? = some u → w.cell? ((⟨Γ.β k,0,none⟩:Addr).add j)=some u:=by
    intro j u hu
    rw [Addr.add_lit,Nat.zero_add,hb.cell]
    rw [List.getElem?_take] at hu
    split at hu
    ·simpa using hu
    ·cases hu
   have hmul:(n+1) * by'≤140737488355328:=by
    have h:(((n+1) * by':Nat):Int)≤140737488355328:=by rw [Int.natCast_mul,Int.natCast_succ];exact hb1
    omega
   have hrun:=run_append_grow (P:=P) w t o.type e ie zv hu hie hzz ⟨Γ.β k,0,none⟩ n (Γ.cap k) (xs.take n) (by rw [hies,List.length_take];omega) holds ⟨b',o',none⟩ 1 c [y] (by rw [hies];rfl) hyc (by omega) (by omega) (growslice_fits (by omega) (by rw [hieb];exact hmul))
   obtain ⟨C,hC⟩:∃ C,grownCap w (n+1) (Γ.cap k) e=C:=⟨_,rfl⟩
   have hge:n+1≤C:=by rw [← hC];exact grownCap_ge w (n+1) (Γ.cap k) e
   rw [hC] at hrun
   obtain ⟨zs,hzs⟩:∃ zs,(Builtin.zeroCells zv.cells (C - (n+1))).toList=zs:=⟨_,rfl⟩
   have hzs1:∀ u ∈ zs,u.oneCell'=true:=by
    intro u hu
    rw [← hzs] at hu
    have h2:=zero_cells (z:=zv.cells.toList) (C - (n+1))
    simp only [Array.toArray_toList] at h2
    rw [h2] at hu
    obtain ⟨l,hl,hul⟩:=List.mem_flatten.1 hu
    rw [List.mem_replicate] at hl
    rw [hl.2] at hul
    exact hzone u hul
   have hzl:zs.length=C - (n+1):=by
    rw [← hzs,Array.length_toList,size_zeroCells]
    have:zv.cells.size=1:=by have:=(hzr w Γ).length;simpa using this.symm
    rw [this,Nat.mul_one]
   have hcells:(xs.take n).toArray++[y].toArray++Builtin.zeroCells zv.cells (C - (n+1))=(xs.take n++[y]++zs).toArray:=by
    apply Array.ext'
    simp [hzs]
   rw [hcells] at hrun
   have hE:Ext No w (w.drew.alloc (.cells (xs.take n++[y]++zs).toArray e)):=(Ext.refl No w).drew.alloc _
   refine ⟨zs.length,own_moved hI hpk hk w.heap.size C _ _ (hexec _ _ _ hv (by rw [hA];exact hrun)) (hE.mono fun i hi=>hi.elim) (.inr (.inl (Nat.le_refl _))) fun Γ' q1 q2 q3 q4 hag hs=>⟨⟨by rw [q4];omega,xs.take n++[y]++zs,?_,?_,?_⟩,by rw [q1];exact hkn,.inr ⟨by rw [q4];omega,by rw [q3,q4],by rw [q4];exact hge⟩⟩⟩
   ·rw [q3]
    exact heap_alloc_new w.drew _
   ·rw [List.append_assoc]
    have h9:=(hpre hs hag).append (all2_cons (RE.of_d (RD.stay hs _ _ hdy)) (re_any hzs1))
    simpa only [List.append_assoc,List.cons_append,List.nil_append] using h9
   ·left
    rw [q4]
    simp only [List.length_append,List.length_take,List.length_cons,List.length_nil,hzl]
    omega
 obtain ⟨m,y,w',Γ',hr1,hr2,hr3,hr4⟩:=key
 unfold wpListIn
 rw [if_pos (gd_ok hg hI)]
 have hle:p≤Γ'.n:=by have h5:=hS.le;rw [hI.m.n] at h5;rw [hr3.m.n];simpa [setO,killO_length] using h5
 exact wpIn_run hr1 (hK m Γ' _ w' Q ⟨hr3.put (dst_lt hd) hr2,hle⟩ fun s' Γ'' a' w'' hk ha hg' hd'=>hKQ s' Γ'' a' w'' hk ha (hr4.trans hg') (hd'.trans (put_defers _ _ _)))
end
theorem weak_frzbox {N p:Nat} {s:S} (i:Nat) {k n:Nat} {e:TypeId} {cs:List E} {ds:List D} (hpk:p≤k) (hi:s.get i=some (.c (.own k n))) (hk:s.o[k]? = some (.box e cs)) (hds:toDs (cs.take n)=some ds) (hl:ds.length=n) :
  Weak N p s ⟨(i,.c (.sl 1 (ds.map fun d=>[d]))) :: killT k s.t,setO (killO k s.o) k (.arr e 1 [])⟩:=by
 intro Γ a w hA
 have hI:=hA.inv
 have hkl:k < s.o.length:=(List.getElem?_eq_some_iff.1 hk).1
 have hn:=hI.m.n
 have hkn:k < Γ.n:=by rw [hn];exact hkl
 obtain ⟨h0,xs,hb,hxs,hroom⟩:=hI.m.ob k _ hk
 obtain ⟨Γ',hΓ⟩:∃ Γ':G,Γ'=⟨Γ.n,Γ.β,upd Γ.cap k 0,fun b=>Γ.I b∨b=Γ.β k⟩:=⟨_,rfl⟩
 have q1:Γ'.n=Γ.n:=by rw [hΓ]
 have q2:∀ b,Γ'.I b ↔ (Γ.I b∨b=Γ.β k):=by rw [hΓ];exact fun _=>Iff.rfl
 have q3:Γ'.β=Γ.β:=by rw [hΓ]
 have q4:Γ'.cap k=0:=by rw [hΓ];exact upd_same _ _ _
 have q5:∀ j,j≠k → Γ'.cap j=Γ.cap j:=fun j hj=>by rw [hΓ];exact upd_ne _ _ hj
 have hs:Stay w Γ.I w Γ'.I:=⟨Nat.le_refl _,fun _ _ _=>rfl,fun b hb=>(q2 b).2 (.inl hb)⟩
 have hag:∀ j,j < Γ.n → j≠k → Agree Γ Γ' j:=fun j hj hjk=>⟨by rw [q1];exact hj,by rw [q3],q5 j hjk⟩
 refine ⟨Γ',⟨⟨hI.size,hI.defers,fun j q hq=>?_,⟨by rw [q1,hn,setO,List.length_set,killO_length],fun j o ho=>?_,fun j j' h1 h2 h3 h4 h5=>?_,fun j h1 h2=>?_,fun b hb=>?_,hI.m.pins hs⟩⟩,by rw [q1];exact hA.le⟩,⟨Ext.refl _ _,fun b hb=>(q2 b).2 (.inl hb),fun j h1 h2=>?_,fun b hb=>?_,fun j hj=>⟨by rw [q3],q5 j (by omega)⟩⟩⟩
 ·simp only [S.get,look] at hq
  split at hq
  ·rename_i e1
   subst e1
   cases hq
   obtain ⟨i1,i2⟩:=hI.t j _ hi
   refine ⟨i1,?_⟩
   show RD w Γ'.I (.sl 1 (ds.map fun d=>[d])) _
   rw [rd_sl]
   obtain ⟨_,hrep⟩:=i2
   rcases hrep with ⟨hc,_⟩|⟨hc,hv,hnc⟩
   ·omega
   obtain ⟨hd1,hd2⟩:=toDs_ok hds (hxs.take n)
   have hxn:(xs.take n).length=n:=by rw [← hd1.length,hl]
   refine ⟨_,Γ.cap k,xs.take n,by rw [hv,List.length_map,hl],by rw [List.length_map,hl];exact hnc,⟨by rw [List.length_map,hxn,hl,Nat.mul_one],fun _=>⟨_,0,rfl,(q2 _).2 (.inr rfl),hb.lt,fun j u hu=>?_⟩⟩,fun r hr=>?_,?_⟩
   ·rw [hb.cell,Nat.zero_add]
    rw [List.getElem?_take] at hu
    split at hu
    ·simpa using hu
    ·cases hu
   ·obtain ⟨d,_,rfl⟩:=List.mem_map.1 hr;rfl
   ·have:(ds.map fun d=>[d]).flatten=ds:=by
     clear hds hl hd1 hd2
     induction ds with
     | nil=>rfl
     | cons d ds ih=>simp only [List.map_cons,List.flatten_cons,List.singleton_append,ih]
    rw [this]
    exact hd1.mono fun _ _=>RD.stay hs _ _
  ·change look (killT k s.t) j=some q at hq
   rw [look_kill] at hq
   obtain ⟨q0,hq0,rfl⟩:=Option.map_eq_some_iff.1 hq
   obtain ⟨i1,i2⟩:=hI.t j q0 hq0
   obtain ⟨i3,i4⟩:=RP.kill k i2
   exact ⟨i1,i3.stay hs fun j hj=>hag j (i3.lt j hj) fun e=>i4 (e ▸ hj)⟩
 ·simp only [setO] at ho
  by_cases hjk:k=j
  ·subst hjk
   rw [List.getElem?_set_self (by rw [killO_length];exact hkl)] at ho
   cases ho
   exact ⟨by simp,Nat.one_pos,fun _=>rfl,fun h=>by rw [q4] at h;omega⟩
  ·rw [List.getElem?_set_ne hjk,killO_get] at ho
   obtain ⟨o0,ho0,rfl⟩:=Option.map_eq_some_iff.1 ho
   have h0:=hI.m.ob j o0 ho0
   cases o0 with
   | box ty cs =>
    obtain ⟨j1,xs,j2,j3,j6⟩:=h0
    obtain ⟨j4,j5⟩:=re_kill k j3
    exact ⟨by rw [q5 j (Ne.symm hjk)];exact j1,xs,by rw [q3];exact j2,re_stay j4 hs (fun i hi=>hag i (re_lt j4 i hi) fun e=>j5 (e ▸ hi)),by unfold Room;rw [q5 j (Ne.symm hjk)];exact j6⟩
   | arr el' sz' rows' =>
    obtain ⟨j1,j2,j3,j4⟩:=h0
    refine ⟨j1,j2,by rw [q5 j (Ne.symm hjk)];exact j3,fun hc=>?_⟩
    rw [q5 j (Ne.symm hjk)] at hc ⊢
    obtain ⟨cur,m1,m2,m3,m4,m5⟩:=j4 hc
    exact ⟨cur,by rw [q3];exact m1,m2,m3,m4,m5.mono fun _ _=>RD.stay hs _ _⟩
   | map kk ag es =>
    obtain ⟨j1,ms,ck,j2,j3⟩:=h0
    exact ⟨by rw [q5 j (Ne.symm hjk)];exact j1,ms,ck,by rw [q3];exact j2,j3.stay hs⟩
   | loop l L t =>
    obtain ⟨j1,j2,tm,j3,j4,j5⟩:=h0
    refine ⟨by rw [q5 j (Ne.symm hjk)];exact j1,by rw [q3];exact j2,tm,j3,j4,fun i q hq=>?_⟩
    rw [look_kill] at hq
    obtain ⟨q0,hq0,rfl⟩:=Option.map_eq_some_iff.1 hq
    obtain ⟨i1,i2⟩:=j5 i q0 hq0
    obtain ⟨i3,i4⟩:=RP.kill k i2
    exact ⟨i1,i3.stay hs fun i' hi'=>hag i' (i3.lt i' hi') fun e=>i4 (e ▸ hi')⟩
 ·rw [q1] at h1 h2
  have e1:j≠k:=by rintro rfl;rw [q4] at h3;omega
  have e2:j'≠k:=by rintro rfl;rw [q4] at h4;omega
  rw [q5 j e1] at h3
  rw [q5 j' e2] at h4
  rw [q3] at h5
  exact hI.m.sep j j' h1 h2 h3 h4 h5
 ·rw [q1] at h1
  have e1:j≠k:=by rintro rfl;rw [q4] at h2;omega
  rw [q5 j e1] at h2
  rw [q3,q2]
  rintro (h3|h4)
  ·exact hI.m.off j h1 h2 h3
  ·exact e1 (hI.m.sep j k h1 hkn h2 h0 h4)
 ·rcases (q2 b).1 hb with h|rfl
  ·exact hI.m.lt b h
  ·exact mine_lt hI.m hkn h0
 ·rw [q1] at h1
  have e1:j≠k:=by rintro rfl;rw [q4] at h2;omega
  rw [q5 j e1] at h2
  rw [q3]
  exact .inl ⟨j,h1,h2,rfl⟩
 ·rcases (q2 b).1 hb with h|h2
  ·exact .inl h
  ·exact .inr (.inl ⟨k,hkn,h0,h2.symm⟩)
def HidR (X:Prop):Prop:=X
theorem hidR (id:Nat) {rd:Option Nat} {P:Program} {N p:Nat} {Q:Exit → S → Prop} {s:S} {ops:Array Oper} (h:HidR (PWPr rd P N p (.region id ops true) Q s)):PWPr rd P N p (.region id ops true) Q s:=h
theorem unhid {X:Prop} (h:X):HidR X:=h
attribute [irreducible] HidR
end Go.Proofs.YthhfpcbpiphfiaaGreatDoor
