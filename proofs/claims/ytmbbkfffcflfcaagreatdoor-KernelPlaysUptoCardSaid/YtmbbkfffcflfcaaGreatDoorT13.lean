/- What the program computes, and the plain laws of it, part 13. -/
import Derived.WideKeyEntry
import Derived.Test.YtmbbkfffcflfcaaGreatDoorT12
namespace Go.Proofs.YtmbbkfffcflfcaaGreatDoor
set_option linter.unusedSimpArgs false
set_option linter.unusedVariables false
open Go.RowKit
open IntWalk renaming iteOmega → O, toNatUp → U
theorem tu {P:Program} {N p:Nat} {Γ:G} {s:S} {a:Act} {w:World} {o:Oper} {k:Nat} {q:PV} {ob ob':Ob} (hI:Inv N Γ s a w) (hpk:p≤k) (hk:s.o[k]? = some ob) (b c':Nat) (v':Value) (w':World)
  (hr:(execOp a.eval o).run P w = .ok (.value v') w') (hE:Ext (fun i=>0 < Γ.cap k∧i=Γ.β k) w w') (hb':(0 < Γ.cap k∧b=Γ.β k)∨w.heap.size≤b∨c'=0)
  (hfin:∀ Γ':G,Γ'.n=Γ.n → Γ'.I=Γ.I → Γ'.β k=b → Γ'.cap k=c' → (∀ j,j < Γ.n → j≠k → fV Γ Γ' j) → dC w Γ.I w' Γ'.I → RO w' Γ' k ob'∧RP w' Γ' q v') :
  lP P N p Γ s a w o q (dw (gl k s.o) k ob') (some k):=by
 have hkl:k < s.o.length:=(List.getElem?_eq_some_iff.1 hk).1;have hkn:k < Γ.n:=by rw [hI.m.n];exact hkl
 have hΓ:∃ Γ':G,Γ'=⟨Γ.n,upd Γ.β k b,upd Γ.cap k c',Γ.I⟩:=⟨_,rfl⟩
 obtain ⟨Γ',hΓ⟩:=hΓ;have q1:Γ'.n=Γ.n:=by rw [hΓ]
 have q2:Γ'.I=Γ.I:=by rw [hΓ]
 have q3:Γ'.β k=b:=by rw [hΓ];exact ax _ _ _
 have q4:Γ'.cap k=c':=by rw [hΓ];exact ax _ _ _
 have q5:∀ j,j≠k → Γ'.β j=Γ.β j∧Γ'.cap j=Γ.cap j:=fun j hj=>by rw [hΓ];exact ⟨en _ _ hj,en _ _ hj⟩
 have hs:dC w Γ.I w' Γ'.I:=⟨hE.size,fun i hi hl=>hE.block i hl fun ⟨h1,h2⟩=>hI.m.off k hkn h1 (h2 ▸ hi),fun i hi=>by rw [q2];exact hi⟩
 have hag:∀ j,j < Γ.n → j≠k → fV Γ Γ' j:=fun j hj hjk=>⟨by rw [q1];exact hj,(q5 j hjk).1,(q5 j hjk).2⟩
 obtain ⟨hro,hrep'⟩:=hfin Γ' q1 q2 q3 q4 hag hs;refine ⟨v',w',Γ',hr,hrep',⟨hI.size,hI.defers,fun i q hq=>?_,?_⟩,?_⟩
 ·simp only [S.get] at hq;rw [fe] at hq;obtain ⟨q0,hq0,rfl⟩:=Option.map_eq_some_iff.1 hq;obtain ⟨i1,i2⟩:=hI.t i q0 hq0;obtain ⟨i3,i4⟩:=RP.kill k i2;exact ⟨i1,i3.stay hs fun j hj=>hag j (i3.lt j hj) fun e=>i4 (e ▸ hj)⟩
 ·refine ⟨by rw [q1,hI.m.n,dw,List.length_set,cI],fun j o' ho'=>?_,fun j j' hj hj' hcj hcj' he=>?_,fun j hj hcj=>?_,fun i hi=>?_,hI.m.pins hs⟩
  ·simp only [dw] at ho';by_cases hjk:k=j
   ·subst hjk;rw [List.getElem?_set_self (by rw [cI];exact hkl)] at ho';cases ho';exact hro
   ·rw [List.getElem?_set_ne hjk,iS] at ho';obtain ⟨o0,ho0,rfl⟩:=Option.map_eq_some_iff.1 ho';have hj:j < Γ.n:=by rw [hI.m.n];exact (List.getElem?_eq_some_iff.1 ho0).1
    have h0:=hI.m.ob j o0 ho0;have hblk:0 < Γ.cap j → w'.heap[Γ.β j]? = w.heap[Γ.β j]?:=fun hcj=>hE.block _ (bV hI.m hj hcj) fun ⟨h1,h2⟩=>hjk (hI.m.sep k j hkn hj h1 hcj h2.symm)
    cases o0 with
    | box ty cs =>
     obtain ⟨j1,xs,j2,j3,j6⟩:=h0;obtain ⟨j4,j5⟩:=jq k j3;refine ⟨by rw [(q5 j (Ne.symm hjk)).2];exact j1,xs,by rw [(q5 j (Ne.symm hjk)).1];exact (hblk j1).trans j2,fw j4 hs (fun i hi=>hag i (jV j4 i hi) fun e=>j5 (e ▸ hi)),by unfold lW;rw [(q5 j (Ne.symm hjk)).2];exact j6⟩
    | arr el' sz'' rows' =>
     obtain ⟨j1,j2,j3,j4⟩:=h0;refine ⟨j1,j2,by rw [(q5 j (Ne.symm hjk)).2];exact j3,fun hcj=>?_⟩;rw [(q5 j (Ne.symm hjk)).2] at hcj ⊢;obtain ⟨cur,m1,m2,m3,m4,m5⟩:=j4 hcj;exact ⟨cur,by rw [(q5 j (Ne.symm hjk)).1];exact (hblk hcj).trans m1,m2,m3,m4,m5.mono fun _ _=>RD.stay hs _ _⟩
    | map kk' ag es =>
     obtain ⟨j1,ms,ck,j2,j3⟩:=h0;exact ⟨by rw [(q5 j (Ne.symm hjk)).2];exact j1,ms,ck,by rw [(q5 j (Ne.symm hjk)).1];exact (hblk j1).trans j2,j3.stay hs⟩
    | loop l L t =>
     obtain ⟨j1,j2,tm,j3,j4,j5⟩:=h0;have hb5:=hblk j1;rw [j2] at hb5;refine ⟨by rw [(q5 j (Ne.symm hjk)).2];exact j1,by rw [(q5 j (Ne.symm hjk)).1];exact j2,tm,hb5.trans j3,j4,fun i q hq=>?_⟩;rw [fe] at hq;obtain ⟨q0,hq0,rfl⟩:=Option.map_eq_some_iff.1 hq;obtain ⟨i1,i2⟩:=j5 i q0 hq0;obtain ⟨i3,i4⟩:=RP.kill k i2;exact ⟨i1,i3.stay hs fun i' hi'=>hag i' (i3.lt i' hi') fun e=>i4 (e ▸ hi')⟩
  ·rw [q1] at hj hj';by_cases e1:j=k<;>by_cases e2:j'=k
   ·omega
   ·subst e1;rw [q3,(q5 j' e2).1] at he;rw [q4] at hcj;rw [(q5 j' e2).2] at hcj';have:=bV hI.m hj' hcj';rcases hb' with ⟨h1,h2⟩|h1|h1
    ·exact hI.m.sep j j' hj hj' h1 hcj' (by rw [← he,h2])
    ·omega
    ·omega
   ·subst e2;rw [q3,(q5 j e1).1] at he;rw [q4] at hcj';rw [(q5 j e1).2] at hcj;have:=bV hI.m hj hcj;rcases hb' with ⟨h1,h2⟩|h1|h1
    ·exact hI.m.sep j j' hj hj' hcj h1 (by rw [he,h2])
    ·omega
    ·omega
   ·rw [(q5 j e1).1,(q5 j' e2).1] at he;rw [(q5 j e1).2] at hcj;rw [(q5 j' e2).2] at hcj';exact hI.m.sep j j' hj hj' hcj hcj' he
  ·rw [q1] at hj;rw [q2];by_cases e1:j=k
   ·subst e1;rw [q3];rw [q4] at hcj;rcases hb' with ⟨h1,h2⟩|h1|h1
    ·rw [h2];exact hI.m.off j hj h1
    ·intro hi;have:=hI.m.lt _ hi;omega
    ·omega
   ·rw [(q5 j e1).1];rw [(q5 j e1).2] at hcj;exact hI.m.off j hj hcj
  ·rw [q2] at hi;exact Nat.lt_of_lt_of_le (hI.m.lt i hi) hE.size
 ·refine ⟨hE.mono fun i ⟨h1,h2⟩=>⟨k,hkn,h1,h2.symm⟩,fun i hi=>by rw [q2];exact hi,fun j hj hcj=>?_,fun i hi=>by rw [q2] at hi;exact .inl hi,fun j hj=>?_⟩
  ·rw [q1] at hj;by_cases e1:j=k
   ·subst e1;rw [q3];rw [q4] at hcj;rcases hb' with ⟨h1,h2⟩|h1|h1
    ·exact .inl ⟨j,hj,h1,h2.symm⟩
    ·exact .inr h1
    ·omega
   ·rw [(q5 j e1).1];rw [(q5 j e1).2] at hcj;exact .inl ⟨j,hj,hcj,rfl⟩
  ·have:j≠k:=ac;exact q5 j this
theorem G9:∀ (arr:Array Value),arr.size=1 → ∀ x:Value,arr.setIfInBounds 0 x = #[x]
 | ⟨[]⟩,h,_=>by simp at h
 | ⟨[_]⟩,_,_=>by simp
 | ⟨_ :: _ :: _⟩,h,_=>by simp at h
theorem tw {α β:Type} {R:α → β → Prop} {a:α} {b:β} {l:List α} {m:List β} (h:R a b) (h':ay R l m):ay R (a :: l) (b :: m):=⟨h,h'⟩
theorem yt {w:World} {Γ:G}:∀ {ys:List Value},(∀ y ∈ ys,y.oneCell'=true) → ay (RE w Γ) (List.replicate ys.length .any) ys
 | [],_=>trivial
 | y :: ys,h=>⟨h y (by simp),yt fun z hz=>h z (by simp [hz])⟩
section
variable {P:Program} {N p:Nat} {ops:Array Oper} {rest:List Oper} {o:Oper} {s:S} {K:S → Prop}
section
variable {Q:Exit → S → Prop}
theorem iv {rd:Option Nat} {id:Nat} {l:List Oper} (h:PL P N p l.toArray l s (fun s'=>Q .normal s')) (hp:gj l=true:=by kernel_rfl):aL rd P N p (.region id l.toArray false) Q s:=fun z Γ a w hA hD=>by
 refine wpIn_region_lit (qi hp ?_);exact h Γ a w _ hA fun s' Γ' a' w' hk hA' hg hd=>⟨s',Γ',hk,hA',hg,hD.grow hg hd⟩
end
theorem Ap {t e:TypeId} {x0:Operand} {c0 z:E} (ho:o.op = .buildSlice t 1 #[(0,x0)]) (hg:gd ops s o.guard=some true) (hel:cY P t=some (e,1)) (hz:zerOf P e=some [z])
  (h0:s.ev x0=some (.c c0)) (hd:bp N o.dst) (hK:PL P N p ops rest (S.put ⟨s.t,s.o++[.box e [c0]]⟩ o.dst (.c (.own s.o.length 1))) K):PL P N p ops (o :: rest) s K:=by
 refine mP (q:=.c (.own s.o.length 1)) (os:=s.o++[.box e [c0]]) hg (fun Γ a w hA=>?_) (by simp) hd hK;obtain ⟨hu,hsz'⟩:=fL hel;have hI:=hA.inv;have r0:=S.ev_ok h0 hI;have k0:=lm (RE.one r0);have hE:Ext No w (w.alloc (.cells #[a.eval x0] e)):=(Ext.refl No w).alloc _;have hS:=bS.of_ext hE;have hag:=cU Γ w.heap.size 1;have hn:=hI.m.n;have hm:bz (Γ.push w.heap.size 1) (s.o++[.box e [c0]]) (w.alloc (.cells #[a.eval x0] e)):=by
  refine hI.m.push hS _ _ _ ⟨by simp [G.push,ax],[a.eval x0],?_,?_,.inl (by simp [G.push,ax])⟩ (fun _=>Nat.le_refl _)
  ·simp only [G.push,ax];exact Blk.new w e #[a.eval x0]
  ·have hx:ay (RE w Γ) [c0] [a.eval x0]:=⟨r0,trivial⟩
   exact fw hx (hS.stay Γ.I) fun k hk=>hag k (jV hx k hk)
 obtain ⟨ie,zv,hie,hzz,hzr⟩:=ku hz;have hies:ie.size=1:=by obtain ⟨i',hi',e'⟩:=Option.map_eq_some_iff.1 hsz';rw [hie] at hi';cases hi';exact e'
 have hrun:(execOp a.eval o).run P w = .ok (.value (.slice (some ⟨w.heap.size,0,none⟩) 1 1)) (w.alloc (.cells #[a.eval x0] e)):=by
  have hb:=run_buildSlice (P:=P) w t e 1 #[(0,a.eval x0)] #[a.eval x0] ie zv hu hie hzz (by rw [hies];decide) (by rw [hies];decide) (by
   rw [hies];simp [Instr.fill,k0];exact G9 _ (by simp) _)
  simp only [execOp,ho,Sem.run_bind];have hp:(#[(0,x0)]:Array (Nat × Operand)).map (fun (i,x)=>(i,a.eval x)) = #[(0,a.eval x0)]:=by simp
  rw [hp,hb];simp only [Result.andThen_ok,Sem.run_pure]
 refine ⟨_,_,Γ.push w.heap.size 1,.inl hrun,⟨by simp [G.push,hn],.inr ⟨?_,?_,?_⟩⟩,hI.heap hm (hS.stay Γ.I) hag,cz hI.m hE _ _ (fun _=>Nat.le_refl _) hA.le⟩
 ·simp [G.push,← hn,ax]
 ·simp [G.push,← hn,ax]
 ·simp [G.push,← hn,ax]
theorem oo {t e:TypeId} {by':Nat} {x z:Operand} (k:Nat) {n:Nat} {cs:List E} {d:D} {z0:E} (ho:o.op = .call { callee:=.builtin .append,args := #[x,z],argTypes := #[t,t] }) (hg:gd ops s o.guard=some true) (hd:bp N o.dst)
  (hel:cY P t=some (e,1)) (hby:bytOf P e=some by') (hz:zerOf P e=some [z0]) (hk:s.o[k]? = some (.box e cs)) (hx:s.ev x=some (.c (.own k n))) (hn0:n≤cs.length) (h1:0 < cs.length) (hpk:p≤k)
  (hys:srcRows s.o 1 (s.ev z)=some [[d]]) (hb1:((n:Int)+1) * by'≤140737488355328) (hb2:(n:Int)+1≤9223372036854775807)
  (hK:∀ m,PL P N p ops rest (S.put ⟨jX k s.t,dw (gl k s.o) k (.box e ((cs.take n).map (E.kill k)++d.e :: List.replicate m .any))⟩ o.dst (.c (.own k (n+1)))) K):PL P N p ops (o :: rest) s K:=by
 intro Γ a w Q hS hKQ;have hI:=hS.inv;have key:∃ m,lP P N p Γ s a w o (.c (.own k (n+1))) (dw (gl k s.o) k (.box e ((cs.take n).map (E.kill k)++d.e :: List.replicate m .any))) (some k):=by
  obtain ⟨hT,i,hu,hi⟩:=yf hel hby Nat.one_pos (by rw [hz];rfl);obtain ⟨hyr,A,c,news,hzv,hrd,hnx⟩:=uC hI.m hys (fun q hq=>S.ev_ok hq hI);have hone:=ky hnx;have hexec:∀ (v v':Value) (w':World),a.eval x=v → (Builtin.append_ #[t,t] o.type #[v,.slice A 1 c]).run P w = .ok v' w' → (execOp a.eval o).run P w = .ok (.value v') w':=by
   intro v v' w' hv hr;simp only [execOp,ho,resolve,invoke,builtin,Sem.run_bind,Sem.run_pure,Result.andThen_ok,List.map_toArray,List.map_cons,List.map_nil,hv,hzv,hr,List.length_cons,List.length_nil,Nat.zero_add]
  obtain ⟨hkn,hrep⟩:=S.ev_ok hx hI;obtain ⟨h0,xs,hb,hxs,hroom⟩:=hI.m.ob k _ hk;rcases hrep with ⟨hc0,_⟩|⟨hcp,hv,hnc⟩
  ·omega
  have hxl:=hxs.length;obtain ⟨y,rfl,hdy⟩:∃ y,news=[y]∧RD w Γ.I d y:=by
   simp only [List.flatten_cons,List.flatten_nil,List.append_nil] at hnx;obtain ⟨y,m',rfl,hy,hm'⟩:=ay.cons_l.1 hnx;rw [ay.nil_l] at hm';subst hm';exact ⟨y,rfl,hy⟩
  obtain ⟨b',o',hA,hb',hlt',hc'⟩:=hrd.2 (by simp);have hyc:∀ j u,[y][j]? = some u → w.cell? ((⟨b',o',none⟩:Addr).add j)=some u:=fun j u hu=>by rw [Addr.add_lit];exact hc' j u hu
  obtain ⟨ie,zv,hie,hzz,hzr⟩:=ku hz;obtain ⟨_,hsz'⟩:=fL hel;have hies:ie.size=1:=by obtain ⟨i',hi',e'⟩:=Option.map_eq_some_iff.1 hsz';rw [hie] at hi';cases hi';exact e'
  have hieb:ie.bytes=by':=by
   obtain ⟨i',hi',e'⟩:=Option.map_eq_some_iff.1 (show (P.info? e).map (·.bytes)=some by' from hby);rw [hie] at hi';cases hi';exact e'
  have hzone:∀ u ∈ zv.cells.toList,u.oneCell'=true:=qC (hzr w Γ);have hpre:∀ {w':World} {Γ':G},dC w Γ.I w' Γ'.I → (∀ j,j < Γ.n → j≠k → fV Γ Γ' j) → ay (RE w' Γ') ((cs.take n).map (E.kill k)) (xs.take n):=fun hs hag=>by
   obtain ⟨i3,i4⟩:=jq k (hxs.take n);exact fw i3 hs fun j hj=>hag j (jV i3 j hj) fun e=>i4 (e ▸ hj)
  by_cases hrm:n+1≤Γ.cap k
  ·
   have hnx':n+1≤xs.length:=by
    unfold lW at hroom;rcases hroom with h|h<;>omega
   have hrun:=run_append_room (P:=P) w t o.type e ie hu hie (Γ.β k) n (Γ.cap k) xs.toArray hb ⟨b',o',none⟩ 1 c [y] (by rw [hies];rfl) hyc (by intro u hu;simp at hu;subst hu;exact hdy.one) hrm (by rw [hies];simp;omega);rw [hies] at hrun;simp only [Nat.mul_one,List.length_cons,List.length_nil,Nat.zero_add] at hrun;refine ⟨(xs.drop (n+1)).length,tu hI hpk hk (Γ.β k) (Γ.cap k) _ _ (hexec _ _ _ hv (by rw [hA];exact hrun)) ?_ (.inl ⟨hcp,rfl⟩) fun Γ' q1 q2 q3 q4 hag hs=>⟨⟨by rw [q4];exact hcp,xs.take n++[y]++xs.drop (n+1),?_,?_,?_⟩,by rw [q1];exact hkn,.inr ⟨by rw [q4];exact hcp,by rw [q3,q4],by rw [q4];exact hrm⟩⟩⟩
   ·exact ⟨rfl,rfl,rfl,by simp [World.setRow],fun q _ hS=>setRow_other w (Γ.β k) q _ fun e=>hS ⟨hcp,e⟩⟩
   ·rw [q3];exact setRow_heap w (Γ.β k) _ _ e _ hb
   ·rw [List.append_assoc];have h9:=(hpre hs hag).append (tw (RE.of_d (RD.stay hs _ _ hdy)) (yt fun u hu=>qC hxs u (List.mem_of_mem_drop (i:=n+1) hu)));simpa only [List.append_assoc,List.cons_append,List.nil_append] using h9
   ·unfold lW at hroom ⊢;rw [q4];refine hroom.imp (fun h=>?_) id;simp only [List.length_append,List.length_take,List.length_drop,List.length_cons,List.length_nil];omega
  ·
   have hcc:Γ.cap k=n:=ac;have hnl:n≤xs.length:=ac;have holds:∀ j u,(xs.take n)[j]? = some u → w.cell? ((⟨Γ.β k,0,none⟩:Addr).add j)=some u:=by
    intro j u hu;rw [Addr.add_lit,Nat.zero_add,hb.cell];rw [List.getElem?_take] at hu;split at hu
    ·simpa using hu
    ·cases hu
   have hmul:(n+1) * by'≤140737488355328:=by
    have h:(((n+1) * by':Nat):Int)≤140737488355328:=by rw [Int.natCast_mul,Int.natCast_succ];exact hb1
    omega
   have hrun:=run_append_grow (P:=P) w t o.type e ie zv hu hie hzz ⟨Γ.β k,0,none⟩ n (Γ.cap k) (xs.take n) (by rw [hies,List.length_take];omega) holds ⟨b',o',none⟩ 1 c [y] (by rw [hies];rfl) hyc ac ac (growslice_fits ac (by rw [hieb];exact hmul));obtain ⟨C,hC⟩:∃ C,grownCap w (n+1) (Γ.cap k) e=C:=⟨_,rfl⟩
   have hge:n+1≤C:=by rw [← hC];exact grownCap_ge w (n+1) (Γ.cap k) e
   rw [hC] at hrun;obtain ⟨zs,hzs⟩:∃ zs,(Builtin.zeroCells zv.cells (C - (n+1))).toList=zs:=⟨_,rfl⟩
   have hzs1:∀ u ∈ zs,u.oneCell'=true:=by
    intro u hu;rw [← hzs] at hu;have h2:=qF (z:=zv.cells.toList) (C - (n+1));simp only [Array.toArray_toList] at h2;rw [h2] at hu;obtain ⟨l,hl,hul⟩:=List.mem_flatten.1 hu;rw [List.mem_replicate] at hl;rw [hl.2] at hul;exact hzone u hul
   have hzl:zs.length=C - (n+1):=by
    rw [← hzs,Array.length_toList,size_zeroCells];have:zv.cells.size=1:=by have:=(hzr w Γ).length;simpa using this.symm
    rw [this,Nat.mul_one]
   have hcells:(xs.take n).toArray++[y].toArray++Builtin.zeroCells zv.cells (C - (n+1))=(xs.take n++[y]++zs).toArray:=by
    apply Array.ext';simp [hzs]
   rw [hcells] at hrun;have hE:Ext No w (w.drew.alloc (.cells (xs.take n++[y]++zs).toArray e)):=(Ext.refl No w).drew.alloc _;refine ⟨zs.length,tu hI hpk hk w.heap.size C _ _ (hexec _ _ _ hv (by rw [hA];exact hrun)) (hE.mono fun i hi=>hi.elim) (.inr (.inl (Nat.le_refl _))) fun Γ' q1 q2 q3 q4 hag hs=>⟨⟨by rw [q4];omega,xs.take n++[y]++zs,?_,?_,?_⟩,by rw [q1];exact hkn,.inr ⟨by rw [q4];omega,by rw [q3,q4],by rw [q4];exact hge⟩⟩⟩
   ·rw [q3];exact heap_alloc_new w.drew _
   ·rw [List.append_assoc];have h9:=(hpre hs hag).append (tw (RE.of_d (RD.stay hs _ _ hdy)) (yt hzs1));simpa only [List.append_assoc,List.cons_append,List.nil_append] using h9
   ·left;rw [q4];simp only [List.length_append,List.length_take,List.length_cons,List.length_nil,hzl];omega
 obtain ⟨m,y,w',Γ',hr1,hr2,hr3,hr4⟩:=key;unfold wpListIn;rw [if_pos (fG hg hI)];have hle:p≤Γ'.n:=by have h5:=hS.le;rw [hI.m.n] at h5;rw [hr3.m.n];simpa [dw,cI] using h5
 exact eP hr1 (hK m Γ' _ w' Q ⟨hr3.put (ec hd) hr2,hle⟩ fun s' Γ'' a' w'' hk ha hg' hd'=>hKQ s' Γ'' a' w'' hk ha (hr4.trans hg') (hd'.trans (bK _ _ _)))
theorem Aq {t e:TypeId} {x z:Operand} {by' n:Nat} {kx kz:IntKind} {d:D} {z0:E} (ho:o.op = .makeSlice t x z) (hg:gd ops s o.guard=some true) (hd:bp N o.dst)
  (hel:cY P t=some (e,1)) (hby:bytOf P e=some by') (hz:zerOf P e=some [z0]) (hzd:toD z0=some d) (hx:s.ev x=some (.c (.v (.int kx (n:Int))))) (hzz:s.ev z=some (.c (.v (.int kz (n:Int))))) (h0:0 < n)
  (hb1:(by':Int) * n≤281474976710656) (hb2:(n:Int)≤9223372036854775807)
  (hK:PL P N p ops rest (S.put ⟨s.t,s.o++[.arr e 1 (List.replicate n [d])]⟩ o.dst (.c (.own s.o.length n))) K):PL P N p ops (o :: rest) s K:=by
 refine mP (q:=.c (.own s.o.length n)) (os:=s.o++[.arr e 1 (List.replicate n [d])]) hg (fun Γ a w hA=>?_) (by simp) hd hK;have hI:=hA.inv;have hn:=hI.m.n;obtain ⟨hu,hsz'⟩:=fL hel;obtain ⟨ie,zv,hie,hzv,hzr⟩:=ku hz;have hies:ie.size=1:=by obtain ⟨i',hi',e'⟩:=Option.map_eq_some_iff.1 hsz';rw [hie] at hi';cases hi';exact e'
 have hieb:ie.bytes=by':=by
  obtain ⟨i',hi',e'⟩:=Option.map_eq_some_iff.1 (show (P.info? e).map (·.bytes)=some by' from hby);rw [hie] at hi';cases hi';exact e'
 obtain ⟨u,hu1,hu2⟩:∃ u,zv.cells = #[u]∧RE w Γ z0 u:=by
  have h:=hzr w Γ;obtain ⟨u,m',h2,h3,h4⟩:=ay.cons_l.1 h;rw [ay.nil_l] at h4;subst h4;exact ⟨u,Array.ext' h2,h3⟩
 have hxv:a.eval x = .int kx (n:Int):=(S.ev_ok hx hI).1;have hzv2:a.eval z = .int kz (n:Int):=(S.ev_ok hzz hI).1;have hr:=run_make (P:=P) w t e ie zv hu hie hzv kx kz n n ac (Int.le_refl _) (by rw [hieb];exact hb1) hb2;simp only [Int.toNat_natCast,hies,Nat.mul_one] at hr;obtain ⟨xs,hxs⟩:∃ xs,madeCells zv.cells n=xs:=⟨_,rfl⟩
 have hxl:xs.toList=List.replicate n u:=by rw [← hxs,hu1];exact toList_madeCells_one u n
 have hxz:xs.size=n:=by rw [← Array.length_toList,hxl,List.length_replicate]
 rw [hxs] at hr;have hE:Ext No w (w.alloc (.cells xs e)):=(Ext.refl No w).alloc _;have hS:=bS.of_ext hE;have hag:=cU Γ w.heap.size n;have hrun:(execOp a.eval o).run P w = .ok (.value (.slice (some ⟨w.heap.size,0,none⟩) n n)) (w.alloc (.cells xs e)):=by
  simp only [execOp,ho,hxv,hzv2,Sem.run_bind,hr,Result.andThen_ok,Sem.run_pure]
 have hrd:RD w Γ.I d u:=ye hzd hu2;have hfl:∀ m:Nat,(List.replicate m [d]).flatten=List.replicate m d:=fun m=>by
  induction m with
  | zero=>rfl
  | succ m ih=>simp only [List.replicate_succ,List.flatten_cons,List.singleton_append,ih]
 have hall:∀ m:Nat,ay (RD w Γ.I) (List.replicate m d) (List.replicate m u):=fun m=>by
  induction m with
  | zero=>trivial
  | succ m ih=>exact ⟨hrd,ih⟩
 have hm:bz (Γ.push w.heap.size n) (s.o++[.arr e 1 (List.replicate n [d])]) (w.alloc (.cells xs e)):=by
  refine hI.m.push hS _ _ _ ⟨fun r hr=>by rw [List.mem_replicate] at hr;rw [hr.2];rfl,Nat.one_pos,fun h=>?_,fun _=>⟨xs,?_,?_,?_,?_,?_⟩⟩ (fun _=>Nat.le_refl _)
  ·simp only [G.push,ax] at h;omega
  ·simp only [G.push,ax];exact Blk.new w e xs
  ·simp only [G.push,ax];rw [hxz,Nat.mul_one]
  ·simp only [G.push,ax,List.length_replicate];exact Nat.le_refl _
  ·simp only [G.push,ax,maxLen];omega
  ·rw [hfl,List.length_replicate,Nat.mul_one,hxl,List.take_of_length_le (by rw [List.length_replicate];exact Nat.le_refl _)];exact (hall n).mono fun _ _=>RD.stay (hS.stay Γ.I) _ _
 refine ⟨_,_,Γ.push w.heap.size n,.inl hrun,⟨by simp [G.push,hn],.inr ⟨?_,?_,?_⟩⟩,hI.heap hm (hS.stay Γ.I) hag,cz hI.m hE _ _ (fun _=>Nat.le_refl _) hA.le⟩
 ·simp only [G.push,← hn,ax];exact h0
 ·simp only [G.push,← hn,ax]
 ·simp only [G.push,← hn,ax];exact Nat.le_refl _
end
theorem pf {N p:Nat} {s:S} (i:Nat) {k n:Nat} {e:TypeId} {cs:List E} {ds:List D} (hpk:p≤k) (hi:s.get i=some (.c (.own k n))) (hk:s.o[k]? = some (.box e cs)) (hds:j7 (cs.take n)=some ds) (hl:ds.length=n) :
  bg N p s ⟨(i,.c (.sl 1 (ds.map fun d=>[d]))) :: jX k s.t,dw (gl k s.o) k (.arr e 1 [])⟩:=by
 intro Γ a w hA;have hI:=hA.inv;have hkl:k < s.o.length:=(List.getElem?_eq_some_iff.1 hk).1;have hn:=hI.m.n;have hkn:k < Γ.n:=by rw [hn];exact hkl
 obtain ⟨h0,xs,hb,hxs,hroom⟩:=hI.m.ob k _ hk;obtain ⟨Γ',hΓ⟩:∃ Γ':G,Γ'=⟨Γ.n,Γ.β,upd Γ.cap k 0,fun b=>Γ.I b∨b=Γ.β k⟩:=⟨_,rfl⟩
 have q1:Γ'.n=Γ.n:=by rw [hΓ]
 have q2:∀ b,Γ'.I b ↔ (Γ.I b∨b=Γ.β k):=by rw [hΓ];exact fun _=>Iff.rfl
 have q3:Γ'.β=Γ.β:=by rw [hΓ]
 have q4:Γ'.cap k=0:=by rw [hΓ];exact ax _ _ _
 have q5:∀ j,j≠k → Γ'.cap j=Γ.cap j:=fun j hj=>by rw [hΓ];exact en _ _ hj
 have hs:dC w Γ.I w Γ'.I:=⟨Nat.le_refl _,fun _ _ _=>rfl,fun b hb=>(q2 b).2 (.inl hb)⟩
 have hag:∀ j,j < Γ.n → j≠k → fV Γ Γ' j:=fun j hj hjk=>⟨by rw [q1];exact hj,by rw [q3],q5 j hjk⟩
 refine ⟨Γ',⟨⟨hI.size,hI.defers,fun j q hq=>?_,⟨by rw [q1,hn,dw,List.length_set,cI],fun j o ho=>?_,fun j j' h1 h2 h3 h4 h5=>?_,fun j h1 h2=>?_,fun b hb=>?_,hI.m.pins hs⟩⟩,by rw [q1];exact hA.le⟩,⟨Ext.refl _ _,fun b hb=>(q2 b).2 (.inl hb),fun j h1 h2=>?_,fun b hb=>?_,fun j hj=>⟨by rw [q3],q5 j ac⟩⟩⟩
 ·simp only [S.get,cM] at hq;split at hq
  ·rename_i e1;subst e1;cases hq;obtain ⟨i1,i2⟩:=hI.t j _ hi;refine ⟨i1,?_⟩;show RD w Γ'.I (.sl 1 (ds.map fun d=>[d])) _;rw [dB];obtain ⟨_,hrep⟩:=i2;rcases hrep with ⟨hc,_⟩|⟨hc,hv,hnc⟩
   ·omega
   obtain ⟨hd1,hd2⟩:=lq hds (hxs.take n);have hxn:(xs.take n).length=n:=by rw [← hd1.length,hl]
   refine ⟨_,Γ.cap k,xs.take n,by rw [hv,List.length_map,hl],by rw [List.length_map,hl];exact hnc,⟨by rw [List.length_map,hxn,hl,Nat.mul_one],fun _=>⟨_,0,rfl,(q2 _).2 (.inr rfl),hb.lt,fun j u hu=>?_⟩⟩,fun r hr=>?_,?_⟩
   ·rw [hb.cell,Nat.zero_add];rw [List.getElem?_take] at hu;split at hu
    ·simpa using hu
    ·cases hu
   ·obtain ⟨d,_,rfl⟩:=List.mem_map.1 hr;rfl
   ·have:(ds.map fun d=>[d]).flatten=ds:=by
     clear hds hl hd1 hd2;induction ds with
     | nil=>rfl
     | cons d ds ih=>simp only [List.map_cons,List.flatten_cons,List.singleton_append,ih]
    rw [this];exact hd1.mono fun _ _=>RD.stay hs _ _
  ·change cM (jX k s.t) j=some q at hq;rw [fe] at hq;obtain ⟨q0,hq0,rfl⟩:=Option.map_eq_some_iff.1 hq;obtain ⟨i1,i2⟩:=hI.t j q0 hq0;obtain ⟨i3,i4⟩:=RP.kill k i2;exact ⟨i1,i3.stay hs fun j hj=>hag j (i3.lt j hj) fun e=>i4 (e ▸ hj)⟩
 ·simp only [dw] at ho;by_cases hjk:k=j
  ·subst hjk;rw [List.getElem?_set_self (by rw [cI];exact hkl)] at ho;cases ho;exact ⟨by simp,Nat.one_pos,fun _=>rfl,fun h=>by rw [q4] at h;omega⟩
  ·rw [List.getElem?_set_ne hjk,iS] at ho;obtain ⟨o0,ho0,rfl⟩:=Option.map_eq_some_iff.1 ho;have h0:=hI.m.ob j o0 ho0;cases o0 with
   | box ty cs =>
    obtain ⟨j1,xs,j2,j3,j6⟩:=h0;obtain ⟨j4,j5⟩:=jq k j3;exact ⟨by rw [q5 j (Ne.symm hjk)];exact j1,xs,by rw [q3];exact j2,fw j4 hs (fun i hi=>hag i (jV j4 i hi) fun e=>j5 (e ▸ hi)),by unfold lW;rw [q5 j (Ne.symm hjk)];exact j6⟩
   | arr el' sz' rows' =>
    obtain ⟨j1,j2,j3,j4⟩:=h0;refine ⟨j1,j2,by rw [q5 j (Ne.symm hjk)];exact j3,fun hc=>?_⟩;rw [q5 j (Ne.symm hjk)] at hc ⊢;obtain ⟨cur,m1,m2,m3,m4,m5⟩:=j4 hc;exact ⟨cur,by rw [q3];exact m1,m2,m3,m4,m5.mono fun _ _=>RD.stay hs _ _⟩
   | map kk ag es =>
    obtain ⟨j1,ms,ck,j2,j3⟩:=h0;exact ⟨by rw [q5 j (Ne.symm hjk)];exact j1,ms,ck,by rw [q3];exact j2,j3.stay hs⟩
   | loop l L t =>
    obtain ⟨j1,j2,tm,j3,j4,j5⟩:=h0;refine ⟨by rw [q5 j (Ne.symm hjk)];exact j1,by rw [q3];exact j2,tm,j3,j4,fun i q hq=>?_⟩;rw [fe] at hq;obtain ⟨q0,hq0,rfl⟩:=Option.map_eq_some_iff.1 hq;obtain ⟨i1,i2⟩:=j5 i q0 hq0;obtain ⟨i3,i4⟩:=RP.kill k i2;exact ⟨i1,i3.stay hs fun i' hi'=>hag i' (i3.lt i' hi') fun e=>i4 (e ▸ hi')⟩
 ·rw [q1] at h1 h2;have e1:j≠k:=by rintro rfl;rw [q4] at h3;omega
  have e2:j'≠k:=by rintro rfl;rw [q4] at h4;omega
  rw [q5 j e1] at h3;rw [q5 j' e2] at h4;rw [q3] at h5;exact hI.m.sep j j' h1 h2 h3 h4 h5
 ·rw [q1] at h1;have e1:j≠k:=by rintro rfl;rw [q4] at h2;omega
  rw [q5 j e1] at h2;rw [q3,q2];rintro (h3|h4)
  ·exact hI.m.off j h1 h2 h3
  ·exact e1 (hI.m.sep j k h1 hkn h2 h0 h4)
 ·rcases (q2 b).1 hb with h|rfl
  ·exact hI.m.lt b h
  ·exact bV hI.m hkn h0
 ·rw [q1] at h1;have e1:j≠k:=by rintro rfl;rw [q4] at h2;omega
  rw [q5 j e1] at h2;rw [q3];exact .inl ⟨j,h1,h2,rfl⟩
 ·rcases (q2 b).1 hb with h|h2
  ·exact .inl h
  ·exact .inr (.inl ⟨k,hkn,h0,h2.symm⟩)
section
variable {P:Program} {N p:Nat} {ops:Array Oper} {rest:List Oper} {o:Oper} {s:S} {K:S → Prop}
theorem fU {q:PV} (hg:gd ops s o.guard=some true) (h:run1 P p s o.op = .val q) (hd:bp N o.dst) (hK:PL P N p ops rest (s.put o.dst q) K):PL P N p ops (o :: rest) s K:=yg hg (kC h) hd hK
theorem uP {t t':TypeId} {x z:Operand} {a b:ByteArray} (ho:o.op = .binOp .add t x z t') (hg:gd ops s o.guard=some true) (hx:s.ev x=some (.c (.v (.string a)))) (hz:s.ev z=some (.c (.v (.string b)))) (hf:(a.size:Int)+b.size≤9223372036854775807) (hd:bp N o.dst)
  (hK:PL P N p ops rest (s.put o.dst (.c (.v (.string (a++b))))) K):PL P N p ops (o :: rest) s K:=by
 refine yg (q:=.c (.v (.string (a++b)))) hg ?_ hd hK;rw [ho];show x5 P .add t (s.ev x) (s.ev z)=_;rw [hx,hz];simp only [x5,x3,vI,if_pos hf,Option.map_some]
end
section
variable {rd:Option Nat} {P:Program} {N p:Nat} {Q:Exit → S → Prop} {s:S}
theorem Ew {x y:Code} {α:Type} (B:Nat) (ex:List Nat) (f:α → List (Nat × PV)) (g:α → List (Nat × Ob)) (Φ:α → Prop) (x0:α) {t0:List (Nat × PV)} (ht:sy B ex ((f x0).map Prod.fst) s.t=t0)
  (h1:aL rd P N p x (lQ (fun s'=>∃ a,Φ a∧bg N p s' ⟨f a++t0,sA s.o (g a)⟩) Q) s)
  (h2:∀ a,Φ a → aL rd P N p y Q ⟨f a++t0,sA s.o (g a)⟩):aL rd P N p (x.seq y) Q s:=by
 refine bf fun K hK=>qN h1 fun e s' h=>?_
 cases e with
 | normal =>
  obtain ⟨a,ha,hw⟩:=h;exact hK s' (aF hw (h2 a ha))
 | _=>exact h
end
def Jn (X:Prop):Prop:=X
theorem eQ (id:Nat) {rd:Option Nat} {P:Program} {N p:Nat} {Q:Exit → S → Prop} {s:S} {ops:Array Oper} (h:Jn (aL rd P N p (.region id ops true) Q s)):aL rd P N p (.region id ops true) Q s:=h
theorem dd {X:Prop} (h:X):Jn X:=h
attribute [irreducible] Jn
structure El where
 lit:Nat
 star:Bool
 set:List Bool
 deriving DecidableEq,Inhabited
def El.has (e:El) (b:UInt8):Bool:=e.set.getD b.toNat false
def qj (f:List UInt8 → Bool):List UInt8 → Bool
 | []=>f []
 | b :: s=>f (b :: s) || qj f s
def uQ (e:El) (f:List UInt8 → Bool):List UInt8 → Bool
 | []=>false
 | b :: s=>e.has b && f s
def mat:List El → List UInt8 → Bool
 | [],s=>s.isEmpty
 | e :: l,s=>if e.star then qj (mat l) s else uQ e (mat l) s
theorem pg (f:List UInt8 → Bool):∀ s:List UInt8,qj f s=true ↔ ∃ j,j≤s.length∧f (s.drop j)=true
 | []=>by
  constructor
  ·intro h;exact ⟨0,Nat.le_refl _,h⟩
  ·rintro ⟨j,hj,h⟩;have:j=0:=by simpa using hj
   subst this;exact h
 | b :: s=>by
  rw [qj,Bool.or_eq_true,pg f s];constructor
  ·rintro (h|⟨j,hj,h⟩)
   ·exact ⟨0,Nat.zero_le _,h⟩
   ·exact ⟨j+1,by simp only [List.length_cons];omega,by simpa using h⟩
  ·rintro ⟨j,hj,h⟩;cases j with
   | zero=>exact .inl h
   | succ j=>exact .inr ⟨j,by simp only [List.length_cons] at hj;omega,by simpa using h⟩
theorem kL {e:El} {l:List El} {s:List UInt8} (he:e.star=true):mat (e :: l) s=true ↔ ∃ j,j≤s.length∧mat l (s.drop j)=true:=by
 rw [mat,if_pos he,pg]
theorem qk {e:El} {l:List El} {b:UInt8} {s:List UInt8} (he:e.star=false):mat (e :: l) (b :: s)=(e.has b && mat l s):=by
 rw [mat,if_neg (by simp [he]),uQ]
theorem ql {e:El} {l:List El} (he:e.star=false):mat (e :: l) []=false:=by
 rw [mat,if_neg (by simp [he]),uQ]
theorem uR:∀ {p r:List El} {t:List UInt8},(∀ e ∈ p,e.star=false) → mat (p++r) t=true → p.length≤t.length∧mat r (t.drop p.length)=true
 | [],r,t,_,h=>⟨Nat.zero_le _,by simpa using h⟩
 | e :: p,r,[],hp,h=>by rw [List.cons_append,ql (hp e (by simp))] at h;cases h
 | e :: p,r,b :: t,hp,h=>by
  rw [List.cons_append,qk (hp e (by simp)),Bool.and_eq_true] at h;have ih:=uR (fun x hx=>hp x (by simp [hx])) h.2;exact ⟨by simp only [List.length_cons];omega,by simpa using ih.2⟩
structure Way (l:List El) (s:List UInt8) (at_ i st f:Nat):Prop where
 hat:at_≤l.length
 hi:i≤s.length
 hf:f≤i
 hst:st≤at_
 h0:st=0 → (mat l s=true ↔ mat (l.drop at_) (s.drop i)=true)
 h1:0 < st → i - f=at_ - st∧(∀ e ∈ (l.drop st).take (at_ - st),e.star=false)∧(mat l s=true ↔ (mat (l.drop at_) (s.drop i)=true∨∃ j,f < j∧j≤s.length∧mat (l.drop st) (s.drop j)=true))
theorem Way.start (l:List El) (s:List UInt8):Way l s 0 0 0 0:=⟨Nat.zero_le _,Nat.zero_le _,Nat.le_refl _,Nat.le_refl _,fun _=>by simp,fun h=>absurd h ac⟩
theorem lw {l:List El} {k:Nat} (h:k < l.length):l.drop k=l[k] :: l.drop (k+1):=List.drop_eq_getElem_cons h
theorem oq {s:List UInt8} {k:Nat} (h:k < s.length):s.drop k=s[k] :: s.drop (k+1):=List.drop_eq_getElem_cons h
theorem Way.star {l:List El} {s:List UInt8} {at_ i st f:Nat} (w:Way l s at_ i st f) (h:at_ < l.length) (hs:l[at_].star=true):Way l s (at_+1) i (at_+1) i:=by
 refine ⟨ac,w.hi,Nat.le_refl _,Nat.le_refl _,fun h=>by omega,fun _=>⟨ac,by simp,?_⟩⟩;have e1:mat (l.drop at_) (s.drop i)=true ↔ (mat (l.drop (at_+1)) (s.drop i)=true∨∃ j,i < j∧j≤s.length∧mat (l.drop (at_+1)) (s.drop j)=true):=by
  rw [lw h,kL hs];constructor
  ·rintro ⟨j,hj,hm⟩;rw [List.drop_drop] at hm;rw [List.length_drop] at hj;cases j with
   | zero=>exact .inl (by simpa using hm)
   | succ j=>exact .inr ⟨i+(j+1),ac,by have:=w.hi;omega,hm⟩
  ·rintro (hm|⟨j,h1,h2,hm⟩)
   ·exact ⟨0,Nat.zero_le _,by simpa using hm⟩
   ·exact ⟨j - i,by rw [List.length_drop];omega,by rw [List.drop_drop];rwa [show i+(j - i)=j by omega]⟩
 by_cases h0:st=0
 ·rw [w.h0 h0,e1]
 ·obtain ⟨k1,k2,k3⟩:=w.h1 ac;rw [k3,e1];constructor
  ·rintro (hm|⟨j,h1,h2,hm⟩)
   ·exact hm
   ·right;have hsp:l.drop st=(l.drop st).take (at_ - st)++l.drop at_:=by
     conv=>lhs;rw [← List.take_append_drop (at_ - st) (l.drop st)]
     rw [List.drop_drop,show st+(at_ - st)=at_ by have:=w.hst;omega]
    rw [hsp] at hm;obtain ⟨m1,m2⟩:=uR k2 hm;have hlen:((l.drop st).take (at_ - st)).length=at_ - st:=by rw [List.length_take,List.length_drop];omega
    rw [hlen] at m1 m2;rw [List.length_drop] at m1;rw [List.drop_drop,lw h,kL hs] at m2;obtain ⟨q,hq,hm2⟩:=m2;rw [List.length_drop] at hq;rw [List.drop_drop] at hm2;have:=w.hf;exact ⟨j+(at_ - st)+q,ac,ac,hm2⟩
  ·exact .inl
theorem Way.step {l:List El} {s:List UInt8} {at_ i st f:Nat} (w:Way l s at_ i st f) (h:at_ < l.length) (hi:i < s.length) (hs:l[at_].star=false) (hh:l[at_].has s[i]=true):Way l s (at_+1) (i+1) st f:=by
 have e1:mat (l.drop at_) (s.drop i)=mat (l.drop (at_+1)) (s.drop (i+1)):=by rw [lw h,oq hi,qk hs,hh,Bool.true_and]
 refine ⟨ac,ac,by have:=w.hf;omega,by have:=w.hst;omega,fun h0=>by rw [w.h0 h0,e1],fun h0=>?_⟩;obtain ⟨k1,k2,k3⟩:=w.h1 h0;have hst:=w.hst;have hf:=w.hf;refine ⟨ac,fun e he=>?_,by rw [k3,e1]⟩;rw [show at_+1 - st=(at_ - st)+1 by omega,List.take_add_one,List.mem_append] at he;rcases he with he|he
 ·exact k2 e he
 ·rw [List.getElem?_drop,show st+(at_ - st)=at_ by omega,List.getElem?_eq_getElem h] at he;simp at he;rw [he];exact hs
theorem Way.back {l:List El} {s:List UInt8} {at_ i st f:Nat} (w:Way l s at_ i st f) (hi:i < s.length) (h0:0 < st) (hno:mat (l.drop at_) (s.drop i)=false):Way l s st (f+1) st (f+1):=by
 obtain ⟨k1,k2,k3⟩:=w.h1 h0;have hst:=w.hst;have hf:=w.hf;have hat:=w.hat;refine ⟨ac,ac,Nat.le_refl _,Nat.le_refl _,fun h=>by omega,fun _=>⟨ac,by simp,?_⟩⟩;rw [k3,hno];constructor
 ·rintro (h|⟨j,h1,h2,hm⟩)
  ·cases h
  ·by_cases e:j=f+1
   ·subst e;exact .inl hm
   ·exact .inr ⟨j,ac,h2,hm⟩
 ·rintro (hm|⟨j,h1,h2,hm⟩)
  ·exact .inr ⟨f+1,ac,ac,hm⟩
  ·exact .inr ⟨j,ac,h2,hm⟩
theorem Way.none {l:List El} {s:List UInt8} {at_ i f:Nat} (w:Way l s at_ i 0 f) (hno:mat (l.drop at_) (s.drop i)=false):mat l s=false:=by
 have:=w.h0 rfl;rw [hno] at this;simpa using this
theorem Way.fin {l:List El} {s:List UInt8} {at_ st f:Nat} (w:Way l s at_ s.length st f):mat l s=mat (l.drop at_) []:=by
 have hst:=w.hst;have hf:=w.hf;have hat:=w.hat;rw [Bool.eq_iff_iff];by_cases h0:st=0
 ·rw [w.h0 h0,List.drop_length]
 ·obtain ⟨k1,k2,k3⟩:=w.h1 ac;rw [k3,List.drop_length];constructor
  ·rintro (h|⟨j,h1,h2,hm⟩)
   ·exact h
   ·exfalso;have hsp:l.drop st=(l.drop st).take (at_ - st)++l.drop at_:=by
     conv=>lhs;rw [← List.take_append_drop (at_ - st) (l.drop st)]
     rw [List.drop_drop,show st+(at_ - st)=at_ by omega]
    rw [hsp] at hm;have m1:=(uR k2 hm).1;rw [List.length_take,List.length_drop,List.length_drop] at m1;omega
  ·exact .inl
theorem wA {l:List El} {s:List UInt8} {at_ i:Nat} (hi:i < s.length) (h:at_ < l.length → (∃ h:at_ < l.length,l[at_].star=false∧l[at_].has s[i]=false)):mat (l.drop at_) (s.drop i)=false:=by
 by_cases ha:at_ < l.length
 ·obtain ⟨_,h1,h2⟩:=h ha;rw [lw ha,oq hi,qk h1,h2];rfl
 ·rw [List.drop_eq_nil_of_le ac,oq hi];rfl
theorem iY:∀ l:List El,mat l []=l.all (·.star)
 | []=>rfl
 | e :: l=>by
  cases he:e.star with
  | true =>
   rw [List.all_cons,he,Bool.true_and,← iY l,Bool.eq_iff_iff,kL he];constructor
   ·rintro ⟨j,_,h⟩;simpa using h
   ·intro h;exact ⟨0,Nat.le_refl _,by simpa using h⟩
  | false=>rw [ql he,List.all_cons,he];rfl
def sB (L S at_ st f:Nat):Nat:=(L - st) * ((S+1) * (L+2))+(S - f) * (L+2)+(L - at_)
theorem gB:∀ {l:List El} {s:List UInt8},mat l s=true ↔ ∃ ss:List (List UInt8),s=ss.flatten∧ay (fun (e:El) (t:List UInt8)=>e.star=true∨∃ b,t=[b]∧e.has b=true) l ss
 | [],s=>by
  constructor
  ·intro h;exact ⟨[],by simpa [mat] using h,trivial⟩
  ·rintro ⟨ss,rfl,h⟩;rw [ay.nil_l] at h;subst h;rfl
 | e :: l,s=>by
  have ih:=fun s=>gB (l:=l) (s:=s)
  cases he:e.star with
  | true =>
   rw [kL he];constructor
   ·rintro ⟨j,hj,h⟩;obtain ⟨ss,h1,h2⟩:=(ih _).1 h;exact ⟨s.take j :: ss,by rw [List.flatten_cons,← h1,List.take_append_drop],.inl he,h2⟩
   ·rintro ⟨ss,rfl,h⟩;obtain ⟨t,ts,rfl,h1,h2⟩:=ay.cons_l.1 h;refine ⟨t.length,by rw [List.flatten_cons,List.length_append];omega,?_⟩;rw [List.flatten_cons,List.drop_left];exact (ih _).2 ⟨ts,rfl,h2⟩
  | false =>
   cases s with
   | nil =>
    rw [ql he];constructor
    ·intro h;cases h
    ·rintro ⟨ss,hs,h⟩;obtain ⟨t,ts,rfl,h1,h2⟩:=ay.cons_l.1 h;rcases h1 with h1|⟨b,rfl,_⟩
     ·rw [he] at h1;cases h1
     ·simp at hs
   | cons b s =>
    rw [qk he,Bool.and_eq_true,ih];constructor
    ·rintro ⟨hb,ss,rfl,h⟩;exact ⟨[b] :: ss,rfl,.inr ⟨b,rfl,hb⟩,h⟩
    ·rintro ⟨ss,hs,h⟩;obtain ⟨t,ts,rfl,h1,h2⟩:=ay.cons_l.1 h;rcases h1 with h1|⟨b',rfl,hb⟩
     ·rw [he] at h1;cases h1
     ·rw [List.flatten_cons,List.singleton_append] at hs;injection hs with e1 e2
      subst e1 e2;exact ⟨hb,ts,rfl,h2⟩
theorem fN {α β:Type} {R:α → β → Prop} {l:List α} {a:α} {m:List β}:ay R (l++[a]) m ↔ ∃ m' b,m=m'++[b]∧ay R l m'∧R a b:=by
 constructor
 ·intro h;obtain ⟨x,y,rfl,h1,h2⟩:=h.split;obtain ⟨b,y',rfl,h3,h4⟩:=ay.cons_l.1 h2;rw [ay.nil_l] at h4;subst h4;exact ⟨x,b,rfl,h1,h3⟩
 ·rintro ⟨m',b,rfl,h1,h2⟩;exact h1.append ⟨h2,trivial⟩
theorem lS {l:List El} {e:El} {s:List UInt8} {b:UInt8} (he:e.star=true):mat (l++[e]) (s++[b])=(mat l (s++[b]) || mat (l++[e]) s):=by
 rw [Bool.eq_iff_iff,Bool.or_eq_true,gB,gB,gB];constructor
 ·rintro ⟨ss,hs,h⟩;obtain ⟨ms,t,rfl,h1,h2⟩:=fN.1 h;rw [List.flatten_append,List.flatten_cons,List.flatten_nil,List.append_nil] at hs;rcases List.eq_nil_or_concat t with rfl|⟨t',c,rfl⟩
  ·exact .inl ⟨ms,by simpa using hs,h1⟩
  ·right;rw [List.concat_eq_append,← List.append_assoc] at hs;obtain ⟨h3,_⟩:=List.append_inj' hs rfl;exact ⟨ms++[t'],by rw [h3];simp,fN.2 ⟨ms,t',rfl,h1,.inl he⟩⟩
 ·rintro (⟨ss,hs,h⟩|⟨ss,hs,h⟩)
  ·exact ⟨ss++[[]],by rw [hs];simp,fN.2 ⟨ss,[],rfl,h,.inl he⟩⟩
  ·obtain ⟨ms,t,rfl,h1,h2⟩:=fN.1 h;exact ⟨ms++[t++[b]],by rw [hs];simp,fN.2 ⟨ms,_,rfl,h1,.inl he⟩⟩
theorem uS {l:List El} {e:El} {s:List UInt8} {b:UInt8} (he:e.star=false):mat (l++[e]) (s++[b])=(mat l s && e.has b):=by
 rw [Bool.eq_iff_iff,Bool.and_eq_true,gB,gB];constructor
 ·rintro ⟨ss,hs,h⟩;obtain ⟨ms,t,rfl,h1,h2⟩:=fN.1 h;rcases h2 with h2|⟨c,rfl,hc⟩
  ·rw [he] at h2;cases h2
  ·rw [List.flatten_append,List.flatten_cons,List.flatten_nil,List.append_nil] at hs;obtain ⟨h3,h4⟩:=List.append_inj' hs rfl;injection h4 with h4
   subst h4;exact ⟨⟨ms,h3,h1⟩,hc⟩
 ·rintro ⟨⟨ss,rfl,h⟩,hb⟩;exact ⟨ss++[[b]],by simp,fN.2 ⟨ss,_,rfl,h,.inr ⟨b,rfl,hb⟩⟩⟩
theorem mZ {l:List El} {e:El}:mat (l++[e]) []=(mat l [] && e.star):=by
 rw [iY,iY,List.all_append];simp
end Go.Proofs.YtmbbkfffcflfcaaGreatDoor
