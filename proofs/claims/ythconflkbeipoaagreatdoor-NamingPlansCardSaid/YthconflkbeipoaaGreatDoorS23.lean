/- What the program computes, and the plain laws of it, part 23. -/
import Derived.Test.YthconflkbeipoaaGreatDoorS22
namespace Go.Proofs.YthconflkbeipoaaGreatDoor
open Go.RowKit
open IntWalk renaming iteOmega → iO, toNatUp → tN
set_option linter.unusedVariables false
set_option linter.unusedSimpArgs false
def putTs:List Nat → List PV → List (Nat × PV) → List (Nat × PV)
 | i :: is,q :: qs,t=>putTs is qs ((i,q) :: t)
 | _,_,t=>t
attribute [push_cast] putTs
theorem putTs_ok {N:Nat} {Γ:G} {w:World}:∀ {is:List Nat} {qs:List PV} {t:List (Nat × PV)} {xs:List Value} {tm:Array Value},is.length=qs.length → (∀ i ∈ is,i < N) → All2 (RP w Γ) qs xs → tm.size=N → (∀ i q,look t i=some q → i < N∧RP w Γ q (tm.getD i Go.undef)) →
  ((is.zip xs).foldl (fun tmps (x:Nat × Value)=>tmps.setIfInBounds x.1 x.2) tm).size=N∧∀ i q,look (putTs is qs t) i=some q → i < N∧RP w Γ q (((is.zip xs).foldl (fun tmps (x:Nat × Value)=>tmps.setIfInBounds x.1 x.2) tm).getD i Go.undef)
 | [],[],t,xs,tm,_,_,_,hs,ht=>by
  rw [List.zip_nil_left]
  exact ⟨hs,ht⟩
 | i :: is,q :: qs,t,x :: xs,tm,hl,hn,hx,hs,ht=>by
  rw [List.zip_cons_cons,List.foldl_cons,putTs]
  refine putTs_ok (by simpa using hl) (fun j hj=>hn j (by simp [hj])) hx.2 (by simpa using hs) fun j r hj=>?_
  have hi:=hn i (by simp)
  simp only [look] at hj
  split at hj
  ·rename_i e
   subst e
   cases hj
   refine ⟨hi,?_⟩
   have:j < tm.size:=by rw [hs];exact hi
   simpa [this] using hx.1
  ·rename_i e
   obtain ⟨h1,h2⟩:=ht j r hj
   refine ⟨h1,?_⟩
   rw [Array.getD_eq_getD_getElem?,Array.getElem?_setIfInBounds_ne (fun e'=>e e'.symm),← Array.getD_eq_getD_getElem?]
   exact h2
 | [],_ :: _,_,_,_,h,_,_,_,_=>by simp at h
 | _ :: _,[],_,_,_,h,_,_,_,_=>by simp at h
 | _ :: _,_ :: _,_,[],_,_,_,h,_,_=>h.elim
theorem loop_turn {N p:Nat} {Γ:G} {s:S} {a:Act} {w:World} {k l:Nat} {L L':LoopR} {t:List (Nat × PV)} {tm:Array Value} (hA:Stands N p Γ s a w) (hk:s.o[k]? = some (.loop l L t)) (h1:w.heap[l]? = some (.loop (L.obj tm))) (hN:L'.N=L.N)
  (h2:tm.size=L.N) (h3:∀ i q,look t i=some q → i < L.N∧RP w Γ q (tm.getD i Go.undef)) (h4:0 < Γ.cap k) (h5:Γ.β k=l) :
  Stands N p Γ ⟨s.t,s.o.set k (.loop l L' t)⟩ a (w.putObj l (.loop (L'.obj tm)))∧Grow p Γ w Γ (w.putObj l (.loop (L'.obj tm))):=by
 have hlt:l < w.heap.size:=(Array.getElem?_eq_some_iff.1 h1).1
 have hkn:k < Γ.n:=by rw [hA.inv.m.n];exact (List.getElem?_eq_some_iff.1 hk).1
 have hE:Ext (· = Γ.β k) w (w.putObj l (.loop (L'.obj tm))):=⟨rfl,rfl,rfl,by simp,fun b _ hb=>World.putObj_heap_other (fun e=>hb (by rw [h5];exact e))⟩
 have hs:Stay w Γ.I (w.putObj l (.loop (L'.obj tm))) Γ.I:=⟨hE.size,fun b hb hl=>hE.block b hl fun e=>hA.inv.m.off k hkn h4 (e ▸ hb),fun _ h=>h⟩
 have hro:RO (w.putObj l (.loop (L'.obj tm))) Γ k (.loop l L' t):=⟨h4,h5,tm,World.putObj_heap_same hlt,by rw [hN];exact h2,fun i q hq=>⟨by rw [hN];exact (h3 i q hq).1,(h3 i q hq).2.stay hs fun j hj=>⟨(h3 i q hq).2.lt j hj,rfl,rfl⟩⟩⟩
 obtain ⟨hm,_⟩:=hA.inv.m.set_ hkn h4 hE _ hro
 exact ⟨⟨hA.inv.heap hm hs fun j hj=>⟨hj,rfl,rfl⟩,hA.le⟩,grow_set hkn h4 hE⟩
theorem Grow.less {p p':Nat} {Γ Γ':G} {w w':World} (h:Grow p Γ w Γ' w') (hp:p'≤p):Grow p' Γ w Γ' w':=⟨h.ext,h.sub,h.new,h.imm,fun k hk=>h.keep k (by omega)⟩
section
variable {P:Program} {N p:Nat} {ops:Array Oper} {rest:List Oper} {o:Oper} {s:S} {K:S → Prop}
def yldQ (P:Program) (N p:Nat) (ops:Array Oper) (rest:List Oper) (dst:Option Nat) (t:List (Nat × PV)) (K:S → Prop) (k l:Nat):Exit → S → Prop
 | .normal,s2=>∃ L2 t2,s2.o[k]? = some (.loop l L2 t2)∧PL P N p ops rest (S.put ⟨t,s2.o.set k (.loop l { L2 with st:=.ready,pd:=none } t2)⟩ dst (.c (.v (.bool true)))) K
 | .ret,s2=>∃ L2 t2,s2.o[k]? = some (.loop l L2 t2)∧PL P N p ops rest (S.put ⟨t,s2.o.set k (.loop l { L2 with st:=.done,pd:=some .ret } t2)⟩ dst (.c (.v (.bool false)))) K
 | .exit i,s2=>∃ L2 t2,s2.o[k]? = some (.loop l L2 t2)∧PL P N p ops rest (S.put ⟨t,s2.o.set k (.loop l { L2 with st:=.done,pd:=some (.exit i) } t2)⟩ dst (.c (.v (.bool false)))) K
 | _,_=>False
def asgQ (P:Program) (p:Nat) (L:LoopR) (Q:Exit → S → Prop) (k l:Nat):Exit → S → Prop
 | .normal,s1=>∃ L1 t1,s1.o[k]? = some (.loop l L1 t1)∧L1.st = .ready∧PWPr (some l) P L.N p L.body Q ⟨s1.t,s1.o.set k (.loop l { L1 with st:=.busy } t1)⟩
 | _,_=>False
theorem run_yld {a:Act} {w:World} {f:Operand} {args:Array Operand} {tys:Array TypeId} {l:Nat} {r:Loop} (ho:o.op = .call ⟨.value f,args,tys⟩) (hf:a.eval f = .func (.yield l) #[] #[]) (hl:w.heap[l]? = some (.loop r)) (hs:args.size=r.params.size) :
  (execOp a.eval o).run P w = .ok (.round l r.fn ((r.params.zip (args.map a.eval)).foldl (fun tmps (t,a)=>tmps.setIfInBounds t a) r.tmps) r.assign r.body) w:=by
 have hy:=run_yield (P:=P) (args:=args.map a.eval) hl (by simpa using hs)
 simp [execOp,ho,resolve,hf,Deferred.ofValue,invoke,callFunc,hy]
theorem pl_yield {f:Operand} {args:Array Operand} {tys:Array TypeId} {l:Nat} (k:Nat) {L:LoopR} {t:List (Nat × PV)} {qs:List PV}
  (ho:o.op = .call ⟨.value f,args,tys⟩) (hg:gd ops s o.guard=some true) (hf:s.ev f=some (.c (.fn (.yield l) [] []))) (hd:dstOk N o.dst)
  (hk:s.o[k]? = some (.loop l L t)) (hst:L.st = .ready) (hq:allSome (args.toList.map s.ev) qs) (hlen:L.ps.toList.length=qs.length) (hpn:(L.ps.toList.all fun i=>decide (i < L.N))=true)
  (h:PWPr (some l) P L.N s.o.length L.asg (asgQ P s.o.length L (yldQ P N p ops rest o.dst s.t K k l) k l) ⟨putTs L.ps.toList qs t,s.o⟩):PL P N p ops (o :: rest) s K:=by
 intro Γ a w Q hA hQ
 have hn:=hA.inv.m.n
 have hps:p≤s.o.length:=by rw [← hn];exact hA.le
 obtain ⟨xs,hfv,hx0,_⟩:=S.ev_ok hf hA.inv
 replace hx0:=hx0 rfl
 rw [All2.nil_l] at hx0
 subst hx0
 simp only [isBnd,fnV] at hfv
 obtain ⟨h4,h5,tm,h1,h2,h3⟩:=hA.inv.m.ob k _ hk
 have hargs:All2 (RP w Γ) qs (args.toList.map a.eval):=allSome_ok hq (by
  have:∀ l:List Operand,All2 (fun (q:Option PV) y=>∀ r,q=some r → RP w Γ r y) (l.map s.ev) (l.map a.eval):=by
   intro l
   induction l with
   | nil=>trivial
   | cons x l ih=>exact ⟨fun r hr=>S.ev_ok hr hA.inv,ih⟩
  exact this _)
 have hsz:args.size=(L.obj tm).params.size:=by
  have:=hargs.length
  rw [List.length_map] at this
  have h6:L.ps.size=qs.length:=by rw [← hlen];exact Array.length_toList.symm
  show args.size=L.ps.size
  rw [h6,this]
  exact Array.length_toList.symm
 have hrun:=run_yld (P:=P) ho hfv h1 hsz
 unfold wpListIn
 rw [if_pos (gd_ok hg hA.inv)]
 refine wpIn_run hrun ⟨Fw_dep,?_⟩
 have hfold:((L.obj tm).params.zip (args.map a.eval)).foldl (fun tmps (t,a)=>tmps.setIfInBounds t a) (L.obj tm).tmps=(L.ps.toList.zip (args.toList.map a.eval)).foldl (fun tmps (x:Nat × Value)=>tmps.setIfInBounds x.1 x.2) tm:=by
  rw [← Array.foldl_toList,Array.toList_zip,Array.toList_map];rfl
 rw [hfold]
 obtain ⟨g1,g2⟩:=putTs_ok (N:=L.N) hlen (fun i hi=>by simpa using List.all_eq_true.1 hpn i hi) hargs h2 h3
 have hS0:Stands L.N s.o.length Γ ⟨putTs L.ps.toList qs t,s.o⟩ { tmps:=(L.ps.toList.zip (args.toList.map a.eval)).foldl (fun tmps (x:Nat × Value)=>tmps.setIfInBounds x.1 x.2) tm,defers:=[] } w :=
  ⟨⟨g1,trivial,g2,hA.inv.m⟩,by rw [hn];exact Nat.le_refl _⟩
 refine roundIn_of_wpIn trivial ?_
 refine wpIn_mono (h w.heap.size Γ _ w hS0 (DefOk.nil (Nat.le_refl _))) ?_
 rintro e a1 w1 ⟨s1,Γ1,q,hS1,hg1,hd1⟩
 cases e with
 | normal =>
  obtain ⟨L1,t1,hk1,hst1,hB⟩:=q
  obtain ⟨c4,c5,tm1,c1,c2,c3⟩:=hS1.inv.m.ob k _ hk1
  obtain ⟨hS2,hg2⟩:=loop_turn (L':={ L1 with st:=.busy }) hS1 hk1 c1 rfl c2 c3 c4 c5
  refine ⟨_,run_beginRound c1 hst1,?_⟩
  refine wpIn_mono (hB w.heap.size Γ1 a1 _ hS2 (hd1.grow hg2 rfl)) ?_
  rintro e2 a2 w2 ⟨s2,Γ2,q2,hS3,hg3,hd3⟩
  have fin:∀ (jump:Option Code) (b:Bool) (L2:LoopR) (t2:List (Nat × PV)),jump.isNone=b → s2.o[k]? = some (.loop l L2 t2) →
    PL P N p ops rest (S.put ⟨s.t,s2.o.set k (.loop l { L2 with st:=if jump.isNone then .ready else .done,pd:=jump } t2)⟩ o.dst (.c (.v (.bool b)))) K →
    ∃ v w',(Instr.endRound l jump).run P w2 = .ok v w'∧wpListIn (Fw none) 0 P ops Q rest (a.put o.dst v) w':=by
   intro jump b L2 t2 hb hk2 hp
   obtain ⟨e4,e5,tm2,e1,e2,e3⟩:=hS3.inv.m.ob k _ hk2
   obtain ⟨hS4,hg4⟩:=loop_turn (L':={ L2 with st:=if jump.isNone then .ready else .done,pd:=jump }) hS3 hk2 e1 rfl e2 e3 e4 e5
   refine ⟨_,_,run_endRound jump e1,?_⟩
   have hgT:Grow s.o.length Γ w Γ2 _:=((hg1.trans hg2).trans hg3).trans hg4
   have hn2:s.o.length≤Γ2.n:=hS4.le
   have hI:=hA.inv.heap hS4.inv.m (hgT.stay hA.inv.m) fun j hj=>by
    have hj':j < s.o.length:=by rw [← hn];exact hj
    exact ⟨by omega,(hgT.keep j hj').1,(hgT.keep j hj').2⟩
   subst hb
   exact hp Γ2 _ _ Q ⟨hI.put (dst_lt hd) ⟨rfl,rfl⟩,by omega⟩ fun s' Γ' a' w' hk' hS' hg' hd'=>hQ s' Γ' a' w' hk' hS' ((hgT.less hps).trans hg') (hd'.trans (put_defers _ _ _))
  cases e2 with
  | normal=>obtain ⟨L2,t2,hk2,hp⟩:=q2;exact fin none true L2 t2 rfl hk2 hp
  | ret=>obtain ⟨L2,t2,hk2,hp⟩:=q2;exact fin (some .ret) false L2 t2 rfl hk2 hp
  | exit i=>obtain ⟨L2,t2,hk2,hp⟩:=q2;exact fin (some (.exit i)) false L2 t2 rfl hk2 hp
  | goto l'=>exact q2.elim
  | panic ch=>exact q2.elim
  | outgrown=>exact q2.elim
 | exit i=>exact q.elim
 | goto l'=>exact q.elim
 | ret=>exact q.elim
 | panic ch=>exact q.elim
 | outgrown=>exact q.elim
end
def rngfQ (Q:Exit → S → Prop):Option Code → S → Prop
 | none,s=>Q .normal s
 | some .ret,s=>Q .ret s
 | some (.exit i),s=>Q (.exit i) s
 | _,_=>False
theorem pwp_range {P:Program} {N p:Nat} {Q:Exit → S → Prop} {s:S} {g:Operand} {ps:Array Tmp} {asg body:Code} {gf:FuncId} {cap:List Nat} {R:Nat → PV → List Ob → Prop} (hf:s.ev g=some (.c (.fn (.func gf) [] cap))) (hb:bodyOk P gf=true)
  (hc:∀ (l D:Nat) (fn:FuncId),PCalls P gf (.c (.fn (.yield l) [] []) :: cap.map fun k=>.c (.ptr k 0)) (s.o++[.loop l ⟨fn,ps,asg,body,D,N,.ready,none⟩ s.t]) (R l))
  (hK:∀ l r os',R l r os' → ∃ L2 t2,os'[s.o.length]? = some (.loop l L2 t2)∧L2.st≠.busy∧rngfQ Q L2.pd ⟨s.t,os'.set s.o.length (.loop l { L2 with st:=.exhausted } t2)⟩):PWPr none P N p (.rangeFunc g ps asg body) Q s:=by
 intro z Γ a w hA hD
 have hn:=hA.inv.m.n
 have hps:p≤s.o.length:=by rw [← hn];exact hA.le
 obtain ⟨xs,hgv,hx0,hcap⟩:=S.ev_ok hf hA.inv
 replace hx0:=hx0 rfl
 rw [All2.nil_l] at hx0
 subst hx0
 simp only [isBnd,fnV] at hgv
 refine wpIn_rangeFunc ?_
 intro fn hfn
 obtain ⟨L,hL⟩:∃ L:LoopR,L=⟨fn,ps,asg,body,w.heap.size,N,.ready,none⟩:=⟨_,rfl⟩
 obtain ⟨w1,hw1⟩:∃ w1,(w.alloc (.deferred (some []))).alloc (.loop (L.obj a.tmps))=w1:=⟨_,rfl⟩
 have hsz1:w1.heap.size=w.heap.size+1+1:=by rw [← hw1,World.size_alloc,World.size_alloc]
 have hS01:Same w w1:=by
  rw [← hw1]
  refine ⟨by rw [World.size_alloc,World.size_alloc];omega,fun b hb=>?_⟩
  rw [Below.heap_alloc _ _ _ (by rw [World.size_alloc];omega),Below.heap_alloc _ _ _ hb]
 have hE01:Ext No w w1:=by rw [← hw1];exact ((Ext.refl No w).alloc _).alloc _
 have hl1:w1.heap[w.heap.size+1]? = some (.loop (L.obj a.tmps)):=by
  rw [← hw1];have:=World.alloc_heap_new (w.alloc (.deferred (some []))) (.loop (L.obj a.tmps));rwa [World.size_alloc] at this
 have hD1:w1.heap[w.heap.size]? = some (.deferred (some [])):=by
  rw [← hw1];exact (Below.heap_alloc _ _ _ (by simp)).trans (World.alloc_heap_new w _)
 have hag:=push_agree Γ (w.heap.size+1) 1
 have hLN:L.N=N:=by rw [hL]
 have hm1:MemOk (Γ.push (w.heap.size+1) 1) (s.o++[.loop (w.heap.size+1) L s.t]) w1:=by
  refine hA.inv.m.push hS01 _ _ 1 ⟨by simp [G.push,upd_same],by simp [G.push,upd_same],a.tmps,hl1,by rw [hLN];exact hA.inv.size,fun i q hq=>?_⟩ (fun _=>by omega)
  obtain ⟨i1,i2⟩:=hA.inv.t i q hq
  exact ⟨by rw [hLN];exact i1,i2.stay (hS01.stay Γ.I) fun j hj=>hag j (i2.lt j hj)⟩
 have hg1:Grow p Γ w (Γ.push (w.heap.size+1) 1) w1:=grow_push hA.inv.m hE01 _ 1 (fun _=>by omega) hA.le
 have hcv:(cap.map (keyVal Γ))=cap.map (keyVal (Γ.push (w.heap.size+1) 1)):=List.map_congr_left fun k hk=>by unfold keyVal;rw [(hag k (hcap k hk)).2.1]
 have hxs:All2 (RP w1 (Γ.push (w.heap.size+1) 1)) (PV.c (.fn (.yield (w.heap.size+1)) [] []) :: cap.map fun k=>PV.c (.ptr k 0)) (.func (.yield (w.heap.size+1)) #[] #[] :: cap.map (keyVal Γ)):=by
  refine ⟨⟨[],rfl,fun _=>trivial,fun k hk=>by cases hk⟩,?_⟩
  rw [hcv]
  have:∀ l:List Nat,(∀ k ∈ l,k < Γ.n) → All2 (RP w1 (Γ.push (w.heap.size+1) 1)) (l.map fun k=>PV.c (.ptr k 0)) (l.map (keyVal (Γ.push (w.heap.size+1) 1))):=by
   intro l
   induction l with
   | nil=>intro _;trivial
   | cons k l ih=>intro hl;exact ⟨⟨(hag k (hl k (by simp))).1,rfl⟩,ih fun k' hk'=>hl k' (by simp [hk'])⟩
  exact this cap hcap
 have hcall:=hc (w.heap.size+1) w.heap.size fn
 rw [← hL] at hcall
 have hrun:=hcall _ w1 _ hm1 hxs
 have eg:∀ args w,(callFunc gf args).run P w = .ok (.enter gf args) w:=fun args w=>by
  unfold bodyOk at hb
  split at hb
  ·rename_i f hf
   simp only [Bool.and_eq_true,Bool.not_eq_true'] at hb
   have h1:¬ f.body=none:=by intro h;rw [h] at hb;simp at hb
   have h2:¬ f.name = "runtime.NumGoroutine" := by simpa using hb.2
   simp [callFunc,hf,h2,h1]
  ·cases hb
 refine ⟨w.heap.size+1,[{ target:=.collected w.heap.size,args := #[] }],w1,{ target:=.fn (.func gf) (cap.map (keyVal Γ)).toArray,args := #[.func (.yield (w.heap.size+1)) #[] #[]] },w1,gf,
  #[.func (.yield (w.heap.size+1)) #[] #[]]++(cap.map (keyVal Γ)).toArray,w1,?_,?_,fun _ _=>trivial,?_,Fw_dep,calls_fw ?_⟩
 ·rw [← hw1,hL]
  exact run_enterLoop_outer _ _ _ _ _
 ·simp only [resolve,hgv]
  simp [go_sem]
 ·simp [invoke,go_sem,eg]
 ·have hargs:(#[Value.func (.yield (w.heap.size+1)) #[] #[]]++(cap.map (keyVal Γ)).toArray)=(Value.func (.yield (w.heap.size+1)) #[] #[] :: cap.map (keyVal Γ)).toArray:=by simp
  rw [hargs]
  refine hrun.mono ?_
  rintro e w3 ⟨r,os',Γ3,y,rfl,hR,hr,hlen,hm3,hgr⟩
  obtain ⟨L2,t2,hk2,hnb,hq2⟩:=hK _ r os' hR
  rw [List.length_append,List.length_singleton] at hlen hgr
  have hgT:Grow p Γ w Γ3 w3:=hg1.trans (hgr.less (by omega))
  have hgk:∀ j,j < Γ.n → Γ3.β j=Γ.β j∧Γ3.cap j=Γ.cap j:=fun j hj=>by
   have:=hgr.keep j (by rw [← hn];omega)
   rw [this.1,this.2]
   exact ⟨(hag j hj).2.1,(hag j hj).2.2⟩
  have hS3:Stands N p Γ3 ⟨s.t,os'⟩ { a with defers:={ target:=.collected w.heap.size,args := #[] } :: a.defers } w3:=by
   have hI:=hA.inv.heap hm3 (hgT.stay hA.inv.m) fun j hj=>⟨by rw [hm3.n];omega,(hgk j hj).1,(hgk j hj).2⟩
   exact ⟨⟨hI.size,trivial,hI.t,hI.m⟩,by rw [hm3.n];omega⟩
  obtain ⟨e4,e5,tm2,e1,e2,e3⟩:=hm3.ob _ _ hk2
  obtain ⟨hS4,hg4⟩:=loop_turn (L':={ L2 with st:=.exhausted }) hS3 hk2 e1 rfl e2 e3 e4 e5
  refine ⟨L2.pd,_,run_endLoop e1 hnb,?_⟩
  have hDl:w.heap.size < w1.heap.size:=by omega
  have hDm:¬ Mine (Γ.push (w.heap.size+1) 1) w.heap.size:=by
   rintro ⟨k,k1,k2,k3⟩
   have k1':k < Γ.n+1:=k1
   by_cases ek:k=Γ.n
   ·subst ek;simp only [G.push,upd_same] at k3;omega
   ·simp only [G.push,upd_ne _ _ ek] at k2 k3
    have:=mine_lt hA.inv.m (k:=k) (by omega) k2
    omega
  have hD3:w3.heap[w.heap.size]? = some (.deferred (some [])):=(hgr.ext.block _ hDl hDm).trans hD1
  have hoff:OffM Γ3 w.heap.size:=by
   refine ⟨fun hI=>?_,fun k hk hc e=>?_⟩
   ·rcases hgr.imm _ hI with x|x|x
    ·have:=hA.inv.m.lt _ x;omega
    ·exact hDm x
    ·omega
   ·rcases hgr.new k hk hc with x|x
    ·exact hDm (e ▸ x)
    ·omega
  have hgT4:=hgT.trans hg4
  have hne:w.heap.size≠w.heap.size+1:=by omega
  have hDf:DefOk z Γ3 { a with defers:={ target:=.collected w.heap.size,args := #[] } :: a.defers } (w3.putObj (w.heap.size+1) (.loop (({ L2 with st:=.exhausted }:LoopR).obj tm2))):=by
   have hold:=hD.grow hgT4 (a':=a) rfl
   refine ⟨hold.1,List.nodup_cons.2 ⟨fun hm=>?_,hD.2.1⟩,fun d hd=>?_⟩
   ·obtain ⟨D,x1,x2,_⟩:=hD.2.2 _ hm
    have:D=w.heap.size:=by injection x1 with x1;injection x1 with x1;exact x1.symm
    subst this
    have:=(Array.getElem?_eq_some_iff.1 x2).1
    omega
   ·rcases List.mem_cons.1 hd with rfl|hd
    ·exact ⟨w.heap.size,rfl,by rw [World.putObj_heap_other hne];exact hD3,hoff,hD.1⟩
    ·exact hold.2.2 d hd
  have post:∀ e,Q e ⟨s.t,os'.set s.o.length (.loop (w.heap.size+1) { L2 with st:=.exhausted } t2)⟩ → Post z N p Q Γ w e { a with defers:={ target:=.collected w.heap.size,args := #[] } :: a.defers } (w3.putObj (w.heap.size+1) (.loop (({ L2 with st:=.exhausted }:LoopR).obj tm2))) :=
   fun e hq=>⟨_,Γ3,hq,hS4,hgT4,hDf⟩
  show match L2.pd with
   | none=>_
   | some c=>_
  unfold rngfQ at hq2
  split at hq2
  ·rename_i hp;rw [hp];exact post _ hq2
  ·rename_i hp;rw [hp];exact wpIn_ret (post _ hq2)
  ·rename_i hp;rw [hp];exact wpIn_exit (post _ hq2)
  ·exact hq2.elim
def swN (k j:Nat):Nat:=if j=k then k+1 else if j=k+1 then k else j
theorem swN_sw (k j:Nat):swN k (swN k j)=j:=by unfold swN;split<;>(try split)<;>(try split)<;>omega
theorem swN_lt {k j n:Nat} (hk:k+1 < n) (hj:j < n):swN k j < n:=by unfold swN;split<;>(try split)<;>omega
def E.sw (k:Nat):E → E
 | .own j n=>.own (swN k j) n
 | .ptr j f=>.ptr (swN k j) f
 | .orow j z i f=>.orow (swN k j) z i f
 | .fn f ds ks=>.fn f ds (ks.map (swN k))
 | .mp j=>.mp (swN k j)
 | .seg j z lo n=>.seg (swN k j) z lo n
 | e=>e
def PV.sw (k:Nat):PV → PV
 | .c e=>.c (e.sw k)
 | .agg cs=>.agg (cs.map (E.sw k))
 | .undef=>.undef
 | .two x y=>.two (x.sw k) (y.sw k)
 | .three x y z=>.three (x.sw k) (y.sw k) (z.sw k)
def swT (k:Nat):List (Nat × PV) → List (Nat × PV)
 | []=>[]
 | (i,q) :: t=>(i,q.sw k) :: swT k t
def Ob.sw (k:Nat):Ob → Ob
 | .box ty cs=>.box ty (cs.map (E.sw k))
 | .loop l L t=>.loop l L (swT k t)
 | o=>o
def S.sw (s:S) (k:Nat):S:=match s.o[k]?,s.o[k+1]? with
 | some a,some b=>⟨swT k s.t,setO (setO (s.o.map (Ob.sw k)) k (b.sw k)) (k+1) (a.sw k)⟩
 | _,_=>s
theorem look_sw (k i:Nat):∀ t:List (Nat × PV),look (swT k t) i=(look t i).map (PV.sw k)
 | []=>rfl
 | (d,q) :: t=>by
  simp only [swT,look]
  split
  ·rfl
  ·exact look_sw k i t
theorem weak_sw {N p:Nat} {s:S} (k:Nat) (hp:p≤k):Weak N p s (s.sw k):=by
 intro Γ a w hA
 unfold S.sw
 split
 case h_2=>exact ⟨Γ,hA,Grow.refl _ _ _⟩
 rename_i oa ob ha hb
 have hm:=hA.inv.m
 have hn:=hm.n
 have hkl:k+1 < s.o.length:=(List.getElem?_eq_some_iff.1 hb).1
 have hkn:k+1 < Γ.n:=by rw [hn];exact hkl
 obtain ⟨Γ',hΓ⟩:∃ Γ':G,Γ'=⟨Γ.n,fun j=>Γ.β (swN k j),fun j=>Γ.cap (swN k j),Γ.I⟩:=⟨_,rfl⟩
 have q1:Γ'.n=Γ.n:=by rw [hΓ]
 have q2:Γ'.I=Γ.I:=by rw [hΓ]
 have q3:∀ j,Γ'.β (swN k j)=Γ.β j:=fun j=>by rw [hΓ];simp only [swN_sw]
 have q4:∀ j,Γ'.cap (swN k j)=Γ.cap j:=fun j=>by rw [hΓ];simp only [swN_sw]
 have q5:∀ j,Γ'.β j=Γ.β (swN k j):=fun j=>by rw [hΓ]
 have q6:∀ j,Γ'.cap j=Γ.cap (swN k j):=fun j=>by rw [hΓ]
 have hE:∀ (e:E) (y:Value),RE w Γ e y → RE w Γ' (e.sw k) y:=by
  intro e y h
  cases e with
  | own j n =>
   refine ⟨by rw [q1];exact swN_lt hkn h.1,?_⟩
   have h2:=h.2
   unfold OwnRep at h2 ⊢
   rw [q3,q4];exact h2
  | ptr j f=>exact ⟨by rw [q1];exact swN_lt hkn h.1,by rw [q3];exact h.2⟩
  | orow j z i f=>exact ⟨by rw [q1];exact swN_lt hkn h.1,by rw [q3];exact h.2⟩
  | mp j=>exact ⟨by rw [q1];exact swN_lt hkn h.1,by rw [q3];exact h.2⟩
  | seg j z lo n =>
   refine ⟨by rw [q1];exact swN_lt hkn h.1,?_⟩
   have h2:=h.2
   unfold SegRep at h2 ⊢
   rw [q3,q4];exact h2
  | fn f ds ks =>
   obtain ⟨xs,h1,h2,h3⟩:=h
   refine ⟨xs,?_,by rw [q2];exact h2,fun j hj=>?_⟩
   ·rw [h1,List.map_map]
    congr 1
    exact List.map_congr_left fun j _=>by simp only [Function.comp,keyVal,q3]
   ·obtain ⟨i,hi,rfl⟩:=List.mem_map.1 hj
    rw [q1];exact swN_lt hkn (h3 i hi)
  | v x=>exact h
  | sl z l=>unfold E.sw RE;rw [q2];exact h
  | full z l=>unfold E.sw RE;rw [q2];exact h
  | row cs=>unfold E.sw RE;rw [q2];exact h
  | any=>exact h
 have hEs:∀ {cs:List E} {ys:List Value},All2 (RE w Γ) cs ys → All2 (RE w Γ') (cs.map (E.sw k)) ys:=fun h=>All2.map_l.2 (h.mono hE)
 have hP:∀ (q:PV) (y:Value),RP w Γ q y → RP w Γ' (q.sw k) y:=by
  intro q
  induction q with
  | c e=>intro y h;exact hE e y h
  | agg cs=>rintro y ⟨xs,h1,h2⟩;exact ⟨xs,h1,hEs h2⟩
  | undef=>intro y h;exact h
  | two x z ih1 ih2=>rintro y ⟨u,v,h1,h2,h3⟩;exact ⟨u,v,h1,ih1 u h2,ih2 v h3⟩
  | three x z t ih1 ih2 ih3=>rintro y ⟨u,v,r,h1,h2,h3,h4⟩;exact ⟨u,v,r,h1,ih1 u h2,ih2 v h3,ih3 r h4⟩
 have hO:∀ (j:Nat) (o:Ob),RO w Γ j o → RO w Γ' (swN k j) (o.sw k):=by
  intro j o h0
  cases o with
  | box ty cs =>
   obtain ⟨j1,xs,j2,j3,j6⟩:=h0
   exact ⟨by rw [q4];exact j1,xs,by rw [q3];exact j2,hEs j3,by unfold Room;rw [q4];exact j6⟩
  | arr el' sz' rows' =>
   obtain ⟨j1,j2,j3,j4⟩:=h0
   refine ⟨j1,j2,by rw [q4];exact j3,fun hc=>?_⟩
   rw [q4] at hc ⊢
   obtain ⟨cur,m1,m2,m3,m4,m5⟩:=j4 hc
   exact ⟨cur,by rw [q3];exact m1,m2,m3,m4,by rw [q2];exact m5⟩
  | map kk ag es =>
   obtain ⟨j1,ms,ck,j2,j3⟩:=h0
   exact ⟨by rw [q4];exact j1,ms,ck,by rw [q3];exact j2,by rw [q2];exact j3⟩
  | loop l L t =>
   obtain ⟨j1,j2,tm,j3,j4,j5⟩:=h0
   refine ⟨by rw [q4];exact j1,by rw [q3];exact j2,tm,j3,j4,fun i q hq=>?_⟩
   rw [look_sw] at hq
   obtain ⟨q0,hq0,rfl⟩:=Option.map_eq_some_iff.1 hq
   obtain ⟨i1,i2⟩:=j5 i q0 hq0
   exact ⟨i1,hP q0 _ i2⟩
 have hsk:swN k k=k+1:=by unfold swN;simp
 have hsk1:swN k (k+1)=k:=by unfold swN;simp
 refine ⟨Γ',⟨⟨hA.inv.size,hA.inv.defers,fun i q hq=>?_,⟨by rw [q1,hn];simp [setO],fun j o ho=>?_,fun j j' h1 h2 h3 h4 h5=>?_,fun j h1 h2=>?_,fun b hb=>?_,⟨hm.pin.1,fun b hb=>by rw [q2];exact hm.pin.2 b hb⟩⟩⟩,by rw [q1];exact hA.le⟩,⟨Ext.refl _ _,fun b hb=>by rw [q2];exact hb,fun j h1 h2=>?_,fun b hb=>?_,fun j hj=>?_⟩⟩
 ·simp only [S.get] at hq
  rw [look_sw] at hq
  obtain ⟨q0,hq0,rfl⟩:=Option.map_eq_some_iff.1 hq
  obtain ⟨i1,i2⟩:=hA.inv.t i q0 hq0
  exact ⟨i1,hP q0 _ i2⟩
 ·simp only [setO] at ho
  by_cases e1:k+1=j
  ·subst e1
   rw [List.getElem?_set_self (by simp;exact hkl)] at ho
   cases ho
   have:=hO k oa (hm.ob k oa ha)
   rwa [hsk] at this
  rw [List.getElem?_set_ne e1] at ho
  by_cases e2:k=j
  ·subst e2
   rw [List.getElem?_set_self (by simp;omega)] at ho
   cases ho
   have:=hO (k+1) ob (hm.ob (k+1) ob hb)
   rwa [hsk1] at this
  rw [List.getElem?_set_ne e2,List.getElem?_map] at ho
  obtain ⟨o0,ho0,rfl⟩:=Option.map_eq_some_iff.1 ho
  have:=hO j o0 (hm.ob j o0 ho0)
  have e3:swN k j=j:=by unfold swN;rw [if_neg (by omega),if_neg (by omega)]
  rwa [e3] at this
 ·rw [q1] at h1 h2
  rw [q6] at h3 h4
  rw [q5,q5] at h5
  have:=hm.sep _ _ (swN_lt hkn h1) (swN_lt hkn h2) h3 h4 h5
  have h6:=congrArg (swN k) this
  rwa [swN_sw,swN_sw] at h6
 ·rw [q1] at h1
  rw [q6] at h2
  rw [q5,q2]
  exact hm.off _ (swN_lt hkn h1) h2
 ·rw [q2] at hb;exact hm.lt b hb
 ·rw [q1] at h1
  rw [q6] at h2
  exact .inl ⟨swN k j,swN_lt hkn h1,h2,(q5 j).symm⟩
 ·rw [q2] at hb;exact .inl hb
 ·have e3:swN k j=j:=by unfold swN;rw [if_neg (by omega),if_neg (by omega)]
  rw [q5,q6,e3];exact ⟨rfl,rfl⟩
attribute [push_cast] S.sw E.sw PV.sw Ob.sw swT swN
end Go.Proofs.YthconflkbeipoaaGreatDoor
namespace Go.Proofs.YthconflkbeipoaaGreatDoor
attribute [local irreducible] PL QL PWPr PCalls Weak RetK Kontr PA
open Go.RowKit
open IntWalk renaming iteOmega → iO, toNatUp → tN
set_option linter.unusedVariables false
set_option linter.unusedSimpArgs false
set_option maxRecDepth 20000
def nowA (l:List Dev) (d:Dev):Atr:=⟨placeM l d.index,d.name⟩
def nowK (l:List Dev) (k:Nat):List Atr:=((l.take k).filter fun d=>decide (d.kind=4)).map (nowA l)
def nowP (l:List Dev):List Atr:=nowK l l.length
theorem nowK_t {l:List Dev} {k:Nat} (hk:k < l.length) (h:(l.getD k default).kind=4):nowK l (k+1)=nowK l k++[nowA l (l.getD k default)]:=by
 unfold nowK
 rw [List.take_succ_eq_append_getElem hk,List.filter_append,List.map_append,← getD_lt l hk,List.filter_cons_of_pos (by simpa using h),List.filter_nil,List.map_singleton]
theorem nowK_f {l:List Dev} {k:Nat} (hk:k < l.length) (h:(l.getD k default).kind≠4):nowK l (k+1)=nowK l k:=by
 unfold nowK
 rw [List.take_succ_eq_append_getElem hk,List.filter_append,List.map_append,← getD_lt l hk,List.filter_cons_of_neg (by simpa using h),List.filter_nil,List.map_nil,List.append_nil]
theorem nowK_len (l:List Dev) (k:Nat):(nowK l k).length≤l.length:=by
 unfold nowK
 rw [List.length_map]
 exact Nat.le_trans (List.length_filter_le _ _) (by rw [List.length_take];omega)
theorem interf_pure (l:List Dev):PCalls Tryz.prog 53 [.agg (trE l)] [] fun r os=>r = .c (.fn (.func 100) [] [0])∧os=[.box 47 (trE l)]:=by
 refine pcalls_of Tryz.func53 rfl (by simp [Tryz.ntmps53]) ?_
 rw [Tryz.ntmps53,Tryz.results53]
 push_cast [iO,tN]
 repeat' (first|((first|refine pG ?_|refine pQ ?_|refine pU ?_);push_cast [iO,tN])|(refine pif (fun h=>?_) (fun h=>?_)<;>first|exact pN h|push_cast [iO,tN]))
 (refine retK_of [0] ?_;push_cast [iO,tN])
set_option maxHeartbeats 8000000 in
theorem present_pure (l:List Dev) (h:Okp l) (hl:l.length≤1000) (hz:∀ d ∈ l,d.original.size≤1000) :
  PCalls Tryz.prog 28 [.agg (trE l)] [] fun r os=>r = .c (.own 0 (nowP l).length)∧os=[.arr 33 2 ((nowP l).map Atr.d)]:=by
 have hi:=interf_pure l
 refine pcalls_of Tryz.func28 rfl (by simp [Tryz.ntmps28]) ?_
 rw [Tryz.ntmps28,Tryz.results28]
 push_cast [iO,tN]
 have cB:CutB 6 [7]:=trivial
 repeat' (first |  ((refine plc [] (hi) ?_ ?_;push_cast [iO,tN];rintro r os ⟨rfl,rfl⟩;push_cast [iO,tN]))|(refine pwp_seq fun K hK=>?_)|(refine pwp_block ?_)  | ((first|refine pC ?_|refine pQC ?_|refine pU ?_);push_cast [iO,tN])|(refine pif (fun h=>?_) (fun h=>?_)<;>first|exact pN h|push_cast [iO,tN]))
 refine pwp_range (R:=fun lo r os'=>∃ L2 t2,os'=[.box 47 (trE l),.box 28 [.own 4 (nowP l).length],.box 47 (trE l),.loop lo L2 t2,.arr 33 2 ((nowP l).map Atr.d)]∧L2.st = .ready∧L2.pd=none) rfl (by kernel_rfl) (fun lo D fn=>?_) (fun lo r os' hR=>?_)
 ·refine pcalls_of_all Tryz.func100 rfl (by simp [Tryz.ntmps100]) ?_
  rw [Tryz.ntmps100,Tryz.results100]
  push_cast [iO,tN]
  refine pwp_weak (weak_adopt_box 1 0 33 2 (by omega) 28 [.v (.slice none 0 0)] rfl rfl) ?_
  push_cast [iO,tN]
  have cB:CutB 7 [8,9,10]:=trivial
  repeat' (first|((first|refine pC ?_|refine pQC ?_|refine pU ?_);push_cast [iO,tN])|(refine pif (fun h=>?_) (fun h=>?_)<;>first|exact pN h|push_cast [iO,tN]))
  (apply pwp_loop3 (α:=Nat) 7 [8,9,10] (fun k=>[(10,.c (.v (.int .i64 k)))]) (fun k=>[(1,.box 28 [.own 4 (nowK l k).length]),(4,.arr 33 2 ((nowK l k).map Atr.d))]) (fun k=>k≤l.length) (fun k=>l.length - k) (0);(focus ((try push_cast [iO,tN]);rfl));(focus exact (Nat.zero_le _));(focus ((refine weak_fg ?_;try push_cast [iO,tN]);(try (exact ⟨rfl,rfl⟩)))))
  intro k hk
  push_cast [iO,tN]
  by_cases hlt:k < l.length
  case neg =>
   have hk2:k=l.length:=by omega
   subst hk2
   repeat' (first|((first|refine pC ?_|refine pQC ?_|refine pU ?_);push_cast [iO,tN])|(refine pif (fun h=>?_) (fun h=>?_)<;>first|exact pN h|push_cast [iO,tN]))
   exact ⟨_,rfl,by push_cast [iO,tN],_,_,rfl,rfl,rfl⟩
  obtain ⟨d,hd⟩:∃ d,l.getD k default=d:=⟨_,rfl⟩
  have hor:=origin_pure l d.index h hl hz
  have hnl:=nowK_len l k
  by_cases hkind:d.kind=4
  case neg =>
   have hsk:=nowK_f hlt (by rw [hd];exact hkind)
   repeat' (first|((first|refine pC ?_|refine pQC ?_|refine pU ?_);push_cast [iO,tN,hd,hkind])|(refine pif (fun h=>?_) (fun h=>?_)<;>first|exact pN h|push_cast [iO,tN,hd,hkind]))
   exact ⟨k+1,by omega,by (refine weak_fg ?_;push_cast [iO,tN,hsk]),by omega⟩
  have hst:=nowK_t hlt (by rw [hd];exact hkind)
  rw [hd] at hst
  replace hst:nowK l (k+1)=nowK l k++[⟨placeM l d.index,d.name⟩]:=hst
  have hsl:(nowK l (k+1)).length=(nowK l k).length+1:=by rw [hst,List.length_append,List.length_singleton]
  obtain ⟨u,hu⟩:∃ u,nowK l k=u:=⟨_,rfl⟩
  rw [hu] at hst hnl hsl ⊢
  repeat' (first|((refine plc [] (hor) ?_ ?_;push_cast [iO,tN,hd,hkind];rintro r os ⟨rfl,rfl⟩;push_cast [iO,tN,hd,hkind]))|((first|refine pC ?_|refine pQC ?_|refine pU ?_);push_cast [iO,tN,hd,hkind])|(refine pif (fun h=>?_) (fun h=>?_)<;>first|exact pN h|push_cast [iO,tN,hd,hkind]))
  refine pl_yield 3 (qs:=[.c (.v (.string (placeM l d.index))),.agg d.e]) rfl rfl rfl (by push_cast [iO,tN]) rfl rfl (by push_cast [iO,tN,hd,hkind]) rfl rfl ?_
  try dsimp only
  push_cast [iO,tN]
  have cB:CutB 6 [7,8,9]:=trivial
  repeat' (first|((first|refine pC ?_|refine pQC ?_|refine pU ?_);push_cast [iO,tN])|(refine pif (fun h=>?_) (fun h=>?_)<;>first|exact pN h|push_cast [iO,tN]))
  simp only [asgQ]
  refine ⟨_,_,rfl,rfl,?_⟩
  try dsimp only
  repeat' (first |  (refine pl_app2 (e:=33) (sz:=2) (by':=32) (rows:=u.map Atr.d) (ys:=[[.v (.string (placeM l d.index)),.v (.string d.name)]]) 4 rfl (by push_cast [iO,tN]) (by push_cast [iO,tN]) (by push_cast [iO,tN]) (by push_cast [iO,tN]) (by omega) (by push_cast [iO,tN]) (by push_cast [iO,tN]) (by push_cast [iO,tN]) (by push_cast [iO,tN]) (by simp) (by push_cast [iO,tN];omega) (by push_cast [iO,tN];omega) ?_ ?_<;>(refine pl_of_pops ?_;push_cast [iO,tN]))  | ((first|refine pC ?_|refine pQC ?_|refine pU ?_);push_cast [iO,tN])|(refine pif (fun h=>?_) (fun h=>?_)<;>first|exact pN h|push_cast [iO,tN]))
  all_goals simp only [yldQ]
  all_goals refine ⟨_,_,rfl,?_⟩
  all_goals push_cast [iO,tN]
  have cB:CutB 7 [8,9,10]:=trivial
  all_goals have cB6:CutB 7 [8,9,10]:=trivial
  all_goals first
   | (refine pl_of_pops ?_;push_cast [iO,tN];(repeat' (first|((first|refine pC ?_|refine pQC ?_|refine pU ?_);push_cast [iO,tN])|(refine pif (fun h=>?_) (fun h=>?_)<;>first|exact pN h|push_cast [iO,tN])));refine ⟨k+1,by omega,?_,by omega⟩;(refine weak_fg ?_;push_cast [iO,tN,hst,hsl]);done)
   | (refine pl_weak (weak_sw 6 (by omega)) ?_;push_cast [iO,tN];refine pl_weak (weak_sw 5 (by omega)) ?_;push_cast [iO,tN];refine pl_weak (weak_sw 4 (by omega)) ?_;push_cast [iO,tN];refine pl_of_pops ?_;push_cast [iO,tN];(repeat' (first|((first|refine pC ?_|refine pQC ?_|refine pU ?_);push_cast [iO,tN])|(refine pif (fun h=>?_) (fun h=>?_)<;>first|exact pN h|push_cast [iO,tN])));refine ⟨k+1,by omega,?_,by omega⟩;(refine weak_fg ?_;push_cast [iO,tN,hst,hsl]);done)
 ·obtain ⟨L2,t2,rfl,h1,h2⟩:=hR
  refine ⟨L2,t2,rfl,by rw [h1];simp,?_⟩
  rw [h2]
  simp only [rngfQ]
  have cB:CutB 6 []:=trivial
  push_cast [iO,tN]
  refine pU ?_
  repeat' (first|((first|refine pC ?_|refine pQC ?_|refine pU ?_);push_cast [iO,tN])|(refine pif (fun h=>?_) (fun h=>?_)<;>first|exact pN h|push_cast [iO,tN]))
  (refine retK_of [4] ?_;push_cast [iO,tN])
set_option maxRecDepth 20000
theorem sindex_pure (l:List ByteArray) (s:ByteArray) (hl:l.length≤1000000000) :
  PCalls Tryz.prog 120 [.c (.sl 1 (l.map strD)),.c (.v (.string s))] [] fun r os=>∃ k:Int,((k = -1∧s ∉ l)∨∃ i:Nat,k=i∧s ∈ l)∧r = .c (.v (.int .i64 k))∧os=[]:=by
 refine pcalls_of Tryz.func120 rfl (by simp [Tryz.ntmps120]) ?_
 rw [Tryz.ntmps120,Tryz.results120]
 push_cast [iO,tN]
 have cB:CutB 6 [7,8]:=trivial
 repeat' (first|((first|refine pC ?_|refine pQC ?_|refine pU ?_);push_cast [iO,tN])|(refine pif (fun h=>?_) (fun h=>?_)<;>first|exact pN h|push_cast [iO,tN]))
 (apply pwp_loop3 (α:=Nat) 6 [7,8] (fun k=>[(8,.c (.v (.int .i64 k)))]) (fun k=>[]) (fun k=>k≤l.length∧s ∉ l.take k) (fun k=>l.length - k) (0);(focus ((try push_cast [iO,tN]);rfl));(focus exact ⟨Nat.zero_le _,by simp⟩);(focus ((refine weak_fg ?_;try push_cast [iO,tN]))))
 rintro k ⟨hk,hpre⟩
 push_cast [iO,tN]
 by_cases hlt:k < l.length
 ·by_cases hq:s=l.getD k default
  ·repeat' (first|((first|refine pC ?_|refine pQC ?_|refine pU ?_);push_cast [iO,tN,hq])|(refine pif (fun h=>?_) (fun h=>?_)<;>first|exact pN h|push_cast [iO,tN,hq]))
   (refine retK_of [] ?_;push_cast [iO,tN])
   exact ⟨_,_,leP_refl _,leOs_refl _,_,.inr ⟨k,rfl,by first|(rw [getD_lt l hlt];exact List.getElem_mem _)|(rw [hq,getD_lt l hlt];exact List.getElem_mem _)⟩,rfl,rfl⟩
  ·repeat' (first|((first|refine pC ?_|refine pQC ?_|refine pU ?_);push_cast [iO,tN,hq])|(refine pif (fun h=>?_) (fun h=>?_)<;>first|exact pN h|push_cast [iO,tN,hq]))
   refine ⟨k+1,⟨by omega,?_⟩,by (refine weak_fg ?_;push_cast [iO,tN]),by omega⟩
   rw [List.take_succ_eq_append_getElem hlt,List.mem_append,List.mem_singleton]
   rintro (h|h)
   ·exact hpre h
   ·exact hq (by rw [getD_lt l hlt];exact h)
 ·rw [List.take_of_length_le (by omega)] at hpre
  repeat' (first|((first|refine pC ?_|refine pQC ?_|refine pU ?_);push_cast [iO,tN])|(refine pif (fun h=>?_) (fun h=>?_)<;>first|exact pN h|push_cast [iO,tN]))
  (refine retK_of [] ?_;push_cast [iO,tN])
  exact ⟨_,_,leP_refl _,leOs_refl _,_,.inl ⟨rfl,hpre⟩,rfl,rfl⟩
theorem scontains_pure (l:List ByteArray) (s:ByteArray) (hl:l.length≤1000000000) :
  PCalls Tryz.prog 68 [.c (.sl 1 (l.map strD)),.c (.v (.string s))] [] fun r os=>r = .c (.v (.bool (inM s l)))∧os=[]:=by
 have hi:=sindex_pure l s hl
 refine pcalls_of Tryz.func68 rfl (by simp [Tryz.ntmps68]) ?_
 rw [Tryz.ntmps68,Tryz.results68]
 push_cast [iO,tN]
 repeat' (first|((first|refine pG ?_|refine pQ ?_|refine pU ?_);push_cast [iO,tN])|(refine pif (fun h=>?_) (fun h=>?_)<;>first|exact pN h|push_cast [iO,tN]))
 (refine plc [] (hi) ?_ ?_;push_cast [iO,tN];rintro r os ⟨k,hk,rfl,rfl⟩;push_cast [iO,tN])
 rcases hk with ⟨rfl,h⟩|⟨i,rfl,h⟩
 ·have h:=inM_false.2 h
  repeat' (first|((first|refine pG ?_|refine pQ ?_|refine pU ?_);push_cast [iO,tN])|(refine pif (fun h=>?_) (fun h=>?_)<;>first|exact pN h|push_cast [iO,tN]))
  (refine retK_of [] ?_;push_cast [iO,tN,h])
 ·have h:=inM_iff.2 h
  repeat' (first|((first|refine pG ?_|refine pQ ?_|refine pU ?_);push_cast [iO,tN])|(refine pif (fun h=>?_) (fun h=>?_)<;>first|exact pN h|push_cast [iO,tN]))
  (refine retK_of [] ?_;push_cast [iO,tN,h])
  all_goals exact decide_eq_true (Int.natCast_nonneg _)
theorem rin5_pure (l:List ByteArray) (s:ByteArray) (hl:l.length≤9223372036854775807) :
  PCalls Tryz.prog 38 [.c (.sl 1 (l.map strD)),.c (.v (.string s))] [] fun r os=>r = .c (.v (.bool (inM s l)))∧os=[]:=by
 refine pcalls_of Tryz.func38 rfl (by simp [Tryz.ntmps38]) ?_
 rw [Tryz.ntmps38,Tryz.results38]
 push_cast [iO,tN]
 have cB:CutB 6 []:=trivial
 repeat' (first|((first|refine pC ?_|refine pQC ?_|refine pU ?_);push_cast [iO,tN])|(refine pif (fun h=>?_) (fun h=>?_)<;>first|exact pN h|push_cast [iO,tN]))
 (apply pwp_loop3 (α:=Nat) 6 [] (fun k=>[(5,.c (.v (.int .i64 k)))]) (fun k=>[]) (fun k=>k≤l.length∧s ∉ l.take k) (fun k=>l.length - k) (0);(focus ((try push_cast [iO,tN]);rfl));(focus exact ⟨Nat.zero_le _,by simp⟩);(focus ((refine weak_fg ?_;try push_cast [iO,tN]))))
 rintro k ⟨hk,hpre⟩
 push_cast [iO,tN]
 by_cases hlt:k < l.length
 ·by_cases hq:l.getD k default=s
  ·have hm:inM s l=true:=inM_iff.2 (by rw [← hq,getD_lt l hlt];exact List.getElem_mem _)
   repeat' (first|((first|refine pC ?_|refine pQC ?_|refine pU ?_);push_cast [iO,tN,hq])|(refine pif (fun h=>?_) (fun h=>?_)<;>first|exact pN h|push_cast [iO,tN,hq]))
   (refine retK_of [] ?_;push_cast [iO,tN,hm])
  ·repeat' (first|((first|refine pC ?_|refine pQC ?_|refine pU ?_);push_cast [iO,tN,hq])|(refine pif (fun h=>?_) (fun h=>?_)<;>first|exact pN h|push_cast [iO,tN,hq]))
   refine ⟨k+1,⟨by omega,?_⟩,by (refine weak_fg ?_;push_cast [iO,tN]),by omega⟩
   rw [List.take_succ_eq_append_getElem hlt,List.mem_append,List.mem_singleton]
   rintro (h|h)
   ·exact hpre h
   ·exact hq (by rw [getD_lt l hlt];exact h.symm)
 ·rw [List.take_of_length_le (by omega)] at hpre
  have hpre:=inM_false.2 hpre
  repeat' (first|((first|refine pC ?_|refine pQC ?_|refine pU ?_);push_cast [iO,tN])|(refine pif (fun h=>?_) (fun h=>?_)<;>first|exact pN h|push_cast [iO,tN]))
  (refine retK_of [] ?_;push_cast [iO,tN,hpre])
theorem itoaN_pure (i:Nat) (hi:i < 100):PCalls Tryz.prog 35 [.c (.v (.int .i64 i))] [] fun r os=>r = .c (.v (.string (digN i)))∧os=[] :=
 pcalls_plain [.int .i64 i] _ rfl fun w _=>(strconv_Itoa_small i hi w).mono fun e w' ⟨he,hw⟩=>by rw [he,hw];exact ⟨rfl,Below.refl _ _⟩
end Go.Proofs.YthconflkbeipoaaGreatDoor
