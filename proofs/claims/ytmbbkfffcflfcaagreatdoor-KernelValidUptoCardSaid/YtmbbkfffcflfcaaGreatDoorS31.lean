/- What the program computes, and the plain laws of it, part 31. -/
import Derived.WideKeyEntry
import Derived.Lib.ItoaNum
import Derived.Test.YtmbbkfffcflfcaaGreatDoorS30
namespace Go.Proofs.YtmbbkfffcflfcaaGreatDoor
open Go.RowKit
open IntWalk renaming iteOmega → O, toNatUp → U
set_option linter.unusedVariables false
set_option linter.unusedSimpArgs false
def putTs:List Nat → List PV → List (Nat × PV) → List (Nat × PV)
 | i :: is,q :: qs,t=>putTs is qs ((i,q) :: t)
 | _,_,t=>t
attribute [push_cast] putTs
theorem putTs_ok {N:Nat} {Γ:G} {w:World}:∀ {is:List Nat} {qs:List PV} {t:List (Nat × PV)} {xs:List Value} {tm:Array Value},is.length=qs.length → (∀ i ∈ is,i < N) → All2 (RP w Γ) qs xs → tm.size=N → (∀ i q,look t i=some q → i < N∧RP w Γ q (tm.getD i Go.undef)) →
  ((is.zip xs).foldl (fun tmps (x:Nat × Value)=>tmps.setIfInBounds x.1 x.2) tm).size=N∧∀ i q,look (putTs is qs t) i=some q → i < N∧RP w Γ q (((is.zip xs).foldl (fun tmps (x:Nat × Value)=>tmps.setIfInBounds x.1 x.2) tm).getD i Go.undef)
 | [],[],t,xs,tm,_,_,_,hs,ht=>by
  rw [List.zip_nil_left]
  exact ⟨hs,ht⟩
 | i :: is,q :: qs,t,x :: xs,tm,hl,hn,hx,hs,ht=>by
  rw [List.zip_cons_cons,List.foldl_cons,putTs]
  refine putTs_ok (by simpa using hl) (fun j hj=>hn j (by simp [hj])) hx.2 (by simpa using hs) fun j r hj=>?_
  have hi:=hn i (by simp)
  simp only [look] at hj
  split at hj
  ·rename_i e
   subst e
   cases hj
   refine ⟨hi,?_⟩
   have:j < tm.size:=by rw [hs];exact hi
   simpa [this] using hx.1
  ·rename_i e
   obtain ⟨h1,h2⟩:=ht j r hj
   refine ⟨h1,?_⟩
   rw [Array.getD_eq_getD_getElem?,Array.getElem?_setIfInBounds_ne (fun e'=>e e'.symm),← Array.getD_eq_getD_getElem?]
   exact h2
 | [],_ :: _,_,_,_,h,_,_,_,_=>by simp at h
 | _ :: _,[],_,_,_,h,_,_,_,_=>by simp at h
 | _ :: _,_ :: _,_,[],_,_,_,h,_,_=>h.elim
theorem loop_turn {N p:Nat} {Γ:G} {s:S} {a:Act} {w:World} {k l:Nat} {L L':LoopR} {t:List (Nat × PV)} {tm:Array Value} (hA:Stands N p Γ s a w) (hk:s.o[k]? = some (.loop l L t)) (h1:w.heap[l]? = some (.loop (L.obj tm))) (hN:L'.N=L.N)
  (h2:tm.size=L.N) (h3:∀ i q,look t i=some q → i < L.N∧RP w Γ q (tm.getD i Go.undef)) (h4:0 < Γ.cap k) (h5:Γ.β k=l) :
  Stands N p Γ ⟨s.t,s.o.set k (.loop l L' t)⟩ a (w.putObj l (.loop (L'.obj tm)))∧Grow p Γ w Γ (w.putObj l (.loop (L'.obj tm))):=by
 have hlt:l < w.heap.size:=(Array.getElem?_eq_some_iff.1 h1).1
 have hkn:k < Γ.n:=by rw [hA.inv.m.n];exact (List.getElem?_eq_some_iff.1 hk).1
 have hE:Ext (· = Γ.β k) w (w.putObj l (.loop (L'.obj tm))):=⟨rfl,rfl,rfl,by simp,fun b _ hb=>World.putObj_heap_other (fun e=>hb (by rw [h5];exact e))⟩
 have hs:Stay w Γ.I (w.putObj l (.loop (L'.obj tm))) Γ.I:=⟨hE.size,fun b hb hl=>hE.block b hl fun e=>hA.inv.m.off k hkn h4 (e ▸ hb),fun _ h=>h⟩
 have hro:RO (w.putObj l (.loop (L'.obj tm))) Γ k (.loop l L' t):=⟨h4,h5,tm,World.putObj_heap_same hlt,by rw [hN];exact h2,fun i q hq=>⟨by rw [hN];exact (h3 i q hq).1,(h3 i q hq).2.stay hs fun j hj=>⟨(h3 i q hq).2.lt j hj,rfl,rfl⟩⟩⟩
 obtain ⟨hm,_⟩:=hA.inv.m.set_ hkn h4 hE _ hro
 exact ⟨⟨hA.inv.heap hm hs fun j hj=>⟨hj,rfl,rfl⟩,hA.le⟩,grow_set hkn h4 hE⟩
theorem Grow.less {p p':Nat} {Γ Γ':G} {w w':World} (h:Grow p Γ w Γ' w') (hp:p'≤p):Grow p' Γ w Γ' w':=⟨h.ext,h.sub,h.new,h.imm,fun k hk=>h.keep k (by omega)⟩
section
variable {P:Program} {N p:Nat} {ops:Array Oper} {rest:List Oper} {o:Oper} {s:S} {K:S → Prop}
def yldQ (P:Program) (N p:Nat) (ops:Array Oper) (rest:List Oper) (dst:Option Nat) (t:List (Nat × PV)) (K:S → Prop) (k l:Nat):Exit → S → Prop
 | .normal,s2=>∃ L2 t2,s2.o[k]? = some (.loop l L2 t2)∧PL P N p ops rest (S.put ⟨t,s2.o.set k (.loop l { L2 with st:=.ready,pd:=none } t2)⟩ dst (.c (.v (.bool true)))) K
 | .ret,s2=>∃ L2 t2,s2.o[k]? = some (.loop l L2 t2)∧PL P N p ops rest (S.put ⟨t,s2.o.set k (.loop l { L2 with st:=.done,pd:=some .ret } t2)⟩ dst (.c (.v (.bool false)))) K
 | .exit i,s2=>∃ L2 t2,s2.o[k]? = some (.loop l L2 t2)∧PL P N p ops rest (S.put ⟨t,s2.o.set k (.loop l { L2 with st:=.done,pd:=some (.exit i) } t2)⟩ dst (.c (.v (.bool false)))) K
 | _,_=>False
def asgQ (P:Program) (p:Nat) (L:LoopR) (Q:Exit → S → Prop) (k l:Nat):Exit → S → Prop
 | .normal,s1=>∃ L1 t1,s1.o[k]? = some (.loop l L1 t1)∧L1.st = .ready∧PWPr (some l) P L.N p L.body Q ⟨s1.t,s1.o.set k (.loop l { L1 with st:=.busy } t1)⟩
 | _,_=>False
theorem run_yld {a:Act} {w:World} {f:Operand} {args:Array Operand} {tys:Array TypeId} {l:Nat} {r:Loop} (ho:o.op = .call ⟨.value f,args,tys⟩) (hf:a.eval f = .func (.yield l) #[] #[]) (hl:w.heap[l]? = some (.loop r)) (hs:args.size=r.params.size) :
  (execOp a.eval o).run P w = .ok (.round l r.fn ((r.params.zip (args.map a.eval)).foldl (fun tmps (t,a)=>tmps.setIfInBounds t a) r.tmps) r.assign r.body) w:=by
 have hy:=run_yield (P:=P) (args:=args.map a.eval) hl (by simpa using hs)
 simp [execOp,ho,resolve,hf,Deferred.ofValue,invoke,callFunc,hy]
theorem pl_yield {f:Operand} {args:Array Operand} {tys:Array TypeId} {l:Nat} (k:Nat) {L:LoopR} {t:List (Nat × PV)} {qs:List PV}
  (ho:o.op = .call ⟨.value f,args,tys⟩) (hg:gd ops s o.guard=some true) (hf:s.ev f=some (.c (.fn (.yield l) [] []))) (hd:dstOk N o.dst)
  (hk:s.o[k]? = some (.loop l L t)) (hst:L.st = .ready) (hq:allSome (args.toList.map s.ev) qs) (hlen:L.ps.toList.length=qs.length) (hpn:(L.ps.toList.all fun i=>decide (i < L.N))=true)
  (h:PWPr (some l) P L.N s.o.length L.asg (asgQ P s.o.length L (yldQ P N p ops rest o.dst s.t K k l) k l) ⟨putTs L.ps.toList qs t,s.o⟩):PL P N p ops (o :: rest) s K:=by
 intro Γ a w Q hA hQ
 have hn:=hA.inv.m.n
 have hps:p≤s.o.length:=by rw [← hn];exact hA.le
 obtain ⟨xs,hfv,hx0,_⟩:=S.ev_ok hf hA.inv
 replace hx0:=hx0 rfl
 rw [All2.nil_l] at hx0
 subst hx0
 simp only [isBnd,fnV] at hfv
 obtain ⟨h4,h5,tm,h1,h2,h3⟩:=hA.inv.m.ob k _ hk
 have hargs:All2 (RP w Γ) qs (args.toList.map a.eval):=allSome_ok hq (by
  have:∀ l:List Operand,All2 (fun (q:Option PV) y=>∀ r,q=some r → RP w Γ r y) (l.map s.ev) (l.map a.eval):=by
   intro l
   induction l with
   | nil=>trivial
   | cons x l ih=>exact ⟨fun r hr=>S.ev_ok hr hA.inv,ih⟩
  exact this _)
 have hsz:args.size=(L.obj tm).params.size:=by
  have:=hargs.length
  rw [List.length_map] at this
  have h6:L.ps.size=qs.length:=by rw [← hlen];exact Array.length_toList.symm
  show args.size=L.ps.size
  rw [h6,this]
  exact Array.length_toList.symm
 have hrun:=run_yld (P:=P) ho hfv h1 hsz
 unfold wpListIn
 rw [if_pos (gd_ok hg hA.inv)]
 refine wpIn_run hrun ⟨Fw_dep,?_⟩
 have hfold:((L.obj tm).params.zip (args.map a.eval)).foldl (fun tmps (t,a)=>tmps.setIfInBounds t a) (L.obj tm).tmps=(L.ps.toList.zip (args.toList.map a.eval)).foldl (fun tmps (x:Nat × Value)=>tmps.setIfInBounds x.1 x.2) tm:=by
  rw [← Array.foldl_toList,Array.toList_zip,Array.toList_map];rfl
 rw [hfold]
 obtain ⟨g1,g2⟩:=putTs_ok (N:=L.N) hlen (fun i hi=>by simpa using List.all_eq_true.1 hpn i hi) hargs h2 h3
 have hS0:Stands L.N s.o.length Γ ⟨putTs L.ps.toList qs t,s.o⟩ { tmps:=(L.ps.toList.zip (args.toList.map a.eval)).foldl (fun tmps (x:Nat × Value)=>tmps.setIfInBounds x.1 x.2) tm,defers:=[] } w :=
  ⟨⟨g1,trivial,g2,hA.inv.m⟩,by rw [hn];exact Nat.le_refl _⟩
 refine roundIn_of_wpIn trivial ?_
 refine wpIn_mono (h w.heap.size Γ _ w hS0 (DefOk.nil (Nat.le_refl _))) ?_
 rintro e a1 w1 ⟨s1,Γ1,q,hS1,hg1,hd1⟩
 cases e with
 | normal =>
  obtain ⟨L1,t1,hk1,hst1,hB⟩:=q
  obtain ⟨c4,c5,tm1,c1,c2,c3⟩:=hS1.inv.m.ob k _ hk1
  obtain ⟨hS2,hg2⟩:=loop_turn (L':={ L1 with st:=.busy }) hS1 hk1 c1 rfl c2 c3 c4 c5
  refine ⟨_,run_beginRound c1 hst1,?_⟩
  refine wpIn_mono (hB w.heap.size Γ1 a1 _ hS2 (hd1.grow hg2 rfl)) ?_
  rintro e2 a2 w2 ⟨s2,Γ2,q2,hS3,hg3,hd3⟩
  have fin:∀ (jump:Option Code) (b:Bool) (L2:LoopR) (t2:List (Nat × PV)),jump.isNone=b → s2.o[k]? = some (.loop l L2 t2) →
    PL P N p ops rest (S.put ⟨s.t,s2.o.set k (.loop l { L2 with st:=if jump.isNone then .ready else .done,pd:=jump } t2)⟩ o.dst (.c (.v (.bool b)))) K →
    ∃ v w',(Instr.endRound l jump).run P w2 = .ok v w'∧wpListIn (Fw none) 0 P ops Q rest (a.put o.dst v) w':=by
   intro jump b L2 t2 hb hk2 hp
   obtain ⟨e4,e5,tm2,e1,e2,e3⟩:=hS3.inv.m.ob k _ hk2
   obtain ⟨hS4,hg4⟩:=loop_turn (L':={ L2 with st:=if jump.isNone then .ready else .done,pd:=jump }) hS3 hk2 e1 rfl e2 e3 e4 e5
   refine ⟨_,_,run_endRound jump e1,?_⟩
   have hgT:Grow s.o.length Γ w Γ2 _:=((hg1.trans hg2).trans hg3).trans hg4
   have hn2:s.o.length≤Γ2.n:=hS4.le
   have hI:=hA.inv.heap hS4.inv.m (hgT.stay hA.inv.m) fun j hj=>by
    have hj':j < s.o.length:=by rw [← hn];exact hj
    exact ⟨by omega,(hgT.keep j hj').1,(hgT.keep j hj').2⟩
   subst hb
   exact hp Γ2 _ _ Q ⟨hI.put (dst_lt hd) ⟨rfl,rfl⟩,by omega⟩ fun s' Γ' a' w' hk' hS' hg' hd'=>hQ s' Γ' a' w' hk' hS' ((hgT.less hps).trans hg') (hd'.trans (put_defers _ _ _))
  cases e2 with
  | normal=>obtain ⟨L2,t2,hk2,hp⟩:=q2;exact fin none true L2 t2 rfl hk2 hp
  | ret=>obtain ⟨L2,t2,hk2,hp⟩:=q2;exact fin (some .ret) false L2 t2 rfl hk2 hp
  | exit i=>obtain ⟨L2,t2,hk2,hp⟩:=q2;exact fin (some (.exit i)) false L2 t2 rfl hk2 hp
  | goto l'=>exact q2.elim
  | panic ch=>exact q2.elim
  | outgrown=>exact q2.elim
 | exit i=>exact q.elim
 | goto l'=>exact q.elim
 | ret=>exact q.elim
 | panic ch=>exact q.elim
 | outgrown=>exact q.elim
end
def rngfQ (Q:Exit → S → Prop):Option Code → S → Prop
 | none,s=>Q .normal s
 | some .ret,s=>Q .ret s
 | some (.exit i),s=>Q (.exit i) s
 | _,_=>False
theorem pwp_range {P:Program} {N p:Nat} {Q:Exit → S → Prop} {s:S} {g:Operand} {ps:Array Tmp} {asg body:Code} {gf:FuncId} {cap:List Nat} {R:Nat → PV → List Ob → Prop} (hf:s.ev g=some (.c (.fn (.func gf) [] cap))) (hb:bodyOk P gf=true)
  (hc:∀ (l D:Nat) (fn:FuncId),PCalls P gf (.c (.fn (.yield l) [] []) :: cap.map fun k=>.c (.ptr k 0)) (s.o++[.loop l ⟨fn,ps,asg,body,D,N,.ready,none⟩ s.t]) (R l))
  (hK:∀ l r os',R l r os' → ∃ L2 t2,os'[s.o.length]? = some (.loop l L2 t2)∧L2.st≠.busy∧rngfQ Q L2.pd ⟨s.t,os'.set s.o.length (.loop l { L2 with st:=.exhausted } t2)⟩):PWPr none P N p (.rangeFunc g ps asg body) Q s:=by
 intro z Γ a w hA hD
 have hn:=hA.inv.m.n
 have hps:p≤s.o.length:=by rw [← hn];exact hA.le
 obtain ⟨xs,hgv,hx0,hcap⟩:=S.ev_ok hf hA.inv
 replace hx0:=hx0 rfl
 rw [All2.nil_l] at hx0
 subst hx0
 simp only [isBnd,fnV] at hgv
 refine wpIn_rangeFunc ?_
 intro fn hfn
 obtain ⟨L,hL⟩:∃ L:LoopR,L=⟨fn,ps,asg,body,w.heap.size,N,.ready,none⟩:=⟨_,rfl⟩
 obtain ⟨w1,hw1⟩:∃ w1,(w.alloc (.deferred (some []))).alloc (.loop (L.obj a.tmps))=w1:=⟨_,rfl⟩
 have hsz1:w1.heap.size=w.heap.size+1+1:=by rw [← hw1,World.size_alloc,World.size_alloc]
 have hS01:Same w w1:=by
  rw [← hw1]
  refine ⟨by rw [World.size_alloc,World.size_alloc];omega,fun b hb=>?_⟩
  rw [Below.heap_alloc _ _ _ (by rw [World.size_alloc];omega),Below.heap_alloc _ _ _ hb]
 have hE01:Ext No w w1:=by rw [← hw1];exact ((Ext.refl No w).alloc _).alloc _
 have hl1:w1.heap[w.heap.size+1]? = some (.loop (L.obj a.tmps)):=by
  rw [← hw1];have:=World.alloc_heap_new (w.alloc (.deferred (some []))) (.loop (L.obj a.tmps));rwa [World.size_alloc] at this
 have hD1:w1.heap[w.heap.size]? = some (.deferred (some [])):=by
  rw [← hw1];exact (Below.heap_alloc _ _ _ (by simp)).trans (World.alloc_heap_new w _)
 have hag:=push_agree Γ (w.heap.size+1) 1
 have hLN:L.N=N:=by rw [hL]
 have hm1:MemOk (Γ.push (w.heap.size+1) 1) (s.o++[.loop (w.heap.size+1) L s.t]) w1:=by
  refine hA.inv.m.push hS01 _ _ 1 ⟨by simp [G.push,upd_same],by simp [G.push,upd_same],a.tmps,hl1,by rw [hLN];exact hA.inv.size,fun i q hq=>?_⟩ (fun _=>by omega)
  obtain ⟨i1,i2⟩:=hA.inv.t i q hq
  exact ⟨by rw [hLN];exact i1,i2.stay (hS01.stay Γ.I) fun j hj=>hag j (i2.lt j hj)⟩
 have hg1:Grow p Γ w (Γ.push (w.heap.size+1) 1) w1:=grow_push hA.inv.m hE01 _ 1 (fun _=>by omega) hA.le
 have hcv:(cap.map (keyVal Γ))=cap.map (keyVal (Γ.push (w.heap.size+1) 1)):=List.map_congr_left fun k hk=>by unfold keyVal;rw [(hag k (hcap k hk)).2.1]
 have hxs:All2 (RP w1 (Γ.push (w.heap.size+1) 1)) (PV.c (.fn (.yield (w.heap.size+1)) [] []) :: cap.map fun k=>PV.c (.ptr k 0)) (.func (.yield (w.heap.size+1)) #[] #[] :: cap.map (keyVal Γ)):=by
  refine ⟨⟨[],rfl,fun _=>trivial,fun k hk=>by cases hk⟩,?_⟩
  rw [hcv]
  have:∀ l:List Nat,(∀ k ∈ l,k < Γ.n) → All2 (RP w1 (Γ.push (w.heap.size+1) 1)) (l.map fun k=>PV.c (.ptr k 0)) (l.map (keyVal (Γ.push (w.heap.size+1) 1))):=by
   intro l
   induction l with
   | nil=>intro _;trivial
   | cons k l ih=>intro hl;exact ⟨⟨(hag k (hl k (by simp))).1,rfl⟩,ih fun k' hk'=>hl k' (by simp [hk'])⟩
  exact this cap hcap
 have hcall:=hc (w.heap.size+1) w.heap.size fn
 rw [← hL] at hcall
 have hrun:=hcall _ w1 _ hm1 hxs
 have eg:∀ args w,(callFunc gf args).run P w = .ok (.enter gf args) w:=fun args w=>by
  unfold bodyOk at hb
  split at hb
  ·rename_i f hf
   simp only [Bool.and_eq_true,Bool.not_eq_true'] at hb
   have h1:¬ f.body=none:=by intro h;rw [h] at hb;simp at hb
   have h2:¬ f.name = "runtime.NumGoroutine" := by simpa using hb.2
   simp [callFunc,hf,h2,h1]
  ·cases hb
 refine ⟨w.heap.size+1,[{ target:=.collected w.heap.size,args := #[] }],w1,{ target:=.fn (.func gf) (cap.map (keyVal Γ)).toArray,args := #[.func (.yield (w.heap.size+1)) #[] #[]] },w1,gf,
  #[.func (.yield (w.heap.size+1)) #[] #[]]++(cap.map (keyVal Γ)).toArray,w1,?_,?_,fun _ _=>trivial,?_,Fw_dep,calls_fw ?_⟩
 ·rw [← hw1,hL]
  exact run_enterLoop_outer _ _ _ _ _
 ·simp only [resolve,hgv]
  simp [go_sem]
 ·simp [invoke,go_sem,eg]
 ·have hargs:(#[Value.func (.yield (w.heap.size+1)) #[] #[]]++(cap.map (keyVal Γ)).toArray)=(Value.func (.yield (w.heap.size+1)) #[] #[] :: cap.map (keyVal Γ)).toArray:=by simp
  rw [hargs]
  refine hrun.mono ?_
  rintro e w3 ⟨r,os',Γ3,y,rfl,hR,hr,hlen,hm3,hgr⟩
  obtain ⟨L2,t2,hk2,hnb,hq2⟩:=hK _ r os' hR
  rw [List.length_append,List.length_singleton] at hlen hgr
  have hgT:Grow p Γ w Γ3 w3:=hg1.trans (hgr.less (by omega))
  have hgk:∀ j,j < Γ.n → Γ3.β j=Γ.β j∧Γ3.cap j=Γ.cap j:=fun j hj=>by
   have:=hgr.keep j (by rw [← hn];omega)
   rw [this.1,this.2]
   exact ⟨(hag j hj).2.1,(hag j hj).2.2⟩
  have hS3:Stands N p Γ3 ⟨s.t,os'⟩ { a with defers:={ target:=.collected w.heap.size,args := #[] } :: a.defers } w3:=by
   have hI:=hA.inv.heap hm3 (hgT.stay hA.inv.m) fun j hj=>⟨by rw [hm3.n];omega,(hgk j hj).1,(hgk j hj).2⟩
   exact ⟨⟨hI.size,trivial,hI.t,hI.m⟩,by rw [hm3.n];omega⟩
  obtain ⟨e4,e5,tm2,e1,e2,e3⟩:=hm3.ob _ _ hk2
  obtain ⟨hS4,hg4⟩:=loop_turn (L':={ L2 with st:=.exhausted }) hS3 hk2 e1 rfl e2 e3 e4 e5
  refine ⟨L2.pd,_,run_endLoop e1 hnb,?_⟩
  have hDl:w.heap.size < w1.heap.size:=by omega
  have hDm:¬ Mine (Γ.push (w.heap.size+1) 1) w.heap.size:=by
   rintro ⟨k,k1,k2,k3⟩
   have k1':k < Γ.n+1:=k1
   by_cases ek:k=Γ.n
   ·subst ek;simp only [G.push,upd_same] at k3;omega
   ·simp only [G.push,upd_ne _ _ ek] at k2 k3
    have:=mine_lt hA.inv.m (k:=k) (by omega) k2
    omega
  have hD3:w3.heap[w.heap.size]? = some (.deferred (some [])):=(hgr.ext.block _ hDl hDm).trans hD1
  have hoff:OffM Γ3 w.heap.size:=by
   refine ⟨fun hI=>?_,fun k hk hc e=>?_⟩
   ·rcases hgr.imm _ hI with x|x|x
    ·have:=hA.inv.m.lt _ x;omega
    ·exact hDm x
    ·omega
   ·rcases hgr.new k hk hc with x|x
    ·exact hDm (e ▸ x)
    ·omega
  have hgT4:=hgT.trans hg4
  have hne:w.heap.size≠w.heap.size+1:=by omega
  have hDf:DefOk z Γ3 { a with defers:={ target:=.collected w.heap.size,args := #[] } :: a.defers } (w3.putObj (w.heap.size+1) (.loop (({ L2 with st:=.exhausted }:LoopR).obj tm2))):=by
   have hold:=hD.grow hgT4 (a':=a) rfl
   refine ⟨hold.1,List.nodup_cons.2 ⟨fun hm=>?_,hD.2.1⟩,fun d hd=>?_⟩
   ·obtain ⟨D,x1,x2,_⟩:=hD.2.2 _ hm
    have:D=w.heap.size:=by injection x1 with x1;injection x1 with x1;exact x1.symm
    subst this
    have:=(Array.getElem?_eq_some_iff.1 x2).1
    omega
   ·rcases List.mem_cons.1 hd with rfl|hd
    ·exact ⟨w.heap.size,rfl,by rw [World.putObj_heap_other hne];exact hD3,hoff,hD.1⟩
    ·exact hold.2.2 d hd
  have post:∀ e,Q e ⟨s.t,os'.set s.o.length (.loop (w.heap.size+1) { L2 with st:=.exhausted } t2)⟩ → Post z N p Q Γ w e { a with defers:={ target:=.collected w.heap.size,args := #[] } :: a.defers } (w3.putObj (w.heap.size+1) (.loop (({ L2 with st:=.exhausted }:LoopR).obj tm2))) :=
   fun e hq=>⟨_,Γ3,hq,hS4,hgT4,hDf⟩
  show match L2.pd with
   | none=>_
   | some c=>_
  unfold rngfQ at hq2
  split at hq2
  ·rename_i hp;rw [hp];exact post _ hq2
  ·rename_i hp;rw [hp];exact wpIn_ret (post _ hq2)
  ·rename_i hp;rw [hp];exact wpIn_exit (post _ hq2)
  ·exact hq2.elim
end Go.Proofs.YtmbbkfffcflfcaaGreatDoor
namespace Go.Proofs.YtmbbkfffcflfcaaGreatDoor
attribute [local irreducible] PL QL PWPr PCalls Weak RetK Kontr PA
open Go.RowKit
open IntWalk renaming iteOmega → O, toNatUp → U
set_option linter.unusedVariables false
set_option linter.unusedSimpArgs false
set_option maxRecDepth 20000
structure DelI {α:Type} [Inhabited α] (l:List α) (q:α → Bool) (j i:Nat) (m:List α):Prop where
 len:m.length=l.length
 ij:i < j
 jl:j≤l.length
 pre:m.take i=(l.take j).filter fun x=>!q x
 post:m.drop j=l.drop j
theorem DelI.start {α:Type} [Inhabited α] {l:List α} {q:α → Bool} {i:Nat} (h1:i < l.length) (h2:q (l.getD i default)=true) (h3:∀ x ∈ l.take i,q x=false):DelI l q (i+1) i l:=by
 refine ⟨rfl,by omega,by omega,?_,rfl⟩
 rw [List.take_succ_eq_append_getElem h1,List.filter_append]
 rw [getD_lt l h1] at h2
 rw [List.filter_eq_self.2 fun x hx=>by simp [h3 x hx]]
 simp [h2]
theorem DelI.get {α:Type} [Inhabited α] {l m:List α} {q:α → Bool} {j i:Nat} (h:DelI l q j i m) (hj:j < l.length):m.getD j default=l.getD j default:=by
 have:=congrArg (fun x=>x[0]?) h.post
 simp only [List.getElem?_drop,Nat.add_zero] at this
 simp [List.getD,this]
theorem DelI.drop {α:Type} [Inhabited α] {l m:List α} {q:α → Bool} {j i:Nat} (h:DelI l q j i m) (hj:j < l.length) (hq:q (l.getD j default)=true):DelI l q (j+1) i m:=by
 refine ⟨h.len,by have:=h.ij;omega,by omega,?_,?_⟩
 ·rw [List.take_succ_eq_append_getElem hj,List.filter_append,h.pre]
  rw [getD_lt l hj] at hq
  simp [hq]
 ·have:=congrArg (List.drop 1) h.post
  simpa [List.drop_drop] using this
theorem DelI.keep {α:Type} [Inhabited α] {l m:List α} {q:α → Bool} {j i:Nat} (h:DelI l q j i m) (hj:j < l.length) (hq:q (l.getD j default)=false):DelI l q (j+1) (i+1) (m.set i (l.getD j default)):=by
 have hij:=h.ij
 have hl:=h.len
 refine ⟨by simpa using hl,by omega,by omega,?_,?_⟩
 ·have hi:i < (m.set i (l.getD j default)).length:=by rw [List.length_set];omega
  rw [List.take_succ_eq_append_getElem hi,List.take_set_of_le (Nat.le_refl _),h.pre,List.getElem_set_self,List.take_succ_eq_append_getElem hj,List.filter_append]
  rw [getD_lt l hj] at hq ⊢
  simp [hq]
 ·rw [List.drop_set_of_lt (by omega)]
  have:=congrArg (List.drop 1) h.post
  simpa [List.drop_drop] using this
theorem DelI.done {α:Type} [Inhabited α] {l m:List α} {q:α → Bool} {j i:Nat} (h:DelI l q j i m) (hj:¬ j < l.length):m.take i=(l.filter fun x=>!q x)∧i=(l.filter fun x=>!q x).length:=by
 have:=h.pre
 have e:l.take j=l:=List.take_of_length_le (by omega)
 rw [e] at this
 refine ⟨this,?_⟩
 rw [← this,List.length_take]
 have:=h.ij;have:=h.jl;have:=h.len
 omega
theorem indexFuncDO_pure (l:List Dev) (hl:l.length≤1000000000) (g:FuncId) (ks:List Nat) (rest:List Ob) (q:Dev → Bool) (hp:PredD Tryz.prog g ks (.arr 53 10 (l.map Dev.d) :: rest) l q) :
  PCalls Tryz.prog 133 [.c (.own 0 l.length),.c (.fn (.func g) [] ks)] (.arr 53 10 (l.map Dev.d) :: rest) fun r os'=>∃ k,idxD q l k∧r = .c (.v (.int .i64 k))∧os' = .arr 53 10 (l.map Dev.d) :: rest:=by
 refine pcalls_of_all Tryz.func133 rfl (by simp [Tryz.ntmps133]) ?_
 rw [Tryz.ntmps133,Tryz.results133]
 push_cast [O,U]
 repeat' ((first|refine pG ?_|refine pQ ?_|refine pU ?_|refine pif ?_ ?_<;>intro h<;>try exact pN h)<;>push_cast [O,U])
 refine pwp_loop2 (α:=Nat) (fun k=>k≤l.length∧∀ x ∈ l.take k,q x=false) (fun k=>⟨[(8,.c (.v (.int .i64 k))),(7,.c (.v (.int .i64 l.length))),(6,.c (.own 0 l.length)),(0,.c (.own 0 l.length)),(1,.c (.fn (.func g) [] ks))],.arr 53 10 (l.map Dev.d) :: rest⟩) (fun k=>l.length - k) 0 ⟨by omega,by simp⟩ (weak_slots (by push_cast [O,U]) rfl) ?_
 rintro k ⟨hk,hpre⟩
 by_cases hlt:k < l.length
 ·have hm:l.getD k default ∈ l:=by rw [getD_lt l hlt];exact List.getElem_mem _
  have hc:=hp.2 _ hm
  have hpre2:q (l.getD k default)=false → ∀ x ∈ l.take (k+1),q x=false:=fun h x hx=>by
   rw [List.take_succ_eq_append_getElem hlt] at hx
   rcases List.mem_append.1 hx with hx|hx
   ·exact hpre x hx
   ·simp at hx;subst hx;rw [← getD_lt l hlt];exact h
  cases hq:q (l.getD k default)
  all_goals rw [hq] at hc
  all_goals repeat' ((first|(refine pl_call_all rfl (by push_cast [O,U]) rfl hp.1 (by push_cast [O,U]) ?_ hc ?_;(focus (unfold callArgs;push_cast [O,U];exact allSomeD ks));rintro r os ⟨rfl,rfl⟩;refine pl_of_pops ?_)|refine pG ?_|refine pQ ?_|refine pU ?_|refine pif ?_ ?_<;>intro h<;>try exact pN h)<;>push_cast [O,U])
  ·exact ⟨k+1,⟨by omega,hpre2 hq⟩,weak_slots (by push_cast [O,U]) rfl,by omega⟩
  ·exact ⟨_,rfl,by push_cast [O,U],k,.inr ⟨k,rfl,hlt,hq,hpre⟩,rfl,rfl⟩
 ·rw [List.take_of_length_le (by omega)] at hpre
  repeat' ((first|refine pG ?_|refine pQ ?_|refine pU ?_|refine pif ?_ ?_<;>intro h<;>try exact pN h)<;>push_cast [O,U])
  exact ⟨_,rfl,by push_cast [O,U],-1,.inl ⟨rfl,hpre⟩,rfl,rfl⟩
abbrev goneO (es:List (MK × List D)) (m:List Dev):List Ob:=[.arr 53 10 (m.map Dev.d),.box 227 [.mp 2],.map (some .i64) false es]
def GoneQ (es:List (MK × List D)) (l:List Dev) (q:Dev → Bool):Prop:=∀ x ∈ l,lkP false (.c (.v (.bool false))) false (mget es (.i .i64 x.index))=some (.c (.v (.bool (q x))))
theorem gone1_pure (es:List (MK × List D)) (m:List Dev) (d:Dev) (b:Bool) (h:lkP false (.c (.v (.bool false))) false (mget es (.i .i64 d.index))=some (.c (.v (.bool b)))) :
  PCalls Tryz.prog 180 [.agg d.e,.c (.ptr 1 0)] (goneO es m) fun r os=>r = .c (.v (.bool b))∧os=goneO es m:=by
 refine pcalls_of Tryz.func180 rfl (by simp [Tryz.ntmps180]) ?_
 rw [Tryz.ntmps180,Tryz.results180]
 push_cast [O,U]
 repeat' ((first|refine pG ?_|refine pQ ?_|refine pU ?_|refine pif ?_ ?_<;>intro h<;>try exact pN h)<;>push_cast [O,U,h])
 (refine retK_of [0,1,2] ?_;push_cast [O,U])
set_option maxHeartbeats 4000000 in
theorem deleteGone_pure (l:List Dev) (hl:l.length≤1000000000) (es:List (MK × List D)) (q:Dev → Bool) (hq:GoneQ es l q) (hex:∃ x ∈ l,q x=true) :
  PCalls Tryz.prog 179 [.c (.own 0 l.length),.c (.fn (.func 180) [] [1])] (goneO es l) fun r os=>∃ m:List (List D),r = .c (.own 0 (l.filter fun x=>!q x).length)∧os=[.arr 53 10 ((l.filter fun x=>!q x).map Dev.d++m),.box 227 [.mp 2],.map (some .i64) false es]:=by
 have hp:∀ m:List Dev,PredD Tryz.prog 180 [1] (goneO es m) l q:=fun m=>⟨by kernel_rfl,fun x hx=>gone1_pure es m x (q x) (hq x hx)⟩
 have hcall:=indexFuncDO_pure l hl 180 [1] [.box 227 [.mp 2],.map (some .i64) false es] q (hp l)
 refine pcalls_of Tryz.func179 rfl (by simp [Tryz.ntmps179]) ?_
 rw [Tryz.ntmps179,Tryz.results179]
 push_cast [O,U]
 have cB:CutB 8 []:=trivial
 have hc2:=hcall.mono (R':=fun r os=>∃ i:Nat,(i < l.length∧q (l.getD i default)=true∧∀ x ∈ l.take i,q x=false)∧r = .c (.v (.int .i64 i))∧os=goneO es l) (by
  rintro r os ⟨k,⟨rfl,h⟩|⟨i,rfl,h⟩,rfl,rfl⟩
  ·obtain ⟨x,hx,hq⟩:=hex;rw [h x hx] at hq;cases hq
  ·exact ⟨i,h,rfl,rfl⟩)
 repeat' ((first|(refine plc [0,1,2] (hc2) ?_ ?_;push_cast [O,U];rintro r os ⟨i0,⟨h1,h2,h3⟩,rfl,rfl⟩)|refine pC ?_|refine pQC ?_|refine pU ?_|refine pif ?_ ?_<;>intro h<;>try exact pN h)<;>push_cast [O,U])
 (apply pwp_loop3 (α:=Nat × Nat × List Dev) 8 [] (fun x=>[(6,.c (.v (.int .i64 x.1))),(5,.c (.v (.int .i64 x.2.1)))]) (fun x=>[(0,.arr 53 10 (x.2.2.map Dev.d))]) (fun x=>DelI l q x.1 x.2.1 x.2.2) (fun x=>l.length - x.1) ((i0+1,i0,l));(focus ((try push_cast [O,U]);rfl));(focus exact (DelI.start h1 h2 h3));(focus ((refine weak_fg ?_;try push_cast [O,U]))))
 rintro ⟨j,i,m⟩ hD
 simp only at hD
 push_cast [O,U]
 have hml:=hD.len
 have hij:=hD.ij
 have hjl:=hD.jl
 by_cases hlt:j < l.length
 ·have hmem:l.getD j default ∈ l:=by rw [getD_lt l hlt];exact List.getElem_mem _
  have hv:=hD.get hlt
  have hc:=(hp m).2 _ hmem
  cases hqx:q (l.getD j default) with
  | false =>
   rw [hqx] at hc
   repeat' ((first|refine plE [0,1,2] hc ?_ ?_|refine pC ?_|refine pQC ?_|refine pU ?_|refine pif ?_ ?_<;>intro h<;>try exact pN h)<;>push_cast [O,U,hv,hml])
   exact ⟨(j+1,i+1,m.set i (l.getD j default)),hD.keep hlt hqx,by (refine weak_fg ?_;push_cast [O,U,List.map_set]),by simp only;omega⟩
  | true =>
   rw [hqx] at hc
   repeat' ((first|refine plE [0,1,2] hc ?_ ?_|refine pC ?_|refine pQC ?_|refine pU ?_|refine pif ?_ ?_<;>intro h<;>try exact pN h)<;>push_cast [O,U,hv,hml])
   exact ⟨(j+1,i,m),hD.drop hlt hqx,by (refine weak_fg ?_;push_cast [O,U]),by simp only;omega⟩
 ·have hd:=hD.done hlt
  have hz:(m.map Dev.d).length=l.length:=by rw [List.length_map,hml]
  have hrow:∀ z:List (List D),(m.map Dev.d).take i++z=(l.filter fun x=>!q x).map Dev.d++z:=fun z=>by rw [← List.map_take,hd.1]
  by_cases hi0:i=0
  ·subst hi0
   repeat' ((first|refine pC ?_|refine pQC ?_|refine pU ?_|refine pif ?_ ?_<;>intro h<;>try exact pN h)<;>push_cast [O,U,hml])
   refine pl_weak (weak_seg 38 10 (k:=0) (n:=l.length) rfl) ?_
   refine pl_of_pops ?_
   push_cast [O,U,hml]
   repeat' ((first|refine pC ?_|refine pQC ?_|refine pU ?_|refine pif ?_ ?_<;>intro h<;>try exact pN h)<;>push_cast [O,U,hml])
   (refine retK_of [0,1,2] ?_;push_cast [O,U])
   have hnil:(l.filter fun x=>!q x)=[]:=List.length_eq_zero_iff.1 hd.2.symm
   rw [hnil]
   simp only [List.map_nil,List.nil_append,List.length_nil]
   exact ⟨_,_,leP_refl _,leOs_refl _,_,rfl,rfl⟩
  ·repeat' ((first|refine pC ?_|refine pQC ?_|refine pU ?_|refine pif ?_ ?_<;>intro h<;>try exact pN h)<;>push_cast [O,U,hml,hi0])
   (refine retK_of [0,1,2] ?_;push_cast [O,U])
   rw [hrow]
   exact ⟨_,_,leP_refl _,leOs_refl _,_,by rw [← hd.2],rfl⟩
theorem copies_pure (l:List Dev) (hl:l.length≤1000000) (ha:∀ d ∈ l,d.attrs.length≤1000000000) :
  PCalls Tryz.prog 136 [.c (.sl 10 (l.map Dev.d))] [] fun r os=>r = .c (.own 0 l.length)∧os=[.arr 53 10 (l.map Dev.d)]:=by
 refine pcalls_of Tryz.func136 rfl (by simp [Tryz.ntmps136]) ?_
 rw [Tryz.ntmps136,Tryz.results136]
 push_cast [O,U]
 have cB:CutB 6 [6,7,8]:=trivial
 repeat' ((first|refine pC ?_|refine pQC ?_|refine pU ?_|refine pif ?_ ?_<;>intro h<;>try exact pN h)<;>push_cast [O,U])
 refine pwp_weak (weak_adopt 3 53 10 (by omega) (by push_cast [O,U])) ?_
 push_cast [O,U]
 (apply pwp_loop3 (α:=Nat) 6 [6,7,8] (fun k=>[(8,.c (.v (.int .i64 k))),(3,.c (.own 0 k))]) (fun k=>[(0,.arr 53 10 ((l.take k).map Dev.d))]) (fun k=>k≤l.length) (fun k=>l.length - k) (0);(focus ((try push_cast [O,U]);rfl));(focus exact (Nat.zero_le _));(focus ((refine weak_fg ?_;try push_cast [O,U]);(try (exact ⟨rfl,rfl⟩)))))
 intro k hk
 push_cast [O,U]
 by_cases hlt:k < l.length
 ·have hm:l.getD k default ∈ l:=by rw [getD_lt l hlt];exact List.getElem_mem _
  have hc:=copied_pure (l.getD k default) (ha _ hm)
  have hmem:(0 ∈ ([]:List Nat))=False:=eq_false (by simp)
  have htk:l.take (k+1)=l.take k++[l.getD k default]:=by rw [List.take_succ_eq_append_getElem hlt,getD_lt l hlt]
  have htl:(l.take k).length=k:=by rw [List.length_take];omega
  obtain ⟨u,hu⟩:∃ u,l.take k=u:=⟨_,rfl⟩
  rw [hu] at htk htl ⊢
  repeat' ((first|refine plE [] hc ?_ ?_|refine pC ?_|refine pQC ?_|refine pU ?_|refine pif ?_ ?_<;>intro h<;>try exact pN h)<;>push_cast [O,U,htl])
  exact ⟨k+1,by omega,by (refine weak_fg ?_;push_cast [O,U,htk,hmem]),by omega⟩
 ·have hk2:k=l.length:=by omega
  have hk3:l.take k=l:=List.take_of_length_le (by omega)
  rw [hk3,hk2]
  repeat' ((first|refine pC ?_|refine pQC ?_|refine pU ?_|refine pif ?_ ?_<;>intro h<;>try exact pN h)<;>push_cast [O,U])
  (refine retK_of [0] ?_;push_cast [O,U])
theorem subtree_pure (l:List Dev) (n:Int) :
  PCalls Tryz.prog 178 [.agg (trE l),.c (.v (.int .i64 n))] [] fun r os=>r = .c (.fn (.func 214) [] [0,1])∧os=[.box 41 (trE l),.box 3 [.v (.int .i64 n)]]:=by
 refine pcalls_of Tryz.func178 rfl (by simp [Tryz.ntmps178]) ?_
 rw [Tryz.ntmps178,Tryz.results178]
 push_cast [O,U]
 repeat' ((first|refine pG ?_|refine pQ ?_|refine pU ?_|refine pif ?_ ?_<;>intro h<;>try exact pN h)<;>push_cast [O,U])
 (refine retK_of [0,1] ?_;push_cast [O,U])
end Go.Proofs.YtmbbkfffcflfcaaGreatDoor
namespace Go.Proofs.YtmbbkfffcflfcaaGreatDoor
open Go.RowKit
open IntWalk renaming iteOmega → O, toNatUp → U
set_option linter.unusedVariables false
set_option linter.unusedSimpArgs false
structure Ihb where
 id:Int
 who:ByteArray
 pat:ByteArray
 till:Int
 deriving DecidableEq,Inhabited
def Ihb.d (x:Ihb):List D:=[.v (.int .i64 x.id),.v (.string x.who),.v (.string x.pat),.v (.int .i64 x.till)]
attribute [push_cast] Ihb.d
structure Req where
 path:ByteArray
 index:Int
 asked:Int
 deriving DecidableEq,Inhabited
def Req.d (x:Req):List D:=[.v (.string x.path),.v (.int .i64 x.index),.v (.int .i64 x.asked)]
attribute [push_cast] Req.d
structure Inh where
 next:Int
 list:List Ihb
 reqs:List Req
 deriving DecidableEq,Inhabited
def Inh.e (s:Inh):List E:=[.v (.int .i64 s.next),.sl 4 (s.list.map Ihb.d),.sl 3 (s.reqs.map Req.d)]
attribute [push_cast] Inh.e
def dropR (p:ByteArray) (l:List Req):List Req:=l.filter fun r=>decide (r.path≠p)
def dropM (s:Inh) (p:ByteArray):Inh:={ s with reqs:=dropR p s.reqs }
def addE (s:Inh) (who pat:ByteArray):Int:=if !validS who then 390 else if globM pat≠0 then 391 else if 32≤s.list.length∨1073741824≤s.next then 392 else 0
def addM (s:Inh) (who pat:ByteArray) (till:Int):Inh:=if addE s who pat=0 then ⟨s.next+1,s.list++[⟨s.next,who,pat,till⟩],s.reqs⟩ else ⟨0,[],[]⟩
structure Inh.ok (s:Inh):Prop where
 n0:0≤s.next
 n1:s.next≤1073741824
 len:s.list.length≤32
 reqs:s.reqs.length≤32
 ihb:∀ x ∈ s.list,(0≤x.id∧x.id < s.next)∧(-1000000≤x.till∧x.till≤1000000)∧x.pat.size≤256∧x.who.size≤1000
 req:∀ r ∈ s.reqs,(0≤r.asked∧r.asked≤1000000)∧r.path.size≤10000000∧(-9223372036854775808≤r.index∧r.index≤9223372036854775807)
end Go.Proofs.YtmbbkfffcflfcaaGreatDoor
namespace Go.Proofs.YtmbbkfffcflfcaaGreatDoor
attribute [local irreducible] PL QL PWPr PCalls Weak RetK Kontr PA
open Go.RowKit
open IntWalk renaming iteOmega → O, toNatUp → U
set_option linter.unusedVariables false
set_option linter.unusedSimpArgs false
set_option maxRecDepth 20000
set_option maxRecDepth 20000
set_option maxRecDepth 20000
set_option maxRecDepth 20000
theorem ie1 {l:List Dev} {d:Dev} (h:checkM d≠0):insErr l d=41:=by unfold insErr;rw [if_pos h]
theorem ie2 {l:List Dev} {d:Dev} (h:checkM d=0) (h2:(findD l d.index).isSome=true):insErr l d=44:=by unfold insErr;rw [if_neg (by simp [h]),if_pos h2]
theorem ie3 {l:List Dev} {d:Dev} (h:checkM d=0) (h2:findD l d.index=none) (h3:d.parent≠0) (h4:findD l d.parent=none):insErr l d=42:=by
 unfold insErr;rw [if_neg (by simp [h]),if_neg (by simp [h2]),if_pos ⟨h3,by simp [h4]⟩]
theorem ie4 {l:List Dev} {d:Dev} (h:checkM d=0) (h2:findD l d.index=none) (h3:d.parent=0∨(findD l d.parent).isSome=true) (h5:256≤l.length):insErr l d=40:=by
 unfold insErr
 rw [if_neg (by simp [h]),if_neg (by simp [h2]),if_neg (by rintro ⟨a,b⟩;rcases h3 with h3|h3;exact a h3;rw [Option.isNone_iff_eq_none] at b;rw [b] at h3;cases h3),if_pos h5]
theorem ie5 {l:List Dev} {d:Dev} (h:checkM d=0) (h2:findD l d.index=none) (h3:d.parent=0∨(findD l d.parent).isSome=true) (h5:¬ 256≤l.length) (h6:7 < (ownM l d).length):insErr l d=46:=by
 unfold insErr
 rw [if_neg (by simp [h]),if_neg (by simp [h2]),if_neg (by rintro ⟨a,b⟩;rcases h3 with h3|h3;exact a h3;rw [Option.isNone_iff_eq_none] at b;rw [b] at h3;cases h3),if_neg h5,if_pos h6]
theorem ie6 {l:List Dev} {d:Dev} (h:checkM d=0) (h2:findD l d.index=none) (h3:d.parent=0∨(findD l d.parent).isSome=true) (h5:¬ 256≤l.length) (h6:¬ 7 < (ownM l d).length):insErr l d=if l.any (bad1 l (ownM l d) d) then 44 else 0:=by
 unfold insErr
 rw [if_neg (by simp [h]),if_neg (by simp [h2]),if_neg (by rintro ⟨a,b⟩;rcases h3 with h3|h3;exact a h3;rw [Option.isNone_iff_eq_none] at b;rw [b] at h3;cases h3),if_neg h5,if_neg h6]
set_option maxRecDepth 20000
structure TreeOk (l:List Dev) (n:Nat):Prop where
 okt:Okt l
 len:l.length≤n
 dev:∀ d ∈ l,d.ok∧d.original.size≤10+2 * n∧d.index≤n
 att:∀ d ∈ l,d.attrs.length≤1000
 ord:OrdT l
 nod:NodT l
theorem TreeOk.nil (n:Nat):TreeOk [] n:=⟨Okt.nil,Nat.zero_le _,fun d hd=>by simp at hd,fun d hd=>by simp at hd,OrdT.nil,NodT.nil⟩
theorem TreeOk.more {l:List Dev} {n m:Nat} (h:TreeOk l n) (hm:n≤m):TreeOk l m:=⟨h.okt,by have:=h.len;omega,fun d hd=>⟨(h.dev d hd).1,by have:=(h.dev d hd).2.1;omega,by have:=(h.dev d hd).2.2;omega⟩,h.att,h.ord,h.nod⟩
theorem insT_mem {l:List Dev} {d x:Dev} (h:x ∈ insT l d):x=d∨x ∈ l:=by unfold insT at h;exact put_mem.1 h
theorem insT_len (l:List Dev) (d:Dev):(insT l d).length=l.length+1:=by
 have:=atM_le l (ownM l d) l.length
 unfold insT
 simp only [List.length_append,List.length_take,List.length_drop,List.length_cons,List.length_nil]
 omega
theorem TreeOk.ins {l:List Dev} {n:Nat} (h:TreeOk l n) {d:Dev} (he:insErr l d=0) (hk:d.ok) (hz:d.original.size≤10+2 * n+2) (hi:d.index=((n+1:Nat):Int)) (ha:d.attrs.length≤1000):TreeOk (insT l d) (n+1):=by
 refine ⟨(h.okt.ins he).1,by rw [insT_len];have:=h.len;omega,fun x hx=>?_,fun x hx=>(insT_mem hx).elim (fun e=>e ▸ ha) (h.att x),h.ord.ins h.okt he,h.nod.ins he⟩
 rcases insT_mem hx with rfl|hx
 ·exact ⟨hk,by omega,by omega⟩
 ·obtain ⟨a,b,c⟩:=h.dev x hx
  exact ⟨a,by omega,by omega⟩
end Go.Proofs.YtmbbkfffcflfcaaGreatDoor
