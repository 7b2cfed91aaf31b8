/- What the program computes, and the plain laws of it, part 12. -/
import Derived.Test.YthhfpcbpiphfiaaGreatDoorR11
namespace Go.Proofs.YthhfpcbpiphfiaaGreatDoor
open Go.RowKit
open IntWalk renaming iteOmega → iO, toNatUp → tN
set_option linter.unusedVariables false
set_option linter.unusedSimpArgs false
def PCalls (P:Program) (g:FuncId) (args:List PV) (os:List Ob) (R:PV → List Ob → Prop):Prop :=
 ∀ Γ w (xs:List Value),MemOk Γ os w → All2 (RP w Γ) args xs → Calls P g xs.toArray w fun e w' =>
  ∃ r os' Γ' y,e = .returned y∧R r os'∧RP w' Γ' r y∧os.length≤os'.length∧MemOk Γ' os' w'∧Grow os.length Γ w Γ' w'
theorem PCalls.mono {P:Program} {g:FuncId} {args:List PV} {os:List Ob} {R R':PV → List Ob → Prop} (h:PCalls P g args os R) (hR:∀ r os',R r os' → R' r os'):PCalls P g args os R':=fun Γ w xs hm hx =>
 (h Γ w xs hm hx).mono fun e w' ⟨r,os',Γ',y,h1,h2,h3⟩=>⟨r,os',Γ',y,h1,hR r os' h2,h3⟩
def bodyOk (P:Program) (g:FuncId):Bool:=match P.funcs[g]? with
 | some fn=>fn.body.isSome && !(fn.name == "runtime.NumGoroutine")
 | none=>false
theorem run_enter {P:Program} {a:Act} {w:World} {o:Oper} {f:Operand} {args:Array Operand} {tys:Array TypeId} {g:FuncId} {xs ys:Array Value} (ho:o.op = .call ⟨.value f,args,tys⟩) (hf:a.eval f = .func (.func g) xs ys) (hb:bodyOk P g=true) :
  (execOp a.eval o).run P w = .ok (.enter g (xs++args.map a.eval++ys)) w:=by
 unfold bodyOk at hb
 split at hb
 ·rename_i fn hfn
  simp only [Bool.and_eq_true,Bool.not_eq_true'] at hb
  have h1:¬ fn.body=none:=by intro h;rw [h] at hb;simp at hb
  have h2:¬ fn.name = "runtime.NumGoroutine" := by simpa using hb.2
  simp [execOp,ho,resolve,hf,Deferred.ofValue,invoke,callFunc,hfn,h2,h1]
 ·cases hb
def callArgs2 (s:S) (ds:List D) (args:List Operand) (cap:List Nat):Bool → List (Option PV)
 | false=>ds.map (fun d=>some (.c d.e))++(args.map s.ev++cap.map fun k=>some (.c (.ptr k 0)))
 | true=>(cap.map fun k=>some (.c (.ptr k 0)))++args.map s.ev
def callArgs (s:S) (ds:List D) (args:List Operand) (cap:List Nat):List (Option PV):=callArgs2 s ds args cap (isBnd ds)
theorem callArgs_ok {N:Nat} {Γ:G} {s:S} {a:Act} {w:World} {f:Operand} {g:FuncId} {ds:List D} {cap:List Nat} (hI:Inv N Γ s a w) (hf:s.ev f=some (.c (.fn (.func g) ds cap))) (args:Array Operand) :
  ∃ xs ys:Array Value,a.eval f = .func (.func g) xs ys∧All2 (fun q y=>∀ r,q=some r → RP w Γ r y) (callArgs s ds args.toList cap) (xs++args.map a.eval++ys).toList:=by
 obtain ⟨xs,h1,h2,h3⟩:=S.ev_ok hf hI
 have a2:∀ l:List Operand,All2 (fun (q:Option PV) y=>∀ r,q=some r → RP w Γ r y) (l.map s.ev) (l.map a.eval):=by
  intro l
  induction l with
  | nil=>trivial
  | cons x l ih=>exact ⟨fun r hr=>S.ev_ok hr hI,ih⟩
 have a3:∀ l:List Nat,(∀ k ∈ l,k < Γ.n) → All2 (fun (q:Option PV) y=>∀ r,q=some r → RP w Γ r y) (l.map fun k=>some (.c (.ptr k 0))) (l.map (keyVal Γ)):=by
  intro l
  induction l with
  | nil=>intro _;trivial
  | cons k l ih=>intro hl;exact ⟨fun r hr=>by cases hr;exact ⟨hl k (by simp),rfl⟩,ih fun k' hk'=>hl k' (by simp [hk'])⟩
 unfold callArgs
 cases hb:isBnd ds with
 | false =>
  rw [hb] at h1
  have a1:All2 (fun (q:Option PV) y=>∀ r,q=some r → RP w Γ r y) (ds.map fun d=>some (.c d.e)) xs:=All2.map_l.2 ((h2 hb).mono fun d y h r hr=>by cases hr;exact RE.of_d h)
  refine ⟨xs.toArray,_,h1,?_⟩
  simp only [Array.toList_append,Array.toList_map,List.append_assoc]
  exact a1.append ((a2 args.toList).append (a3 cap h3))
 | true =>
  rw [hb] at h1
  refine ⟨_,#[],h1,?_⟩
  simp only [Array.toList_append,Array.toList_map,List.append_nil,Array.append_empty]
  exact (a3 cap h3).append (a2 args.toList)
section
variable {P:Program} {N p:Nat} {ops:Array Oper} {rest:List Oper} {o:Oper} {s:S} {K:S → Prop}
theorem pl_call {f:Operand} {args:Array Operand} {tys:Array TypeId} {g:FuncId} {ds:List D} {cap:List Nat} (v:Bool) (ks:List Nat) {args' args'':List PV} {os' os2:List Ob} {R:PV → List Ob → Prop}
  (ho:o.op = .call ⟨.value f,args,tys⟩) (hg:gd ops s o.guard=some true) (hf:s.ev f=some (.c (.fn (.func g) ds cap))) (hb:bodyOk P g=true) (hd:dstOk N o.dst)
  (ha:seePs v s.o ks (callArgs s ds args.toList cap)=some args'') (hle:lePs args'' args') (hos:seeOs v s.o ks ks=some os2) (hlo:leOs os2 os') (hc:PCalls P g args' os' R) (hnd:ks.Nodup) (hkl:(ks.all fun k=>decide (k < s.o.length))=true)
  (hfl:v=true → ∀ r os'',R r os'' → flatP r=true∧os''.all flatO=true)
  (hK:∀ r os'',R r os'' → PL P N p ops rest (S.put ⟨s.t,putBack (rho ks s.o.length) s.o ks os''⟩ o.dst (r.ren (rho ks s.o.length))) K):PL P N p ops (o :: rest) s K:=by
 intro Γ a w Q hA hQ
 have hks:∀ k ∈ ks,k < Γ.n:=fun k hk=>by rw [hA.inv.m.n];simpa using List.all_eq_true.1 hkl k hk
 obtain ⟨xs,ys,hfv,hargs⟩:=callArgs_ok hA.inv hf args
 have hseen:=lePs_ok hle (seePs_ok (v:=v) (ks:=ks) hA.inv.m hks hargs ha)
 have hmem:=leOs_mem hlo (see_mem (v:=v) hA.inv.m hks hnd hos)
 have hkl':os'.length=ks.length:=(leOs_length hlo).symm.trans (seeOs_get hos).1
 unfold wpListIn
 rw [if_pos (gd_ok hg hA.inv)]
 refine wpIn_enter (run_enter ho hfv hb) ?_
 have:=hc _ w _ hmem hseen
 rw [Array.toArray_toList] at this
 refine this.mono ?_
 rintro e w' ⟨r,os'',Γ',y,rfl,hR,hr,hlen,hm',hgr⟩
 rw [hkl'] at hgr hlen
 obtain ⟨h1,h2,h3⟩:=absorb (v:=v) hA hks hnd hlen hm' hgr hr (fun hv=>hfl hv r os'' hR)
 exact ⟨y,rfl,hK r os'' hR _ _ w' Q ⟨h1.inv.put (dst_lt hd) h2,h1.le⟩ fun s' Γ2 a2 w2 hk hA2 hg2 hd2=>hQ s' Γ2 a2 w2 hk hA2 (h3.trans hg2) (hd2.trans (put_defers _ _ _))⟩
theorem ql_call {f:Operand} {args:Array Operand} {tys:Array TypeId} {g:FuncId} {ds:List D} {cap:List Nat} {args' args'':List PV} {R:PV → List Ob → Prop} {x:Value}
  (ho:o.op = .call ⟨.value f,args,tys⟩) (hg:gd ops s o.guard=some true) (hf:s.ev f=some (.c (.fn (.func g) ds cap))) (hb:bodyOk P g=true) (hd:dstOk N o.dst)
  (ha:seePs true s.o [] (callArgs s ds args.toList cap)=some args'') (hle:lePs args'' args') (hc:PCalls P g args' [] R) (hR:∀ r os'',R r os'' → r = .c (.v x)) (hx:x.oneCell'=true)
  (hK:QL P N p ops rest (s.put o.dst (.c (.v x))) K):QL P N p ops (o :: rest) s K:=by
 intro Γ a w hA
 unfold wpQuietIn
 rw [if_pos (gd_ok hg hA.inv)]
 refine ⟨fun _ _ _ _=>trivial,x,fun w1 hw1=>?_,quiet_mono' (fun a' ⟨s',k1,k2,k3⟩=>⟨s',k1,k2,k3.trans (put_defers _ _ _)⟩) (hK Γ _ w ⟨hA.inv.put (dst_lt hd) ⟨rfl,hx⟩,hA.le⟩)⟩
 have hI:=hA.inv.same (Same.of_ext hw1)
 obtain ⟨xs,ys,hfv,hargs⟩:=callArgs_ok hI hf args
 have hseen:=lePs_ok hle (seePs_ok (v:=true) (ks:=[]) hI.m (by simp) hargs ha)
 have hmem:=see_mem (v:=true) (ks:=[]) hI.m (by simp) (by simp) (os':=[]) rfl
 unfold Oper.quietAtIn
 rw [run_enter ho hfv hb]
 refine ⟨rfl,Fw_dep,calls_fw ?_⟩
 have:=hc _ w1 _ hmem hseen
 rw [Array.toArray_toList] at this
 refine this.mono ?_
 rintro e w' ⟨r,os'',Γ',y,rfl,hR',hr,hlen,hm',hgr⟩
 have hrx:=hR r os'' hR'
 subst hrx
 refine ⟨by rw [hr.1],hw1.trans (hgr.ext.mono ?_)⟩
 rintro b ⟨k,h1,_⟩
 exact absurd h1 (Nat.not_lt_zero _)
end
def parT:Nat → List PV → List (Nat × PV)
 | _,[]=>[]
 | i,q :: r=>(i,q) :: parT (i+1) r
def res1 (P:Program) (s:S):ResultVar → Option PV
 | .tmp t=>s.get t
 | .cell a t=>loadP P s.o t (s.get a)
def resL (P:Program) (s:S):List ResultVar → Option (List PV)
 | []=>some []
 | v :: r=>match res1 P s v,resL P s r with
  | some q,some l=>some (q :: l)
  | _,_=>none
def resP (P:Program) (s:S) (rs:List ResultVar):Option PV:=match resL P s rs with
 | some []=>some .undef
 | some [x]=>some x
 | some [x,y]=>some (.two x y)
 | some [x,y,z]=>some (.three x y z)
 | _=>none
def resV (tmps:Array Value):ResultVar → Sem Value
 | .tmp t=>pure (tmps.getD t Go.undef)
 | .cell ad t=>do loadVar t (← asAddr (tmps.getD ad Go.undef))
theorem results_eq (fn:Func) (tmps:Array Value):results fn tmps=(do let vs ← fn.results.mapM (resV tmps);pure (if h:vs.size=1 then vs[0] else .tuple vs)):=by
 unfold results
 congr 1
theorem resL_ok {P:Program} {N:Nat} {Γ:G} {s:S} {a:Act} {w:World} (hI:Inv N Γ s a w):∀ {rs:List ResultVar} {l:List PV},resL P s rs=some l →
  ∃ ys,(rs.mapM (resV a.tmps)).run P w = .ok ys w∧All2 (RP w Γ) l ys
 | [],l,h=>by simp [resL] at h;subst h;exact ⟨[],by simp,trivial⟩
 | v :: rs,l,h=>by
  simp only [resL] at h
  split at h
  ·rename_i q l' h1 h2
   cases h
   obtain ⟨ys,h3,h4⟩:=resL_ok hI h2
   cases v with
   | tmp t =>
    exact ⟨a.tmps.getD t Go.undef :: ys,by rw [List.mapM_cons];simp only [resV,Sem.run_bind,Sem.run_pure,Result.andThen_ok,h3],(hI.t t q h1).2,h4⟩
   | cell ad t =>
    obtain ⟨y,h5,h6⟩:=loadP_ok (P:=P) (x:=.tmp ad) (o:=⟨none,.load t (.tmp ad),0, "",#[],none⟩) rfl h1 hI
    have h7:=h6 w (Same.refl w)
    refine ⟨y :: ys,?_,h5,h4⟩
    have h8:∃ p,a.tmps.getD ad Go.undef = .pointer (some p):=by
     simp only [res1] at h1
     cases hg:s.get ad with
     | none=>rw [hg] at h1;simp [loadP] at h1
     | some u =>
      have hu:=(hI.t ad u hg).2
      rw [hg] at h1
      unfold loadP at h1
      split at h1
      ·rename_i e;injection e with e;subst e;exact ⟨_,hu.2⟩
      ·rename_i e;injection e with e;subst e;obtain ⟨b,f,xs,he,_⟩:=hu;exact ⟨_,he⟩
      ·rename_i e;injection e with e;subst e;exact ⟨_,hu.2⟩
      ·cases h1
    obtain ⟨p,hp⟩:=h8
    have h9:(loadVar t p).run P w = .ok y w:=by
     simp only [execOp,Act.eval,hp,Instr.loadAt,Instr.sureAddr,Sem.run_bind,Sem.run_pure,Result.andThen_ok] at h7
     generalize (loadVar t p).run P w=z at h7
     cases z with
     | ok u w2=>simp at h7;obtain ⟨rfl,rfl⟩:=h7;rfl
     | halt u w2=>simp [Result.andThen] at h7
    have h10:(asAddr (a.tmps.getD ad Go.undef)).run P w = .ok p w:=by rw [hp];rfl
    rw [List.mapM_cons]
    simp only [resV,Sem.run_bind,h10,Result.andThen_ok,h9,h3,Sem.run_pure]
  ·cases h
theorem resP_ok {P:Program} {N:Nat} {Γ:G} {s:S} {a:Act} {w:World} {fn:Func} {r:PV} (hI:Inv N Γ s a w) (h:resP P s fn.results.toList=some r):∃ y,(results fn a.tmps).run P w = .ok y w∧RP w Γ r y:=by
 unfold resP at h
 have key:∀ l,resL P s fn.results.toList=some l → ∃ ys:List Value,All2 (RP w Γ) l ys∧(results fn a.tmps).run P w = .ok (if h:ys.toArray.size=1 then ys.toArray[0] else .tuple ys.toArray) w:=by
  intro l hl
  obtain ⟨ys,h1,h2⟩:=resL_ok hI hl
  refine ⟨ys,h2,?_⟩
  rw [results_eq,Array.mapM_eq_mapM_toList]
  simp only [Sem.run_bind,Sem.run_map]
  rw [h1]
  simp only [Result.andThen_ok,Sem.run_pure]
 split at h
 ·rename_i hl
  cases h
  obtain ⟨ys,h1,h2⟩:=key _ hl
  rw [All2.nil_l] at h1
  subst h1
  exact ⟨_,h2,rfl⟩
 ·rename_i x hl
  cases h
  obtain ⟨ys,h1,h2⟩:=key _ hl
  obtain ⟨y,m,rfl,h3,h4⟩:=All2.cons_l.1 h1
  rw [All2.nil_l] at h4
  subst h4
  exact ⟨y,by simpa using h2,h3⟩
 ·rename_i x z hl
  cases h
  obtain ⟨ys,h1,h2⟩:=key _ hl
  obtain ⟨y,m,rfl,h3,h4⟩:=All2.cons_l.1 h1
  obtain ⟨y2,m,rfl,h5,h6⟩:=All2.cons_l.1 h4
  rw [All2.nil_l] at h6
  subst h6
  exact ⟨_,by simpa using h2,y,y2,rfl,h3,h5⟩
 ·rename_i x z t hl
  cases h
  obtain ⟨ys,h1,h2⟩:=key _ hl
  obtain ⟨y,m,rfl,h3,h4⟩:=All2.cons_l.1 h1
  obtain ⟨y2,m,rfl,h5,h6⟩:=All2.cons_l.1 h4
  obtain ⟨y3,m,rfl,h7,h8⟩:=All2.cons_l.1 h6
  rw [All2.nil_l] at h8
  subst h8
  exact ⟨_,by simpa using h2,y,y2,y3,rfl,h3,h5,h7⟩
 ·cases h
def seeR (os:List Ob) (kk:List Nat):PV → Option PV
 | .c e=>(seeE true os kk e).map PV.c
 | .agg cs=>(seeEs true os kk cs).map PV.agg
 | .undef=>some .undef
 | .two x y=>match seeR os kk x,seeR os kk y with
  | some x',some y'=>some (.two x' y')
  | _,_=>none
 | .three x y z=>match seeR os kk x,seeR os kk y,seeR os kk z with
  | some x',some y',some z'=>some (.three x' y' z')
  | _,_,_=>none
theorem seeR_ok {kk:List Nat} {Γ:G} {os:List Ob} {w:World} (hm:MemOk Γ os w) (hks:∀ k ∈ kk,k < Γ.n):∀ {r r':PV} {y:Value},seeR os kk r=some r' → RP w Γ r y → RP w (seeG true kk Γ) r' y
 | .c e,r',y,h,hr=>by
  obtain ⟨e',h1,rfl⟩:=Option.map_eq_some_iff.1 h
  exact seeE_ok hm hks h1 hr
 | .agg cs,r',y,h,⟨xs,h2,h3⟩=>by
  obtain ⟨cs',h1,rfl⟩:=Option.map_eq_some_iff.1 h
  exact ⟨xs,h2,seeEs_ok hm hks h1 h3⟩
 | .undef,r',y,h,hr=>by simp only [seeR,Option.some.injEq] at h;subst h;exact hr
 | .two x z,r',y,h,⟨u,v,h1,h2,h3⟩=>by
  simp only [seeR] at h
  split at h
  ·rename_i x' z' e1 e2
   cases h
   exact ⟨u,v,h1,seeR_ok hm hks e1 h2,seeR_ok hm hks e2 h3⟩
  ·cases h
 | .three x z t,r',y,h,⟨u,v,p,h1,h2,h3,h4⟩=>by
  simp only [seeR] at h
  split at h
  ·rename_i x' z' t' e1 e2 e3
   cases h
   exact ⟨u,v,p,h1,seeR_ok hm hks e1 h2,seeR_ok hm hks e2 h3,seeR_ok hm hks e3 h4⟩
  ·cases h
def firstOk (p:Nat) (kk:List Nat):Bool:=decide (p≤kk.length) && (List.range p).all fun i=>kk.getD i 0 == i
def RetK (P:Program) (rs:List ResultVar) (p:Nat) (R:PV → List Ob → Prop) (s:S):Prop :=
 ∃ kk r r' os' r2 os2,resP P s rs=some r∧seeR s.o kk r=some r'∧seeOs true s.o kk kk=some os'∧kk.Nodup∧(kk.all fun k=>decide (k < s.o.length))=true∧firstOk p kk=true∧leP r' r2∧leOs os' os2∧R r2 os2
def RetQ (P:Program) (rs:List ResultVar) (p:Nat) (R:PV → List Ob → Prop):Exit → S → Prop
 | .normal,s=>RetK P rs p R s
 | .ret,s=>RetK P rs p R s
 | _,_=>False
theorem RetQ_normal (P:Program) (rs:List ResultVar) (p:Nat) (R:PV → List Ob → Prop) (s:S):RetQ P rs p R .normal s=RetK P rs p R s:=rfl
theorem RetQ_ret (P:Program) (rs:List ResultVar) (p:Nat) (R:PV → List Ob → Prop) (s:S):RetQ P rs p R .ret s=RetK P rs p R s:=rfl
theorem parT_look:∀ (l:List PV) (j i:Nat) (q:PV),look (parT j l) i=some q → j≤i∧l[i - j]? = some q
 | [],j,i,q,h=>by simp [parT,look] at h
 | x :: l,j,i,q,h=>by
  simp only [parT,look] at h
  split at h
  ·rename_i e;subst e;cases h;simp
  ·obtain ⟨h1,h2⟩:=parT_look l (j+1) i q h
   refine ⟨by omega,?_⟩
   rw [show i - j=(i - (j+1))+1 by omega]
   simpa using h2
theorem Inv.offm {N:Nat} {Γ:G} {s:S} {a:Act} {w w':World} (hI:Inv N Γ s a w) (h:Ext (OffM Γ) w w'):Inv N Γ s a w':=by
 have hs:Stay w Γ.I w' Γ.I:=⟨h.size,fun b hb hl=>h.block b hl fun hx=>hx.1 hb,fun _ h=>h⟩
 refine hI.heap ⟨hI.m.n,fun k o ho=>?_,hI.m.sep,hI.m.off,fun b hb=>Nat.lt_of_lt_of_le (hI.m.lt b hb) h.size,hI.m.pins hs⟩ hs fun j hj=>⟨hj,rfl,rfl⟩
 have hk:k < Γ.n:=by rw [hI.m.n];exact (List.getElem?_eq_some_iff.1 ho).1
 exact (hI.m.ob k o ho).stay hs (fun j hj=>⟨hj,rfl,rfl⟩) hk fun hc=>h.block _ (mine_lt hI.m hk hc) fun hx=>hx.2 k hk hc rfl
theorem leaves_marks {P:Program} {fn:Func} {tmps:Array Value} {R:Ending → World → Prop} {B:Nat → Prop}:∀ (ds:List Deferred) (w:World),ds.Nodup → (∀ d ∈ ds,∃ D,d={ target:=.collected D,args := #[] }∧w.heap[D]? = some (.deferred (some []))∧B D) →
  (∀ w',Ext B w w' → ∃ v,(results fn tmps).run P w' = .ok v w'∧R (.returned v) w') → LeavesInM (Fw none) 0 P fn tmps R ds .returning w
 | [],w,_,_,h=>h w (Ext.refl _ w)
 | d :: ds,w,hn,hd,h=>by
  obtain ⟨D,rfl,h2,h3⟩:=hd d (by simp)
  rw [List.nodup_cons] at hn
  refine ⟨by simp,.inl ⟨D,_,rfl,run_takeDeferred h2,?_⟩⟩
  have hE:Ext B w (w.putObj D (.deferred none)):=⟨rfl,rfl,rfl,by simp,fun k _ hk=>World.putObj_heap_other (fun e=>hk (e ▸ h3))⟩
  refine leaves_marks ds _ hn.2 (fun d' hd'=>?_) fun w' hw'=>h w' (hE.trans_new hw' fun b hb=>.inl hb)
  obtain ⟨D',rfl,h5,h6⟩:=hd d' (by simp [hd'])
  refine ⟨D',rfl,?_,h6⟩
  rw [World.putObj_heap_other]
  ·exact h5
  ·rintro rfl;exact hn.1 hd'
theorem grow_offm {p:Nat} {Γ Γ':G} {w w' w'':World} {B:Nat → Prop} (h:Grow p Γ w Γ' w') (hE:Ext B w' w'') (hB:∀ b,B b → w.heap.size≤b):Grow p Γ w Γ' w'' :=
 ⟨⟨hE.os.trans h.ext.os,hE.tape.trans h.ext.tape,hE.output.trans h.ext.output,Nat.le_trans h.ext.size hE.size,fun k hk hm=>(hE.block k (Nat.lt_of_lt_of_le hk h.ext.size) fun hb=>by have:=hB k hb;omega).trans (h.ext.block k hk hm)⟩,h.sub,h.new,h.imm,h.keep⟩
theorem calls_pwp {P:Program} {g:FuncId} {fn:Func} {c:Code} {args:List PV} {os:List Ob} {Q:Exit → S → Prop} {T:S → Prop} {R:PV → List Ob → Prop} (hf:P.funcs[g]? = some fn) (hb:fn.body=some c) (hn:args.length≤fn.ntmps)
  (hQ:∀ e s,Q e s → (e = .normal∨e = .ret)∧T s)
  (hT:∀ s Γ Γ' a w w',T s → Inv fn.ntmps Γ' s a w' → Grow os.length Γ w Γ' w' → ∃ v,(results fn a.tmps).run P w' = .ok v w'∧∃ r os' Γ',R r os'∧RP w' Γ' r v∧os.length≤os'.length∧MemOk Γ' os' w'∧Grow os.length Γ w Γ' w')
  (h:PWP P fn.ntmps os.length c Q ⟨parT 0 args,os⟩):PCalls P g args os R:=by
 intro Γ w xs hm hx
 refine fw_calls (rd:=none) (n:=0) (callsIn_of_wp_marks hf hb trivial ?_)
 have hl:=hx.length
 have hA:Stands fn.ntmps os.length Γ ⟨parT 0 args,os⟩ { tmps:=xs.toArray++Array.replicate (fn.ntmps - xs.toArray.size) Go.undef,defers:=[] } w:=by
  refine ⟨⟨?_,trivial,fun i q hq=>?_,hm⟩,by rw [hm.n];exact Nat.le_refl _⟩
  ·simp;omega
  ·obtain ⟨_,h2⟩:=parT_look args 0 i q hq
   rw [Nat.sub_zero] at h2
   obtain ⟨y,h3,h4⟩:=hx.get i q h2
   have hi:i < xs.length:=(List.getElem?_eq_some_iff.1 h3).1
   refine ⟨by omega,?_⟩
   have:(xs.toArray++Array.replicate (fn.ntmps - xs.toArray.size) Go.undef).getD i Go.undef=y:=by
    rw [Array.getD_eq_getD_getElem?,Array.getElem?_append_left (by simpa using hi),List.getElem?_toArray,h3]
    rfl
   rw [this]
   exact h4
 refine wpIn_mono (h w.heap.size Γ _ w hA (DefOk.nil (Nat.le_refl _))) ?_
 rintro e a' w' ⟨s',Γ',hq,hA',hg,hd⟩
 obtain ⟨he,ht⟩:=hQ e s' hq
 have fin:LeavesInM (Fw none) 0 P fn a'.tmps (fun e w'=>∃ r os' Γ' y,e = .returned y∧R r os'∧RP w' Γ' r y∧os.length≤os'.length∧MemOk Γ' os' w'∧Grow os.length Γ w Γ' w') a'.defers .returning w':=by
  refine leaves_marks (B:=fun D=>OffM Γ' D∧w.heap.size≤D) _ _ hd.2.1 (fun d hd'=>?_) fun w'' hw''=>?_
  ·obtain ⟨D,h1,h2,h3,h4⟩:=hd.2.2 d hd'
   exact ⟨D,h1,h2,h3,h4⟩
  ·have hI:=hA'.inv.offm (hw''.mono fun b hb=>hb.1)
   obtain ⟨v,h1,r,os',Γ2,h2,h3,h4,h5,h6⟩:=hT s' Γ Γ' a' w w'' ht hI (grow_offm hg hw'' fun b hb=>hb.2)
   exact ⟨v,h1,r,os',Γ2,v,rfl,h2,h3,h4,h5,h6⟩
 rcases he with rfl|rfl
 ·exact fin
 ·exact fin
theorem pcalls_of {P:Program} {g:FuncId} {fn:Func} {c:Code} {args:List PV} {os:List Ob} {R:PV → List Ob → Prop} (hf:P.funcs[g]? = some fn) (hb:fn.body=some c) (hn:args.length≤fn.ntmps)
  (h:PWP P fn.ntmps os.length c (RetQ P fn.results.toList os.length R) ⟨parT 0 args,os⟩):PCalls P g args os R:=by
 refine calls_pwp (T:=RetK P fn.results.toList os.length R) hf hb hn (fun e s hq=>?_) (fun s' Γ Γ' a' w w' ht hI hg=>?_) h
 ·cases e with
  | normal=>exact ⟨.inl rfl,hq⟩
  | ret=>exact ⟨.inr rfl,hq⟩
  | exit j=>exact hq.elim
  | goto l=>exact hq.elim
  | panic ch=>exact hq.elim
  | outgrown=>exact hq.elim
 ·obtain ⟨kk,r,r',os',r2,os2,h1,h2,h3,h4,h5,h6,hl1,hl2,h7⟩:=ht
  obtain ⟨y,h8,h9⟩:=resP_ok hI h1
  have hks:∀ k ∈ kk,k < Γ'.n:=fun k hk=>by rw [hI.m.n];simpa using List.all_eq_true.1 h5 k hk
  have hmem:=leOs_mem hl2 (see_mem (v:=true) hI.m hks h4 h3)
  simp only [firstOk,Bool.and_eq_true,decide_eq_true_eq,List.all_eq_true,List.mem_range,beq_iff_eq] at h6
  have hlen:os2.length=kk.length:=(leOs_length hl2).symm.trans (seeOs_get h3).1
  refine ⟨y,h8,r2,os2,seeG true kk Γ',h7,leP_ok hl1 (seeR_ok hI.m hks h2 h9),by omega,hmem,hg.trans ⟨Ext.refl _ _,fun b hb=>.inl hb,fun k hk hc=>.inl ⟨kk.getD k 0,hks _ ?_,hc,rfl⟩,fun b hb=>?_,fun k hk=>?_⟩⟩
  ·have hk':k < kk.length:=hk
   simp only [List.getD,List.getElem?_eq_getElem hk',Option.getD_some]
   exact List.getElem_mem _
  ·rcases hb with hb|⟨_,hb,_⟩
   ·exact .inl hb
   ·exact .inr (.inl hb)
  ·simp only [seeG,h6.2 k hk,and_self]
theorem put_c (t:List (Nat × PV)) (o:List Ob) (d:Nat) (q:PV):S.put ⟨t,o⟩ (some d) q=⟨(d,q) :: t,o⟩:=rfl
theorem get_eq (t:List (Nat × PV)) (o:List Ob) (i:Nat):S.get ⟨t,o⟩ i=look t i:=rfl
theorem ev_tmp (s:S) (i:Nat):s.ev (.tmp i)=s.get i:=rfl
theorem pgo_val (P:Program) (N p:Nat) (ops:Array Oper) (rest:List Oper) (K:S → Prop) (o:Oper) (s:S) (q:PV):pgo P N p ops rest K o s (some true) (.val q)=(dstOk N o.dst∧pops P N p ops rest (s.put o.dst q) K):=rfl
theorem pgo_heap (P:Program) (N p:Nat) (ops:Array Oper) (rest:List Oper) (K:S → Prop) (o:Oper) (s:S) (q:PV) (os:List Ob):pgo P N p ops rest K o s (some true) (.heap q os)=(dstOk N o.dst∧pops P N p ops rest (S.put ⟨s.t,os⟩ o.dst q) K):=rfl
theorem pgo_app (P:Program) (N p:Nat) (ops:Array Oper) (rest:List Oper) (K:S → Prop) (o:Oper) (s:S) (q:PV) (os:List Ob) (kk:Option Nat):pgo P N p ops rest K o s (some true) (.app q os kk)=(dstOk N o.dst∧pops P N p ops rest (S.put (killS kk ⟨s.t,os⟩) o.dst q) K):=rfl
theorem pgo_skip (P:Program) (N p:Nat) (ops:Array Oper) (rest:List Oper) (K:S → Prop) (o:Oper) (s:S) (r:Res):pgo P N p ops rest K o s (some false) r=(dstOk N o.dst∧pops P N p ops rest (s.put o.dst .undef) K):=by cases r<;>rfl
theorem pgo_stop (P:Program) (N p:Nat) (ops:Array Oper) (rest:List Oper) (K:S → Prop) (o:Oper) (s:S):pgo P N p ops rest K o s (some true) .stop=PL P N p ops (o :: rest) s K:=rfl
theorem qgo_val (P:Program) (N p:Nat) (ops:Array Oper) (rest:List Oper) (K:S → Prop) (o:Oper) (s:S) (q:PV):qgo P N p ops rest K o s (some true) (.val q)=(dstOk N o.dst∧qops P N p ops rest (s.put o.dst q) K):=rfl
theorem qgo_skip (P:Program) (N p:Nat) (ops:Array Oper) (rest:List Oper) (K:S → Prop) (o:Oper) (s:S) (r:Res):qgo P N p ops rest K o s (some false) r=(dstOk N o.dst∧qops P N p ops rest (s.put o.dst .undef) K):=by cases r<;>rfl
theorem qgo_stop (P:Program) (N p:Nat) (ops:Array Oper) (rest:List Oper) (K:S → Prop) (o:Oper) (s:S):qgo P N p ops rest K o s (some true) .stop=QL P N p ops (o :: rest) s K:=rfl
theorem dst_some (N d:Nat):dstOk N (some d)=(d < N):=rfl
theorem dst_none (N:Nat):dstOk N none=True:=rfl
theorem condK_b (t:Bool) (X Y:Prop):condK (some (.c (.v (.bool t)))) X Y=((t=true → X)∧(t=false → Y)):=rfl
attribute [push_cast] pops_nil pops_cons pgo_val pgo_heap pgo_app pgo_skip pgo_stop qops_nil qops_cons qgo_val qgo_skip qgo_stop dst_some dst_none put_c get_eq ev_tmp S.put_none look gd thenE_normal thenE_exit thenE_ret inE_normal inE_ret inE_exit noG_normal noG_ret noG_exit condK_b RetQ_normal RetQ_ret S.ev ofVal run1 appR inpP clearP delP mxP mxF mxI isBnd funQ callArgs2 segP isNilE nilQ isEmp lookupP mkmapP updP rowOf keyP MK.kind rowP okP toD toDs Option.isNone Res.ofV Res.ofH Res.ofA Res.lit buildP fillE loadP rdCells nilP binP binV intOp strOp eqEs eqE andO unP convP funP fnKeys fnD cutP loN faP fdP ixP byteP exP boxP cellsE storeP setO litP partRows toD toDs lenP lenE appP srcRows wr quoN remN killS killT killO E.kill PV.kill Ob.kill D.e S.frz frzT frzO E.frz PV.frz Ob.frz callArgs posK posKs seeE seeEs seeP seePs seeO seeOs rho putBack E.ren PV.ren Ob.ren parT res1 resL resP seeR firstOk keyOk pvOk obOk subT sub1 leE leEs leP lePs leO leOs E.keys PV.keys flatD flatE flatP flatO
attribute [push_cast] Option.map_some Option.map_none Option.bind_some Option.bind_none List.map_cons List.map_nil List.getElem?_cons_zero List.getElem?_cons_succ List.getElem?_nil List.length_cons List.length_nil List.take_succ_cons List.take_zero List.take_nil List.drop_succ_cons List.drop_zero List.drop_nil List.set_cons_zero List.set_cons_succ List.cons_append List.nil_append List.append_nil List.all_cons List.all_nil List.getD_cons_zero List.getD_cons_succ List.getD_nil List.flatMap_cons List.flatMap_nil Bool.and_true Bool.true_and Bool.and_false Bool.false_and Bool.not_true Bool.not_false Bool.or_true Bool.true_or Bool.or_false Bool.false_or Bool.and_self decide_true decide_false true_and and_true false_and and_false and_self true_implies false_implies implies_true not_true_eq_false not_false_eq_true forall_const exists_eq_left exists_eq_right exists_eq_left' exists_eq_right' exists_const exists_eq_right_right
def memB (k:Nat):List Nat → Bool
 | []=>false
 | j :: r=>if j=k then true else memB k r
def nodB:List Nat → Bool
 | []=>true
 | k :: r=>!memB k r && nodB r
def ltB (n:Nat):List Nat → Bool
 | []=>true
 | k :: r=>decide (k < n) && ltB n r
def fstB (p i:Nat):List Nat → Bool
 | []=>decide (p≤i)
 | k :: r=>if i < p then decide (k=i) && fstB p (i+1) r else true
theorem memB_ok {k:Nat}:∀ {l:List Nat},memB k l=false → k ∉ l
 | [],_=>by simp
 | j :: r,h=>by
  simp only [memB] at h
  split at h
  ·cases h
  ·rename_i e
   simp only [List.mem_cons,not_or]
   exact ⟨fun h=>e h.symm,memB_ok h⟩
theorem nodB_ok:∀ {l:List Nat},nodB l=true → l.Nodup
 | [],_=>List.nodup_nil
 | k :: r,h=>by
  simp only [nodB,Bool.and_eq_true,Bool.not_eq_true'] at h
  exact List.nodup_cons.2 ⟨memB_ok h.1,nodB_ok h.2⟩
theorem ltB_ok {n:Nat}:∀ {l:List Nat},ltB n l=true → (l.all fun k=>decide (k < n))=true
 | [],_=>rfl
 | k :: r,h=>by
  simp only [ltB,Bool.and_eq_true] at h
  simp only [List.all_cons,Bool.and_eq_true]
  exact ⟨h.1,ltB_ok h.2⟩
theorem fstB_ok {p:Nat}:∀ {l:List Nat} {i:Nat},fstB p i l=true → p≤i+l.length∧∀ j,i+j < p → l.getD j 0=i+j
 | [],i,h=>by
  simp only [fstB,decide_eq_true_eq] at h
  exact ⟨by simpa using h,fun j hj=>by omega⟩
 | k :: r,i,h=>by
  simp only [fstB] at h
  split at h
  ·simp only [Bool.and_eq_true,decide_eq_true_eq] at h
   obtain ⟨h1,h2⟩:=fstB_ok h.2
   refine ⟨by simp;omega,fun j hj=>?_⟩
   cases j with
   | zero=>simpa using h.1
   | succ j=>have:=h2 j (by omega);simp only [List.getD_cons_succ];omega
  ·exact ⟨by simp;omega,fun j hj=>by omega⟩
theorem firstOk_of {p:Nat} {l:List Nat} (h:fstB p 0 l=true):firstOk p l=true:=by
 obtain ⟨h1,h2⟩:=fstB_ok h
 simp only [firstOk,Bool.and_eq_true,decide_eq_true_eq,List.all_eq_true,List.mem_range,beq_iff_eq]
 exact ⟨by omega,fun j hj=>by have:=h2 j (by omega);omega⟩
def retI:Option PV → Option (List Ob) → Bool → (PV → List Ob → Prop) → Prop
 | some r,some os,true,R=>∃ r2 os2,leP r r2∧leOs os os2∧R r2 os2
 | _,_,_,_=>False
def retH:Option PV → List Ob → Nat → (PV → List Ob → Prop) → List Nat → Prop
 | some r,os,p,R,kk=>retI (seeR os kk r) (seeOs true os kk kk) (nodB kk && ltB os.length kk && fstB p 0 kk) R
 | none,_,_,_,_=>False
def retG (P:Program) (rs:List ResultVar) (p:Nat) (R:PV → List Ob → Prop) (s:S) (kk:List Nat):Prop:=retH (resP P s rs) s.o p R kk
theorem retK_of {P:Program} {rs:List ResultVar} {p:Nat} {R:PV → List Ob → Prop} {s:S} (kk:List Nat) (h:retG P rs p R s kk):RetK P rs p R s:=by
 unfold retG at h
 cases hr:resP P s rs with
 | none=>rw [hr] at h;exact h.elim
 | some r =>
  rw [hr] at h
  simp only [retH] at h
  cases h1:seeR s.o kk r with
  | none=>rw [h1] at h;exact h.elim
  | some r' =>
   cases h2:seeOs true s.o kk kk with
   | none=>rw [h1,h2] at h;exact h.elim
   | some os' =>
    cases h3:(nodB kk && ltB s.o.length kk && fstB p 0 kk) with
    | false=>rw [h1,h2,h3] at h;exact h.elim
    | true =>
     rw [h1,h2,h3] at h
     simp only [Bool.and_eq_true] at h3
     obtain ⟨r2,os2,h4,h5,h6⟩:=h
     exact ⟨kk,r,r',os',r2,os2,hr,h1,h2,nodB_ok h3.1.1,ltB_ok h3.1.2,firstOk_of h3.2,h4,h5,h6⟩
attribute [push_cast] memB nodB ltB fstB retG retH retI
section
variable {rd:Option Nat} {P:Program} {N p:Nat} {Q:Exit → S → Prop} {s:S}
theorem pwp_loop2 {c:Code} {α:Type} (Φ:α → Prop) (St:α → S) (μ:α → Nat) (x0:α) (h0:Φ x0) (hw:Weak N p s (St x0))
  (round:∀ x,Φ x → PWPr rd P N p c (thenE (fun s'=>∃ x',Φ x'∧Weak N p s' (St x')∧μ x' < μ x) Q) (St x)):PWPr rd P N p (.loop c) Q s:=by
 refine pwp_weak hw (pwp_loop (fun s=>∃ x,Φ x∧s=St x) (fun s=>leastOf fun n=>∃ x,Φ x∧s=St x∧μ x=n) ⟨x0,h0,rfl⟩ ?_)
 intro s1 hs1
 have hex:∃ n,∃ x,Φ x∧s1=St x∧μ x=n:=by obtain ⟨x,h1,h2⟩:=hs1;exact ⟨_,x,h1,h2,rfl⟩
 obtain ⟨⟨x,h1,h2,h3⟩,_⟩:=leastOf_spec hex
 subst h2
 refine pwp_mono (round x h1) ?_
 intro e s2 hq
 cases e with
 | normal =>
  obtain ⟨x',h4,h5,h6⟩:=hq
  refine ⟨St x',h5,⟨x',h4,rfl⟩,?_⟩
  have:=(leastOf_spec (p:=fun n=>∃ y,Φ y∧St x'=St y∧μ y=n) ⟨_,x',h4,rfl,rfl⟩).2 _ ⟨x',h4,rfl,rfl⟩
  show leastOf _ < leastOf _
  omega
 | exit j=>exact hq
 | goto l=>exact hq
 | ret=>exact hq
 | panic ch=>exact hq
 | outgrown=>exact hq
def fgG (s s':S) (p:Nat):Prop:=subT s s'.t∧leOs (s.o.take s'.o.length) s'.o∧p≤s'.o.length∧(s'.t.all fun x=>pvOk s'.o.length x.2)=true∧s'.o.all (obOk s'.o.length)=true
theorem weak_fg {s':S} (h:fgG s s' p):Weak N p s s':=weak_forget h.1 h.2.1 h.2.2.1 h.2.2.2.1 h.2.2.2.2
end
attribute [push_cast] fgG Option.some.injEq PV.c.injEq PV.agg.injEq PV.two.injEq PV.three.injEq E.v.injEq E.own.injEq E.ptr.injEq E.row.injEq E.orow.injEq E.mp.injEq E.seg.injEq Ob.map.injEq MK.s.injEq MK.i.injEq E.sl.injEq E.full.injEq Value.int.injEq Value.bool.injEq Value.string.injEq Ob.arr.injEq Ob.box.injEq S.mk.injEq Prod.mk.injEq List.cons.injEq D.v.injEq D.sl.injEq
def seeLe:Option (List PV) → List PV → Prop
 | some a,b=>lePs a b
 | none,_=>False
def seeOLe:Option (List Ob) → List Ob → Prop
 | some a,b=>leOs a b
 | none,_=>False
def isT:Option Bool → Prop
 | some b=>b=true
 | none=>False
def callG (N:Nat) (ops:Array Oper) (s:S) (o:Oper) (v:Bool) (ks:List Nat) (xs:List (Option PV)) (args':List PV) (os':List Ob):Prop :=
 isT (gd ops s o.guard)∧dstOk N o.dst∧seeLe (seePs v s.o ks xs) args'∧seeOLe (seeOs v s.o ks ks) os'∧(nodB ks && ltB s.o.length ks)=true
section
variable {P:Program} {N p:Nat} {ops:Array Oper} {rest:List Oper} {o:Oper} {s:S} {K:S → Prop}
theorem pl_call2 {f:Operand} {args:Array Operand} {tys:Array TypeId} {g:FuncId} {ds:List D} {cap:List Nat} (v:Bool) (ks:List Nat) {args':List PV} {os':List Ob} {R:PV → List Ob → Prop}
  (ho:o.op = .call ⟨.value f,args,tys⟩) (hf:s.ev f=some (.c (.fn (.func g) ds cap))) (hb:bodyOk P g=true) (hc:PCalls P g args' os' R)
  (hG:callG N ops s o v ks (callArgs s ds args.toList cap) args' os')
  (hfl:v=true → ∀ r os'',R r os'' → flatP r=true∧os''.all flatO=true)
  (hK:∀ r os'',R r os'' → PL P N p ops rest (S.put ⟨s.t,putBack (rho ks s.o.length) s.o ks os''⟩ o.dst (r.ren (rho ks s.o.length))) K):PL P N p ops (o :: rest) s K:=by
 obtain ⟨h1,h2,h3,h4,h5⟩:=hG
 cases e1:gd ops s o.guard with
 | none=>rw [e1] at h1;exact h1.elim
 | some b =>
  rw [e1] at h1
  simp only [isT] at h1
  subst h1
  cases e2:seePs v s.o ks (callArgs s ds args.toList cap) with
  | none=>rw [e2] at h3;exact h3.elim
  | some a =>
   cases e3:seeOs v s.o ks ks with
   | none=>rw [e3] at h4;exact h4.elim
   | some q =>
    rw [e2] at h3
    rw [e3] at h4
    simp only [Bool.and_eq_true] at h5
    exact pl_call v ks ho e1 hf hb h2 e2 h3 e3 h4 hc (nodB_ok h5.1) (ltB_ok h5.2) hfl hK
theorem ql_call2 {f:Operand} {args:Array Operand} {tys:Array TypeId} {g:FuncId} {ds:List D} {cap:List Nat} {args':List PV} (z:Bool) {R:PV → List Ob → Prop} {x:Value}
  (ho:o.op = .call ⟨.value f,args,tys⟩) (hf:s.ev f=some (.c (.fn (.func g) ds cap))) (hb:bodyOk P g=true) (hc:PCalls P g args' [] R) (hR:∀ r os'',R r os'' → r = .c (.v x)) (hx:x.oneCell'=true)
  (hG:callG N ops s o true [] (callArgs s ds args.toList cap) args' [])
  (hK:QL P N p ops rest (s.put o.dst (.c (.v x))) K):QL P N p ops (o :: rest) s K:=by
 obtain ⟨h1,h2,h3,_,_⟩:=hG
 cases e1:gd ops s o.guard with
 | none=>rw [e1] at h1;exact h1.elim
 | some b =>
  rw [e1] at h1
  simp only [isT] at h1
  subst h1
  cases e2:seePs true s.o [] (callArgs s ds args.toList cap) with
  | none=>rw [e2] at h3;exact h3.elim
  | some a =>
   rw [e2] at h3
   exact ql_call ho e1 hf hb h2 e2 h3 hc hR hx hK
end
attribute [push_cast] callG seeLe seeOLe isT
def seeLe1:Option PV → PV → Prop
 | some a,b=>leP a b
 | none,_=>False
def subK (v:Bool) (ks:List Nat) (s:S):List (Nat × PV) → Prop
 | []=>True
 | (i,q) :: t=>seeLe1 (seeP v s.o ks (s.get i)) q∧subK v ks s t
theorem subK_look {v:Bool} {ks:List Nat} {s:S}:∀ {t:List (Nat × PV)} {i:Nat} {q:PV},subK v ks s t → look t i=some q → ∃ a,seeP v s.o ks (s.get i)=some a∧leP a q
 | [],i,q,_,h=>by simp [look] at h
 | (j,r) :: t,i,q,hs,h=>by
  simp only [look] at h
  split at h
  ·rename_i e
   cases h
   have h1:=hs.1
   cases hg:seeP v s.o ks (s.get j) with
   | none=>rw [hg] at h1;exact h1.elim
   | some a=>rw [hg] at h1;subst e;exact ⟨a,hg,h1⟩
  ·exact subK_look hs.2 h
def keepG (v:Bool) (ks:List Nat) (s s':S) (p:Nat):Prop:=subK v ks s s'.t∧seeOLe (seeOs v s.o ks ks) s'.o∧(nodB ks && ltB s.o.length ks && fstB p 0 ks)=true
theorem weak_keep {N p:Nat} {s s':S} (v:Bool) (ks:List Nat) (h:keepG v ks s s' p):Weak N p s s':=by
 obtain ⟨h1,h2,h3⟩:=h
 simp only [Bool.and_eq_true] at h3
 have hnd:=nodB_ok h3.1.1
 have hf:=firstOk_of h3.2
 simp only [firstOk,Bool.and_eq_true,decide_eq_true_eq,List.all_eq_true,List.mem_range,beq_iff_eq] at hf
 intro Γ a w hA
 have hks:∀ k ∈ ks,k < Γ.n:=fun k hk=>by rw [hA.inv.m.n];simpa using List.all_eq_true.1 (ltB_ok h3.1.2) k hk
 have hget:∀ j,j < ks.length → ks.getD j 0 ∈ ks:=fun j hj=>by simp [List.getD,hj]
 cases e3:seeOs v s.o ks ks with
 | none=>rw [e3] at h2;exact h2.elim
 | some os2 =>
  rw [e3] at h2
  have hm:=leOs_mem h2 (see_mem (v:=v) hA.inv.m hks hnd e3)
  refine ⟨seeG v ks Γ,⟨⟨hA.inv.size,hA.inv.defers,fun i q hq=>?_,hm⟩,hf.1⟩,⟨Ext.refl _ _,fun b hb=>.inl hb,fun k hk hc=>.inl ⟨ks.getD k 0,hks _ (hget k hk),hc,rfl⟩,fun b hb=>?_,fun k hk=>?_⟩⟩
  ·obtain ⟨b,hb,hle⟩:=subK_look h1 hq
   cases hg:s.get i with
   | none=>rw [hg] at hb;simp [seeP] at hb
   | some r =>
    obtain ⟨i1,i2⟩:=hA.inv.t i r hg
    refine ⟨i1,leP_ok hle (seeP_ok (v:=v) hA.inv.m hks (q:=some r) (by rw [← hg];exact hb) fun r' hr'=>by cases hr';exact i2)⟩
  ·rcases hb with hb|⟨_,hb,_⟩
   ·exact .inl hb
   ·exact .inr (.inl hb)
  ·have h4:=hf.2 k hk
   exact ⟨congrArg Γ.β h4,congrArg Γ.cap h4⟩
attribute [push_cast] seeLe1 subK keepG byteNum nums nums_map
theorem all_tt {α:Type} (l:List α):(l.all fun _=>true)=true:=by induction l<;>simp_all
attribute [push_cast] all_tt List.all_map Function.comp_def
theorem getD_rows {α:Type} [Inhabited α] (f:α → List D) (l:List α) (k:Nat):(l.map f).getD k []=if k < l.length then f (l.getD k default) else []:=by
 split
 ·rename_i h;simp [List.getD,h]
 ·rename_i h;simp [List.getD,h]
theorem getD_lt {α:Type} [Inhabited α] (l:List α) {k:Nat} (h:k < l.length):l.getD k default=l[k]:=by simp [List.getD,h]
theorem ret_elim {r:PV} {os:List Ob} {X:PV} {Y:List Ob}:(∃ r2 os2,leP r r2∧leOs os os2∧r2=X∧os2=Y)=(leP r X∧leOs os Y) :=
 propext ⟨fun ⟨_,_,h1,h2,h3,h4⟩=>by subst h3;subst h4;exact ⟨h1,h2⟩,fun ⟨h1,h2⟩=>⟨_,_,h1,h2,rfl,rfl⟩⟩
theorem btt:(true == true)=true:=rfl
theorem btf:(true == false)=false:=rfl
theorem bft:(false == true)=false:=rfl
theorem bff:(false == false)=true:=rfl
theorem pick_t (x y:Option PV):pickP (some (.c (.v (.bool true)))) x y=x:=rfl
theorem pick_f (x y:Option PV):pickP (some (.c (.v (.bool false)))) x y=y:=rfl
theorem pick_dec (p:Prop) [Decidable p] (x y:Option PV):pickP (some (.c (.v (.bool (decide p))))) x y=if p then x else y:=by by_cases h:p<;>simp [h,pickP]
attribute [push_cast] pick_t pick_f pick_dec
theorem dec_beq_t (p:Prop) [Decidable p]:(decide p == true)=if p then true else false:=by by_cases h:p<;>simp [h]
theorem dec_beq_f (p:Prop) [Decidable p]:(decide p == false)=if p then false else true:=by by_cases h:p<;>simp [h]
attribute [push_cast] dec_beq_t dec_beq_f
theorem lkP_some (ag:Bool) (z:PV) (ok:Bool) (row:List D):lkP ag z ok (some row)=(rowP ag row).map (okP ok true):=rfl
theorem lkP_none (ag:Bool) (z:PV) (ok:Bool):lkP ag z ok none=some (okP ok false z):=rfl
attribute [push_cast] lkP_some lkP_none
attribute [push_cast] btt btf bft bff true_or or_true or_false false_or Int.zero_add
theorem put_map {α:Type} (f:α → E) (l:List α) (k:Nat) (x:E):(l.map f).take k++x :: (l.map f).drop (k+1)=if k < l.length then (l.map f).set k x else l.map f++[x]:=by
 split
 ·rename_i h
  rw [List.set_eq_take_append_cons_drop,if_pos (by simpa using h)]
 ·rename_i h
  rw [List.take_of_length_le (by simp;omega),List.drop_of_length_le (by simp;omega)]
theorem seeEs_mapv {α:Type} (v:Bool) (os:List Ob) (ks:List Nat) (g:α → Value) (l:List α):seeEs v os ks (l.map fun b=>E.v (g b))=some (l.map fun b=>E.v (g b)):=by
 induction l with
 | nil=>rfl
 | cons a l ih=>simp only [List.map_cons,seeEs,seeE,ih]
theorem leEs_same (l:List E):leEs l l=True:=by
 have h:leEs l l:=leEs_refl l
 simp [h]
attribute [push_cast] List.length_take List.length_drop put_map seeEs_mapv leEs_same List.map_set List.map_map List.length_set List.length_replicate List.map_replicate Nat.mul_one Nat.zero_add Int.toNat_natCast
attribute [push_cast] getD_rows List.length_map ret_elim List.length_append List.map_append List.take_of_length_le Nat.le_refl List.getElem?_toArray Int.add_sub_cancel List.append_eq BEq.rfl
end Go.Proofs.YthhfpcbpiphfiaaGreatDoor
