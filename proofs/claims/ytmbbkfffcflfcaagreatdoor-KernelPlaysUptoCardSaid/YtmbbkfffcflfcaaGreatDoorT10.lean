/- What the program computes, and the plain laws of it, part 10. -/
import Derived.Orders
import Derived.Test.YtmbbkfffcflfcaaGreatDoorT9
namespace Go.Proofs.YtmbbkfffcflfcaaGreatDoor
set_option linter.unusedSimpArgs false
set_option linter.unusedVariables false
open Go.RowKit
open IntWalk renaming iteOmega → O, toNatUp → U
def ah (P:Program) (g:FuncId) (args:List PV) (os:List Ob) (R:PV → List Ob → Prop):Prop :=
 ∀ Γ w (xs:List Value),bz Γ os w → ay (RP w Γ) args xs → Calls P g xs.toArray w fun e w' =>
  ∃ r os' Γ' y,e = .returned y∧R r os'∧RP w' Γ' r y∧os.length≤os'.length∧bz Γ' os' w'∧cq os.length Γ w Γ' w'
theorem ah.mono {P:Program} {g:FuncId} {args:List PV} {os:List Ob} {R R':PV → List Ob → Prop} (h:ah P g args os R) (hR:∀ r os',R r os' → R' r os'):ah P g args os R':=fun Γ w xs hm hx =>
 (h Γ w xs hm hx).mono fun e w' ⟨r,os',Γ',y,h1,h2,h3⟩=>⟨r,os',Γ',y,h1,hR r os' h2,h3⟩
def dK (P:Program) (g:FuncId):Bool:=match P.funcs[g]? with
 | some fn=>fn.body.isSome && !(fn.name == "runtime.NumGoroutine")
 | none=>false
theorem lu {P:Program} {a:Act} {w:World} {o:Oper} {f:Operand} {args:Array Operand} {tys:Array TypeId} {g:FuncId} {xs ys:Array Value} (ho:o.op = .call ⟨.value f,args,tys⟩) (hf:a.eval f = .func (.func g) xs ys) (hb:dK P g=true) :
  (execOp a.eval o).run P w = .ok (.enter g (xs++args.map a.eval++ys)) w:=by
 unfold dK at hb;split at hb
 ·rename_i fn hfn;simp only [Bool.and_eq_true,Bool.not_eq_true'] at hb;have h1:¬ fn.body=none:=by intro h;rw [h] at hb;simp at hb
  have h2:¬ fn.name = "runtime.NumGoroutine" := by simpa using hb.2
  simp [execOp,ho,resolve,hf,Deferred.ofValue,invoke,callFunc,hfn,h2,h1]
 ·cases hb
def te (s:S) (ds:List D) (args:List Operand) (cap:List Nat):Bool → List (Option PV)
 | false=>ds.map (fun d=>some (.c d.e))++(args.map s.ev++cap.map fun k=>some (.c (.ptr k 0)))
 | true=>(cap.map fun k=>some (.c (.ptr k 0)))++args.map s.ev
def bC (s:S) (ds:List D) (args:List Operand) (cap:List Nat):List (Option PV):=te s ds args cap (jU ds)
theorem ir {N:Nat} {Γ:G} {s:S} {a:Act} {w:World} {f:Operand} {g:FuncId} {ds:List D} {cap:List Nat} (hI:Inv N Γ s a w) (hf:s.ev f=some (.c (.fn (.func g) ds cap))) (args:Array Operand) :
  ∃ xs ys:Array Value,a.eval f = .func (.func g) xs ys∧ay (fun q y=>∀ r,q=some r → RP w Γ r y) (bC s ds args.toList cap) (xs++args.map a.eval++ys).toList:=by
 obtain ⟨xs,h1,h2,h3⟩:=S.ev_ok hf hI;have a2:∀ l:List Operand,ay (fun (q:Option PV) y=>∀ r,q=some r → RP w Γ r y) (l.map s.ev) (l.map a.eval):=by
  intro l;induction l with
  | nil=>trivial
  | cons x l ih=>exact ⟨fun r hr=>S.ev_ok hr hI,ih⟩
 have a3:∀ l:List Nat,(∀ k ∈ l,k < Γ.n) → ay (fun (q:Option PV) y=>∀ r,q=some r → RP w Γ r y) (l.map fun k=>some (.c (.ptr k 0))) (l.map (eK Γ)):=by
  intro l;induction l with
  | nil=>intro _;trivial
  | cons k l ih=>intro hl;exact ⟨fun r hr=>by cases hr;exact ⟨hl k (by simp),rfl⟩,ih fun k' hk'=>hl k' (by simp [hk'])⟩
 unfold bC;cases hb:jU ds with
 | false =>
  rw [hb] at h1;have a1:ay (fun (q:Option PV) y=>∀ r,q=some r → RP w Γ r y) (ds.map fun d=>some (.c d.e)) xs:=ay.map_l.2 ((h2 hb).mono fun d y h r hr=>by cases hr;exact RE.of_d h);refine ⟨xs.toArray,_,h1,?_⟩;simp only [Array.toList_append,Array.toList_map,List.append_assoc];exact a1.append ((a2 args.toList).append (a3 cap h3))
 | true =>
  rw [hb] at h1;refine ⟨_,#[],h1,?_⟩;simp only [Array.toList_append,Array.toList_map,List.append_nil,Array.append_empty];exact (a3 cap h3).append (a2 args.toList)
section
variable {P:Program} {N p:Nat} {ops:Array Oper} {rest:List Oper} {o:Oper} {s:S} {K:S → Prop}
theorem GX {f:Operand} {args:Array Operand} {tys:Array TypeId} {g:FuncId} {ds:List D} {cap:List Nat} (v:Bool) (ks:List Nat) {args' args'':List PV} {os' os2:List Ob} {R:PV → List Ob → Prop}
  (ho:o.op = .call ⟨.value f,args,tys⟩) (hg:gd ops s o.guard=some true) (hf:s.ev f=some (.c (.fn (.func g) ds cap))) (hb:dK P g=true) (hd:bp N o.dst)
  (ha:kG v s.o ks (bC s ds args.toList cap)=some args'') (hle:A9 args'' args') (hos:gP v s.o ks ks=some os2) (hlo:mQ os2 os') (hc:ah P g args' os' R) (hnd:ks.Nodup) (hkl:(ks.all fun k=>decide (k < s.o.length))=true)
  (hfl:v=true → ∀ r os'',R r os'' → gQ r=true∧os''.all qO=true)
  (hK:∀ r os'',R r os'' → PL P N p ops rest (S.put ⟨s.t,dE (rho ks s.o.length) s.o ks os''⟩ o.dst (r.ren (rho ks s.o.length))) K):PL P N p ops (o :: rest) s K:=by
 intro Γ a w Q hA hQ;have hks:∀ k ∈ ks,k < Γ.n:=fun k hk=>by rw [hA.inv.m.n];simpa using List.all_eq_true.1 hkl k hk
 obtain ⟨xs,ys,hfv,hargs⟩:=ir hA.inv hf args;have hseen:=qh hle (mT (v:=v) (ks:=ks) hA.inv.m hks hargs ha);have hmem:=kD hlo (lr (v:=v) hA.inv.m hks hnd hos);have hkl':os'.length=ks.length:=(ff hlo).symm.trans (iV hos).1;unfold wpListIn;rw [if_pos (fG hg hA.inv)];refine l7 (lu ho hfv hb) ?_;have:=hc _ w _ hmem hseen;rw [Array.toArray_toList] at this;refine this.mono ?_;rintro e w' ⟨r,os'',Γ',y,rfl,hR,hr,hlen,hm',hgr⟩;rw [hkl'] at hgr hlen;obtain ⟨h1,h2,h3⟩:=IS (v:=v) hA hks hnd hlen hm' hgr hr (fun hv=>hfl hv r os'' hR);exact ⟨y,rfl,hK r os'' hR _ _ w' Q ⟨h1.inv.put (ec hd) h2,h1.le⟩ fun s' Γ2 a2 w2 hk hA2 hg2 hd2=>hQ s' Γ2 a2 w2 hk hA2 (h3.trans hg2) (hd2.trans (bK _ _ _))⟩
theorem GY {f:Operand} {args:Array Operand} {tys:Array TypeId} {g:FuncId} {ds:List D} {cap:List Nat} {args' args'':List PV} {R:PV → List Ob → Prop} {x:Value}
  (ho:o.op = .call ⟨.value f,args,tys⟩) (hg:gd ops s o.guard=some true) (hf:s.ev f=some (.c (.fn (.func g) ds cap))) (hb:dK P g=true) (hd:bp N o.dst)
  (ha:kG true s.o [] (bC s ds args.toList cap)=some args'') (hle:A9 args'' args') (hc:ah P g args' [] R) (hR:∀ r os'',R r os'' → r = .c (.v x)) (hx:x.oneCell'=true)
  (hK:QL P N p ops rest (s.put o.dst (.c (.v x))) K):QL P N p ops (o :: rest) s K:=by
 intro Γ a w hA;unfold wpQuietIn;rw [if_pos (fG hg hA.inv)];refine ⟨fun _ _ _ _=>trivial,x,fun w1 hw1=>?_,fg (fun a' ⟨s',k1,k2,k3⟩=>⟨s',k1,k2,k3.trans (bK _ _ _)⟩) (hK Γ _ w ⟨hA.inv.put (ec hd) ⟨rfl,hx⟩,hA.le⟩)⟩;have hI:=hA.inv.same (bS.of_ext hw1);obtain ⟨xs,ys,hfv,hargs⟩:=ir hI hf args;have hseen:=qh hle (mT (v:=true) (ks:=[]) hI.m (by simp) hargs ha);have hmem:=lr (v:=true) (ks:=[]) hI.m (by simp) (by simp) (os':=[]) rfl;unfold Oper.quietAtIn;rw [lu ho hfv hb];refine ⟨rfl,uE,qH ?_⟩;have:=hc _ w1 _ hmem hseen;rw [Array.toArray_toList] at this;refine this.mono ?_;rintro e w' ⟨r,os'',Γ',y,rfl,hR',hr,hlen,hm',hgr⟩;have hrx:=hR r os'' hR';subst hrx;refine ⟨by rw [hr.1],hw1.trans (hgr.ext.mono ?_)⟩;rintro b ⟨k,h1,_⟩;exact absurd h1 (Nat.not_lt_zero _)
end
def og:Nat → List PV → List (Nat × PV)
 | _,[]=>[]
 | i,q :: r=>(i,q) :: og (i+1) r
def IU (P:Program) (s:S):ResultVar → Option PV
 | .tmp t=>s.get t
 | .cell a t=>iO P s.o t (s.get a)
def yk (P:Program) (s:S):List ResultVar → Option (List PV)
 | []=>some []
 | v :: r=>match IU P s v,yk P s r with
  | some q,some l=>some (q :: l)
  | _,_=>none
def yl (P:Program) (s:S) (rs:List ResultVar):Option PV:=match yk P s rs with
 | some []=>some .undef
 | some [x]=>some x
 | some [x,y]=>some (.two x y)
 | some [x,y,z]=>some (.three x y z)
 | _=>none
def GZ (tmps:Array Value):ResultVar → Sem Value
 | .tmp t=>pure (tmps.getD t Go.undef)
 | .cell ad t=>do loadVar t (← asAddr (tmps.getD ad Go.undef))
theorem ym (fn:Func) (tmps:Array Value):results fn tmps=(do let vs ← fn.results.mapM (GZ tmps);pure (if h:vs.size=1 then vs[0] else .tuple vs)):=by
 unfold results;congr 1
theorem Ag {P:Program} {N:Nat} {Γ:G} {s:S} {a:Act} {w:World} (hI:Inv N Γ s a w):∀ {rs:List ResultVar} {l:List PV},yk P s rs=some l →
  ∃ ys,(rs.mapM (GZ a.tmps)).run P w = .ok ys w∧ay (RP w Γ) l ys
 | [],l,h=>by simp [yk] at h;subst h;exact ⟨[],by simp,trivial⟩
 | v :: rs,l,h=>by
  simp only [yk] at h;split at h
  ·rename_i q l' h1 h2;cases h;obtain ⟨ys,h3,h4⟩:=Ag hI h2;cases v with
   | tmp t =>
    exact ⟨a.tmps.getD t Go.undef :: ys,by rw [List.mapM_cons];simp only [GZ,Sem.run_bind,Sem.run_pure,Result.andThen_ok,h3],(hI.t t q h1).2,h4⟩
   | cell ad t =>
    obtain ⟨y,h5,h6⟩:=vM (P:=P) (x:=.tmp ad) (o:=⟨none,.load t (.tmp ad),0, "",#[],none⟩) rfl h1 hI;have h7:=h6 w (bS.refl w);refine ⟨y :: ys,?_,h5,h4⟩;have h8:∃ p,a.tmps.getD ad Go.undef = .pointer (some p):=by
     simp only [IU] at h1;cases hg:s.get ad with
     | none=>rw [hg] at h1;simp [iO] at h1
     | some u =>
      have hu:=(hI.t ad u hg).2;rw [hg] at h1;unfold iO at h1;split at h1
      ·rename_i e;injection e with e;subst e;exact ⟨_,hu.2⟩
      ·rename_i e;injection e with e;subst e;obtain ⟨b,f,xs,he,_⟩:=hu;exact ⟨_,he⟩
      ·rename_i e;injection e with e;subst e;exact ⟨_,hu.2⟩
      ·cases h1
    obtain ⟨p,hp⟩:=h8;have h9:(loadVar t p).run P w = .ok y w:=by
     simp only [execOp,Act.eval,hp,Instr.loadAt,Instr.sureAddr,Sem.run_bind,Sem.run_pure,Result.andThen_ok] at h7;generalize (loadVar t p).run P w=z at h7;cases z with
     | ok u w2=>simp at h7;obtain ⟨rfl,rfl⟩:=h7;rfl
     | halt u w2=>simp [Result.andThen] at h7
    have h10:(asAddr (a.tmps.getD ad Go.undef)).run P w = .ok p w:=by rw [hp];rfl
    rw [List.mapM_cons];simp only [GZ,Sem.run_bind,h10,Result.andThen_ok,h9,h3,Sem.run_pure]
  ·cases h
theorem uK {P:Program} {N:Nat} {Γ:G} {s:S} {a:Act} {w:World} {fn:Func} {r:PV} (hI:Inv N Γ s a w) (h:yl P s fn.results.toList=some r):∃ y,(results fn a.tmps).run P w = .ok y w∧RP w Γ r y:=by
 unfold yl at h;have key:∀ l,yk P s fn.results.toList=some l → ∃ ys:List Value,ay (RP w Γ) l ys∧(results fn a.tmps).run P w = .ok (if h:ys.toArray.size=1 then ys.toArray[0] else .tuple ys.toArray) w:=by
  intro l hl;obtain ⟨ys,h1,h2⟩:=Ag hI hl;refine ⟨ys,h2,?_⟩;rw [ym,Array.mapM_eq_mapM_toList];simp only [Sem.run_bind,Sem.run_map];rw [h1];simp only [Result.andThen_ok,Sem.run_pure]
 split at h
 ·rename_i hl;cases h;obtain ⟨ys,h1,h2⟩:=key _ hl;rw [ay.nil_l] at h1;subst h1;exact ⟨_,h2,rfl⟩
 ·rename_i x hl;cases h;obtain ⟨ys,h1,h2⟩:=key _ hl;obtain ⟨y,m,rfl,h3,h4⟩:=ay.cons_l.1 h1;rw [ay.nil_l] at h4;subst h4;exact ⟨y,by simpa using h2,h3⟩
 ·rename_i x z hl;cases h;obtain ⟨ys,h1,h2⟩:=key _ hl;obtain ⟨y,m,rfl,h3,h4⟩:=ay.cons_l.1 h1;obtain ⟨y2,m,rfl,h5,h6⟩:=ay.cons_l.1 h4;rw [ay.nil_l] at h6;subst h6;exact ⟨_,by simpa using h2,y,y2,rfl,h3,h5⟩
 ·rename_i x z t hl;cases h;obtain ⟨ys,h1,h2⟩:=key _ hl;obtain ⟨y,m,rfl,h3,h4⟩:=ay.cons_l.1 h1;obtain ⟨y2,m,rfl,h5,h6⟩:=ay.cons_l.1 h4;obtain ⟨y3,m,rfl,h7,h8⟩:=ay.cons_l.1 h6;rw [ay.nil_l] at h8;subst h8;exact ⟨_,by simpa using h2,y,y2,y3,rfl,h3,h5,h7⟩
 ·cases h
def oh (os:List Ob) (kk:List Nat):PV → Option PV
 | .c e=>(ka true os kk e).map PV.c
 | .agg cs=>(ei true os kk cs).map PV.agg
 | .undef=>some .undef
 | .two x y=>match oh os kk x,oh os kk y with
  | some x',some y'=>some (.two x' y')
  | _,_=>none
 | .three x y z=>match oh os kk x,oh os kk y,oh os kk z with
  | some x',some y',some z'=>some (.three x' y' z')
  | _,_,_=>none
theorem jt {kk:List Nat} {Γ:G} {os:List Ob} {w:World} (hm:bz Γ os w) (hks:∀ k ∈ kk,k < Γ.n):∀ {r r':PV} {y:Value},oh os kk r=some r' → RP w Γ r y → RP w (eE true kk Γ) r' y
 | .c e,r',y,h,hr=>by
  obtain ⟨e',h1,rfl⟩:=Option.map_eq_some_iff.1 h;exact uJ hm hks h1 hr
 | .agg cs,r',y,h,⟨xs,h2,h3⟩=>by
  obtain ⟨cs',h1,rfl⟩:=Option.map_eq_some_iff.1 h;exact ⟨xs,h2,mS hm hks h1 h3⟩
 | .undef,r',y,h,hr=>by simp only [oh,Option.some.injEq] at h;subst h;exact hr
 | .two x z,r',y,h,⟨u,v,h1,h2,h3⟩=>by
  simp only [oh] at h;split at h
  ·rename_i x' z' e1 e2;cases h;exact ⟨u,v,h1,jt hm hks e1 h2,jt hm hks e2 h3⟩
  ·cases h
 | .three x z t,r',y,h,⟨u,v,p,h1,h2,h3,h4⟩=>by
  simp only [oh] at h;split at h
  ·rename_i x' z' t' e1 e2 e3;cases h;exact ⟨u,v,p,h1,jt hm hks e1 h2,jt hm hks e2 h3,jt hm hks e3 h4⟩
  ·cases h
def ju (p:Nat) (kk:List Nat):Bool:=decide (p≤kk.length) && (List.range p).all fun i=>kk.getD i 0 == i
def La (P:Program) (rs:List ResultVar) (p:Nat) (R:PV → List Ob → Prop) (s:S):Prop :=
 ∃ kk r r' os' r2 os2,yl P s rs=some r∧oh s.o kk r=some r'∧gP true s.o kk kk=some os'∧kk.Nodup∧(kk.all fun k=>decide (k < s.o.length))=true∧ju p kk=true∧leP r' r2∧mQ os' os2∧R r2 os2
def D6 (P:Program) (rs:List ResultVar) (p:Nat) (R:PV → List Ob → Prop):Exit → S → Prop
 | .normal,s=>La P rs p R s
 | .ret,s=>La P rs p R s
 | _,_=>False
theorem wo (P:Program) (rs:List ResultVar) (p:Nat) (R:PV → List Ob → Prop) (s:S):D6 P rs p R .normal s=La P rs p R s:=rfl
theorem D7 (P:Program) (rs:List ResultVar) (p:Nat) (R:PV → List Ob → Prop) (s:S):D6 P rs p R .ret s=La P rs p R s:=rfl
theorem ol:∀ (l:List PV) (j i:Nat) (q:PV),cM (og j l) i=some q → j≤i∧l[i - j]? = some q
 | [],j,i,q,h=>by simp [og,cM] at h
 | x :: l,j,i,q,h=>by
  simp only [og,cM] at h;split at h
  ·rename_i e;subst e;cases h;simp
  ·obtain ⟨h1,h2⟩:=ol l (j+1) i q h;refine ⟨ac,?_⟩;rw [show i - j=(i - (j+1))+1 by omega];simpa using h2
theorem Inv.offm {N:Nat} {Γ:G} {s:S} {a:Act} {w w':World} (hI:Inv N Γ s a w) (h:Ext (DZ Γ) w w'):Inv N Γ s a w':=by
 have hs:dC w Γ.I w' Γ.I:=⟨h.size,fun b hb hl=>h.block b hl fun hx=>hx.1 hb,fun _ h=>h⟩
 refine hI.heap ⟨hI.m.n,fun k o ho=>?_,hI.m.sep,hI.m.off,fun b hb=>Nat.lt_of_lt_of_le (hI.m.lt b hb) h.size,hI.m.pins hs⟩ hs fun j hj=>⟨hj,rfl,rfl⟩
 have hk:k < Γ.n:=by rw [hI.m.n];exact (List.getElem?_eq_some_iff.1 ho).1
 exact (hI.m.ob k o ho).stay hs (fun j hj=>⟨hj,rfl,rfl⟩) hk fun hc=>h.block _ (bV hI.m hk hc) fun hx=>hx.2 k hk hc rfl
theorem jv {P:Program} {fn:Func} {tmps:Array Value} {R:Ending → World → Prop} {B:Nat → Prop}:∀ (ds:List Deferred) (w:World),ds.Nodup → (∀ d ∈ ds,∃ D,d={ target:=.collected D,args := #[] }∧w.heap[D]? = some (.deferred (some []))∧B D) →
  (∀ w',Ext B w w' → ∃ v,(results fn tmps).run P w' = .ok v w'∧R (.returned v) w') → LeavesInM (Fw none) 0 P fn tmps R ds .returning w
 | [],w,_,_,h=>h w (Ext.refl _ w)
 | d :: ds,w,hn,hd,h=>by
  obtain ⟨D,rfl,h2,h3⟩:=hd d (by simp);rw [List.nodup_cons] at hn;refine ⟨by simp,.inl ⟨D,_,rfl,run_takeDeferred h2,?_⟩⟩;have hE:Ext B w (w.putObj D (.deferred none)):=⟨rfl,rfl,rfl,by simp,fun k _ hk=>World.putObj_heap_other (fun e=>hk (e ▸ h3))⟩
  refine jv ds _ hn.2 (fun d' hd'=>?_) fun w' hw'=>h w' (hE.trans_new hw' fun b hb=>.inl hb)
  obtain ⟨D',rfl,h5,h6⟩:=hd d' (by simp [hd']);refine ⟨D',rfl,?_,h6⟩;rw [World.putObj_heap_other]
  ·exact h5
  ·rintro rfl;exact hn.1 hd'
theorem tf {p:Nat} {Γ Γ':G} {w w' w'':World} {B:Nat → Prop} (h:cq p Γ w Γ' w') (hE:Ext B w' w'') (hB:∀ b,B b → w.heap.size≤b):cq p Γ w Γ' w'' :=
 ⟨⟨hE.os.trans h.ext.os,hE.tape.trans h.ext.tape,hE.output.trans h.ext.output,Nat.le_trans h.ext.size hE.size,fun k hk hm=>(hE.block k (Nat.lt_of_lt_of_le hk h.ext.size) fun hb=>by have:=hB k hb;omega).trans (h.ext.block k hk hm)⟩,h.sub,h.new,h.imm,h.keep⟩
theorem tg {P:Program} {g:FuncId} {fn:Func} {c:Code} {args:List PV} {os:List Ob} {Q:Exit → S → Prop} {T:S → Prop} {R:PV → List Ob → Prop} (hf:P.funcs[g]? = some fn) (hb:fn.body=some c) (hn:args.length≤fn.ntmps)
  (hQ:∀ e s,Q e s → (e = .normal∨e = .ret)∧T s)
  (hT:∀ s Γ Γ' a w w',T s → Inv fn.ntmps Γ' s a w' → cq os.length Γ w Γ' w' → ∃ v,(results fn a.tmps).run P w' = .ok v w'∧∃ r os' Γ',R r os'∧RP w' Γ' r v∧os.length≤os'.length∧bz Γ' os' w'∧cq os.length Γ w Γ' w')
  (h:PWP P fn.ntmps os.length c Q ⟨og 0 args,os⟩):ah P g args os R:=by
 intro Γ w xs hm hx;refine v6 (rd:=none) (n:=0) (callsIn_of_wp_marks hf hb trivial ?_);have hl:=hx.length;have hA:dl fn.ntmps os.length Γ ⟨og 0 args,os⟩ { tmps:=xs.toArray++Array.replicate (fn.ntmps - xs.toArray.size) Go.undef,defers:=[] } w:=by
  refine ⟨⟨?_,trivial,fun i q hq=>?_,hm⟩,by rw [hm.n];exact Nat.le_refl _⟩
  ·simp;omega
  ·obtain ⟨_,h2⟩:=ol args 0 i q hq;rw [Nat.sub_zero] at h2;obtain ⟨y,h3,h4⟩:=hx.get i q h2;have hi:i < xs.length:=(List.getElem?_eq_some_iff.1 h3).1;refine ⟨ac,?_⟩;have:(xs.toArray++Array.replicate (fn.ntmps - xs.toArray.size) Go.undef).getD i Go.undef=y:=by
    rw [Array.getD_eq_getD_getElem?,Array.getElem?_append_left (by simpa using hi),List.getElem?_toArray,h3];rfl
   rw [this];exact h4
 refine wpIn_mono (h w.heap.size Γ _ w hA (iT.nil (Nat.le_refl _))) ?_;rintro e a' w' ⟨s',Γ',hq,hA',hg,hd⟩;obtain ⟨he,ht⟩:=hQ e s' hq;have fin:LeavesInM (Fw none) 0 P fn a'.tmps (fun e w'=>∃ r os' Γ' y,e = .returned y∧R r os'∧RP w' Γ' r y∧os.length≤os'.length∧bz Γ' os' w'∧cq os.length Γ w Γ' w') a'.defers .returning w':=by
  refine jv (B:=fun D=>DZ Γ' D∧w.heap.size≤D) _ _ hd.2.1 (fun d hd'=>?_) fun w'' hw''=>?_
  ·obtain ⟨D,h1,h2,h3,h4⟩:=hd.2.2 d hd';exact ⟨D,h1,h2,h3,h4⟩
  ·have hI:=hA'.inv.offm (hw''.mono fun b hb=>hb.1);obtain ⟨v,h1,r,os',Γ2,h2,h3,h4,h5,h6⟩:=hT s' Γ Γ' a' w w'' ht hI (tf hg hw'' fun b hb=>hb.2);exact ⟨v,h1,r,os',Γ2,v,rfl,h2,h3,h4,h5,h6⟩
 rcases he with rfl|rfl
 ·exact fin
 ·exact fin
theorem Bf {P:Program} {g:FuncId} {fn:Func} {c:Code} {args:List PV} {os:List Ob} {R:PV → List Ob → Prop} (hf:P.funcs[g]? = some fn) (hb:fn.body=some c) (hn:args.length≤fn.ntmps)
  (h:PWP P fn.ntmps os.length c (D6 P fn.results.toList os.length R) ⟨og 0 args,os⟩):ah P g args os R:=by
 refine tg (T:=La P fn.results.toList os.length R) hf hb hn (fun e s hq=>?_) (fun s' Γ Γ' a' w w' ht hI hg=>?_) h
 ·cases e with
  | normal=>exact ⟨.inl rfl,hq⟩
  | ret=>exact ⟨.inr rfl,hq⟩
  | exit j=>exact hq.elim
  | goto l=>exact hq.elim
  | panic ch=>exact hq.elim
  | outgrown=>exact hq.elim
 ·obtain ⟨kk,r,r',os',r2,os2,h1,h2,h3,h4,h5,h6,hl1,hl2,h7⟩:=ht;obtain ⟨y,h8,h9⟩:=uK hI h1;have hks:∀ k ∈ kk,k < Γ'.n:=fun k hk=>by rw [hI.m.n];simpa using List.all_eq_true.1 h5 k hk
  have hmem:=kD hl2 (lr (v:=true) hI.m hks h4 h3);simp only [ju,Bool.and_eq_true,decide_eq_true_eq,List.all_eq_true,List.mem_range,beq_iff_eq] at h6;have hlen:os2.length=kk.length:=(ff hl2).symm.trans (iV h3).1;refine ⟨y,h8,r2,os2,eE true kk Γ',h7,gi hl1 (jt hI.m hks h2 h9),ac,hmem,hg.trans ⟨Ext.refl _ _,fun b hb=>.inl hb,fun k hk hc=>.inl ⟨kk.getD k 0,hks _ ?_,hc,rfl⟩,fun b hb=>?_,fun k hk=>?_⟩⟩
  ·have hk':k < kk.length:=hk;simp only [List.getD,List.getElem?_eq_getElem hk',Option.getD_some];exact List.getElem_mem _
  ·rcases hb with hb|⟨_,hb,_⟩
   ·exact .inl hb
   ·exact .inr (.inl hb)
  ·simp only [eE,h6.2 k hk,and_self]
theorem aw {P:Program} {g:FuncId} {fn:Func} {c:Code} {args:List PV} {os:List Ob} {R:PV → List Ob → Prop} {n:Nat} {rs:Array ResultVar} (hf:P.funcs[g]? = some fn) (ht:fn.ntmps=n) (hr:fn.results=rs) (h:PWP P n os.length c (D6 P rs.toList os.length R) ⟨og 0 args,os⟩) (hb:fn.body=some c:=by rfl) (hn:args.length≤n:=by simp):ah P g args os R:=by
 subst ht hr;exact Bf hf hb hn h
theorem aP {α:Type} (a:α) (l:List α):(a::l).length=l.length+1∧([]:List α).length=0:=⟨rfl,rfl⟩
theorem JZ (t:List (Nat × PV)) (o:List Ob) (d:Nat) (q:PV):S.put ⟨t,o⟩ (some d) q=⟨(d,q) :: t,o⟩:=rfl
theorem IV (t:List (Nat × PV)) (o:List Ob) (i:Nat):S.get ⟨t,o⟩ i=cM t i:=rfl
theorem IW (s:S) (i:Nat):s.ev (.tmp i)=s.get i:=rfl
theorem G1 (P:Program) (N p:Nat) (ops:Array Oper) (rest:List Oper) (K:S → Prop) (o:Oper) (s:S) (q:PV):pgo P N p ops rest K o s (some true) (.val q)=(bp N o.dst∧fY P N p ops rest (s.put o.dst q) K):=rfl
theorem D8 (P:Program) (N p:Nat) (ops:Array Oper) (rest:List Oper) (K:S → Prop) (o:Oper) (s:S) (q:PV) (os:List Ob):pgo P N p ops rest K o s (some true) (.heap q os)=(bp N o.dst∧fY P N p ops rest (S.put ⟨s.t,os⟩ o.dst q) K):=rfl
theorem G2 (P:Program) (N p:Nat) (ops:Array Oper) (rest:List Oper) (K:S → Prop) (o:Oper) (s:S) (q:PV) (os:List Ob) (kk:Option Nat):pgo P N p ops rest K o s (some true) (.app q os kk)=(bp N o.dst∧fY P N p ops rest (S.put (s6 kk ⟨s.t,os⟩) o.dst q) K):=rfl
theorem D9 (P:Program) (N p:Nat) (ops:Array Oper) (rest:List Oper) (K:S → Prop) (o:Oper) (s:S) (r:Res):pgo P N p ops rest K o s (some false) r=(bp N o.dst∧fY P N p ops rest (s.put o.dst .undef) K):=by cases r<;>rfl
theorem Ea (P:Program) (N p:Nat) (ops:Array Oper) (rest:List Oper) (K:S → Prop) (o:Oper) (s:S):pgo P N p ops rest K o s (some true) .stop=PL P N p ops (o :: rest) s K:=rfl
theorem G3 (P:Program) (N p:Nat) (ops:Array Oper) (rest:List Oper) (K:S → Prop) (o:Oper) (s:S) (q:PV):qgo P N p ops rest K o s (some true) (.val q)=(bp N o.dst∧mR P N p ops rest (s.put o.dst q) K):=rfl
theorem Eb (P:Program) (N p:Nat) (ops:Array Oper) (rest:List Oper) (K:S → Prop) (o:Oper) (s:S) (r:Res):qgo P N p ops rest K o s (some false) r=(bp N o.dst∧mR P N p ops rest (s.put o.dst .undef) K):=by cases r<;>rfl
theorem Ec (P:Program) (N p:Nat) (ops:Array Oper) (rest:List Oper) (K:S → Prop) (o:Oper) (s:S):qgo P N p ops rest K o s (some true) .stop=QL P N p ops (o :: rest) s K:=rfl
theorem Ed (N d:Nat):bp N (some d)=(d < N):=rfl
theorem Ee (N:Nat):bp N none=True:=rfl
theorem G4 (t:Bool) (X Y:Prop):D3 (some (.c (.v (.bool t)))) X Y=((t=true → X)∧(t=false → Y)):=rfl
attribute [push_cast] v7 s7 G1 D8 G2 D9 Ea wk s8 G3 Eb Ec Ed Ee JZ IV IW S.put_none cM gd uI yh Be yi GR D1 yj GT D2 G4 wo D7 S.ev vK run1 qG uD od A4 mxP mxF mxI jU JX te IH ux IG qI mN oc AY zY ya MK.kind DC okP toD j7 Option.isNone Res.ofV Res.ofH Res.ofA Res.lit qA jW iO fR x4 x5 x3 zO vI eqEs eqE AV unP vV Dy kw fnD Dx loN faP fdP ixP vQ exP AX eX l6 dw GA iR toD j7 Dv Gq vZ srcRows wr Gl Gm s6 jX gl E.kill PV.kill Ob.kill D.e S.frz Bc uG E.frz PV.frz Ob.frz bC j9 s9 ka ei wl kG GV gP rho dE E.ren PV.ren Ob.ren og IU yk yl oh ju kE j8 IQ Ba JY leE wd leP A9 leO mQ E.keys PV.keys ta tc gQ qO
attribute [push_cast] Option.map_some Option.map_none Option.bind_some Option.bind_none List.map_cons List.map_nil List.getElem?_cons_zero List.getElem?_cons_succ List.getElem?_nil List.length_cons List.length_nil List.take_succ_cons List.take_zero List.take_nil List.drop_succ_cons List.drop_zero List.drop_nil List.set_cons_zero List.set_cons_succ List.cons_append List.nil_append List.append_nil List.all_cons List.all_nil List.getD_cons_zero List.getD_cons_succ List.getD_nil List.flatMap_cons List.flatMap_nil Bool.and_true Bool.true_and Bool.and_false Bool.false_and Bool.not_true Bool.not_false Bool.or_true Bool.true_or Bool.or_false Bool.false_or Bool.and_self decide_true decide_false true_and and_true false_and and_false and_self true_implies false_implies implies_true not_true_eq_false not_false_eq_true forall_const exists_eq_left exists_eq_right exists_eq_left' exists_eq_right' exists_const exists_eq_right_right
def mU (k:Nat):List Nat → Bool
 | []=>false
 | j :: r=>if j=k then true else mU k r
def wq:List Nat → Bool
 | []=>true
 | k :: r=>!mU k r && wq r
def ltB (n:Nat):List Nat → Bool
 | []=>true
 | k :: r=>decide (k < n) && ltB n r
def uL (p i:Nat):List Nat → Bool
 | []=>decide (p≤i)
 | k :: r=>if i < p then decide (k=i) && uL p (i+1) r else true
theorem Ah {k:Nat}:∀ {l:List Nat},mU k l=false → k ∉ l
 | [],_=>by simp
 | j :: r,h=>by
  simp only [mU] at h;split at h
  ·cases h
  ·rename_i e;simp only [List.mem_cons,not_or];exact ⟨fun h=>e h.symm,Ah h⟩
theorem mV:∀ {l:List Nat},wq l=true → l.Nodup
 | [],_=>List.nodup_nil
 | k :: r,h=>by
  simp only [wq,Bool.and_eq_true,Bool.not_eq_true'] at h;exact List.nodup_cons.2 ⟨Ah h.1,mV h.2⟩
theorem qQ {n:Nat}:∀ {l:List Nat},ltB n l=true → (l.all fun k=>decide (k < n))=true
 | [],_=>rfl
 | k :: r,h=>by
  simp only [ltB,Bool.and_eq_true] at h;simp only [List.all_cons,Bool.and_eq_true];exact ⟨h.1,qQ h.2⟩
theorem Ai {p:Nat}:∀ {l:List Nat} {i:Nat},uL p i l=true → p≤i+l.length∧∀ j,i+j < p → l.getD j 0=i+j
 | [],i,h=>by
  simp only [uL,decide_eq_true_eq] at h;exact ⟨by simpa using h,fun j hj=>by omega⟩
 | k :: r,i,h=>by
  simp only [uL] at h;split at h
  ·simp only [Bool.and_eq_true,decide_eq_true_eq] at h;obtain ⟨h1,h2⟩:=Ai h.2;refine ⟨by simp;omega,fun j hj=>?_⟩;cases j with
   | zero=>simpa using h.1
   | succ j=>have:=h2 j ac;simp only [List.getD_cons_succ];omega
  ·exact ⟨by simp;omega,fun j hj=>by omega⟩
theorem qR {p:Nat} {l:List Nat} (h:uL p 0 l=true):ju p l=true:=by
 obtain ⟨h1,h2⟩:=Ai h;simp only [ju,Bool.and_eq_true,decide_eq_true_eq,List.all_eq_true,List.mem_range,beq_iff_eq];exact ⟨ac,fun j hj=>by have:=h2 j ac;omega⟩
def J0:Option PV → Option (List Ob) → Bool → (PV → List Ob → Prop) → Prop
 | some r,some os,true,R=>∃ r2 os2,leP r r2∧mQ os os2∧R r2 os2
 | _,_,_,_=>False
def IX:Option PV → List Ob → Nat → (PV → List Ob → Prop) → List Nat → Prop
 | some r,os,p,R,kk=>J0 (oh os kk r) (gP true os kk kk) (wq kk && ltB os.length kk && uL p 0 kk) R
 | none,_,_,_,_=>False
def Lc (P:Program) (rs:List ResultVar) (p:Nat) (R:PV → List Ob → Prop) (s:S) (kk:List Nat):Prop:=IX (yl P s rs) s.o p R kk
theorem K9 {P:Program} {rs:List ResultVar} {p:Nat} {R:PV → List Ob → Prop} {s:S} (kk:List Nat) (h:Lc P rs p R s kk):La P rs p R s:=by
 unfold Lc at h;cases hr:yl P s rs with
 | none=>rw [hr] at h;exact h.elim
 | some r =>
  rw [hr] at h;simp only [IX] at h;cases h1:oh s.o kk r with
  | none=>rw [h1] at h;exact h.elim
  | some r' =>
   cases h2:gP true s.o kk kk with
   | none=>rw [h1,h2] at h;exact h.elim
   | some os' =>
    cases h3:(wq kk && ltB s.o.length kk && uL p 0 kk) with
    | false=>rw [h1,h2,h3] at h;exact h.elim
    | true =>
     rw [h1,h2,h3] at h;simp only [Bool.and_eq_true] at h3;obtain ⟨r2,os2,h4,h5,h6⟩:=h;exact ⟨kk,r,r',os',r2,os2,hr,h1,h2,mV h3.1.1,qQ h3.1.2,qR h3.2,h4,h5,h6⟩
attribute [push_cast] mU wq ltB uL Lc IX J0
section
variable {rd:Option Nat} {P:Program} {N p:Nat} {Q:Exit → S → Prop} {s:S}
structure Ix (M:List Nat):Prop where
 o:True
theorem IT {P:Program} {rs:List ResultVar} {p:Nat} {R:PV → List Ob → Prop} {s:S} {kk:List Nat} (_:Ix kk) (h:Lc P rs p R s kk):La P rs p R s:=K9 kk h
theorem am (M:List Nat) {p:Prop} (k:Ix M → p:=by
 intro e;refine IT e ?_;push_cast [O,U]):p:=k ⟨trivial⟩
theorem aA {p:Prop} (k:p:=by
 refine weak_fg ?_;push_cast [O,U]):p:=k
theorem dh {c:Code} {α:Type} (Φ:α → Prop) (St:α → S) (μ:α → Nat) (x0:α) (h0:Φ x0) (hw:bg N p s (St x0))
  (round:∀ x,Φ x → aL rd P N p c (lQ (fun s'=>∃ x',Φ x'∧bg N p s' (St x')∧μ x' < μ x) Q) (St x)):aL rd P N p (.loop c) Q s:=by
 refine aF hw (D4 (fun s=>∃ x,Φ x∧s=St x) (fun s=>leastOf fun n=>∃ x,Φ x∧s=St x∧μ x=n) ⟨x0,h0,rfl⟩ ?_);intro s1 hs1;have hex:∃ n,∃ x,Φ x∧s1=St x∧μ x=n:=by obtain ⟨x,h1,h2⟩:=hs1;exact ⟨_,x,h1,h2,rfl⟩
 obtain ⟨⟨x,h1,h2,h3⟩,_⟩:=leastOf_spec hex;subst h2;refine qN (round x h1) ?_;intro e s2 hq;cases e with
 | normal =>
  obtain ⟨x',h4,h5,h6⟩:=hq;refine ⟨St x',h5,⟨x',h4,rfl⟩,?_⟩;have:=(leastOf_spec (p:=fun n=>∃ y,Φ y∧St x'=St y∧μ y=n) ⟨_,x',h4,rfl,rfl⟩).2 _ ⟨x',h4,rfl,rfl⟩;show leastOf _ < leastOf _;omega
 | exit j=>exact hq
 | goto l=>exact hq
 | ret=>exact hq
 | panic ch=>exact hq
 | outgrown=>exact hq
def fgG (s s':S) (p:Nat):Prop:=Ba s s'.t∧mQ (s.o.take s'.o.length) s'.o∧p≤s'.o.length∧(s'.t.all fun x=>j8 s'.o.length x.2)=true∧s'.o.all (IQ s'.o.length)=true
theorem weak_fg {s':S} (h:fgG s s' p):bg N p s s':=wi h.1 h.2.1 h.2.2.1 h.2.2.2.1 h.2.2.2.2
end
attribute [push_cast] fgG Option.some.injEq PV.c.injEq PV.agg.injEq PV.two.injEq PV.three.injEq E.v.injEq E.own.injEq E.ptr.injEq E.row.injEq E.orow.injEq E.mp.injEq E.seg.injEq Ob.map.injEq MK.s.injEq MK.i.injEq E.sl.injEq E.full.injEq Value.int.injEq Value.bool.injEq Value.string.injEq Ob.arr.injEq Ob.box.injEq S.mk.injEq Prod.mk.injEq List.cons.injEq D.v.injEq D.sl.injEq
def Iy:Option (List PV) → List PV → Prop
 | some a,b=>A9 a b
 | none,_=>False
def yn:Option (List Ob) → List Ob → Prop
 | some a,b=>mQ a b
 | none,_=>False
def isT:Option Bool → Prop
 | some b=>b=true
 | none=>False
def o8 (N:Nat) (ops:Array Oper) (s:S) (o:Oper) (v:Bool) (ks:List Nat) (xs:List (Option PV)) (args':List PV) (os':List Ob):Prop :=
 isT (gd ops s o.guard)∧bp N o.dst∧Iy (kG v s.o ks xs) args'∧yn (gP v s.o ks ks) os'∧(wq ks && ltB s.o.length ks)=true
section
variable {P:Program} {N p:Nat} {ops:Array Oper} {rest:List Oper} {o:Oper} {s:S} {K:S → Prop}
theorem aW {f:Operand} {args:Array Operand} {tys:Array TypeId} {g:FuncId} {ds:List D} {cap:List Nat} (v:Bool) (ks:List Nat) {args':List PV} {os':List Ob} {R:PV → List Ob → Prop}
  (ho:o.op = .call ⟨.value f,args,tys⟩) (hf:s.ev f=some (.c (.fn (.func g) ds cap))) (hb:dK P g=true) (hc:ah P g args' os' R)
  (hG:o8 N ops s o v ks (bC s ds args.toList cap) args' os')
  (hfl:v=true → ∀ r os'',R r os'' → gQ r=true∧os''.all qO=true)
  (hK:∀ r os'',R r os'' → PL P N p ops rest (S.put ⟨s.t,dE (rho ks s.o.length) s.o ks os''⟩ o.dst (r.ren (rho ks s.o.length))) K):PL P N p ops (o :: rest) s K:=by
 obtain ⟨h1,h2,h3,h4,h5⟩:=hG;cases e1:gd ops s o.guard with
 | none=>rw [e1] at h1;exact h1.elim
 | some b =>
  rw [e1] at h1;simp only [isT] at h1;subst h1;cases e2:kG v s.o ks (bC s ds args.toList cap) with
  | none=>rw [e2] at h3;exact h3.elim
  | some a =>
   cases e3:gP v s.o ks ks with
   | none=>rw [e3] at h4;exact h4.elim
   | some q =>
    rw [e2] at h3;rw [e3] at h4;simp only [Bool.and_eq_true] at h5;exact GX v ks ho e1 hf hb h2 e2 h3 e3 h4 hc (mV h5.1) (qQ h5.2) hfl hK
theorem aQ {f:Operand} {args:Array Operand} {tys:Array TypeId} {g:FuncId} {ds:List D} {cap:List Nat} {args':List PV} (z:Bool) {R:PV → List Ob → Prop} {x:Value}
  (ho:o.op = .call ⟨.value f,args,tys⟩) (hf:s.ev f=some (.c (.fn (.func g) ds cap))) (hb:dK P g=true) (hc:ah P g args' [] R) (hR:∀ r os'',R r os'' → r = .c (.v x)) (hx:x.oneCell'=true)
  (hG:o8 N ops s o true [] (bC s ds args.toList cap) args' [])
  (hK:QL P N p ops rest (s.put o.dst (.c (.v x))) K):QL P N p ops (o :: rest) s K:=by
 obtain ⟨h1,h2,h3,_,_⟩:=hG;cases e1:gd ops s o.guard with
 | none=>rw [e1] at h1;exact h1.elim
 | some b =>
  rw [e1] at h1;simp only [isT] at h1;subst h1;cases e2:kG true s.o [] (bC s ds args.toList cap) with
  | none=>rw [e2] at h3;exact h3.elim
  | some a =>
   rw [e2] at h3;exact GY ho e1 hf hb h2 e2 h3 hc hR hx hK
end
attribute [push_cast] o8 Iy yn isT
def Ef:Option PV → PV → Prop
 | some a,b=>leP a b
 | none,_=>False
def G5 (v:Bool) (ks:List Nat) (s:S):List (Nat × PV) → Prop
 | []=>True
 | (i,q) :: t=>Ef (wl v s.o ks (s.get i)) q∧G5 v ks s t
theorem ti {v:Bool} {ks:List Nat} {s:S}:∀ {t:List (Nat × PV)} {i:Nat} {q:PV},G5 v ks s t → cM t i=some q → ∃ a,wl v s.o ks (s.get i)=some a∧leP a q
 | [],i,q,_,h=>by simp [cM] at h
 | (j,r) :: t,i,q,hs,h=>by
  simp only [cM] at h;split at h
  ·rename_i e;cases h;have h1:=hs.1;cases hg:wl v s.o ks (s.get j) with
   | none=>rw [hg] at h1;exact h1.elim
   | some a=>rw [hg] at h1;subst e;exact ⟨a,hg,h1⟩
  ·exact ti hs.2 h
def Eg (v:Bool) (ks:List Nat) (s s':S) (p:Nat):Prop:=G5 v ks s s'.t∧yn (gP v s.o ks ks) s'.o∧(wq ks && ltB s.o.length ks && uL p 0 ks)=true
theorem gz {N p:Nat} {s s':S} (v:Bool) (ks:List Nat) (h:Eg v ks s s' p):bg N p s s':=by
 obtain ⟨h1,h2,h3⟩:=h;simp only [Bool.and_eq_true] at h3;have hnd:=mV h3.1.1;have hf:=qR h3.2;simp only [ju,Bool.and_eq_true,decide_eq_true_eq,List.all_eq_true,List.mem_range,beq_iff_eq] at hf;intro Γ a w hA;have hks:∀ k ∈ ks,k < Γ.n:=fun k hk=>by rw [hA.inv.m.n];simpa using List.all_eq_true.1 (qQ h3.1.2) k hk
 have hget:∀ j,j < ks.length → ks.getD j 0 ∈ ks:=fun j hj=>by simp [List.getD,hj]
 cases e3:gP v s.o ks ks with
 | none=>rw [e3] at h2;exact h2.elim
 | some os2 =>
  rw [e3] at h2;have hm:=kD h2 (lr (v:=v) hA.inv.m hks hnd e3);refine ⟨eE v ks Γ,⟨⟨hA.inv.size,hA.inv.defers,fun i q hq=>?_,hm⟩,hf.1⟩,⟨Ext.refl _ _,fun b hb=>.inl hb,fun k hk hc=>.inl ⟨ks.getD k 0,hks _ (hget k hk),hc,rfl⟩,fun b hb=>?_,fun k hk=>?_⟩⟩
  ·obtain ⟨b,hb,hle⟩:=ti h1 hq;cases hg:s.get i with
   | none=>rw [hg] at hb;simp [wl] at hb
   | some r =>
    obtain ⟨i1,i2⟩:=hA.inv.t i r hg;refine ⟨i1,gi hle (Ae (v:=v) hA.inv.m hks (q:=some r) (by rw [← hg];exact hb) fun r' hr'=>by cases hr';exact i2)⟩
  ·rcases hb with hb|⟨_,hb,_⟩
   ·exact .inl hb
   ·exact .inr (.inl hb)
  ·have h4:=hf.2 k hk;exact ⟨congrArg Γ.β h4,congrArg Γ.cap h4⟩
attribute [push_cast] Ef G5 Eg uA vT
theorem IY {α:Type} (l:List α):(l.all fun _=>true)=true:=by induction l<;>simp_all
attribute [push_cast] IY List.all_map Function.comp_def
theorem Bg {α:Type} [Inhabited α] (f:α → List D) (l:List α) (k:Nat):(l.map f).getD k []=if k < l.length then f (l.getD k default) else []:=by
 split
 ·rename_i h;simp [List.getD,h]
 ·rename_i h;simp [List.getD,h]
theorem ai {α:Type} [Inhabited α] (l:List α) {k:Nat} (h:k < l.length):l.getD k default=l[k]:=by simp [List.getD,h]
theorem Eh {r:PV} {os:List Ob} {X:PV} {Y:List Ob}:(∃ r2 os2,leP r r2∧mQ os os2∧r2=X∧os2=Y)=(leP r X∧mQ os Y) :=
 propext ⟨fun ⟨_,_,h1,h2,h3,h4⟩=>by subst h3;subst h4;exact ⟨h1,h2⟩,fun ⟨h1,h2⟩=>⟨_,_,h1,h2,rfl,rfl⟩⟩
theorem btt:(true == true)=true:=rfl
theorem btf:(true == false)=false:=rfl
theorem bft:(false == true)=false:=rfl
theorem bff:(false == false)=true:=rfl
theorem IZ (x y:Option PV):oZ (some (.c (.v (.bool true)))) x y=x:=rfl
theorem I0 (x y:Option PV):oZ (some (.c (.v (.bool false)))) x y=y:=rfl
theorem Ei (p:Prop) [Decidable p] (x y:Option PV):oZ (some (.c (.v (.bool (decide p))))) x y=if p then x else y:=by by_cases h:p<;>simp [h,oZ]
attribute [push_cast] IZ I0 Ei
theorem Bh (p:Prop) [Decidable p]:(decide p == true)=if p then true else false:=by by_cases h:p<;>simp [h]
theorem Bi (p:Prop) [Decidable p]:(decide p == false)=if p then false else true:=by by_cases h:p<;>simp [h]
attribute [push_cast] Bh Bi
theorem Ej (ag:Bool) (z:PV) (ok:Bool) (row:List D):lkP ag z ok (some row)=(DC ag row).map (okP ok true):=rfl
theorem Ek (ag:Bool) (z:PV) (ok:Bool):lkP ag z ok none=some (okP ok false z):=rfl
attribute [push_cast] Ej Ek
attribute [push_cast] btt btf bft bff true_or or_true or_false false_or Int.zero_add
theorem G6 {α:Type} (f:α → E) (l:List α) (k:Nat) (x:E):(l.map f).take k++x :: (l.map f).drop (k+1)=if k < l.length then (l.map f).set k x else l.map f++[x]:=by
 split
 ·rename_i h;rw [List.set_eq_take_append_cons_drop,if_pos (by simpa using h)]
 ·rename_i h;rw [List.take_of_length_le (by simp;omega),List.drop_of_length_le (by simp;omega)]
theorem qS {α:Type} (v:Bool) (os:List Ob) (ks:List Nat) (g:α → Value) (l:List α):ei v os ks (l.map fun b=>E.v (g b))=some (l.map fun b=>E.v (g b)):=by
 induction l with
 | nil=>rfl
 | cons a l ih=>simp only [List.map_cons,ei,ka,ih]
theorem Bj (l:List E):wd l l=True:=by
 have h:wd l l:=bT l;simp [h]
attribute [push_cast] List.length_take List.length_drop G6 qS Bj List.map_set List.map_map List.length_set List.length_replicate List.map_replicate Nat.mul_one Nat.zero_add Int.toNat_natCast
attribute [push_cast] Bg List.length_map Eh List.length_append List.map_append List.take_of_length_le Nat.le_refl List.getElem?_toArray Int.add_sub_cancel List.append_eq BEq.rfl
theorem qT {P:Program} {o:Oper} {a:Act} {w:World} {K K':Act → World → Prop} {Q Q':Exit → Act → World → Prop} (h:∀ a w,K a w → K' a w) (hq:∀ e a w,e≠.normal → ¬ Q e a w)
  (hh:o.wpIn (Fw none) 0 P a w K Q):o.wpIn (Fw none) 0 P a w K' Q':=by
 refine ⟨fun _ _=>trivial,?_⟩;have hh:=hh.2;generalize (o.semAt (Fw none).round a.eval).run P w=r at *;cases r with
 | ok n w' =>
  cases n with
  | value v=>exact h _ _ hh
  | skip=>exact h _ _ hh
  | defer d=>exact h _ _ hh
  | enter f args =>
   simp only [Oper.uponIn] at hh ⊢;refine ⟨hh.1,CallsIn.mono hh.2 fun e w'' he=>?_⟩;cases e with
   | returned v=>exact h _ _ he
   | panicked ch=>exact absurd he (hq _ _ _ (by simp))
   | outgrown=>obtain ⟨a',w3,h3⟩:=he;exact absurd h3 (hq _ _ _ (by simp))
  | row r args =>
   simp only [Oper.uponIn] at hh ⊢;exact ⟨hh.1,RowsIn.mono hh.2 fun _ _ he=>h _ _ he⟩
  | round l f tmps assign body =>
   simp only [Oper.uponIn] at hh ⊢;refine ⟨hh.1,RoundIn.mono hh.2 fun e w'' he=>?_⟩;cases e with
   | returned v=>exact h _ _ he
   | panicked ch=>exact absurd he (hq _ _ _ (by simp))
   | outgrown=>obtain ⟨a',w3,h3⟩:=he;exact absurd h3 (hq _ _ _ (by simp))
  | _=>exact hh.elim
 | halt x w' =>
  cases x with
  | panic v=>exact absurd hh (hq _ _ _ (by simp))
  | _=>exact hh.elim
theorem o9 {P:Program} {o:Oper} (h:vW o.op=true) (w:World) (ρ:Operand → Value):o.about P w ρ=none:=by
 unfold Oper.about;split
 ·rename_i c hc;rw [hc] at h;unfold vW at h;split at h<;>first|(cases h;done)|skip
  all_goals (rename_i e;first|(cases e;simp [resolve,Target.leads])|(cases e))
 ·rfl
section
variable {P:Program} {N p:Nat} {ops:Array Oper} {s:S} {K:S → Prop} {fuel:Nat} {listed:Array Bool}
def PA (P:Program) (N p:Nat) (ops:Array Oper) (fuel:Nat) (listed:Array Bool) (s:S) (K:S → Prop):Prop :=
 ∀ (Γ:G) (a:Act) (w:World) (Q:Exit → Act → World → Prop),dl N p Γ s a w → (∀ s' Γ' a' w',K s' → dl N p Γ' s' a' w' → cq p Γ w Γ' w' → a'.defers=a.defers → Q .normal a' w') → wpAnyIn (Fw none) 0 P .any ops Q fuel listed a w
theorem Aj (hr:Region.ready .any ops listed=[]) (h:K s):PA P N p ops fuel listed s K:=fun Γ a w Q hA hK=>by
 have:=hK s Γ a w h hA (cq.refl _ _ _) rfl;cases fuel with
 | zero=>exact ⟨hr,this⟩
 | succ f=>exact ⟨fun _=>this,fun i hi=>by rw [hr] at hi;cases hi⟩
def Em (P:Program) (N p:Nat) (ops:Array Oper) (fuel:Nat) (listed:Array Bool) (s:S) (K:S → Prop) (i:Nat):Option Oper → Prop
 | some o=>fY P N p ops [o] s (fun s'=>PA P N p ops fuel (listed.setIfInBounds i true) s' K)
 | none=>False
def wt (P:Program) (N p:Nat) (ops:Array Oper) (fuel:Nat) (listed:Array Bool) (s:S) (K:S → Prop):List Nat → Prop
 | []=>True
 | i :: r=>Em P N p ops fuel listed s K i ops[i]?∧wt P N p ops fuel listed s K r
theorem tj:∀ {l:List Nat},wt P N p ops fuel listed s K l → ∀ i ∈ l,Em P N p ops fuel listed s K i ops[i]?
 | [],_,i,hi=>by cases hi
 | j :: r,h,i,hi=>by
  rcases List.mem_cons.1 hi with rfl|hi
  ·exact h.1
  ·exact tj h.2 i hi
theorem bv (l:List Nat) (hr:Region.ready .any ops listed=l) (hl:l.isEmpty=false) (h:wt P N p ops fuel listed s K l):PA P N p ops (fuel+1) listed s K:=fun Γ a w Q hA hK=>by
 refine ⟨fun h0=>?_,fun i hi=>?_⟩
 ·rw [hr] at h0;subst h0;cases hl
 ·rw [hr] at hi;have h1:=tj h i hi;unfold wpOpIn;cases ho:ops[i]? with
  | none=>rw [ho] at h1;exact h1.elim
  | some o =>
   rw [ho] at h1;have h2:=an h1 Γ a w (fun e a' w'=>e = .normal∧wpAnyIn (Fw none) 0 P .any ops Q fuel (listed.setIfInBounds i true) a' w') hA (fun s' Γ' a' w' hk hA' hg hd=>⟨rfl,hk Γ' a' w' Q hA' fun s'' Γ'' a'' w'' hk' hA'' hg' hd'=>hK s'' Γ'' a'' w'' hk' hA'' (hg.trans hg') (hd'.trans hd)⟩);unfold wpListIn at h2;simp only [];split
   ·rename_i hw;rw [if_pos hw] at h2;exact qT (fun a' w' h=>h.2) (fun e a' w' hne h=>hne h.1) h2
   ·rename_i hw;rw [if_neg hw] at h2;exact ⟨h2.1,h2.2.2⟩
def nrm (Q:Exit → Act → World → Prop):Exit → Act → World → Prop:=fun e a w=>e = .normal∧Q .normal a w
theorem iW {Q:Exit → Act → World → Prop}:∀ {fuel:Nat} {listed:Array Bool} {a:Act} {w:World},wpAnyIn (Fw none) 0 P .any ops (nrm Q) fuel listed a w → wpAnyIn (Fw none) 0 P .any ops Q fuel listed a w
 | 0,_,_,_,h=>⟨h.1,h.2.2⟩
 | fuel+1,listed,a,w,h=>⟨fun h0=>(h.1 h0).2,fun i hi=>by
  have h1:=h.2 i hi;unfold wpOpIn at h1 ⊢;split
  ·rename_i ho;rw [ho] at h1;exact iW h1
  ·rename_i o ho;rw [ho] at h1;simp only at h1;split
   ·rename_i hw;rw [if_pos hw] at h1;exact qT (fun _ _ h=>iW h) (fun e a' w' hne h=>hne h.1) h1
   ·rename_i hw;rw [if_neg hw] at h1;exact ⟨h1.1,iW h1.2⟩⟩
def yo (ops:Array Oper) (i:Nat):Bool:=match ops[i]? with
 | some o=>vW o.op
 | none=>false
def hoR (P:Program) (N p:Nat) (ops:Array Oper) (fuel:Nat) (listed:Array Bool) (s:S) (K:S → Prop) (i:Nat) (o:Oper):Option Bool → Res → Prop
 | some true,.val q=>bp N o.dst∧PA P N p ops fuel (listed.setIfInBounds i true) (s.put o.dst q) K
 | some false,_=>bp N o.dst∧PA P N p ops fuel (listed.setIfInBounds i true) (s.put o.dst .undef) K
 | _,_=>False
def hoG (P:Program) (N p:Nat) (ops:Array Oper) (fuel:Nat) (listed:Array Bool) (s:S) (K:S → Prop) (i:Nat):Option Oper → Prop
 | some o=>hoR P N p ops fuel listed s K i o (gd ops s o.guard) (run1 P p s o.op)
 | none=>False
theorem aY (i:Nat) (hB:(Region.noSelect ops && (Region.ready .any ops listed).contains i && Region.free .any ops listed i && yo ops i)=true) (h:hoG P N p ops fuel listed s K i ops[i]?):PA P N p ops (fuel+1) listed s K:=fun Γ a w Q hA hK=>by
 simp only [Bool.and_eq_true,List.contains_iff_mem] at hB;obtain ⟨⟨⟨b1,b2⟩,b3⟩,b4⟩:=hB;cases ho:ops[i]? with
 | none=>rw [ho] at h;exact h.elim
 | some o =>
  rw [ho] at h;have hf:vW o.op=true:=by unfold yo at b4;rw [ho] at b4;exact b4
  change hoR P N p ops fuel listed s K i o (gd ops s o.guard) (run1 P p s o.op) at h;refine iW ?_;have hQ:∀ (v:Value) c a' w',nrm Q (.panic c) (a'.put o.dst v) w' → nrm Q (.panic c) a' w':=fun v c a' w' h=>absurd h.1 (by simp)
  unfold hoR at h;split at h
  ·rename_i q hg hr;obtain ⟨hd,hn⟩:=h;obtain ⟨y,h1,h2⟩:=AW hf (kC hr) hA.inv;refine wpAnyIn_first rfl ho (Region.noSelect_spec b1) (hQ y) fuel listed a w (Region.free_spec ho b3) b2 ⟨.inl ⟨fG hg hA.inv,h2⟩,fun w=>o9 hf w _⟩ ?_;exact hn Γ _ w _ ⟨hA.inv.put (ec hd) h1,hA.le⟩ fun s' Γ' a' w' hk ha hg' hd'=>⟨rfl,hK s' Γ' a' w' hk ha hg' (hd'.trans (bK _ _ _))⟩
  ·rename_i r hg;obtain ⟨hd,hn⟩:=h;refine wpAnyIn_first rfl ho (Region.noSelect_spec b1) (hQ Go.undef) fuel listed a w (Region.free_spec ho b3) b2 ⟨.inr ⟨fG hg hA.inv,rfl⟩,fun w=>o9 hf w _⟩ ?_;exact hn Γ _ w _ ⟨hA.inv.put (ec hd) rfl,hA.le⟩ fun s' Γ' a' w' hk ha hg' hd'=>⟨rfl,hK s' Γ' a' w' hk ha hg' (hd'.trans (bK _ _ _))⟩
  ·exact h.elim
theorem aC {s':S} (hw:bg N p s s') (h:PA P N p ops fuel listed s' K):PA P N p ops fuel listed s K:=fun Γ a w Q hA hK=>by
 obtain ⟨Γ1,h1,g1⟩:=hw Γ a w hA;exact h Γ1 a w Q h1 fun s2 Γ2 a2 w2 hk hA2 hg hd=>hK s2 Γ2 a2 w2 hk hA2 (g1.trans hg) hd
theorem bw {f0:Nat} {l0:Array Bool} {s0:S} (fuel:Nat) (listed:Array Bool) (s:S) (h:PA P N p ops fuel listed s K → PA P N p ops f0 l0 s0 K) (h2:PA P N p ops fuel listed s K):PA P N p ops f0 l0 s0 K:=h h2
theorem ar {f0 fuel:Nat} {l0 listed:Array Bool} {s0 s:S} (h:PA P N p ops fuel listed s K → PA P N p ops f0 l0 s0 K) (h2:PA P N p ops fuel listed s K):PA P N p ops f0 l0 s0 K:=h h2
theorem aO {rd:Option Nat} {Q:Exit → S → Prop} {id:Nat} {l:List Oper} (hmp:(P.follows .mixedOrders && gj l)=true) (h:PA P N p l.toArray l.length (Array.replicate l.length false) s (fun s'=>Q .normal s')):aL rd P N p (.region id l.toArray true) Q s:=fun z Γ a w hA hD=>by
 simp only [Bool.and_eq_true] at hmp;refine wpIn_region_any hmp.1 (qL (by simpa using hmp.2) ?_);have hX:Ext No w { w with drawn:=w.drawn+1 }:=(Ext.refl No w).drew;exact h Γ a _ _ ⟨hA.inv.same (bS.of_ext hX),hA.le⟩ fun s' Γ' a' w' hk hA' hg hd=>⟨s',Γ',hk,hA',(ep hX).trans hg,hD.grow ((ep (p:=p) hX).trans hg) hd⟩
theorem ak {rd:Option Nat} {Q:Exit → S → Prop} {id:Nat} {l:List Oper} (s1:S) (hmp:(P.follows .mixedOrders && gj l)=true) (h:PA P N p l.toArray l.length (Array.replicate l.length false) s (fun s'=>bg N p s' s1)) (hq:Q .normal s1):aL rd P N p (.region id l.toArray true) Q s:=fun z Γ a w hA hD=>by
 simp only [Bool.and_eq_true] at hmp;refine wpIn_region_any hmp.1 (qL (by simpa using hmp.2) ?_);have hX:Ext No w { w with drawn:=w.drawn+1 }:=(Ext.refl No w).drew;refine h Γ a _ _ ⟨hA.inv.same (bS.of_ext hX),hA.le⟩ fun s' Γ' a' w' hk hA' hg hd=>?_
 obtain ⟨Γ2,hA2,hg2⟩:=hk Γ' a' w' hA';exact ⟨s1,Γ2,hq,hA2,(ep hX).trans (hg.trans hg2),hD.grow ((ep (p:=p) hX).trans (hg.trans hg2)) hd⟩
end
attribute [push_cast] Em wt hoG hoR
attribute [local irreducible] PA
end Go.Proofs.YtmbbkfffcflfcaaGreatDoor
