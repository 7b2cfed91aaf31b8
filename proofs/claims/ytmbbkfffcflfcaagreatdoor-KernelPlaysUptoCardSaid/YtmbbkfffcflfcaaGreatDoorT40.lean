/- What the program computes, and the plain laws of it, part 40. -/
import Derived.Lib.ItoaNum
import Derived.WideKeyEntry
import Derived.Test.YtmbbkfffcflfcaaGreatDoorT39
namespace Go.Proofs.YtmbbkfffcflfcaaGreatDoor
open Nat renaming reduceAdd → rA
open Go.Proofs.Tryz
set_option linter.unusedSimpArgs false
set_option linter.unusedVariables false
open Go.RowKit
open IntWalk renaming iteOmega → O, toNatUp → U
section
def nQ:Sem Next → Prop
 | .pure (.value _)=>True
 | .pure .skip=>True
 | .pure _=>False
 | .load _ _ k=>∀ v,nQ (k v)
 | .new _ k=>∀ n,nQ (k n)
 | .shape _ k=>∀ s,nQ (k s)
 | .program k=>∀ p,nQ (k p)
 | .choose _ k=>∀ n,nQ (k n)
 | .frozen _ k=>∀ b,nQ (k b)
 | .getObj _ k=>∀ o,nQ (k o)
 | .mark _ k=>nQ k
 | .halt _=>True
 | _=>False
def aI {α:Type}:Sem α → Prop
 | .pure _=>True
 | .load _ _ k=>∀ v,aI (k v)
 | .new _ k=>∀ n,aI (k n)
 | .shape _ k=>∀ s,aI (k s)
 | .program k=>∀ p,aI (k p)
 | .choose _ k=>∀ n,aI (k n)
 | .frozen _ k=>∀ b,aI (k b)
 | .getObj _ k=>∀ o,aI (k o)
 | .mark _ k=>aI k
 | .halt _=>True
 | _=>False
theorem aI.bind {α β:Type} {f:α → Sem β} (hf:∀ a,aI (f a)):∀ {s:Sem α},aI s → aI (s.bind f)
 | .pure a,_=>hf a
 | .load _ _ k,h=>fun v=>aI.bind hf (h v)
 | .new _ k,h=>fun n=>aI.bind hf (h n)
 | .shape _ k,h=>fun s=>aI.bind hf (h s)
 | .program k,h=>fun p=>aI.bind hf (h p)
 | .choose _ k,h=>fun n=>aI.bind hf (h n)
 | .frozen _ k,h=>fun b=>aI.bind hf (h b)
 | .getObj _ k,h=>fun o=>aI.bind hf (h o)
 | .mark _ k,h=>aI.bind (s:=k) hf h
 | .halt _,_=>trivial
theorem aI.val {f:Value → Next} (hf:∀ a,∃ v,f a = .value v):∀ {s:Sem Value},aI s → nQ (s.bind fun a=>.pure (f a))
 | .pure a,_=>by
  obtain ⟨v,e⟩:=hf a;show nQ (.pure (f a));rw [e];trivial
 | .load _ _ k,h=>fun v=>aI.val hf (h v)
 | .new _ k,h=>fun n=>aI.val hf (h n)
 | .shape _ k,h=>fun s=>aI.val hf (h s)
 | .program k,h=>fun p=>aI.val hf (h p)
 | .choose _ k,h=>fun n=>aI.val hf (h n)
 | .frozen _ k,h=>fun b=>aI.val hf (h b)
 | .getObj _ k,h=>fun o=>aI.val hf (h o)
 | .mark _ k,h=>aI.val (s:=k) hf h
 | .halt _,_=>trivial
theorem CM {a:Next} (h:nQ (.pure a)):(∃ v,a = .value v)∨a = .skip:=by
 cases a with
 | value v=>exact .inl ⟨v,rfl⟩
 | skip=>exact .inr rfl
 | _=>exact h.elim
theorem FP {P:Program} (s:Sem Next):∀ {w w':World} {x:Next},nQ s → s.run P w = .ok x w' → bS w w'∧((∃ v,x = .value v)∨x = .skip):=by
 induction s with
 | pure a =>
  intro w w' x h hr;rw [Sem.run] at hr;cases hr;exact ⟨bS.refl _,CM h⟩
 | load m a k ih =>
  intro w w' x h hr;rw [Sem.run] at hr;split at hr
  ·exact ih _ (h _) hr
  ·split at hr
   ·exact ih _ (h _) hr
   ·cases hr
 | new o k ih =>
  intro w w' x h hr;rw [Sem.run] at hr;obtain ⟨h1,h2⟩:=ih _ (h _) hr;refine ⟨bS.trans ⟨by simp,fun b hb=>?_⟩ h1,h2⟩;simp only [Array.getElem?_push];rw [if_neg ac]
 | shape r k ih =>
  intro w w' x h hr;rw [Sem.run] at hr;exact ih _ (h _) hr
 | program k ih =>
  intro w w' x h hr;rw [Sem.run] at hr;exact ih _ (h _) hr
 | choose q k ih =>
  intro w w' x h hr;rw [Sem.run] at hr;split at hr
  ·exact ih _ (h _) hr
  ·obtain ⟨h1,h2⟩:=ih _ (h _) hr;exact ⟨⟨h1.size,h1.block⟩,h2⟩
 | frozen a k ih =>
  intro w w' x h hr;rw [Sem.run] at hr;exact ih _ (h _) hr
 | getObj r k ih =>
  intro w w' x h hr;rw [Sem.run] at hr;split at hr
  ·cases hr
  ·exact ih _ (h _) hr
  ·cases hr
 | mark m k ih =>
  intro w w' x h hr;rw [Sem.run] at hr;exact ih h hr
 | halt h0 =>
  intro w w' x h hr;rw [Sem.run] at hr;cases hr
 | _=>intro w w' x h hr;exact h.elim
def zt (c:Call):Bool:=match c.callee with
 | .builtin .append=>match c.args.toList with
  | [.const (.slice none 0 0),_]=>true
  | _=>false
 | _=>false
def se:Op → Bool
 | .move _=>true
 | .assign _=>true
 | .load .. => true
 | .alloc _=>true
 | .call c=>zt c
 | _=>false
theorem uq (m:Mode) (a:Addr):aI (Sem.load m a Sem.pure):=fun v=>trivial
theorem mE (a:Addr):∀ (n i:Nat) (acc:Array Value),aI (loadCellsFrom a i n acc)
 | 0,i,acc=>trivial
 | n+1,i,acc=>aI.bind (fun v=>mE a n (i+1) _) (uq _ _)
theorem oV (t:TypeId):aI (typeInfo t):=aI.bind (s:=program) (fun p=>by
 cases p.info? t<;>exact trivial) (fun p=>trivial)
theorem mF (t:TypeId):aI (underlying t):=aI.bind (s:=program) (fun p=>by
 cases p.underlying t<;>exact trivial) (fun p=>trivial)
theorem FQ (t:TypeId):aI (isAgg t):=aI.bind (fun d=>by cases d<;>exact trivial) (mF t)
theorem us (t:TypeId):aI (sizeOf t):=by
 refine aI.bind (s:=typeInfo t) ?_ (oV t);intro i;exact trivial
theorem vv (t:TypeId) (a:Addr):aI (loadVar t a):=by
 refine aI.bind (s:=isAgg t) ?_ (FQ t);intro b;cases b
 ·exact uq _ _
 ·refine aI.bind (s:=sizeOf t) ?_ (us t);intro n;refine aI.bind (s:=loadCells a n) ?_ (mE a n 0 #[]);intro x;exact trivial
theorem xG (t:TypeId) (v:Value):aI (Instr.loadAt t v):=by
 refine aI.bind (s:=Instr.sureAddr v) ?_ ?_
 ·intro a;exact vv t a
 ·unfold Instr.sureAddr;split<;>exact trivial
theorem oW (t:TypeId):aI (zeroValue t):=by
 refine aI.bind (s:=typeInfo t) ?_ (oV t);intro i;cases i.zero<;>exact trivial
theorem FR (t:TypeId) (v:Value):aI (newVar t v):=by
 refine aI.bind (s:=newObj (.cells v.cells t)) ?_ (fun n=>trivial);intro n;exact trivial
theorem zu (t:TypeId):aI (Instr.alloc t true (.tuple #[])):=by
 refine aI.bind (s:=zeroValue t) ?_ (oW t);intro z;refine aI.bind (s:=newVar t z) ?_ (FR t z);intro a;exact trivial
theorem aI.ite {α:Type} {c:Prop} [Decidable c] {a b:Sem α} (ha:aI a) (hb:aI b):aI (if c then a else b):=by
 by_cases h:c
 ·rw [if_pos h];exact ha
 ·rw [if_neg h];exact hb
theorem sf {α:Type} (m:String):aI (runtimePanic (α:=α) (.error m)):=by
 unfold runtimePanic;refine aI.bind (s:=program) ?_ (fun p=>trivial);intro p;exact trivial
theorem zw (a:Addr) (n:Nat):aI (Builtin.holdsCells a n):=by
 unfold Builtin.holdsCells;refine aI.bind (s:=shape a.block) ?_ (fun p=>trivial);intro o;split<;>exact trivial
theorem zx (size n:Nat) (x:Value):aI (Builtin.mayShare size 0 n none x):=by
 unfold Builtin.mayShare;refine aI.bind ?_ (s:=pure true) trivial;intro b;dsimp only;split
 ·exact trivial
 ·split
  ·refine aI.bind ?_ (zw _ _);intro c;exact trivial
  ·exact trivial
theorem sg (size n:Nat) (x:Value):aI (Builtin.firstCells size n x):=by
 unfold Builtin.firstCells;split
 ·exact mE _ _ 0 #[]
 ·exact trivial
 ·exact trivial
 ·exact trivial
theorem FS (x:Value):aI (Builtin.lenOf x):=by
 unfold Builtin.lenOf;split<;>exact trivial
theorem FT (x:Value):aI (asInt x):=by
 unfold asInt;refine aI.bind ?_ (s:=asIntOf x) ?_
 ·intro y;exact trivial
 ·unfold asIntOf;split<;>exact trivial
theorem H9 {α:Type} (a:α):aI (pure a:Sem α):=trivial
theorem JG {α:Type} (u:Unsupported):aI (unsupported u:Sem α):=trivial
theorem CN (q:Question):aI (choose q):=fun n=>trivial
theorem Ia (m:Mark):aI (mark m):=trivial
theorem Ib (n:Nat):aI (askRoom n):=aI.ite trivial trivial
theorem JH (t:TypeId) (c:Array Value):aI (newRow t c):=by
 refine aI.bind (s:=newObj (.cells c t)) ?_ (fun n=>trivial);intro n;exact trivial
theorem CO (zr:Bool) (sz n:Nat) (x:Value) (e:TypeId):aI (if (!zr)=true then Builtin.firstCells sz n x else if n * sz=0 then pure #[] else do pure (Builtin.zeroCells (← zeroValue e).cells n)):=by
 refine aI.ite (sg _ _ _) (aI.ite trivial ?_);refine aI.bind ?_ (oW _);intro z;exact trivial
set_option maxHeartbeats 4000000 in
theorem xH (tys:Array TypeId) (t:TypeId) (x:Value):aI (Builtin.append_ tys t #[.slice none 0 0,x]):=by
 unfold Builtin.append_;cases tys[0]? with
 | none=>exact trivial
 | some st =>
 simp only [List.getElem?_toArray,List.getElem?_cons_zero,List.getElem?_cons_succ];refine aI.bind ?_ (mF _);intro d;split
 case h_2=>exact trivial
 refine aI.bind ?_ (us _);intro sz;have hz:∀ (b:Bool),aI (pure b:Sem Bool):=fun b=>trivial
 split;all_goals repeat' first
  | exact H9 _
  | exact JG _
  | exact CO _ _ _ _ _
  | exact sf _
  | exact zx _ _ _
  | exact sg _ _ _
  | exact mF _
  | exact oV _
  | exact FT _
  | exact FS _
  | exact oW _
  | exact CN _
  | exact Ia _
  | exact Ib _
  | exact JH _ _
  | intro _
  | refine aI.ite ?_ ?_
  | refine aI.bind ?_ ?_
  | split
theorem Ic (ρ:Operand → Value) (o:Oper) (hc:∀ v,ρ (.const v)=v) (h:se o.op=true):nQ (execOp ρ o):=by
 unfold execOp;cases ho:o.op<;>rw [ho] at h<;>first|cases h|skip
 ·exact trivial
 ·exact trivial
 ·exact aI.val (fun a=>⟨a,rfl⟩) (zu _)
 ·exact aI.val (fun a=>⟨a,rfl⟩) (xG _ _)
 ·rename_i c;obtain ⟨callee,args,tys⟩:=c;have h:zt ⟨callee,args,tys⟩=true:=h;unfold zt at h;dsimp only at h;split at h
  case h_2=>cases h
  split at h
  case h_2=>cases h
  rename_i x hl;have hargs:args = #[.const (.slice none 0 0),x]:=by
   cases args;simp only at hl;rw [hl]
  subst hargs;show nQ (Sem.bind (resolve ρ _ o.type) fun d=>invoke d.target d.args);unfold resolve;have hm:Array.map ρ #[.const (.slice none 0 0),x] = #[.slice none 0 0,ρ x]:=by simp [hc]
  dsimp only;rw [hm];exact aI.val (fun a=>⟨a,rfl⟩) (xH _ _ _)
def YI (P:Program) (ops:Array Oper) (o:Oper) (v:Value) (w0:World) (a:Act):Prop :=
 Region.wanted o (yielded ops a.tmps)=true∧(∀ w,bS w0 w → (execOp a.eval o).run P w = .ok (.value v) w)∧∀ w,o.about P w a.eval=none
section
variable {F:Fence} {n:Nat} {P:Program} {ops:Array Oper} {Q:Exit → Act → World → Prop} {md:Region.Mode}
theorem YI.wpOpIn {i:Nat} {o:Oper} {v:Value} {w0:World} {a:Act} (hro:F.round=none) (hi:ops[i]? = some o) (hy:YI P ops o v w0 a)
  {K:Act → World → Prop} {w:World} (hS:bS w0 w) (h:K (a.put o.dst v) w):wpOpIn F n P ops Q i K a w:=by
 unfold Go.wpOpIn;simp only [hi];have hab:∀ f,o.about P w a.eval=some f → F.fn f:=fun f hf=>by rw [hy.2.2 w] at hf;cases hf
 simp only [hy.1,if_true,Oper.wpIn,hro,Oper.semAt_none,hy.2.1 w hS,Oper.uponIn];exact ⟨hab,h⟩
theorem YI.of_same {o:Oper} {v:Value} {w0:World} {a a':Act} (hy:YI P ops o v w0 a) (he:execOp a'.eval o=execOp a.eval o)
  (hw:Region.wanted o (yielded ops a'.tmps)=Region.wanted o (yielded ops a.tmps)) (hb:∀ w,o.about P w a'.eval=o.about P w a.eval):YI P ops o v w0 a' :=
 ⟨by rw [hw];exact hy.1,fun w hS=>by rw [he];exact hy.2.1 w hS,fun w=>by rw [hb w];exact hy.2.2 w⟩
theorem xI {j:Nat} {oi oj:Oper} {v:Value} {w0:World} (hro:F.round=none) (hj:ops[j]? = some oj) (hap:oi.apart ops oj=true) (ht:se oj.op=true)
  (hsi:∀ cs b,oi.op≠.select cs b) (hsj:∀ cs b,oj.op≠.select cs b)
  (hQ:∀ c a w,Q (.panic c) (a.put oi.dst v) w → Q (.panic c) a w) {K:Act → World → Prop} {a:Act} {w:World} (hS:bS w0 w)
  (hy:YI P ops oi v w0 a) (h:wpOpIn F n P ops Q j K (a.put oi.dst v) w) :
  wpOpIn F n P ops Q j (fun a' w'=>(YI P ops oi v w0 a'∧bS w0 w')∧K (a'.put oi.dst v) w') a w:=by
 obtain ⟨h1,h2,h3⟩:=Oper.apart_spec hap;have keep:∀ (a:Act),YI P ops oi v w0 a → ∀ u,YI P ops oi v w0 (a.put oj.dst u):=fun a hy u =>
  hy.of_same (execOp_put oi hsi a oj.dst u h3) (wanted_put oi a oj.dst u h3) (fun w=>about_put oi w a oj.dst u h3)
 have htm:=Ic a.eval oj (fun v=>rfl) ht;unfold wpOpIn at *;simp only [hj] at *;rw [wanted_put oj a oi.dst v h1,about_put oj w a oi.dst v h1] at h;split
 ·rename_i hw;simp only [hw,if_true] at h;unfold Oper.wpIn at *;rw [about_put oj w a oi.dst v h1] at h;refine ⟨h.1,?_⟩;have h:=h.2;rw [hro,Oper.semAt_none,execOp_put oj hsj a oi.dst v h1] at h;rw [hro,Oper.semAt_none];have hrun:∀ x w',(execOp a.eval oj).run P w = .ok x w' → bS w w'∧((∃ v,x = .value v)∨x = .skip):=fun x w' h=>FP _ htm h
  generalize (execOp a.eval oj).run P w=r at *;cases r with
  | ok x w' =>
   obtain ⟨hS2,hx⟩:=hrun x w' rfl;rcases hx with ⟨u,rfl⟩|rfl
   ·simp only [Oper.uponIn] at h ⊢;exact ⟨⟨keep a hy u,hS.trans hS2⟩,by rw [← Act.put_comm a v u h2];exact h⟩
   ·simp only [Oper.uponIn] at h ⊢;exact ⟨⟨keep a hy _,hS.trans hS2⟩,by rw [← Act.put_comm a v undef h2];exact h⟩
  | halt x w' =>
   cases x<;>simp only [Oper.uponIn] at h ⊢
   case panic u=>exact hQ _ _ _ h
 ·rename_i hw;simp only [hw] at h;exact ⟨h.1,⟨keep a hy _,hS⟩,by rw [← Act.put_comm a v undef h2];exact h.2⟩
theorem sh {i:Nat} {oi:Oper} {v:Value} {w0:World} (D:Nat → Bool) (hro:F.round=none) (hi:ops[i]? = some oi) (hsel:∀ (j:Nat) (o:Oper) cs b,ops[j]? = some o → o.op≠.select cs b)
  (hQ:∀ c a w,Q (.panic c) (a.put oi.dst v) w → Q (.panic c) a w) (hD:∀ j oj,ops[j]? = some oj → D j=true → ∃ e ∈ oj.after,Region.binds md e=true∧(e.on=i∨D e.on=true)) :
  ∀ (fuel:Nat) (listed:Array Bool) (a:Act) (w:World),bS w0 w → (∀ j,D j=true → listed.getD j false=false) →
   (∀ j oj,ops[j]? = some oj → j≠i → listed.getD j true=false → D j=false → oi.apart ops oj=true∧se oj.op=true) →
   i ∈ Region.ready md ops listed → YI P ops oi v w0 a →
   wpAnyIn F n P md ops Q fuel (listed.setIfInBounds i true) (a.put oi.dst v) w → wpAnyIn F n P md ops Q (fuel+1) listed a w:=by
 intro fuel;induction fuel with
 | zero =>
  intro listed a w hS _ _ hr hy H;refine ⟨fun h=>(by rw [h] at hr;cases hr),fun j hj=>?_⟩;by_cases hji:j=i
  ·subst hji;exact hy.wpOpIn hro hi hS H
  ·have:=ready_mono hj hji;rw [H.1] at this;cases this
 | succ fuel ih =>
  intro listed a w hS hun0 hfree hr hy H;refine ⟨fun h=>(by rw [h] at hr;cases hr),fun j hj=>?_⟩;by_cases hji:j=i
  ·subst hji;exact hy.wpOpIn hro hi hS H
  ·have h1:=H.2 j (ready_mono hj hji);obtain ⟨hjun,oj,hoj,hall⟩:=mem_ready.1 hj;have hiun:listed.getD i false=true → False:=fun h1=>by
    have h0:=(mem_ready.1 hr).1;rcases Nat.lt_or_ge i listed.size with h'|h'
    ·simp [h'] at h0 h1;rw [h0] at h1;cases h1
    ·simp [Array.getElem?_eq_none h'] at h1
   have hjD:D j=false:=by
    cases hd:D j with
    | false=>rfl
    | true =>
     obtain ⟨e,he,hb,hon⟩:=hD j oj hoj hd;have h2:=hall e he hb;rcases hon with h3|h3
     ·rw [h3] at h2;exact (hiun h2).elim
     ·rw [hun0 _ h3] at h2;cases h2
   obtain ⟨hap,htm⟩:=hfree j oj hoj hji hjun hjD;have h2:=xI hro hoj hap htm (fun cs b=>hsel i oi cs b hi) (fun cs b=>hsel j oj cs b hoj) hQ hS hy h1;have hfree':∀ k ok,ops[k]? = some ok → k≠i → (listed.setIfInBounds j true).getD k true=false → D k=false → oi.apart ops ok=true∧se ok.op=true:=fun k ok hk hki hun hno=>by
    refine hfree k ok hk hki ?_ hno;by_cases hjk:j=k
    ·subst hjk;exact hjun
    ·rw [Go.getD_set_ne true hjk] at hun;exact hun
   have hun0':∀ k,D k=true → (listed.setIfInBounds j true).getD k false=false:=fun k hk=>by
    have hjk:j≠k:=fun e=>by rw [e] at hjD;rw [hjD] at hk;cases hk
    rw [Go.getD_set_ne false hjk];exact hun0 k hk
   refine wpOpIn_mono (fun a' w' h3=>ih (listed.setIfInBounds j true) a' w' h3.1.2 hun0' hfree' (ready_mono hr (Ne.symm hji)) h3.1.1 ?_) h2;rw [Array.setIfInBounds_comm _ _ hji];exact h3.2
end
theorem zy {P:Program} {o:Oper} {t:TypeId} {x:Operand} (h:o.op = .load t x) (w:World) (ρ:Operand → Value):o.about P w ρ=none:=by
 unfold Oper.about;rw [h]
def FU (ops:Array Oper) (i:Nat):Bool:=match ops[i]? with
 | some o=>match o.op with
  | .load .. => true
  | _=>false
 | none=>false
def JI (ops:Array Oper) (listed:Array Bool) (i:Nat):List Nat :=
 (List.range ops.size).foldl (fun D j=>if j != i && !listed.getD j true && (match ops[j]? with
  | some o=>o.after.any fun e=>Region.binds .any e && (e.on == i || D.contains e.on)
  | none=>false) then j :: D else D) []
def JJ (ops:Array Oper) (listed:Array Bool) (i:Nat) (D:List Nat):Bool :=
 Region.noSelect ops && (Region.ready .any ops listed).contains i && FU ops i &&
 (D.all fun j=>!listed.getD j false && match ops[j]? with
  | some o=>o.after.any fun e=>Region.binds .any e && (e.on == i || D.contains e.on)
  | none=>false) &&
 (match ops[i]? with
  | none=>false
  | some oi=>(List.range ops.size).all fun j=>j == i || listed.getD j true || D.contains j || match ops[j]? with
   | some oj=>oi.apart ops oj && se oj.op
   | none=>true)
section
variable {P:Program} {N p:Nat} {ops:Array Oper} {s:S} {K:S → Prop} {fuel:Nat} {listed:Array Bool}
def Ie (P:Program) (N p:Nat) (ops:Array Oper) (fuel:Nat) (listed:Array Bool) (s:S) (K:S → Prop) (i:Nat) (o:Oper):Option Bool → Res → Prop
 | some true,.val q=>bp N o.dst∧PA P N p ops fuel (listed.setIfInBounds i true) (s.put o.dst q) K
 | _,_=>False
def JK (P:Program) (N p:Nat) (ops:Array Oper) (fuel:Nat) (listed:Array Bool) (s:S) (K:S → Prop) (i:Nat):Option Oper → Prop
 | some o=>Ie P N p ops fuel listed s K i o (gd ops s o.guard) (run1 P p s o.op)
 | none=>False
theorem CP (i:Nat) (hB:JJ ops listed i (JI ops listed i)=true) (h:JK P N p ops fuel listed s K i ops[i]?):PA P N p ops (fuel+1) listed s K:=fun Γ a w Q hA hK=>by
 obtain ⟨D,hDD⟩:∃ D,JI ops listed i=D:=⟨_,rfl⟩
 rw [hDD] at hB;unfold JJ at hB;simp only [Bool.and_eq_true,List.contains_iff_mem] at hB;obtain ⟨⟨⟨⟨b1,b2⟩,b3⟩,b4⟩,b5⟩:=hB;cases ho:ops[i]? with
 | none=>rw [ho] at h;exact h.elim
 | some o =>
  rw [ho] at h b5;change Ie P N p ops fuel listed s K i o (gd ops s o.guard) (run1 P p s o.op) at h;obtain ⟨t,x,hld⟩:∃ t x,o.op = .load t x:=by
   unfold FU at b3;rw [ho] at b3;simp only at b3;split at b3
   ·rename_i t x e;exact ⟨t,x,e⟩
   ·cases b3
  refine iW ?_;have hQ:∀ (v:Value) c a' w',nrm Q (.panic c) (a'.put o.dst v) w' → nrm Q (.panic c) a' w':=fun v c a' w' h=>absurd h.1 (by simp)
  unfold Ie at h;split at h
  ·rename_i q hg hr;obtain ⟨hd,hn⟩:=h;obtain ⟨y,h1,h2⟩:=uB (kC hr) hA.inv;refine sh (w0:=w) (fun j=>D.contains j) rfl ho (Region.noSelect_spec b1) (hQ y) (fun j oj hoj hj=>?_) fuel listed a w (bS.refl _) (fun j hj=>?_) (fun j oj hoj hji hun hj=>?_) b2 ⟨fG hg hA.inv,h2,fun w=>zy hld w _⟩ ?_
   ·have:=List.all_eq_true.1 b4 j (List.contains_iff_mem.1 hj);rw [hoj,Bool.and_eq_true] at this;obtain ⟨e,he,h5⟩:=Array.any_eq_true'.1 this.2;simp only [Bool.and_eq_true,Bool.or_eq_true,beq_iff_eq] at h5;exact ⟨e,he,h5.1,h5.2⟩
   ·have:=List.all_eq_true.1 b4 j (List.contains_iff_mem.1 hj);rw [Bool.and_eq_true] at this;simpa using this.1
   ·have:=List.all_eq_true.1 b5 j (List.mem_range.2 (Array.getElem?_eq_some_iff.1 hoj).1);simp only [hoj,Bool.or_eq_true,beq_iff_eq,hji,false_or,hun,Bool.false_eq_true,hj,Bool.and_eq_true] at this;exact this
   ·exact hn Γ _ w _ ⟨hA.inv.put (ec hd) h1,hA.le⟩ fun s' Γ' a' w' hk ha hg' hd'=>⟨rfl,hK s' Γ' a' w' hk ha hg' (hd'.trans (bK _ _ _))⟩
  ·exact h.elim
theorem pal (i:Nat) (h:JK P N p ops fuel listed s K i ops[i]?) (hB:JJ ops listed i (JI ops listed i)=true:=by decide +kernel):PA P N p ops (fuel+1) listed s K:=CP i hB h
end
attribute [push_cast] Ie JK
end
section
attribute [local irreducible] PL QL aL ah bg La aV PA bm
set_option maxRecDepth 20000
theorem bL.put {k:Ker} (h:bL k) {d:Dev} (he:bU k.tree d=0) (hi:d.index=k.top+1) (hn:k.evs.length+1≤1000000) (ht:k.top+1≤1000000):bL (k.put d) :=
 ⟨h.inv.put he hi,by rw [nA];exact hn,h.modl,h.als,h.alz,by show d.index≤_;omega⟩
theorem xJ {l:List ByteArray} {q:ByteArray → Bool} {i:Nat} (hi:i < l.length) (hp:∀ x ∈ l.take i,q x=false) (h:q (l.getD i default)=true):l.find? q=some (l.getD i default):=by
 rw [List.find?_eq_some_iff_append];refine ⟨h,l.take i,l.drop (i+1),?_,fun a ha=>by simpa using hp a ha⟩;rw [ai l hi]
 conv=>lhs;rw [← List.take_append_drop i l,List.drop_eq_getElem_cons hi]
set_option maxHeartbeats 16000000 in
theorem CQ (k:Ker) (op:Opr) (hB:bL k) (ho:eA op) (hn:k.evs.length+2≤1000000) (ht:k.top+1≤1000000) :
  bm 1 prog 53 [.c (.ptr 0 0),.agg op.e] (bI k) fun r os=>r = .two (.c (.v (.int .i64 ((k.add op.path op.dev).2.1)))) (.c (.v (.int .i64 ((k.add op.path op.dev).2.2))))∧os=bI (k.add op.path op.dev).1:=by
 have hkt:=hB.len;have ht0:=hB.inv.top0;have hat:=AB k.tree op.path hB.okp ac hB.orig hB.att;obtain ⟨X,hX⟩:∃ X,k.add op.path op.dev=X:=⟨_,rfl⟩
 rw [hX];unfold Ker.add at hX;refine cG 1 (by simp [bI]) func53 rfl (by simp [ntmps53]) (by rintro r os ⟨rfl,rfl⟩;simp [bI]) ?_;rw [ntmps53,results53];push_cast [O,U];have cB:aH 16 [88,89,90]:=trivial;by_cases hp:op.path≠⟨#[]⟩∧(atD k.tree op.path).isNone=true
 ·obtain ⟨hp1,hp2⟩:=hp;rw [if_pos ⟨hp1,hp2⟩] at hX;have hp3:(atD k.tree op.path).isSome=false:=by rw [Option.isNone_iff_eq_none] at hp2;rw [hp2];rfl
  rw [hp3] at hat;subst hX;repeat' ((first|(refine av 16 [88,89,90] ?_;apply ak;(focus kernel_rfl);(focus (simp only [aP,rA];(repeat' first|(refine plE [] hat ?_ ?_<;>push_cast [O,U,hp1,ne_eq,not_false_eq_true])|((first|refine pah 0 ?_|refine pah 1 ?_|refine pah 2 ?_|refine pah 4 ?_|refine pah 7 ?_|refine pah 8 ?_|refine pah 9 ?_|refine pah 12 ?_);push_cast [O,U,hp1,ne_eq,not_false_eq_true])|(refine pad ?_;first|with_reducible exact ao 16 [88,89,90] _|(refine weak_fg ?_;push_cast [O,U,hp1,ne_eq,not_false_eq_true]))|((first|refine pas [3] ?_|refine pas [5] ?_|refine pas [6] ?_|refine pas [10] ?_|refine pas [11] ?_);push_cast [O,U,hp1,ne_eq,not_false_eq_true])|((first|refine pas [3,5] ?_|refine pas [3,10] ?_|refine pas [5,10] ?_|refine pas [6,10] ?_);push_cast [O,U,hp1,ne_eq,not_false_eq_true];refine ⟨?_,?_⟩)|((first|refine pas [3,5,10] ?_);push_cast [O,U,hp1,ne_eq,not_false_eq_true];refine ⟨?_,?_,?_⟩));done));push_cast [O,U,hp1,ne_eq,not_false_eq_true])|refine ae ?_|refine pif ?_ ?_<;>intro h<;>try exact pN h)<;>push_cast [O,U,hp1,ne_eq,not_false_eq_true])
  exact am [0,1,2]
 rw [if_neg hp] at hX;obtain ⟨pd,hpd⟩:∃ pd:Dev,(atD k.tree op.path).getD default=pd:=⟨_,rfl⟩
 have hpi:fq k.tree op.path=pd.index:=by
  unfold fq;rw [← hpd];cases atD k.tree op.path<;>rfl
 rw [hpd] at hat;rw [hpi] at hX;obtain ⟨sm,hsm⟩:∃ sm,(atD k.tree op.path).isSome=sm:=⟨_,rfl⟩
 rw [hsm] at hat;have hcond:op.path=⟨#[]⟩∨sm=true:=by
  by_cases h1:op.path=⟨#[]⟩
  ·exact .inl h1
  ·right;rw [← hsm];cases h2:atD k.tree op.path with
   | none=>exact absurd ⟨h1,by rw [h2];rfl⟩ hp
   | some x=>rfl
 obtain ⟨D,hD⟩:∃ D,fF k pd.index op.dev=D:=⟨_,rfl⟩
 rw [hD] at hX;apply Hr
 ·intro H;by_cases h0:op.path=⟨#[]⟩
  ·have h1:(op.path≠⟨#[]⟩)=False:=eq_false (fun h=>h h0);repeat' ((first|(refine av 16 [88,89,90] ?_;apply ak;(focus kernel_rfl);(focus (simp only [aP,rA];(repeat' first|(refine plE [] hat ?_ ?_<;>push_cast [O,U,h1])|((first|refine pah 0 ?_|refine pah 1 ?_|refine pah 2 ?_|refine pah 4 ?_|refine pah 7 ?_|refine pah 8 ?_|refine pah 9 ?_|refine pah 12 ?_);push_cast [O,U,h1])|(refine pad ?_;first|with_reducible exact ao 16 [88,89,90] _|(refine weak_fg ?_;push_cast [O,U,h1]))|((first|refine pas [3] ?_|refine pas [5] ?_|refine pas [6] ?_|refine pas [10] ?_|refine pas [11] ?_);push_cast [O,U,h1])|((first|refine pas [3,5] ?_|refine pas [3,10] ?_|refine pas [5,10] ?_|refine pas [6,10] ?_);push_cast [O,U,h1];refine ⟨?_,?_⟩)|((first|refine pas [3,5,10] ?_);push_cast [O,U,h1];refine ⟨?_,?_,?_⟩));done));push_cast [O,U,h1])|(refine eQ 5 ?_)|refine ae ?_|refine pif ?_ ?_<;>intro h<;>try exact pN h)<;>push_cast [O,U,h1])
   refine dd ?_;refine aF (fh 16 [88,89,90] [7] _) ?_;push_cast [O,U];exact H.out
  ·have h2:sm=true:=hcond.resolve_left h0;rw [h2] at hat;repeat' ((first|(refine av 16 [88,89,90] ?_;apply ak;(focus kernel_rfl);(focus (simp only [aP,rA];(repeat' first|(refine plE [] hat ?_ ?_<;>push_cast [O,U,h0,ne_eq,not_false_eq_true])|((first|refine pah 0 ?_|refine pah 1 ?_|refine pah 2 ?_|refine pah 4 ?_|refine pah 7 ?_|refine pah 8 ?_|refine pah 9 ?_|refine pah 12 ?_);push_cast [O,U,h0,ne_eq,not_false_eq_true])|(refine pad ?_;first|with_reducible exact ao 16 [88,89,90] _|(refine weak_fg ?_;push_cast [O,U,h0,ne_eq,not_false_eq_true]))|((first|refine pas [3] ?_|refine pas [5] ?_|refine pas [6] ?_|refine pas [10] ?_|refine pas [11] ?_);push_cast [O,U,h0,ne_eq,not_false_eq_true])|((first|refine pas [3,5] ?_|refine pas [3,10] ?_|refine pas [5,10] ?_|refine pas [6,10] ?_);push_cast [O,U,h0,ne_eq,not_false_eq_true];refine ⟨?_,?_⟩)|((first|refine pas [3,5,10] ?_);push_cast [O,U,h0,ne_eq,not_false_eq_true];refine ⟨?_,?_,?_⟩));done));push_cast [O,U,h0,ne_eq,not_false_eq_true])|(refine eQ 5 ?_)|refine ae ?_|refine pif ?_ ?_<;>intro h<;>try exact pN h)<;>push_cast [O,U,h0,ne_eq,not_false_eq_true])
   refine dd ?_;refine aF (fh 16 [88,89,90] [7] _) ?_;push_cast [O,U];exact H.out
 have hin:=CL k.tree D hB.inv.tree.okt hB.inv.tree.ord ac hB.orig hB.att (by rw [← hD];exact ⟨ho.dev.original,ho.dev.original,ho.dev.subsystem,Nat.zero_le _,ho.dev.alias_,ho.dev.attrs,ho.dev.len,ho.dev.orig⟩) (by rw [← hD];exact ho.dev.orig) (by rw [← hD];exact ho.att);have hDi:D.index=k.top+1:=by rw [← hD];rfl
 have hDe:D.e=Dev.e ⟨k.top+1,pd.index,op.dev.original,op.dev.original,op.dev.subsystem,⟨#[]⟩,op.dev.alias_,op.dev.kind,op.dev.number,op.dev.attrs⟩:=by rw [← hD];rfl
 (refine av 16 [88,89,90] ?_;apply ak;(focus kernel_rfl);(focus (simp only [aP,rA];(repeat' first|((first|refine pah 0 ?_|refine pah 1 ?_|refine pah 2 ?_|refine pah 4 ?_|refine pah 5 ?_|refine pah 7 ?_|refine pah 9 ?_|refine pah 11 ?_|refine pah 13 ?_|refine pah 15 ?_|refine pah 17 ?_|refine pah 19 ?_|refine pah 21 ?_);push_cast [O,U])|((first|refine pal 3 ?_|refine pal 6 ?_|refine pal 8 ?_|refine pal 10 ?_|refine pal 12 ?_|refine pal 14 ?_|refine pal 16 ?_|refine pal 18 ?_|refine pal 20 ?_);push_cast [O,U])|(refine pad ?_;first|with_reducible exact ao 16 [88,89,90] _|(refine weak_fg ?_;push_cast [O,U]))|((first|refine pas [22] ?_|refine pas [23] ?_);push_cast [O,U]));done));push_cast [O,U]);by_cases he:bU k.tree D=0
 case neg =>
  rw [if_pos he] at hX;rw [if_neg he] at hin;obtain ⟨ce,hce⟩:∃ ce,bU k.tree D=ce:=⟨_,rfl⟩
  rw [hce] at he hin hX;subst hX;rw [hDe] at hin;repeat' ((first|(refine av 16 [88,89,90] ?_;apply ak;(focus kernel_rfl);(focus (simp only [aP,rA];(repeat' first|(refine plE [] hin ?_ ?_<;>push_cast [O,U,he])|((first|refine pah 0 ?_|refine pah 1 ?_|refine pah 2 ?_|refine pah 6 ?_|refine pah 7 ?_|refine pah 8 ?_|refine pah 11 ?_);push_cast [O,U,he])|(refine pad ?_;first|with_reducible exact ao 16 [88,89,90] _|(refine weak_fg ?_;push_cast [O,U,he]))|((first|refine pas [3] ?_|refine pas [4] ?_|refine pas [5] ?_|refine pas [9] ?_|refine pas [10] ?_);push_cast [O,U,he])|((first|refine pas [3,4] ?_|refine pas [3,9] ?_|refine pas [4,9] ?_|refine pas [5,9] ?_);push_cast [O,U,he];refine ⟨?_,?_⟩)|((first|refine pas [3,4,9] ?_);push_cast [O,U,he];refine ⟨?_,?_,?_⟩));done));push_cast [O,U,he])|refine ae ?_|refine pif ?_ ?_<;>intro h<;>try exact pN h)<;>push_cast [O,U,he])
  exact am [0,1,2]
 rw [if_neg (fun h=>h he)] at hX;rw [if_pos he,he] at hin;have hT2:=hB.inv.tree.ins he;have hB2:=hB.put he hDi ac ht;obtain ⟨K1,hK1⟩:∃ K1:Ker,(⟨eL k.tree D,k.mods,k.loaded,k.evs,D.index⟩:Ker)=K1:=⟨_,rfl⟩
 have e1:eL k.tree D=K1.tree:=by rw [← hK1]
 have e2:k.mods=K1.mods:=by rw [← hK1]
 have e3:k.loaded=K1.loaded:=by rw [← hK1]
 have e4:k.evs=K1.evs:=by rw [← hK1]
 have e5:k.top+1=K1.top:=by rw [← hK1,← hDi]
 have h1:=gb K1 1 D.index (by rw [← e1];exact hT2);have h2:=fa K1 [⟨0,1,D.index,bF K1.tree D.index,⟨#[]⟩⟩] (by rw [← e4];simp;omega);have hput:K1.tells [⟨0,1,D.index,bF K1.tree D.index,⟨#[]⟩⟩]=k.put D:=by rw [← hK1];rfl
 rw [hput] at h2;have f2:(k.put D).mods=k.mods:=rfl;have f3:(k.put D).loaded=k.loaded:=rfl;have f4:(k.put D).evs.length=k.evs.length+1:=nA k D;have f1:(k.put D).tree=eL k.tree D:=rfl;obtain ⟨K2,hK2⟩:∃ K2,k.put D=K2:=⟨_,rfl⟩
 rw [hK2] at h2 hX hB2 f1 f2 f3 f4;have hfm:iL k D=K2.loaded.find? fun s=>dU ((aJ K2.mods s).getD bW) D:=by unfold iL;rw [f2,f3]
 rw [hfm] at hX;have hDs:Small D:=iG (gI he).1;have hDi2:D.index=K1.top:=by rw [hDi,e5]
 have hfd:aG K2.tree D.index=some D:=by rw [f1];exact dj hT2.okt.nodup (gu.2 (.inl rfl))
 have hft:=y7 K2.tree D.index (by have:=hB2.len;omega) hB2.att;rw [hfd] at hft;simp only [Option.getD_some,Option.isSome_some] at hft;have hmt:=fun s=>tZ ((aJ K2.mods s).getD bW) D (dM hB2 s).1 (dM hB2 s).2.2 (by have:=hDs.als;omega)
 have hmd:=fun s=>lG K2 s (by have:=hB2.modl;omega)
 have hdr:=fun s (hs:Fit s)=>ji K2 D s hB2 hDs.ok (by have:=hDs.orig;omega) (by have:=hDs.att;omega) hs ac
 rw [hDe] at hin hft;simp only [hDe] at hmt hdr;rw [e1] at hin;have hX1:∀ s,K2.loaded.find? (fun s=>dU ((aJ K2.mods s).getD bW) D)=some s → X=((K2.drive D s).1,k.top+1,(K2.drive D s).2):=fun s h=>by rw [← hX,h]
 have hX0:K2.loaded.find? (fun s=>dU ((aJ K2.mods s).getD bW) D)=none → X=(K2,k.top+1,0):=fun h=>by rw [← hX,h]
 clear hX;repeat' ((first|(refine av 16 [88,89,90] ?_;apply ak;(focus kernel_rfl);(focus (simp only [aP,rA];(repeat' first|(refine plE [] hin ?_ ?_<;>push_cast [O,U,  hDi2,e2,e3,e4,e5])|((first|refine pah 0 ?_|refine pah 1 ?_|refine pah 2 ?_|refine pah 6 ?_|refine pah 7 ?_|refine pah 8 ?_|refine pah 11 ?_);push_cast [O,U,  hDi2,e2,e3,e4,e5])|(refine pad ?_;first|with_reducible exact ao 16 [88,89,90] _|(refine weak_fg ?_;push_cast [O,U,  hDi2,e2,e3,e4,e5]))|((first|refine pas [3] ?_|refine pas [4] ?_|refine pas [5] ?_|refine pas [9] ?_|refine pas [10] ?_);push_cast [O,U,  hDi2,e2,e3,e4,e5])|((first|refine pas [3,4] ?_|refine pas [3,9] ?_|refine pas [4,9] ?_|refine pas [5,9] ?_);push_cast [O,U,  hDi2,e2,e3,e4,e5];refine ⟨?_,?_⟩)|((first|refine pas [3,4,9] ?_);push_cast [O,U,  hDi2,e2,e3,e4,e5];refine ⟨?_,?_,?_⟩));done));push_cast [O,U,  hDi2,e2,e3,e4,e5])|(refine av 16 [88,89,90] ?_;apply ak;(focus kernel_rfl);(focus (simp only [aP,rA];(repeat' first|((first|refine pah 0 ?_|refine pah 1 ?_|refine pah 3 ?_|refine pah 5 ?_|refine pah 6 ?_|refine pah 8 ?_|refine pah 9 ?_);push_cast [O,U,  hDi2,e2,e3,e4,e5])|(refine pad ?_;first|with_reducible exact ao 16 [88,89,90] _|(refine weak_fg ?_;push_cast [O,U,  hDi2,e2,e3,e4,e5]))|((first|refine pas [2] ?_|refine pas [4] ?_|refine pas [7] ?_|refine pas [10] ?_);push_cast [O,U,  hDi2,e2,e3,e4,e5])|((first|refine pas [2,4] ?_|refine pas [4,7] ?_);push_cast [O,U,  hDi2,e2,e3,e4,e5];refine ⟨?_,?_⟩));done));push_cast [O,U,  hDi2,e2,e3,e4,e5])|(refine plE [0,1,2] h1 ?_ ?_;focus (push_cast [O,U,hDi2,e2,e3,e4,e5];done))|(refine eZ 1 [0,1,2] (h2) ?_ ?_;push_cast [O,U,hDi2,e2,e3,e4,e5];rintro r os ⟨rfl,rfl⟩)|refine ae ?_|refine pif ?_ ?_<;>intro h<;>try exact pN h)<;>push_cast [O,U,hDi2,e2,e3,e4,e5])
 (apply ap (α:=Nat) 16 [88,89,90] (fun i=>[(90,.c (.v (.int .i64 i)))]) (fun i=>[]) (fun i=>i≤K2.loaded.length∧∀ x ∈ K2.loaded.take i,dU ((aJ K2.mods x).getD bW) D=false) (fun i=>K2.loaded.length - i) (0);(focus ((try push_cast [O,U]);rfl));(focus exact ⟨Nat.zero_le _,by simp⟩);(focus ((refine weak_fg ?_;try push_cast [O,U]))));rintro i ⟨hi,hpre⟩;push_cast [O,U];have hll:=hB2.lod;by_cases hlt:i < K2.loaded.length
 ·have hmem:K2.loaded.getD i default ∈ K2.loaded:=by rw [ai _ hlt];exact List.getElem_mem _
  have hsf:Fit (K2.loaded.getD i default):=bN (n:=32) (cE (hB2.inv.name hmem)) af;have hstep:=fun h=>xJ (q:=fun s=>dU ((aJ K2.mods s).getD bW) D) hlt hpre h
  have hpre2:dU ((aJ K2.mods (K2.loaded.getD i default)).getD bW) D=false → ∀ x ∈ K2.loaded.take (i+1),dU ((aJ K2.mods x).getD bW) D=false:=fun h x hx=>by
   rw [List.take_succ_eq_append_getElem hlt] at hx;rcases List.mem_append.1 hx with hx|hx
   ·exact hpre x hx
   ·rw [List.mem_singleton] at hx;rw [hx,← ai _ hlt];exact h
  have hmt:=hmt (K2.loaded.getD i default);have hmd:=hmd (K2.loaded.getD i default);have hdr:=hdr _ hsf;obtain ⟨s,hs⟩:∃ s,K2.loaded.getD i default=s:=⟨_,rfl⟩
  rw [hs] at hmt hmd hdr hstep hpre2;obtain ⟨m,hm⟩:∃ m,(aJ K2.mods s).getD bW=m:=⟨_,rfl⟩
  rw [hm] at hmt hmd hpre2;cases hb:dU m D with
  | true =>
   have hXs:=hX1 s (hstep (by simp only [hm];exact hb));rw [hb] at hmt;obtain ⟨Y,hY⟩:∃ Y,K2.drive D s=Y:=⟨_,rfl⟩
   rw [hY] at hdr hXs;subst hXs;repeat' ((first|refine plE [0,1,2] hmd ?_ ?_;focus (push_cast [O,U,hs,hDi2,e5];done)|refine plE [] hmt ?_ ?_;focus (push_cast [O,U,hs,hDi2,e5];done)|(refine av 16 [88,89,90] ?_;apply ak;(focus kernel_rfl);(focus (simp only [aP,rA];(repeat' first|(refine plE [] hft ?_ ?_;(focus (push_cast [O,U,  hs,hDi2,e5];done));push_cast [O,U,  hs,hDi2,e5])|((first|refine pah 0 ?_|refine pah 1 ?_|refine pah 2 ?_|refine pah 4 ?_|refine pah 7 ?_|refine pah 8 ?_|refine pah 9 ?_);push_cast [O,U,  hs,hDi2,e5])|(refine pad ?_;first|with_reducible exact ao 16 [88,89,90] _|(refine weak_fg ?_;push_cast [O,U,  hs,hDi2,e5]))|((first|refine pas [3] ?_|refine pas [5] ?_|refine pas [6] ?_|refine pas [10] ?_);push_cast [O,U,  hs,hDi2,e5])|((first|refine pas [3,5] ?_|refine pas [3,6] ?_);push_cast [O,U,  hs,hDi2,e5];refine ⟨?_,?_⟩));done));push_cast [O,U,  hs,hDi2,e5])|(refine av 16 [88,89,90] ?_;apply ak;(focus kernel_rfl);(focus (simp only [aP,rA];(repeat' first|(refine eZ 1 [0,1,2] (hdr) ?_ ?_;push_cast [O,U,  hs,hDi2,e5];rintro r os ⟨rfl,rfl⟩;push_cast [O,U,  hs,hDi2,e5])|((first|refine pah 0 ?_|refine pah 2 ?_|refine pah 4 ?_|refine pah 6 ?_|refine pah 7 ?_);push_cast [O,U,  hs,hDi2,e5])|(refine pad ?_;first|with_reducible exact ao 16 [88,89,90] _|(refine weak_fg ?_;push_cast [O,U,  hs,hDi2,e5]))|((first|refine pas [1] ?_|refine pas [3] ?_|refine pas [5] ?_);push_cast [O,U,  hs,hDi2,e5])|((first|refine pas [1,3] ?_|refine pas [1,5] ?_);push_cast [O,U,  hs,hDi2,e5];refine ⟨?_,?_⟩));done));push_cast [O,U,  hs,hDi2,e5])|refine ae ?_|refine pif ?_ ?_<;>intro h<;>try exact pN h)<;>push_cast [O,U,hs,hDi2,e5])
   (refine K9 [0,1,2] ?_;push_cast [O,U,e5])
  | false =>
   rw [hb] at hmt;have hp:=hpre2 hb;repeat' ((first|refine plE [0,1,2] hmd ?_ ?_;focus (push_cast [O,U,hs,hDi2,e5];done)|refine plE [] hmt ?_ ?_;focus (push_cast [O,U,hs,hDi2,e5];done)|refine ae ?_|refine pif ?_ ?_<;>intro h<;>try exact pN h)<;>push_cast [O,U,hs,hDi2,e5])
   exact ⟨i+1,⟨ac,hp⟩,aA,ac⟩
 ·have hXs:=hX0 (by
   rw [List.take_of_length_le ac] at hpre;rw [List.find?_eq_none];intro x hx;rw [hpre x hx];simp)
  subst hXs;repeat' ((first|refine ae ?_|refine pif ?_ ?_<;>intro h<;>try exact pN h)<;>push_cast [O,U,e5])
  (refine K9 [0,1,2] ?_;push_cast [O,U,e5])
end
end Go.Proofs.YtmbbkfffcflfcaaGreatDoor
