/- What the program computes, and the plain laws of it, part 25. -/
import Derived.WideKeyEntry
import Derived.Test.YthhfpcbpiphfiaaGreatDoorR24
namespace Go.Proofs.YthhfpcbpiphfiaaGreatDoor
open Go.RowKit
open IntWalk renaming iteOmega → iO, toNatUp → tN
set_option linter.unusedVariables false
set_option linter.unusedSimpArgs false
def Tame:Sem Next → Prop
 | .pure (.value _)=>True
 | .pure .skip=>True
 | .pure _=>False
 | .load _ _ k=>∀ v,Tame (k v)
 | .new _ k=>∀ n,Tame (k n)
 | .shape _ k=>∀ s,Tame (k s)
 | .program k=>∀ p,Tame (k p)
 | .choose _ k=>∀ n,Tame (k n)
 | .frozen _ k=>∀ b,Tame (k b)
 | .getObj _ k=>∀ o,Tame (k o)
 | .mark _ k=>Tame k
 | .halt _=>True
 | _=>False
def TameV {α:Type}:Sem α → Prop
 | .pure _=>True
 | .load _ _ k=>∀ v,TameV (k v)
 | .new _ k=>∀ n,TameV (k n)
 | .shape _ k=>∀ s,TameV (k s)
 | .program k=>∀ p,TameV (k p)
 | .choose _ k=>∀ n,TameV (k n)
 | .frozen _ k=>∀ b,TameV (k b)
 | .getObj _ k=>∀ o,TameV (k o)
 | .mark _ k=>TameV k
 | .halt _=>True
 | _=>False
theorem TameV.bind {α β:Type} {f:α → Sem β} (hf:∀ a,TameV (f a)):∀ {s:Sem α},TameV s → TameV (s.bind f)
 | .pure a,_=>hf a
 | .load _ _ k,h=>fun v=>TameV.bind hf (h v)
 | .new _ k,h=>fun n=>TameV.bind hf (h n)
 | .shape _ k,h=>fun s=>TameV.bind hf (h s)
 | .program k,h=>fun p=>TameV.bind hf (h p)
 | .choose _ k,h=>fun n=>TameV.bind hf (h n)
 | .frozen _ k,h=>fun b=>TameV.bind hf (h b)
 | .getObj _ k,h=>fun o=>TameV.bind hf (h o)
 | .mark _ k,h=>TameV.bind (s:=k) hf h
 | .halt _,_=>trivial
theorem TameV.val {f:Value → Next} (hf:∀ a,∃ v,f a = .value v):∀ {s:Sem Value},TameV s → Tame (s.bind fun a=>.pure (f a))
 | .pure a,_=>by
  obtain ⟨v,e⟩:=hf a
  show Tame (.pure (f a))
  rw [e];trivial
 | .load _ _ k,h=>fun v=>TameV.val hf (h v)
 | .new _ k,h=>fun n=>TameV.val hf (h n)
 | .shape _ k,h=>fun s=>TameV.val hf (h s)
 | .program k,h=>fun p=>TameV.val hf (h p)
 | .choose _ k,h=>fun n=>TameV.val hf (h n)
 | .frozen _ k,h=>fun b=>TameV.val hf (h b)
 | .getObj _ k,h=>fun o=>TameV.val hf (h o)
 | .mark _ k,h=>TameV.val (s:=k) hf h
 | .halt _,_=>trivial
theorem tame_pure {a:Next} (h:Tame (.pure a)):(∃ v,a = .value v)∨a = .skip:=by
 cases a with
 | value v=>exact .inl ⟨v,rfl⟩
 | skip=>exact .inr rfl
 | _=>exact h.elim
theorem tame_run {P:Program} (s:Sem Next):∀ {w w':World} {x:Next},Tame s → s.run P w = .ok x w' → Same w w'∧((∃ v,x = .value v)∨x = .skip):=by
 induction s with
 | pure a =>
  intro w w' x h hr
  rw [Sem.run] at hr
  cases hr
  exact ⟨Same.refl _,tame_pure h⟩
 | load m a k ih =>
  intro w w' x h hr
  rw [Sem.run] at hr
  split at hr
  ·exact ih _ (h _) hr
  ·split at hr
   ·exact ih _ (h _) hr
   ·cases hr
 | new o k ih =>
  intro w w' x h hr
  rw [Sem.run] at hr
  obtain ⟨h1,h2⟩:=ih _ (h _) hr
  refine ⟨Same.trans ⟨by simp,fun b hb=>?_⟩ h1,h2⟩
  simp only [Array.getElem?_push]
  rw [if_neg (by omega)]
 | shape r k ih =>
  intro w w' x h hr
  rw [Sem.run] at hr
  exact ih _ (h _) hr
 | program k ih =>
  intro w w' x h hr
  rw [Sem.run] at hr
  exact ih _ (h _) hr
 | choose q k ih =>
  intro w w' x h hr
  rw [Sem.run] at hr
  split at hr
  ·exact ih _ (h _) hr
  ·obtain ⟨h1,h2⟩:=ih _ (h _) hr
   exact ⟨⟨h1.size,h1.block⟩,h2⟩
 | frozen a k ih =>
  intro w w' x h hr
  rw [Sem.run] at hr
  exact ih _ (h _) hr
 | getObj r k ih =>
  intro w w' x h hr
  rw [Sem.run] at hr
  split at hr
  ·cases hr
  ·exact ih _ (h _) hr
  ·cases hr
 | mark m k ih =>
  intro w w' x h hr
  rw [Sem.run] at hr
  exact ih h hr
 | halt h0 =>
  intro w w' x h hr
  rw [Sem.run] at hr
  cases hr
 | _=>intro w w' x h hr;exact h.elim
def appNil (c:Call):Bool:=match c.callee with
 | .builtin .append=>match c.args.toList with
  | [.const (.slice none 0 0),_]=>true
  | _=>false
 | _=>false
def tameOp:Op → Bool
 | .move _=>true
 | .assign _=>true
 | .load .. => true
 | .alloc _=>true
 | .call c=>appNil c
 | _=>false
theorem tame_load (m:Mode) (a:Addr):TameV (Sem.load m a Sem.pure):=fun v=>trivial
theorem tame_cells (a:Addr):∀ (n i:Nat) (acc:Array Value),TameV (loadCellsFrom a i n acc)
 | 0,i,acc=>trivial
 | n+1,i,acc=>TameV.bind (fun v=>tame_cells a n (i+1) _) (tame_load _ _)
theorem tame_info (t:TypeId):TameV (typeInfo t):=TameV.bind (s:=program) (fun p=>by
 cases p.info? t<;>exact trivial) (fun p=>trivial)
theorem tame_under (t:TypeId):TameV (underlying t):=TameV.bind (s:=program) (fun p=>by
 cases p.underlying t<;>exact trivial) (fun p=>trivial)
theorem tame_agg (t:TypeId):TameV (isAgg t):=TameV.bind (fun d=>by cases d<;>exact trivial) (tame_under t)
theorem tame_size (t:TypeId):TameV (sizeOf t):=by
 refine TameV.bind (s:=typeInfo t) ?_ (tame_info t)
 intro i;exact trivial
theorem tame_loadVar (t:TypeId) (a:Addr):TameV (loadVar t a):=by
 refine TameV.bind (s:=isAgg t) ?_ (tame_agg t)
 intro b
 cases b
 ·exact tame_load _ _
 ·refine TameV.bind (s:=sizeOf t) ?_ (tame_size t)
  intro n
  refine TameV.bind (s:=loadCells a n) ?_ (tame_cells a n 0 #[])
  intro x;exact trivial
theorem tame_loadAt (t:TypeId) (v:Value):TameV (Instr.loadAt t v):=by
 refine TameV.bind (s:=Instr.sureAddr v) ?_ ?_
 ·intro a;exact tame_loadVar t a
 ·unfold Instr.sureAddr
  split<;>exact trivial
theorem tame_zero (t:TypeId):TameV (zeroValue t):=by
 refine TameV.bind (s:=typeInfo t) ?_ (tame_info t)
 intro i
 cases i.zero<;>exact trivial
theorem tame_new (t:TypeId) (v:Value):TameV (newVar t v):=by
 refine TameV.bind (s:=newObj (.cells v.cells t)) ?_ (fun n=>trivial)
 intro n;exact trivial
theorem tame_alloc (t:TypeId):TameV (Instr.alloc t true (.tuple #[])):=by
 refine TameV.bind (s:=zeroValue t) ?_ (tame_zero t)
 intro z
 refine TameV.bind (s:=newVar t z) ?_ (tame_new t z)
 intro a;exact trivial
theorem TameV.ite {α:Type} {c:Prop} [Decidable c] {a b:Sem α} (ha:TameV a) (hb:TameV b):TameV (if c then a else b):=by
 by_cases h:c
 ·rw [if_pos h];exact ha
 ·rw [if_neg h];exact hb
theorem tame_run_panic {α:Type} (m:String):TameV (runtimePanic (α:=α) (.error m)):=by
 unfold runtimePanic
 refine TameV.bind (s:=program) ?_ (fun p=>trivial)
 intro p;exact trivial
theorem tame_holds (a:Addr) (n:Nat):TameV (Builtin.holdsCells a n):=by
 unfold Builtin.holdsCells
 refine TameV.bind (s:=shape a.block) ?_ (fun p=>trivial)
 intro o
 split<;>exact trivial
theorem tame_share (size n:Nat) (x:Value):TameV (Builtin.mayShare size 0 n none x):=by
 unfold Builtin.mayShare
 refine TameV.bind ?_ (s:=pure true) trivial
 intro b
 dsimp only
 split
 ·exact trivial
 ·split
  ·refine TameV.bind ?_ (tame_holds _ _)
   intro c;exact trivial
  ·exact trivial
theorem tame_first (size n:Nat) (x:Value):TameV (Builtin.firstCells size n x):=by
 unfold Builtin.firstCells
 split
 ·exact tame_cells _ _ 0 #[]
 ·exact trivial
 ·exact trivial
 ·exact trivial
theorem tame_len (x:Value):TameV (Builtin.lenOf x):=by
 unfold Builtin.lenOf
 split<;>exact trivial
theorem tame_int (x:Value):TameV (asInt x):=by
 unfold asInt
 refine TameV.bind ?_ (s:=asIntOf x) ?_
 ·intro y;exact trivial
 ·unfold asIntOf
  split<;>exact trivial
theorem tv_pure {α:Type} (a:α):TameV (pure a:Sem α):=trivial
theorem tv_uns {α:Type} (u:Unsupported):TameV (unsupported u:Sem α):=trivial
theorem tv_choose (q:Question):TameV (choose q):=fun n=>trivial
theorem tv_mark (m:Mark):TameV (mark m):=trivial
theorem tv_room (n:Nat):TameV (askRoom n):=TameV.ite trivial trivial
theorem tv_row (t:TypeId) (c:Array Value):TameV (newRow t c):=by
 refine TameV.bind (s:=newObj (.cells c t)) ?_ (fun n=>trivial)
 intro n;exact trivial
theorem tame_appd (zr:Bool) (sz n:Nat) (x:Value) (e:TypeId):TameV (if (!zr)=true then Builtin.firstCells sz n x else if n * sz=0 then pure #[] else do pure (Builtin.zeroCells (← zeroValue e).cells n)):=by
 refine TameV.ite (tame_first _ _ _) (TameV.ite trivial ?_)
 refine TameV.bind ?_ (tame_zero _)
 intro z;exact trivial
set_option maxHeartbeats 4000000 in
theorem tame_append (tys:Array TypeId) (t:TypeId) (x:Value):TameV (Builtin.append_ tys t #[.slice none 0 0,x]):=by
 unfold Builtin.append_
 cases tys[0]? with
 | none=>exact trivial
 | some st =>
 simp only [List.getElem?_toArray,List.getElem?_cons_zero,List.getElem?_cons_succ]
 refine TameV.bind ?_ (tame_under _)
 intro d
 split
 case h_2=>exact trivial
 refine TameV.bind ?_ (tame_size _)
 intro sz
 have hz:∀ (b:Bool),TameV (pure b:Sem Bool):=fun b=>trivial
 split
 all_goals repeat' first
  | exact tv_pure _
  | exact tv_uns _
  | exact tame_appd _ _ _ _ _
  | exact tame_run_panic _
  | exact tame_share _ _ _
  | exact tame_first _ _ _
  | exact tame_under _
  | exact tame_info _
  | exact tame_int _
  | exact tame_len _
  | exact tame_zero _
  | exact tv_choose _
  | exact tv_mark _
  | exact tv_room _
  | exact tv_row _ _
  | intro _
  | refine TameV.ite ?_ ?_
  | refine TameV.bind ?_ ?_
  | split
theorem tame_op (ρ:Operand → Value) (o:Oper) (hc:∀ v,ρ (.const v)=v) (h:tameOp o.op=true):Tame (execOp ρ o):=by
 unfold execOp
 cases ho:o.op<;>rw [ho] at h<;>first|cases h|skip
 ·exact trivial
 ·exact trivial
 ·exact TameV.val (fun a=>⟨a,rfl⟩) (tame_alloc _)
 ·exact TameV.val (fun a=>⟨a,rfl⟩) (tame_loadAt _ _)
 ·rename_i c
  obtain ⟨callee,args,tys⟩:=c
  have h:appNil ⟨callee,args,tys⟩=true:=h
  unfold appNil at h
  dsimp only at h
  split at h
  case h_2=>cases h
  split at h
  case h_2=>cases h
  rename_i x hl
  have hargs:args = #[.const (.slice none 0 0),x]:=by
   cases args;simp only at hl;rw [hl]
  subst hargs
  show Tame (Sem.bind (resolve ρ _ o.type) fun d=>invoke d.target d.args)
  unfold resolve
  have hm:Array.map ρ #[.const (.slice none 0 0),x] = #[.slice none 0 0,ρ x]:=by simp [hc]
  dsimp only
  rw [hm]
  exact TameV.val (fun a=>⟨a,rfl⟩) (tame_append _ _ _)
def YI (P:Program) (ops:Array Oper) (o:Oper) (v:Value) (w0:World) (a:Act):Prop :=
 Region.wanted o (yielded ops a.tmps)=true∧(∀ w,Same w0 w → (execOp a.eval o).run P w = .ok (.value v) w)∧∀ w,o.about P w a.eval=none
section
variable {F:Fence} {n:Nat} {P:Program} {ops:Array Oper} {Q:Exit → Act → World → Prop} {md:Region.Mode}
theorem YI.wpOpIn {i:Nat} {o:Oper} {v:Value} {w0:World} {a:Act} (hro:F.round=none) (hi:ops[i]? = some o) (hy:YI P ops o v w0 a)
  {K:Act → World → Prop} {w:World} (hS:Same w0 w) (h:K (a.put o.dst v) w):wpOpIn F n P ops Q i K a w:=by
 unfold Go.wpOpIn
 simp only [hi]
 have hab:∀ f,o.about P w a.eval=some f → F.fn f:=fun f hf=>by rw [hy.2.2 w] at hf;cases hf
 simp only [hy.1,if_true,Oper.wpIn,hro,Oper.semAt_none,hy.2.1 w hS,Oper.uponIn]
 exact ⟨hab,h⟩
theorem YI.of_same {o:Oper} {v:Value} {w0:World} {a a':Act} (hy:YI P ops o v w0 a) (he:execOp a'.eval o=execOp a.eval o)
  (hw:Region.wanted o (yielded ops a'.tmps)=Region.wanted o (yielded ops a.tmps)) (hb:∀ w,o.about P w a'.eval=o.about P w a.eval):YI P ops o v w0 a' :=
 ⟨by rw [hw];exact hy.1,fun w hS=>by rw [he];exact hy.2.1 w hS,fun w=>by rw [hb w];exact hy.2.2 w⟩
theorem wpOpIn_putI {j:Nat} {oi oj:Oper} {v:Value} {w0:World} (hro:F.round=none) (hj:ops[j]? = some oj) (hap:oi.apart ops oj=true) (ht:tameOp oj.op=true)
  (hsi:∀ cs b,oi.op≠.select cs b) (hsj:∀ cs b,oj.op≠.select cs b)
  (hQ:∀ c a w,Q (.panic c) (a.put oi.dst v) w → Q (.panic c) a w) {K:Act → World → Prop} {a:Act} {w:World} (hS:Same w0 w)
  (hy:YI P ops oi v w0 a) (h:wpOpIn F n P ops Q j K (a.put oi.dst v) w) :
  wpOpIn F n P ops Q j (fun a' w'=>(YI P ops oi v w0 a'∧Same w0 w')∧K (a'.put oi.dst v) w') a w:=by
 obtain ⟨h1,h2,h3⟩:=Oper.apart_spec hap
 have keep:∀ (a:Act),YI P ops oi v w0 a → ∀ u,YI P ops oi v w0 (a.put oj.dst u):=fun a hy u =>
  hy.of_same (execOp_put oi hsi a oj.dst u h3) (wanted_put oi a oj.dst u h3) (fun w=>about_put oi w a oj.dst u h3)
 have htm:=tame_op a.eval oj (fun v=>rfl) ht
 unfold wpOpIn at *
 simp only [hj] at *
 rw [wanted_put oj a oi.dst v h1,about_put oj w a oi.dst v h1] at h
 split
 ·rename_i hw
  simp only [hw,if_true] at h
  unfold Oper.wpIn at *
  rw [about_put oj w a oi.dst v h1] at h
  refine ⟨h.1,?_⟩
  have h:=h.2
  rw [hro,Oper.semAt_none,execOp_put oj hsj a oi.dst v h1] at h
  rw [hro,Oper.semAt_none]
  have hrun:∀ x w',(execOp a.eval oj).run P w = .ok x w' → Same w w'∧((∃ v,x = .value v)∨x = .skip):=fun x w' h=>tame_run _ htm h
  generalize (execOp a.eval oj).run P w=r at *
  cases r with
  | ok x w' =>
   obtain ⟨hS2,hx⟩:=hrun x w' rfl
   rcases hx with ⟨u,rfl⟩|rfl
   ·simp only [Oper.uponIn] at h ⊢
    exact ⟨⟨keep a hy u,hS.trans hS2⟩,by rw [← Act.put_comm a v u h2];exact h⟩
   ·simp only [Oper.uponIn] at h ⊢
    exact ⟨⟨keep a hy _,hS.trans hS2⟩,by rw [← Act.put_comm a v undef h2];exact h⟩
  | halt x w' =>
   cases x<;>simp only [Oper.uponIn] at h ⊢
   case panic u=>exact hQ _ _ _ h
 ·rename_i hw
  simp only [hw] at h
  exact ⟨h.1,⟨keep a hy _,hS⟩,by rw [← Act.put_comm a v undef h2];exact h.2⟩
theorem wpAnyIn_firstI {i:Nat} {oi:Oper} {v:Value} {w0:World} (D:Nat → Bool) (hro:F.round=none) (hi:ops[i]? = some oi) (hsel:∀ (j:Nat) (o:Oper) cs b,ops[j]? = some o → o.op≠.select cs b)
  (hQ:∀ c a w,Q (.panic c) (a.put oi.dst v) w → Q (.panic c) a w) (hD:∀ j oj,ops[j]? = some oj → D j=true → ∃ e ∈ oj.after,Region.binds md e=true∧(e.on=i∨D e.on=true)) :
  ∀ (fuel:Nat) (listed:Array Bool) (a:Act) (w:World),Same w0 w → (∀ j,D j=true → listed.getD j false=false) →
   (∀ j oj,ops[j]? = some oj → j≠i → listed.getD j true=false → D j=false → oi.apart ops oj=true∧tameOp oj.op=true) →
   i ∈ Region.ready md ops listed → YI P ops oi v w0 a →
   wpAnyIn F n P md ops Q fuel (listed.setIfInBounds i true) (a.put oi.dst v) w → wpAnyIn F n P md ops Q (fuel+1) listed a w:=by
 intro fuel
 induction fuel with
 | zero =>
  intro listed a w hS _ _ hr hy H
  refine ⟨fun h=>(by rw [h] at hr;cases hr),fun j hj=>?_⟩
  by_cases hji:j=i
  ·subst hji;exact hy.wpOpIn hro hi hS H
  ·have:=ready_mono hj hji
   rw [H.1] at this
   cases this
 | succ fuel ih =>
  intro listed a w hS hun0 hfree hr hy H
  refine ⟨fun h=>(by rw [h] at hr;cases hr),fun j hj=>?_⟩
  by_cases hji:j=i
  ·subst hji;exact hy.wpOpIn hro hi hS H
  ·have h1:=H.2 j (ready_mono hj hji)
   obtain ⟨hjun,oj,hoj,hall⟩:=mem_ready.1 hj
   have hiun:listed.getD i false=true → False:=fun h1=>by
    have h0:=(mem_ready.1 hr).1
    rcases Nat.lt_or_ge i listed.size with h'|h'
    ·simp [h'] at h0 h1;rw [h0] at h1;cases h1
    ·simp [Array.getElem?_eq_none h'] at h1
   have hjD:D j=false:=by
    cases hd:D j with
    | false=>rfl
    | true =>
     obtain ⟨e,he,hb,hon⟩:=hD j oj hoj hd
     have h2:=hall e he hb
     rcases hon with h3|h3
     ·rw [h3] at h2;exact (hiun h2).elim
     ·rw [hun0 _ h3] at h2;cases h2
   obtain ⟨hap,htm⟩:=hfree j oj hoj hji hjun hjD
   have h2:=wpOpIn_putI hro hoj hap htm (fun cs b=>hsel i oi cs b hi) (fun cs b=>hsel j oj cs b hoj) hQ hS hy h1
   have hfree':∀ k ok,ops[k]? = some ok → k≠i → (listed.setIfInBounds j true).getD k true=false → D k=false → oi.apart ops ok=true∧tameOp ok.op=true:=fun k ok hk hki hun hno=>by
    refine hfree k ok hk hki ?_ hno
    by_cases hjk:j=k
    ·subst hjk;exact hjun
    ·rw [Go.getD_set_ne true hjk] at hun;exact hun
   have hun0':∀ k,D k=true → (listed.setIfInBounds j true).getD k false=false:=fun k hk=>by
    have hjk:j≠k:=fun e=>by rw [e] at hjD;rw [hjD] at hk;cases hk
    rw [Go.getD_set_ne false hjk];exact hun0 k hk
   refine wpOpIn_mono (fun a' w' h3=>ih (listed.setIfInBounds j true) a' w' h3.1.2 hun0' hfree' (ready_mono hr (Ne.symm hji)) h3.1.1 ?_) h2
   rw [Array.setIfInBounds_comm _ _ hji]
   exact h3.2
end
theorem load_about {P:Program} {o:Oper} {t:TypeId} {x:Operand} (h:o.op = .load t x) (w:World) (ρ:Operand → Value):o.about P w ρ=none:=by
 unfold Oper.about
 rw [h]
def isLoad (ops:Array Oper) (i:Nat):Bool:=match ops[i]? with
 | some o=>match o.op with
  | .load .. => true
  | _=>false
 | none=>false
def depD (ops:Array Oper) (listed:Array Bool) (i:Nat):List Nat :=
 (List.range ops.size).foldl (fun D j=>if j != i && !listed.getD j true && (match ops[j]? with
  | some o=>o.after.any fun e=>Region.binds .any e && (e.on == i || D.contains e.on)
  | none=>false) then j :: D else D) []
def hoLB (ops:Array Oper) (listed:Array Bool) (i:Nat) (D:List Nat):Bool :=
 Region.noSelect ops && (Region.ready .any ops listed).contains i && isLoad ops i &&
 (D.all fun j=>!listed.getD j false && match ops[j]? with
  | some o=>o.after.any fun e=>Region.binds .any e && (e.on == i || D.contains e.on)
  | none=>false) &&
 (match ops[i]? with
  | none=>false
  | some oi=>(List.range ops.size).all fun j=>j == i || listed.getD j true || D.contains j || match ops[j]? with
   | some oj=>oi.apart ops oj && tameOp oj.op
   | none=>true)
section
variable {P:Program} {N p:Nat} {ops:Array Oper} {s:S} {K:S → Prop} {fuel:Nat} {listed:Array Bool}
def hoLR (P:Program) (N p:Nat) (ops:Array Oper) (fuel:Nat) (listed:Array Bool) (s:S) (K:S → Prop) (i:Nat) (o:Oper):Option Bool → Res → Prop
 | some true,.val q=>dstOk N o.dst∧PA P N p ops fuel (listed.setIfInBounds i true) (s.put o.dst q) K
 | _,_=>False
def hoLG (P:Program) (N p:Nat) (ops:Array Oper) (fuel:Nat) (listed:Array Bool) (s:S) (K:S → Prop) (i:Nat):Option Oper → Prop
 | some o=>hoLR P N p ops fuel listed s K i o (gd ops s o.guard) (run1 P p s o.op)
 | none=>False
theorem pa_hoistL (i:Nat) (hB:hoLB ops listed i (depD ops listed i)=true) (h:hoLG P N p ops fuel listed s K i ops[i]?):PA P N p ops (fuel+1) listed s K:=fun Γ a w Q hA hK=>by
 obtain ⟨D,hDD⟩:∃ D,depD ops listed i=D:=⟨_,rfl⟩
 rw [hDD] at hB
 unfold hoLB at hB
 simp only [Bool.and_eq_true,List.contains_iff_mem] at hB
 obtain ⟨⟨⟨⟨b1,b2⟩,b3⟩,b4⟩,b5⟩:=hB
 cases ho:ops[i]? with
 | none=>rw [ho] at h;exact h.elim
 | some o =>
  rw [ho] at h b5
  change hoLR P N p ops fuel listed s K i o (gd ops s o.guard) (run1 P p s o.op) at h
  obtain ⟨t,x,hld⟩:∃ t x,o.op = .load t x:=by
   unfold isLoad at b3
   rw [ho] at b3
   simp only at b3
   split at b3
   ·rename_i t x e;exact ⟨t,x,e⟩
   ·cases b3
  refine wpAny_nrm ?_
  have hQ:∀ (v:Value) c a' w',nrm Q (.panic c) (a'.put o.dst v) w' → nrm Q (.panic c) a' w':=fun v c a' w' h=>absurd h.1 (by simp)
  unfold hoLR at h
  split at h
  ·rename_i q hg hr
   obtain ⟨hd,hn⟩:=h
   obtain ⟨y,h1,h2⟩:=pval_ok (run1_val hr) hA.inv
   refine wpAnyIn_firstI (w0:=w) (fun j=>D.contains j) rfl ho (Region.noSelect_spec b1) (hQ y) (fun j oj hoj hj=>?_) fuel listed a w (Same.refl _) (fun j hj=>?_) (fun j oj hoj hji hun hj=>?_) b2 ⟨gd_ok hg hA.inv,h2,fun w=>load_about hld w _⟩ ?_
   ·have:=List.all_eq_true.1 b4 j (List.contains_iff_mem.1 hj)
    rw [hoj,Bool.and_eq_true] at this
    obtain ⟨e,he,h5⟩:=Array.any_eq_true'.1 this.2
    simp only [Bool.and_eq_true,Bool.or_eq_true,beq_iff_eq] at h5
    exact ⟨e,he,h5.1,h5.2⟩
   ·have:=List.all_eq_true.1 b4 j (List.contains_iff_mem.1 hj)
    rw [Bool.and_eq_true] at this
    simpa using this.1
   ·have:=List.all_eq_true.1 b5 j (List.mem_range.2 (Array.getElem?_eq_some_iff.1 hoj).1)
    simp only [hoj,Bool.or_eq_true,beq_iff_eq,hji,false_or,hun,Bool.false_eq_true,hj,Bool.and_eq_true] at this
    exact this
   ·exact hn Γ _ w _ ⟨hA.inv.put (dst_lt hd) h1,hA.le⟩ fun s' Γ' a' w' hk ha hg' hd'=>⟨rfl,hK s' Γ' a' w' hk ha hg' (hd'.trans (put_defers _ _ _))⟩
  ·exact h.elim
theorem pal (i:Nat) (h:hoLG P N p ops fuel listed s K i ops[i]?) (hB:hoLB ops listed i (depD ops listed i)=true:=by decide +kernel):PA P N p ops (fuel+1) listed s K:=pa_hoistL i hB h
end
attribute [push_cast] hoLR hoLG
end Go.Proofs.YthhfpcbpiphfiaaGreatDoor
namespace Go.Proofs.YthhfpcbpiphfiaaGreatDoor
set_option linter.unusedVariables false
structure Pr where
 pa:Nat
 pi:Nat
 qa:Nat
 qi:Nat
 deriving DecidableEq,Inhabited
abbrev Alts:=List (List El)
def altV (l:Alts) (a:Nat):List El:=l.getD a default
def atV (l:Alts) (a i:Nat):Option El:=if i=(altV l a).length then none else some ((altV l a).getD i default)
structure PrOk (p q:Alts) (x:Pr):Prop where
 a:x.pa < p.length
 i:x.pi≤(altV p x.pa).length
 b:x.qa < q.length
 j:x.qi≤(altV q x.qa).length
def starV (e:Option El):Bool:=match e with
 | none=>false
 | some e=>e.star
def skip1 (p:Alts) (x:Pr):List Pr:=if starV (atV p x.pa x.pi)=true then [⟨x.pa,x.pi+1,x.qa,x.qi⟩] else []
def skip2 (q:Alts) (x:Pr):List Pr:=if starV (atV q x.qa x.qi)=true then [⟨x.pa,x.pi,x.qa,x.qi+1⟩] else []
def skipsV (p q:Alts) (x:Pr):List Pr:=skip1 p x++skip2 q x
def bothV (a b:El):List Bool:=(List.range 127).map fun c=>decide (32≤c) && (a.set.getD c false && b.set.getD c false)
def stepN (a b:El) (x:Pr):Pr:=⟨x.pa,if a.star then x.pi else x.pi+1,x.qa,if b.star then x.qi else x.qi+1⟩
def stepV (p q:Alts) (x:Pr):Option (Pr × List Bool):=match atV p x.pa x.pi,atV q x.qa x.qi with
 | some a,some b=>if a.star && b.star then none else some (stepN a b x,bothV a b)
 | _,_=>none
def anyB (l:List Bool):Bool:=l.any fun b=>b
def lessV (best n:Int):Int:=if 0≤n∧(best < 0∨n < best) then n else best
def endV (p q:Alts) (x:Pr):Int:=if x.pi=(altV p x.pa).length∧x.qi=(altV q x.qa).length then 0 else -1
def measV (p q:Alts) (x:Pr):Nat:=((altV p x.pa).length - x.pi)+((altV q x.qa).length - x.qi)
def costF (p q:Alts):Nat → Pr → Int
 | 0,_ => -1
 | n+1,x =>
  let b:=(skipsV p q x).foldl (fun b y=>lessV b (costF p q n y)) (endV p q x)
  match stepV p q x with
  | none=>b
  | some (y,s)=>if anyB s=true∧0≤costF p q n y then lessV b (costF p q n y+1) else b
def costV (p q:Alts) (x:Pr):Int:=costF p q (measV p q x+1) x
theorem starV_some {l:Alts} {a i:Nat} (hi:i≤(altV l a).length) (h:starV (atV l a i)=true):i < (altV l a).length:=by
 unfold starV atV at h
 split at h
 ·cases h
 ·rename_i e he
  split at he
  ·cases he
  ·omega
theorem skipsV_ok {p q:Alts} {x y:Pr} (h:PrOk p q x) (hy:y ∈ skipsV p q x):PrOk p q y∧measV p q y < measV p q x:=by
 obtain ⟨h1,h2,h3,h4⟩:=h
 unfold skipsV skip1 skip2 at hy
 rcases List.mem_append.1 hy with hy|hy
 ·split at hy
  ·rename_i hs
   have:=starV_some h2 hs
   simp only [List.mem_singleton] at hy
   subst hy
   exact ⟨⟨h1,by simp only;omega,h3,h4⟩,by unfold measV;simp only;omega⟩
  ·cases hy
 ·split at hy
  ·rename_i hs
   have:=starV_some h4 hs
   simp only [List.mem_singleton] at hy
   subst hy
   exact ⟨⟨h1,h2,h3,by simp only;omega⟩,by unfold measV;simp only;omega⟩
  ·cases hy
theorem atV_some {l:Alts} {a i:Nat} {e:El} (hi:i≤(altV l a).length) (h:atV l a i=some e):i < (altV l a).length∧e=(altV l a).getD i default:=by
 unfold atV at h
 split at h
 ·cases h
 ·cases h
  exact ⟨by omega,rfl⟩
theorem stepV_ok {p q:Alts} {x y:Pr} {s:List Bool} (h:PrOk p q x) (hy:stepV p q x=some (y,s)):PrOk p q y∧measV p q y < measV p q x:=by
 obtain ⟨h1,h2,h3,h4⟩:=h
 unfold stepV at hy
 split at hy
 ·rename_i a b ha hb
  split at hy
  ·cases hy
  ·rename_i hs
   cases hy
   obtain ⟨l1,_⟩:=atV_some h2 ha
   obtain ⟨l2,_⟩:=atV_some h4 hb
   unfold stepN measV
   cases h5:a.star<;>cases h6:b.star
   all_goals first
    | (exfalso;apply hs;rw [h5,h6];rfl)
    | (simp only [Bool.false_eq_true,if_false,if_true];exact ⟨⟨h1,by simp only;omega,h3,by simp only;omega⟩,by omega⟩)
 ·cases hy
theorem costF_eq {p q:Alts}:∀ (n m:Nat) (x:Pr),PrOk p q x → measV p q x < n → measV p q x < m → costF p q n x=costF p q m x
 | 0,m,x,_,h,_=>absurd h (Nat.not_lt_zero _)
 | n+1,0,x,_,_,h=>absurd h (Nat.not_lt_zero _)
 | n+1,m+1,x,hx,hn,hm=>by
  have hsk:∀ y ∈ skipsV p q x,costF p q n y=costF p q m y:=fun y hy=>by
   obtain ⟨h1,h2⟩:=skipsV_ok hx hy
   exact costF_eq n m y h1 (by omega) (by omega)
  have hfold:∀ (l:List Pr) (b:Int),(∀ y ∈ l,costF p q n y=costF p q m y) → l.foldl (fun b y=>lessV b (costF p q n y)) b=l.foldl (fun b y=>lessV b (costF p q m y)) b:=by
   intro l
   induction l with
   | nil=>intro b _;rfl
   | cons a l ih =>
    intro b h
    rw [List.foldl_cons,List.foldl_cons,h a (by simp),ih _ fun y hy=>h y (by simp [hy])]
  rw [costF,costF,hfold _ _ hsk]
  cases hs:stepV p q x with
  | none=>rfl
  | some ys =>
   obtain ⟨y,s⟩:=ys
   obtain ⟨h1,h2⟩:=stepV_ok hx hs
   simp only
   rw [costF_eq n m y h1 (by omega) (by omega)]
theorem costV_step {p q:Alts} {x:Pr} (hx:PrOk p q x):costV p q x =
  (let b:=(skipsV p q x).foldl (fun b y=>lessV b (costV p q y)) (endV p q x)
   match stepV p q x with
   | none=>b
   | some (y,s)=>if anyB s=true∧0≤costV p q y then lessV b (costV p q y+1) else b):=by
 have he:∀ y,PrOk p q y → measV p q y < measV p q x → costF p q (measV p q x) y=costV p q y:=fun y h1 h2=>costF_eq _ _ y h1 h2 (Nat.lt_succ_self _)
 have hfold:∀ (l:List Pr) (b:Int),(∀ y ∈ l,PrOk p q y∧measV p q y < measV p q x) → l.foldl (fun b y=>lessV b (costF p q (measV p q x) y)) b=l.foldl (fun b y=>lessV b (costV p q y)) b:=by
  intro l
  induction l with
  | nil=>intro b _;rfl
  | cons a l ih =>
   intro b h
   rw [List.foldl_cons,List.foldl_cons,he a (h a (by simp)).1 (h a (by simp)).2,ih _ fun y hy=>h y (by simp [hy])]
 conv=>lhs;unfold costV;rw [costF]
 rw [hfold _ _ fun y hy=>skipsV_ok hx hy]
 cases hs:stepV p q x with
 | none=>rfl
 | some ys =>
  obtain ⟨y,s⟩:=ys
  obtain ⟨h1,h2⟩:=stepV_ok hx hs
  simp only
  rw [he y h1 h2]
end Go.Proofs.YthhfpcbpiphfiaaGreatDoor
namespace Go.Proofs.YthhfpcbpiphfiaaGreatDoor
attribute [local irreducible] PL QL PWPr PCalls Weak RetK Kontr PA
open Go.RowKit
open IntWalk renaming iteOmega → iO, toNatUp → tN
set_option linter.unusedVariables false
set_option linter.unusedSimpArgs false
set_option maxRecDepth 20000
def plE2 (a i:Nat):List E:=[.v (.int .i64 a),.v (.int .i64 i)]
def Pr.d (x:Pr):List D:=[.v (.int .i64 x.pa),.v (.int .i64 x.pi),.v (.int .i64 x.qa),.v (.int .i64 x.qi)]
def Pr.e (x:Pr):List E:=[.v (.int .i64 x.pa),.v (.int .i64 x.pi),.v (.int .i64 x.qa),.v (.int .i64 x.qi)]
def Pr.k (x:Pr):MK:=.t [x.pa,x.pi,x.qa,x.qi]
attribute [push_cast] plE2 Pr.d Pr.e
theorem seeEs_ds (v:Bool) (os:List Ob) (ks:List Nat):∀ ds:List D,seeEs v os ks (ds.map D.e)=some (ds.map D.e)
 | []=>rfl
 | d :: ds=>by
  have h:seeE v os ks d.e=some d.e:=by cases d<;>rfl
  simp only [List.map_cons,seeEs,h,seeEs_ds v os ks ds]
theorem wf64 {n:Int} (h : -9223372036854775808≤n∧n≤9223372036854775807):(Lit.int .i64 n).wf=true:=by
 have h1:IntKind.i64.min = -9223372036854775808:=by decide
 have h2:IntKind.i64.max=9223372036854775807:=by decide
 show (decide (IntKind.i64.min≤n) && decide (n≤IntKind.i64.max))=true
 rw [h1,h2,decide_eq_true h.1,decide_eq_true h.2]
 rfl
theorem lits_int (n:Nat) {x:Int} (h : -9223372036854775808≤x∧x≤9223372036854775807):Tryz.prog.keyLits (n+1) 3 [.int .i64 x]=some [.int .i64 x]:=by
 unfold Program.keyLits
 rw [Tryz.underlying3]
 simp [wf64 h]
theorem lits_place (n:Nat) {x y:Int} (hx : -9223372036854775808≤x∧x≤9223372036854775807) (hy : -9223372036854775808≤y∧y≤9223372036854775807):Tryz.prog.keyLits (n+2) 80 [.int .i64 x,.int .i64 y]=some [.int .i64 x,.int .i64 y]:=by
 have hc:Tryz.prog.cellsOf 80=2:=by kernel_rfl
 have hi:Tryz.prog.cellsOf 3=1:=by kernel_rfl
 unfold Program.keyLits
 rw [Tryz.underlying80]
 simp [hc,hi,lits_int n hx,lits_int n hy]
theorem lits_pair (n:Nat) {a b c d:Int} (ha : -9223372036854775808≤a∧a≤9223372036854775807) (hb : -9223372036854775808≤b∧b≤9223372036854775807) (hc : -9223372036854775808≤c∧c≤9223372036854775807) (hd : -9223372036854775808≤d∧d≤9223372036854775807) :
  Tryz.prog.keyLits (n+3) 82 [.int .i64 a,.int .i64 b,.int .i64 c,.int .i64 d]=some [.int .i64 a,.int .i64 b,.int .i64 c,.int .i64 d]:=by
 have h4:Tryz.prog.cellsOf 82=4:=by kernel_rfl
 have h2:Tryz.prog.cellsOf 80=2:=by kernel_rfl
 unfold Program.keyLits
 rw [Tryz.underlying82]
 simp [h4,h2,lits_place n ha hb,lits_place n hc hd]
theorem prW:WKey Tryz.prog 82 4:=by
 refine ⟨deep_law_laid (m:=3) (by kernel_rfl) (by decide) (of_decide_eq_true (by kernel_rfl)) (by kernel_rfl) (by kernel_rfl),fun ns hl hb=>?_⟩
 match ns,hl,hb with
 | [a,b,c,d],_,hb =>
  have ha:=hb a (by simp)
  have hb1:=hb b (by simp)
  have hc:=hb c (by simp)
  have hd:=hb d (by simp)
  have h4:Tryz.prog.cellsOf 82=4:=by kernel_rfl
  have hK:Tryz.prog.keyType 82=true:=by kernel_rfl
  have hF:Value.formed Tryz.prog 82 (.agg #[.int .i64 a,.int .i64 b,.int .i64 c,.int .i64 d])=true:=by
   unfold Value.formed
   rw [Tryz.underlying82]
   simp [h4]
  obtain ⟨n,hn⟩:∃ n,Tryz.prog.types.size+1=n+3:=⟨Tryz.prog.types.size - 2,by have:2≤Tryz.prog.types.size:=of_decide_eq_true (by kernel_rfl);omega⟩
  unfold keyOf
  rw [Tryz.underlying82]
  simp only [MK.v,List.map_cons,List.map_nil]
  rw [hK,hF,hn]
  rw [if_pos (show (true && true)=true from rfl),show (Value.agg [Value.int .i64 a,.int .i64 b,.int .i64 c,.int .i64 d].toArray).cells.toList=[.int .i64 a,.int .i64 b,.int .i64 c,.int .i64 d] from rfl,lits_pair n ha hb1 hc hd]
  exact ⟨_,rfl⟩
set_option maxHeartbeats 1000000 in
theorem gnext_pure (a i:Nat) (hi:i≤1000000000):PCalls Tryz.prog 69 [.agg (plE2 a i)] [] fun r os=>r = .agg (plE2 a (i+1))∧os=[]:=by
 refine pcalls_of Tryz.func69 rfl (by simp [Tryz.ntmps69]) ?_
 rw [Tryz.ntmps69,Tryz.results69]
 push_cast [iO,tN]
 repeat' (first|((first|refine pG ?_|refine pQ ?_|refine pU ?_);push_cast [iO,tN])|(refine pif (fun h=>?_) (fun h=>?_)<;>first|exact pN h|push_cast [iO,tN]))
 (refine retK_of [] ?_;push_cast [iO,tN])
set_option maxHeartbeats 4000000 in
theorem gat_pure (l:Alts) (a i:Nat) (ha:a < l.length) (hi:i≤(altV l a).length) (hl:l.length≤1000000000) (hal:(altV l a).length≤1000000000) (hE:∀ e ∈ altV l a,e.set.length=127):PCalls Tryz.prog 68 [.c (.sl 1 (altsD l)),.agg (plE2 a i)] [] fun r os=>r = .two (.agg (((atV l a i).getD ⟨0,false,List.replicate 127 false⟩).d.map D.e)) (.c (.v (.bool ((atV l a i).isSome))))∧os=[]:=by
 refine pcalls_of Tryz.func68 rfl (by simp [Tryz.ntmps68]) ?_
 rw [Tryz.ntmps68,Tryz.results68]
 have ha':(a:Int) < (l.length:Int):=by omega
 have hA:l.getD a default=altV l a:=rfl
 obtain ⟨A,hA2⟩:∃ A,altV l a=A:=⟨_,rfl⟩
 unfold atV
 rw [hA2] at hi hal hA hE ⊢
 push_cast [iO,tN,altsD]
 have cB:CutB 6 [14]:=trivial
 by_cases he:i=A.length
 ·rw [if_pos he]
  subst he
  simp only [Option.getD_none,Option.isSome_none]
  repeat' (first|((refine pwp_cut 6 [14] ?_;apply pwp_drawn_to;(focus kernel_rfl);(focus (simp only [List.length_cons,List.length_nil,Nat.reduceAdd];(repeat' first|((first|refine pah 0 ?_|refine pah 2 ?_|refine pah 3 ?_|refine pah 5 ?_|refine pah 7 ?_|refine pah 8 ?_);push_cast [iO,tN,  ha',hA])|((first|refine pal 1 ?_|refine pal 4 ?_|refine pal 6 ?_);push_cast [iO,tN,  ha',hA])|(refine pad ?_;first|with_reducible exact weak_cutS 6 [14] _|(refine weak_fg ?_;push_cast [iO,tN,  ha',hA])));done));push_cast [iO,tN,  ha',hA]))|((first|refine pC ?_|refine pQC ?_|refine pU ?_);push_cast [iO,tN,ha',hA])|(refine pif (fun h=>?_) (fun h=>?_)<;>first|exact pN h|push_cast [iO,tN,ha',hA]))
  (refine retK_of [] ?_;push_cast [iO,tN,El.d,boolD,List.map_cons,List.map_nil])
 ·rw [if_neg he]
  have he':¬ (i:Int)=(A.length:Int):=by omega
  have hi':(i:Int) < (A.length:Int):=by omega
  have hm:A.getD i default ∈ A:=by rw [getD_lt _ (by omega)];exact List.getElem_mem _
  have hdl:(A.getD i default).d.length=129:=by
   have h1:=hE _ hm
   unfold El.d
   rw [List.length_cons,List.length_cons,List.length_map,h1]
  obtain ⟨e,he2⟩:∃ e,A.getD i default=e:=⟨_,rfl⟩
  obtain ⟨ds,hds⟩:∃ ds,e.d=ds:=⟨_,rfl⟩
  rw [he2] at hdl ⊢
  rw [hds] at hdl
  have hdm:(ds.map D.e).length=129:=by rw [List.length_map];exact hdl
  simp only [Option.getD_some,Option.isSome_some,hds]
  repeat' (first|((refine pwp_cut 6 [14] ?_;apply pwp_drawn_to;(focus kernel_rfl);(focus (simp only [List.length_cons,List.length_nil,Nat.reduceAdd];(repeat' first|((first|refine pah 0 ?_|refine pah 2 ?_|refine pah 3 ?_|refine pah 5 ?_|refine pah 7 ?_|refine pah 8 ?_);push_cast [iO,tN,  ha',hA,he'])|((first|refine pal 1 ?_|refine pal 4 ?_|refine pal 6 ?_);push_cast [iO,tN,  ha',hA,he'])|(refine pad ?_;first|with_reducible exact weak_cutS 6 [14] _|(refine weak_fg ?_;push_cast [iO,tN,  ha',hA,he'])));done));push_cast [iO,tN,  ha',hA,he']))|(refine hidR 3 ?_)|((first|refine pC ?_|refine pQC ?_|refine pU ?_);push_cast [iO,tN,ha',hA,he',hi',he2,hds,hdl,hdm])|(refine pif (fun h=>?_) (fun h=>?_)<;>first|exact pN h|push_cast [iO,tN,ha',hA,he',hi',he2,hds,hdl,hdm]))
  refine unhid ?_
  (refine pwp_cut 6 [14] ?_;apply pwp_drawn_to;(focus kernel_rfl);(focus (simp only [List.length_cons,List.length_nil,Nat.reduceAdd];(repeat' first|((first|refine pah 0 ?_|refine pah 1 ?_|refine pah 3 ?_|refine pah 5 ?_|refine pah 7 ?_|refine pah 10 ?_);push_cast [iO,tN,  ha',hA,hi',he2,hds,hdl,hdm])|((first|refine pal 2 ?_|refine pal 4 ?_|refine pal 6 ?_|refine pal 8 ?_);push_cast [iO,tN,  ha',hA,hi',he2,hds,hdl,hdm])|(refine pad ?_;first|with_reducible exact weak_cutS 6 [14] _|(refine weak_fg ?_;push_cast [iO,tN,  ha',hA,hi',he2,hds,hdl,hdm]))|((first|refine pas [9] ?_);push_cast [iO,tN,  ha',hA,hi',he2,hds,hdl,hdm]));done));push_cast [iO,tN,  ha',hA,hi',he2,hds,hdl,hdm])
  (refine retK_of [] ?_;push_cast [iO,tN,hdm,seeEs_ds,leEs_same])
end Go.Proofs.YthhfpcbpiphfiaaGreatDoor
