/- What the program computes, and the plain laws of it, part 13. -/
import Derived.Orders
import Derived.Test.YthhfpcbpiphfiaaR12
namespace Go.Proofs.Ythhfpcbpiphfiaa
open Go.RowKit
open IntWalk renaming iteOmega → iO, toNatUp → tN
set_option linter.unusedVariables false
set_option linter.unusedSimpArgs false
theorem oper_wp_to {P:Program} {o:Oper} {a:Act} {w:World} {K K':Act → World → Prop} {Q Q':Exit → Act → World → Prop} (h:∀ a w,K a w → K' a w) (hq:∀ e a w,e≠.normal → ¬ Q e a w)
  (hh:o.wpIn (Fw none) 0 P a w K Q):o.wpIn (Fw none) 0 P a w K' Q':=by
 refine ⟨fun _ _=>trivial,?_⟩
 have hh:=hh.2
 generalize (o.semAt (Fw none).round a.eval).run P w=r at *
 cases r with
 | ok n w' =>
  cases n with
  | value v=>exact h _ _ hh
  | skip=>exact h _ _ hh
  | defer d=>exact h _ _ hh
  | enter f args =>
   simp only [Oper.uponIn] at hh ⊢
   refine ⟨hh.1,CallsIn.mono hh.2 fun e w'' he=>?_⟩
   cases e with
   | returned v=>exact h _ _ he
   | panicked ch=>exact absurd he (hq _ _ _ (by simp))
   | outgrown=>obtain ⟨a',w3,h3⟩:=he;exact absurd h3 (hq _ _ _ (by simp))
  | row r args =>
   simp only [Oper.uponIn] at hh ⊢
   exact ⟨hh.1,RowsIn.mono hh.2 fun _ _ he=>h _ _ he⟩
  | round l f tmps assign body =>
   simp only [Oper.uponIn] at hh ⊢
   refine ⟨hh.1,RoundIn.mono hh.2 fun e w'' he=>?_⟩
   cases e with
   | returned v=>exact h _ _ he
   | panicked ch=>exact absurd he (hq _ _ _ (by simp))
   | outgrown=>obtain ⟨a',w3,h3⟩:=he;exact absurd h3 (hq _ _ _ (by simp))
  | _=>exact hh.elim
 | halt x w' =>
  cases x with
  | panic v=>exact absurd hh (hq _ _ _ (by simp))
  | _=>exact hh.elim
theorem pfree_about {P:Program} {o:Oper} (h:pfree o.op=true) (w:World) (ρ:Operand → Value):o.about P w ρ=none:=by
 unfold Oper.about
 split
 ·rename_i c hc
  rw [hc] at h
  unfold pfree at h
  split at h<;>first|(cases h;done)|skip
  all_goals (rename_i e;first|(cases e;simp [resolve,Target.leads])|(cases e))
 ·rfl
section
variable {P:Program} {N p:Nat} {ops:Array Oper} {s:S} {K:S → Prop} {fuel:Nat} {listed:Array Bool}
def PA (P:Program) (N p:Nat) (ops:Array Oper) (fuel:Nat) (listed:Array Bool) (s:S) (K:S → Prop):Prop :=
 ∀ (Γ:G) (a:Act) (w:World) (Q:Exit → Act → World → Prop),Stands N p Γ s a w → (∀ s' Γ' a' w',K s' → Stands N p Γ' s' a' w' → Grow p Γ w Γ' w' → a'.defers=a.defers → Q .normal a' w') → wpAnyIn (Fw none) 0 P .any ops Q fuel listed a w
theorem pa_done (hr:Region.ready .any ops listed=[]) (h:K s):PA P N p ops fuel listed s K:=fun Γ a w Q hA hK=>by
 have:=hK s Γ a w h hA (Grow.refl _ _ _) rfl
 cases fuel with
 | zero=>exact ⟨hr,this⟩
 | succ f=>exact ⟨fun _=>this,fun i hi=>by rw [hr] at hi;cases hi⟩
def paOne (P:Program) (N p:Nat) (ops:Array Oper) (fuel:Nat) (listed:Array Bool) (s:S) (K:S → Prop) (i:Nat):Option Oper → Prop
 | some o=>pops P N p ops [o] s (fun s'=>PA P N p ops fuel (listed.setIfInBounds i true) s' K)
 | none=>False
def paAll (P:Program) (N p:Nat) (ops:Array Oper) (fuel:Nat) (listed:Array Bool) (s:S) (K:S → Prop):List Nat → Prop
 | []=>True
 | i :: r=>paOne P N p ops fuel listed s K i ops[i]?∧paAll P N p ops fuel listed s K r
theorem paAll_mem:∀ {l:List Nat},paAll P N p ops fuel listed s K l → ∀ i ∈ l,paOne P N p ops fuel listed s K i ops[i]?
 | [],_,i,hi=>by cases hi
 | j :: r,h,i,hi=>by
  rcases List.mem_cons.1 hi with rfl|hi
  ·exact h.1
  ·exact paAll_mem h.2 i hi
theorem pa_step (l:List Nat) (hr:Region.ready .any ops listed=l) (hl:l.isEmpty=false) (h:paAll P N p ops fuel listed s K l):PA P N p ops (fuel+1) listed s K:=fun Γ a w Q hA hK=>by
 refine ⟨fun h0=>?_,fun i hi=>?_⟩
 ·rw [hr] at h0;subst h0;cases hl
 ·rw [hr] at hi
  have h1:=paAll_mem h i hi
  unfold wpOpIn
  cases ho:ops[i]? with
  | none=>rw [ho] at h1;exact h1.elim
  | some o =>
   rw [ho] at h1
   have h2:=pl_of_pops h1 Γ a w (fun e a' w'=>e = .normal∧wpAnyIn (Fw none) 0 P .any ops Q fuel (listed.setIfInBounds i true) a' w') hA (fun s' Γ' a' w' hk hA' hg hd=>⟨rfl,hk Γ' a' w' Q hA' fun s'' Γ'' a'' w'' hk' hA'' hg' hd'=>hK s'' Γ'' a'' w'' hk' hA'' (hg.trans hg') (hd'.trans hd)⟩)
   unfold wpListIn at h2
   simp only []
   split
   ·rename_i hw
    rw [if_pos hw] at h2
    exact oper_wp_to (fun a' w' h=>h.2) (fun e a' w' hne h=>hne h.1) h2
   ·rename_i hw
    rw [if_neg hw] at h2
    exact ⟨h2.1,h2.2.2⟩
def nrm (Q:Exit → Act → World → Prop):Exit → Act → World → Prop:=fun e a w=>e = .normal∧Q .normal a w
theorem wpAny_nrm {Q:Exit → Act → World → Prop}:∀ {fuel:Nat} {listed:Array Bool} {a:Act} {w:World},wpAnyIn (Fw none) 0 P .any ops (nrm Q) fuel listed a w → wpAnyIn (Fw none) 0 P .any ops Q fuel listed a w
 | 0,_,_,_,h=>⟨h.1,h.2.2⟩
 | fuel+1,listed,a,w,h=>⟨fun h0=>(h.1 h0).2,fun i hi=>by
  have h1:=h.2 i hi
  unfold wpOpIn at h1 ⊢
  split
  ·rename_i ho;rw [ho] at h1;exact wpAny_nrm h1
  ·rename_i o ho
   rw [ho] at h1
   simp only at h1
   split
   ·rename_i hw
    rw [if_pos hw] at h1
    exact oper_wp_to (fun _ _ h=>wpAny_nrm h) (fun e a' w' hne h=>hne h.1) h1
   ·rename_i hw
    rw [if_neg hw] at h1
    exact ⟨h1.1,wpAny_nrm h1.2⟩⟩
def freeAt (ops:Array Oper) (i:Nat):Bool:=match ops[i]? with
 | some o=>pfree o.op
 | none=>false
def hoR (P:Program) (N p:Nat) (ops:Array Oper) (fuel:Nat) (listed:Array Bool) (s:S) (K:S → Prop) (i:Nat) (o:Oper):Option Bool → Res → Prop
 | some true,.val q=>dstOk N o.dst∧PA P N p ops fuel (listed.setIfInBounds i true) (s.put o.dst q) K
 | some false,_=>dstOk N o.dst∧PA P N p ops fuel (listed.setIfInBounds i true) (s.put o.dst .undef) K
 | _,_=>False
def hoG (P:Program) (N p:Nat) (ops:Array Oper) (fuel:Nat) (listed:Array Bool) (s:S) (K:S → Prop) (i:Nat):Option Oper → Prop
 | some o=>hoR P N p ops fuel listed s K i o (gd ops s o.guard) (run1 P p s o.op)
 | none=>False
theorem pa_hoist (i:Nat) (hB:(Region.noSelect ops && (Region.ready .any ops listed).contains i && Region.free .any ops listed i && freeAt ops i)=true) (h:hoG P N p ops fuel listed s K i ops[i]?):PA P N p ops (fuel+1) listed s K:=fun Γ a w Q hA hK=>by
 simp only [Bool.and_eq_true,List.contains_iff_mem] at hB
 obtain ⟨⟨⟨b1,b2⟩,b3⟩,b4⟩:=hB
 cases ho:ops[i]? with
 | none=>rw [ho] at h;exact h.elim
 | some o =>
  rw [ho] at h
  have hf:pfree o.op=true:=by unfold freeAt at b4;rw [ho] at b4;exact b4
  change hoR P N p ops fuel listed s K i o (gd ops s o.guard) (run1 P p s o.op) at h
  refine wpAny_nrm ?_
  have hQ:∀ (v:Value) c a' w',nrm Q (.panic c) (a'.put o.dst v) w' → nrm Q (.panic c) a' w':=fun v c a' w' h=>absurd h.1 (by simp)
  unfold hoR at h
  split at h
  ·rename_i q hg hr
   obtain ⟨hd,hn⟩:=h
   obtain ⟨y,h1,h2⟩:=pval_free hf (run1_val hr) hA.inv
   refine wpAnyIn_first rfl ho (Region.noSelect_spec b1) (hQ y) fuel listed a w (Region.free_spec ho b3) b2 ⟨.inl ⟨gd_ok hg hA.inv,h2⟩,fun w=>pfree_about hf w _⟩ ?_
   exact hn Γ _ w _ ⟨hA.inv.put (dst_lt hd) h1,hA.le⟩ fun s' Γ' a' w' hk ha hg' hd'=>⟨rfl,hK s' Γ' a' w' hk ha hg' (hd'.trans (put_defers _ _ _))⟩
  ·rename_i r hg
   obtain ⟨hd,hn⟩:=h
   refine wpAnyIn_first rfl ho (Region.noSelect_spec b1) (hQ Go.undef) fuel listed a w (Region.free_spec ho b3) b2 ⟨.inr ⟨gd_ok hg hA.inv,rfl⟩,fun w=>pfree_about hf w _⟩ ?_
   exact hn Γ _ w _ ⟨hA.inv.put (dst_lt hd) rfl,hA.le⟩ fun s' Γ' a' w' hk ha hg' hd'=>⟨rfl,hK s' Γ' a' w' hk ha hg' (hd'.trans (put_defers _ _ _))⟩
  ·exact h.elim
theorem pwp_drawn {rd:Option Nat} {Q:Exit → S → Prop} {id:Nat} {l:List Oper} (hmp:(P.follows .mixedOrders && plains l)=true) (h:PA P N p l.toArray l.length (Array.replicate l.length false) s (fun s'=>Q .normal s')):PWPr rd P N p (.region id l.toArray true) Q s:=fun z Γ a w hA hD=>by
 simp only [Bool.and_eq_true] at hmp
 refine wpIn_region_any hmp.1 (any_rd (by simpa using hmp.2) ?_)
 have hX:Ext No w { w with drawn:=w.drawn+1 }:=(Ext.refl No w).drew
 exact h Γ a _ _ ⟨hA.inv.same (Same.of_ext hX),hA.le⟩ fun s' Γ' a' w' hk hA' hg hd=>⟨s',Γ',hk,hA',(ext_grow hX).trans hg,hD.grow ((ext_grow (p:=p) hX).trans hg) hd⟩
theorem pwp_drawn_to {rd:Option Nat} {Q:Exit → S → Prop} {id:Nat} {l:List Oper} (s1:S) (hmp:(P.follows .mixedOrders && plains l)=true) (h:PA P N p l.toArray l.length (Array.replicate l.length false) s (fun s'=>Weak N p s' s1)) (hq:Q .normal s1):PWPr rd P N p (.region id l.toArray true) Q s:=fun z Γ a w hA hD=>by
 simp only [Bool.and_eq_true] at hmp
 refine wpIn_region_any hmp.1 (any_rd (by simpa using hmp.2) ?_)
 have hX:Ext No w { w with drawn:=w.drawn+1 }:=(Ext.refl No w).drew
 refine h Γ a _ _ ⟨hA.inv.same (Same.of_ext hX),hA.le⟩ fun s' Γ' a' w' hk hA' hg hd=>?_
 obtain ⟨Γ2,hA2,hg2⟩:=hk Γ' a' w' hA'
 exact ⟨s1,Γ2,hq,hA2,(ext_grow hX).trans (hg.trans hg2),hD.grow ((ext_grow (p:=p) hX).trans (hg.trans hg2)) hd⟩
end
attribute [push_cast] paOne paAll hoG hoR
attribute [local irreducible] PA
end Go.Proofs.Ythhfpcbpiphfiaa
namespace Go.Proofs.Ythhfpcbpiphfiaa
open Go.RowKit
open IntWalk renaming iteOmega → iO, toNatUp → tN
set_option linter.unusedVariables false
set_option linter.unusedSimpArgs false
def consIf {α:Type}:Bool → α → List α → List α
 | true,a,l=>a :: l
 | false,_,l=>l
def cutT (B:Nat) (ex dead:List Nat):List (Nat × PV) → List (Nat × PV)
 | []=>[]
 | (i,q) :: t=>consIf ((decide (i < B) || memB i ex) && !memB i dead) (i,q) (cutT B ex (consIf (decide (i < B) || memB i ex) i dead) t)
theorem memB_mem {i:Nat}:∀ {l:List Nat},memB i l=true ↔ i ∈ l
 | []=>by simp [memB]
 | j :: l=>by
  simp only [memB,List.mem_cons]
  split
  ·rename_i e;simp [e]
  ·rename_i e;rw [memB_mem (l:=l)];exact ⟨.inr,fun h=>h.resolve_left fun h'=>e h'.symm⟩
theorem cutT_look {B:Nat} {ex:List Nat} {i:Nat} {q:PV}:∀ {t:List (Nat × PV)} {dead:List Nat},look (cutT B ex dead t) i=some q → (i < B∨i ∈ ex)∧i ∉ dead∧look t i=some q
 | [],dead,h=>by simp [cutT,look] at h
 | (j,r) :: t,dead,h=>by
  rw [cutT] at h
  cases hk:(decide (j < B) || memB j ex)
  ·rw [hk] at h
   simp only [Bool.false_and,consIf] at h
   obtain ⟨h1,h2,h3⟩:=cutT_look h
   refine ⟨h1,h2,?_⟩
   simp only [look]
   rw [if_neg ?_]
   ·exact h3
   ·rintro rfl
    have:(decide (i < B) || memB i ex)=true:=by simpa only [Bool.or_eq_true,decide_eq_true_eq,memB_mem] using h1
    rw [hk] at this;cases this
  ·rw [hk] at h
   simp only [Bool.true_and,consIf] at h
   have hk':j < B∨j ∈ ex:=by simpa only [Bool.or_eq_true,decide_eq_true_eq,memB_mem] using hk
   cases hd:memB j dead
   ·rw [hd] at h
    simp only [Bool.not_false,consIf,look] at h ⊢
    by_cases e:i=j
    ·subst e
     rw [if_pos rfl] at h ⊢
     exact ⟨hk',(fun hj=>by rw [← memB_mem,hd] at hj;cases hj),h⟩
    ·rw [if_neg e] at h ⊢
     obtain ⟨h1,h2,h3⟩:=cutT_look h
     exact ⟨h1,fun hi=>h2 (List.mem_cons_of_mem _ hi),h3⟩
   ·rw [hd] at h
    simp only [Bool.not_true,consIf,look] at h ⊢
    obtain ⟨h1,h2,h3⟩:=cutT_look h
    have e:i≠j:=fun e=>h2 (by rw [e];exact List.mem_cons_self)
    rw [if_neg e]
    exact ⟨h1,fun hi=>h2 (List.mem_cons_of_mem _ hi),h3⟩
theorem weak_cutT {N p:Nat} (B:Nat) (ex dead:List Nat) (s:S):Weak N p s ⟨cutT B ex dead s.t,s.o⟩:=fun Γ a w hA =>
 ⟨Γ,⟨⟨hA.inv.size,hA.inv.defers,fun i q hi=>hA.inv.t i q (cutT_look hi).2.2,hA.inv.m⟩,hA.le⟩,Grow.refl _ _ _⟩
def cutS (B:Nat) (ex:List Nat) (s:S):S:=⟨cutT B ex [] s.t,s.o⟩
theorem weak_cutS {N p:Nat} (B:Nat) (ex:List Nat) (s:S):Weak N p s (cutS B ex s):=weak_cutT B ex [] s
def setM:List Ob → List (Nat × Ob) → List Ob
 | os,[]=>os
 | os,(k,o) :: r=>setM (os.set k o) r
section
variable {rd:Option Nat} {P:Program} {N p:Nat} {Q:Exit → S → Prop} {s:S}
theorem pwp_cut (B:Nat) (ex:List Nat) {c:Code} (h:PWPr rd P N p c Q (cutS B ex s)):PWPr rd P N p c Q s:=pwp_weak (weak_cutS B ex s) h
theorem pwp_loop3 {c:Code} {α:Type} (B:Nat) (ex:List Nat) (f:α → List (Nat × PV)) (g:α → List (Nat × Ob)) (Φ:α → Prop) (μ:α → Nat) (x0:α) {t0:List (Nat × PV)} (ht:cutT B ex ((f x0).map Prod.fst) s.t=t0) (h0:Φ x0)
  (hw:Weak N p s ⟨f x0++t0,setM s.o (g x0)⟩)
  (round:∀ x,Φ x → PWPr rd P N p c (thenE (fun s'=>∃ x',Φ x'∧Weak N p s' ⟨f x'++t0,setM s.o (g x')⟩∧μ x' < μ x) Q) ⟨f x++t0,setM s.o (g x)⟩):PWPr rd P N p (.loop c) Q s :=
 pwp_loop2 Φ (fun x=>⟨f x++t0,setM s.o (g x)⟩) μ x0 h0 hw round
end
attribute [push_cast] fillA consIf cutT cutS setM List.set_cons_zero List.set_cons_succ List.cons_append List.nil_append List.append_assoc Bool.and_true Bool.true_and Bool.false_and Bool.and_false Bool.or_true Bool.true_or Bool.or_false Bool.false_or Bool.not_true Bool.not_false decide_true decide_false Bool.false_eq_true
def cutO:Option (Nat × List Nat) → S → S
 | none,s=>s
 | some (B,ex),s=>cutS B ex s
def sel (n:Nat) (f g:S → Prop) (s:S):Prop:=if n=1 then f s else g s
theorem sel_one (f g:S → Prop) (s:S):sel 1 f g s=f s:=by simp [sel]
theorem sel_zero (f g:S → Prop) (s:S):sel 0 f g s=g s:=by simp [sel]
def condG:Option PV → (S → Prop) → (S → Prop) → S → Prop
 | some (.c (.v (.bool t))),f,g,s=>sel (if t=true then 1 else 0) f g s
 | _,_,_,_=>False
theorem condG_bool (t:Bool) (f g:S → Prop) (s:S):condG (some (.c (.v (.bool t)))) f g s=sel (if t=true then 1 else 0) f g s:=rfl
theorem pif {p:Prop} [Decidable p] {f g:S → Prop} {s:S} (h1:p → f s) (h2:¬ p → g s):sel (if p then 1 else 0) f g s:=by
 by_cases h:p
 ·rw [if_pos h,sel_one];exact h1 h
 ·rw [if_neg h,sel_zero];exact h2 h
theorem sel_dec (p:Prop) [Decidable p]:(if decide p=true then (1:Nat) else 0)=if p then 1 else 0:=by by_cases h:p<;>simp [h]
theorem cT {b:Bool} {X:Prop} (h:b=true) (h':b=false):X:=by rw [h] at h';cases h'
theorem cF {b:Bool} {X:Prop} (h:b=false) (h':b=true):X:=by rw [h] at h';cases h'
theorem cN:(∀ (b:Bool),(¬ b=true)=(b=false))∧(∀ (b:Bool),((!b)=true)=(b=false))∧(∀ (a b:Int),(¬ a < b)=(b≤a))∧(∀ (a b:Int),(¬ a≤b)=(b < a))∧(∀ (a b:Nat),(¬ a < b)=(b≤a))∧(∀ (a b:Nat),(¬ a≤b)=(b < a)) :=
 ⟨fun b=>by cases b<;>simp,fun b=>by cases b<;>simp,fun a b=>by simp,fun a b=>by simp,fun a b=>by simp,fun a b=>by simp⟩
def go1 (rd:Option Nat) (P:Program) (N p:Nat) (ct:Option (Nat × List Nat)):Code → (Exit → S → Prop) → S → Prop
 | .seq x y,Q,s=>go1 rd P N p ct x (thenE (go1 rd P N p ct y Q) Q) s
 | .block id c,Q,s=>go1 rd P N p ct c (inE id Q) s
 | .scope c,Q,s=>go1 rd P N p ct c (noG Q) s
 | .skip,Q,s=>Q .normal s
 | .exit i,Q,s=>Q (.exit i) s
 | .ret,Q,s=>Q .ret s
 | .cond c x y,Q,s=>condG (s.ev c) (go1 rd P N p ct x Q) (go1 rd P N p ct y Q) s
 | .region id ops dr,Q,s=>match dr with
  | false=>pops P N p ops ops.toList (cutO ct s) (Q .normal)
  | true=>PWPr rd P N p (.region id ops true) Q s
 | .loop c,Q,s=>PWPr rd P N p (.loop c) Q s
 | .rangeFunc g ps x y,Q,s=>PWPr rd P N p (.rangeFunc g ps x y) Q s
 | .label l,Q,s=>PWPr rd P N p (.label l) Q s
 | .goto l,Q,s=>PWPr rd P N p (.goto l) Q s
 | .refuse w,Q,s=>PWPr rd P N p (.refuse w) Q s
def okc:Code → Bool
 | .seq x y=>okc x && okc y
 | .block _ c=>okc c
 | .scope c=>okc c
 | .cond _ x y=>okc x && okc y
 | .region _ ops false=>plains ops.toList
 | _=>true
def stp:Code → Bool
 | .seq _ _=>true
 | .block _ _=>true
 | .scope _=>true
 | .skip=>true
 | .exit _=>true
 | .ret=>true
 | .cond _ _ _=>true
 | .region _ _ false=>true
 | _=>false
section
variable {rd:Option Nat} {P:Program} {N p:Nat} {ct:Option (Nat × List Nat)} {Q:Exit → S → Prop} {s:S}
theorem go1_seq (x y:Code):go1 rd P N p ct (.seq x y) Q s=go1 rd P N p ct x (thenE (go1 rd P N p ct y Q) Q) s:=by rw [go1]
theorem go1_block (id:Nat) (c:Code):go1 rd P N p ct (.block id c) Q s=go1 rd P N p ct c (inE id Q) s:=by rw [go1]
theorem go1_scope (c:Code):go1 rd P N p ct (.scope c) Q s=go1 rd P N p ct c (noG Q) s:=by rw [go1]
theorem go1_skip:go1 rd P N p ct .skip Q s=Q .normal s:=by rw [go1]
theorem go1_exit (i:Nat):go1 rd P N p ct (.exit i) Q s=Q (.exit i) s:=by rw [go1]
theorem go1_ret:go1 rd P N p ct .ret Q s=Q .ret s:=by rw [go1]
theorem go1_cond (c:Operand) (x y:Code):go1 rd P N p ct (.cond c x y) Q s=condG (s.ev c) (go1 rd P N p ct x Q) (go1 rd P N p ct y Q) s:=by rw [go1]
theorem go1_region (id:Nat) (l:List Oper):go1 rd P N p ct (.region id l.toArray false) Q s=pops P N p l.toArray l (cutO ct s) (Q .normal):=by rw [go1]
theorem go1_drawn (id:Nat) (ops:Array Oper):go1 rd P N p ct (.region id ops true) Q s=PWPr rd P N p (.region id ops true) Q s:=by rw [go1]
theorem go1_loop (c:Code):go1 rd P N p ct (.loop c) Q s=PWPr rd P N p (.loop c) Q s:=by rw [go1]
theorem cutO_none (s:S):cutO none s=s:=rfl
theorem cutO_some (B:Nat) (ex:List Nat) (s:S):cutO (some (B,ex)) s=cutS B ex s:=rfl
theorem weak_cutO (ct:Option (Nat × List Nat)) (s:S):Weak N p s (cutO ct s):=by
 cases ct with
 | none=>exact Weak.refl _ _ _
 | some x=>exact weak_cutS x.1 x.2 s
theorem go1_ok:∀ {c:Code} {Q:Exit → S → Prop} {s:S},okc c=true → go1 rd P N p ct c Q s → PWPr rd P N p c Q s:=by
 intro c
 induction c with
 | seq x y ihx ihy =>
  intro Q s ho h
  simp only [okc,Bool.and_eq_true] at ho
  rw [go1_seq] at h
  refine pwp_seq fun K hK=>pwp_mono (ihx ho.1 h) fun e s' hq=>?_
  cases e with
  | normal=>exact hK s' (ihy ho.2 hq)
  | _=>exact hq
 | block id c ih=>intro Q s ho h;rw [go1_block] at h;exact pwp_block (ih ho h)
 | scope c ih=>intro Q s ho h;rw [go1_scope] at h;exact pwp_scope (ih ho h)
 | skip=>intro Q s ho h;rw [go1_skip] at h;exact pwp_skip h
 | exit i=>intro Q s ho h;rw [go1_exit] at h;exact pwp_exit h
 | ret=>intro Q s ho h;rw [go1_ret] at h;exact pwp_ret h
 | cond c x y ihx ihy =>
  intro Q s ho h
  simp only [okc,Bool.and_eq_true] at ho
  rw [go1_cond] at h
  refine pwp_cond ?_
  unfold condG at h
  split at h
  ·rename_i t e
   rw [e]
   cases t with
   | true=>exact ⟨fun _=>ihx ho.1 (by simpa [sel] using h),fun h'=>by cases h'⟩
   | false=>exact ⟨fun h'=>(by cases h'),fun _=>ihy ho.2 (by simpa [sel] using h)⟩
  ·exact h.elim
 | region id ops dr =>
  intro Q s ho h
  cases dr with
  | true=>rw [go1_drawn] at h;exact h
  | false =>
   obtain ⟨l⟩:=ops
   rw [go1_region] at h
   exact pwp_weak (weak_cutO ct s) (pwp_region h ho)
 | _=>intro Q s ho h;unfold go1 at h;exact h
theorem g1 {c:Code} (hs:stp c=true) (ho:okc c=true) (h:go1 rd P N p none c Q s):PWPr rd P N p c Q s:=go1_ok ho h
end
attribute [push_cast] sel_one sel_zero sel_dec condG_bool go1_seq go1_block go1_scope go1_skip go1_exit go1_ret go1_cond go1_region go1_drawn go1_loop cutO_none cutO_some
section
variable {rd:Option Nat} {P:Program} {N p:Nat} {Q:Exit → S → Prop} {s:S} {o:Oper} {ops:Array Oper} {rest:List Oper} {K:S → Prop} {fuel:Nat} {listed:Array Bool}
def CutB (_:Nat) (_:List Nat):Prop:=True
theorem pG {c:Code} (h:go1 rd P N p none c Q s) (hs:stp c=true:=by rfl) (ho:okc c=true:=by kernel_rfl):PWPr rd P N p c Q s:=go1_ok ho h
theorem pC {B:Nat} {ex:List Nat} {c:Code} (h:go1 rd P N p (some (B,ex)) c Q s) (hs:stp c=true:=by rfl) (ho:okc c=true:=by kernel_rfl) (_:CutB B ex:=by assumption):PWPr rd P N p c Q s:=go1_ok ho h
theorem pQ {id:Nat} {l:List Oper} (h:qops P N p l.toArray l s (fun s'=>Q .normal s')) (hm:P.follows .mixedOrders=true:=by kernel_rfl) (hB:Region.lexB .any l.toArray=true:=by kernel_rfl) (hp:plains l=true:=by kernel_rfl):PWPr rd P N p (.region id l.toArray true) Q s:=pwp_quiet hm hB h hp
theorem pQC {B:Nat} {ex:List Nat} {id:Nat} {l:List Oper} (h:qops P N p l.toArray l (cutS B ex s) (fun s'=>Q .normal s')) (hm:P.follows .mixedOrders=true:=by kernel_rfl) (hB:Region.lexB .any l.toArray=true:=by kernel_rfl) (hp:plains l=true:=by kernel_rfl) (_:CutB B ex:=by assumption):PWPr rd P N p (.region id l.toArray true) Q s:=pwp_cut B ex (pwp_quiet hm hB h hp)
theorem pU {c:Code} (h:PWPr rd P N p c Q s) (hk:Kontr rd P N p c Q K:=by assumption):K s:=Kont.use hk h
theorem pN {c X:Prop} (h:c) (hn:¬ c:=by intro h;(try simp only [cN] at h);first|contradiction|omega|exact cT h (by assumption)|exact cF h (by assumption)):X:=(hn h).elim
theorem plc {f:Operand} {args:Array Operand} {tys:Array TypeId} {g:FuncId} {ds:List D} {cap:List Nat} (ks:List Nat) {args':List PV} {os':List Ob} {R:PV → List Ob → Prop}
  (hc:PCalls P g args' os' R) (hG:callG N ops s o false ks (callArgs s ds args.toList cap) args' os')
  (hK:∀ r os'',R r os'' → pops P N p ops rest (S.put ⟨s.t,putBack (rho ks s.o.length) s.o ks os''⟩ o.dst (r.ren (rho ks s.o.length))) K)
  (ho:o.op = .call ⟨.value f,args,tys⟩:=by rfl) (hf:s.ev f=some (.c (.fn (.func g) ds cap)):=by rfl) (hb:bodyOk P g=true:=by kernel_rfl):PL P N p ops (o :: rest) s K :=
 pl_call2 false ks ho hf hb hc hG nofun fun r os'' h=>pl_of_pops (hK r os'' h)
theorem pas (l:List Nat) (h:paAll P N p ops fuel listed s K l) (hr:Region.ready .any ops listed=l:=by decide +kernel) (hl:l.isEmpty=false:=by rfl):PA P N p ops (fuel+1) listed s K:=pa_step l hr hl h
theorem pah (i:Nat) (h:hoG P N p ops fuel listed s K i ops[i]?) (hB:(Region.noSelect ops && (Region.ready .any ops listed).contains i && Region.free .any ops listed i && freeAt ops i)=true:=by decide +kernel):PA P N p ops (fuel+1) listed s K:=pa_hoist i hB h
theorem pad (h:K s) (hr:Region.ready .any ops listed=[]:=by decide +kernel):PA P N p ops fuel listed s K:=pa_done hr h
end
theorem run_append_out {P:Program} (w:World) (base:Nat) (t ty e:TypeId) (size bytes:Nat) (hT:SlT P t e size bytes)
  (ad:Addr) (n c0:Nat) (xs:List Value) (hl:xs.length=n * size) (holds:∀ j u,xs[j]? = some u → w.cell? (ad.add j)=some u) (R':Nat → Prop) (A':Option Addr) (m c:Nat) (news:List Value) (hr:Rd w R' size A' m news)
  (h0:0 < m) (hg:c0 < n+m) (h63:n+m≤maxLen) (hbytes:(n+m) * bytes≤140737488355328) (hbase:base≤w.heap.size) :
  ∃ v' w',(Builtin.append_ #[t,t] ty #[.slice (some ad) n c0,.slice A' m c]).run P w = .ok v' w'∧w'.ownsRow base e size v' (n+m) (xs++news)∧Ext No w w':=by
 obtain ⟨ht,⟨i,z,hi,hz,hsize,hby,hzs⟩,hsz⟩:=hT
 subst hsize
 subst hby
 obtain ⟨b',o',rfl,hb',hlt',hc'⟩:=hr.2 h0
 have hsmall:n+m≤9223372036854775807:=by simp only [maxLen] at h63;omega
 have hlen:(xs++news).length=(n+m) * i.size:=by rw [List.length_append,hl,hr.1,Nat.add_mul]
 have hnews:∀ j u,news[j]? = some u → w.cell? ((⟨b',o',none⟩:Addr).add j)=some u:=fun j u hu=>by rw [Addr.add_lit];exact hc' j u hu
 have grown:(w.drew.alloc (.cells (xs.toArray++news.toArray++Builtin.zeroCells z.cells (grownCap w (n+m) c0 e - (n+m))) e)).ownsRow base e i.size
    (.slice (some ⟨w.heap.size,0,none⟩) (n+m) (grownCap w (n+m) c0 e)) (n+m) (xs++news):=by
  have hge:=grownCap_ge w (n+m) c0 e
  have hcm:grownCap w (n+m) c0 e≤maxLen:=grownCap_le_maxLen w (n+m) c0 e h63
  refine ⟨hlen,.inr ⟨w.heap.size,_,_,rfl,hbase,heap_alloc_new w.drew _,hge,hcm,?_,?_⟩⟩
  ·simp only [Array.size_append,List.size_toArray,size_zeroCells,hzs,hl,hr.1,← Nat.add_mul]
   congr 1
   omega
  ·simp only [Array.toList_append,List.append_assoc]
   rw [← List.append_assoc,← hlen]
   exact List.take_left
 have hrun:=run_append_grow (P:=P) w t ty e i z ht hi hz ad n c0 xs hl holds ⟨b',o',none⟩ m c news hr.1 hnews hg (by omega) (growslice_fits hg hbytes)
 exact ⟨_,_,hrun,grown,(Ext.refl No w).drew.alloc _⟩
theorem app_two {P:Program} {N p:Nat} {Γ:G} {s:S} {a:Act} {w:World} {o:Oper} {t e:TypeId} {sz by':Nat} {x z:Operand} {k:Nat} {rows ys:List (List D)} (ho:o.op = .call { callee:=.builtin .append,args := #[x,z],argTypes := #[t,t] })
  (hel:elOf P t=some (e,sz)) (hby:bytOf P e=some by') (hsz:0 < sz) (hz:(zerOf P e).map List.length=some sz) (hx:s.ev x=some (.c (.own k rows.length))) (hk:s.o[k]? = some (.arr e sz rows))
  (hys:srcRows s.o sz (s.ev z)=some ys) (h0:0 < ys.length) (hb1:((rows.length:Int)+ys.length) * by'≤140737488355328) (hb2:(rows.length:Int)+ys.length≤9223372036854775807) (hI:Inv N Γ s a w) (hp:p≤Γ.n) :
  AppOk P N p Γ s a w o (.c (.own k (rows.length+ys.length))) (s.o.set k (.arr e sz (rows++ys))) none∨AppOk P N p Γ s a w o (.c (.own s.o.length (rows.length+ys.length))) (s.o++[.arr e sz (rows++ys)]) none:=by
 obtain ⟨hT,i,hu,hi⟩:=slT_of hel hby hsz hz
 obtain ⟨hyr,A,c,news,hzv,hrd,hnx⟩:=src_ok hI.m hys (fun q hq=>S.ev_ok hq hI)
 have hone:=rd_one hnx
 have hexec:∀ (v v':Value) (w':World),a.eval x=v → (Builtin.append_ #[t,t] o.type #[v,.slice A ys.length c]).run P w = .ok v' w' → (execOp a.eval o).run P w = .ok (.value v') w':=by
  intro v v' w' hv hr
  simp only [execOp,ho,resolve,invoke,builtin,Sem.run_bind,Sem.run_pure,Result.andThen_ok,List.map_toArray,List.map_cons,List.map_nil,hv,hzv,hr]
 obtain ⟨hkn,hrep⟩:=S.ev_ok hx hI
 have hro:=hI.m.ob k _ hk
 obtain ⟨g1,g2,g3,g4⟩:=hro
 have hrl:∀ r ∈ rows++ys,r.length=sz:=fun r hr=>by
  rcases List.mem_append.1 hr with hr|hr
  ·exact g1 r hr
  ·exact hyr r hr
 have hbb:(rows.length+ys.length) * by'≤140737488355328:=by have:=hb1;rw [← Int.natCast_add,← Int.natCast_mul] at this;omega
 have hmx:rows.length+ys.length≤maxLen:=by simp only [maxLen];omega
 rcases hrep with ⟨hc0,⟨A0,hv⟩,hn0⟩|⟨hcp,hv,hnc⟩
 ·
  have hr0:rows=[]:=List.eq_nil_of_length_eq_zero hn0
  subst hr0
  right
  obtain ⟨v',w',hr,h2,h3⟩:=run_append_full (P:=P) w w.heap.size t o.type e sz by' hT (fun _=>True) _ A0 0 [] ⟨by simp,fun h=>absurd h (by omega)⟩ A ys.length c news hrd h0 (by simpa using hmx) (by simpa using hbb) (Nat.le_refl _)
  simp only [List.length_nil,Nat.zero_add,List.nil_append] at *
  exact app_new hI hp (hexec _ _ _ hv hr) h3 h2 (by omega) hsz hyr rfl (hnx.mono fun _ _=>RD.stay ((Same.of_ext h3).stay Γ.I) _ _)
 ·obtain ⟨cur,q1,q2,q3,q4,q5⟩:=g4 hcp
  by_cases hroom:rows.length+ys.length≤Γ.cap k
  ·left
   have hown:w.ownsRow 0 e sz (.slice (some ⟨Γ.β k,0,none⟩) rows.length (Γ.cap k)) rows.length (cur.toList.take (rows.length * sz)) :=
    own_blk q1 (Nat.zero_le _) q2 hnc q4
   obtain ⟨v',w',hr,h2,h3,h5⟩:=run_append_rd (P:=P) w 0 t o.type e sz by' hT _ _ _ hown _ A ys.length c news hrd hone hmx hbb (Nat.zero_le _)
   obtain ⟨b',o',hA,hb',hlt',hc'⟩:=hrd.2 h0
   obtain ⟨i2,hi2,hisz,hiby⟩:∃ i2,P.info? e=some i2∧i2.size=sz∧i2.bytes=by':=by
    obtain ⟨_,⟨i2,z2,h1,_,h3,h4,_⟩,_⟩:=hT
    exact ⟨i2,h1,h3,h4⟩
   have hfit:rows.length * i2.size+news.length≤cur.size:=by rw [hisz,hrd.1,q2,← Nat.add_mul];exact Nat.mul_le_mul_right _ hroom
   have hrun2:=run_append_room (P:=P) w t o.type e i2 hu hi2 (Γ.β k) rows.length (Γ.cap k) cur q1 ⟨b',o',none⟩ ys.length c news (by rw [hisz];exact hrd.1) (fun j u hu=>by rw [Addr.add_lit];exact hc' j u hu) hone hroom hfit
   rw [hA] at hr
   rw [hrun2] at hr
   injection hr with hr1 hr2
   subst hr1
   have hE:Ext (fun i=>i=Γ.β k) w w':=h3.mono fun j hj=>by simp [Value.ownBlock] at hj;exact hj.symm
   have hs:Stay w Γ.I w' Γ.I:=⟨hE.size,fun i hi hl=>hE.block i hl fun h2=>hI.m.off k hkn hcp (h2 ▸ hi),fun i hi=>hi⟩
   obtain ⟨_,h2⟩:=h2
   have hblk:∃ cur',Blk w' (Γ.β k) e cur'∧cur'.size=Γ.cap k * sz∧cur'.toList.take ((rows.length+ys.length) * sz)=cur.toList.take (rows.length * sz)++news:=by
    rcases h2 with ⟨h2,_⟩|⟨g,cap,cur',h2,_,hg,_,_,hcs,htk⟩
    ·cases h2
    ·injection h2 with e1 e2 e3
     injection e1 with e1
     injection e1 with e1
     subst e1;subst e3
     exact ⟨cur',hg,hcs,htk⟩
   obtain ⟨cur',hb1',hcs,htk⟩:=hblk
   refine ⟨.slice (some ⟨Γ.β k,0,none⟩) (rows.length+ys.length) (Γ.cap k),w',Γ,?_,⟨hkn,.inr ⟨hcp,rfl,hroom⟩⟩,⟨hI.size,hI.defers,fun i q hq=>?_,⟨by rw [hI.m.n,List.length_set],fun j o' ho'=>?_,hI.m.sep,hI.m.off,fun b hb=>Nat.lt_of_lt_of_le (hI.m.lt b hb) hE.size,hI.m.pins hs⟩⟩,⟨hE.mono fun i h1=>⟨k,hkn,hcp,h1.symm⟩,fun _ h=>h,fun j hj hc=>.inl ⟨j,hj,hc,rfl⟩,fun _ h=>.inl h,fun _ _=>⟨rfl,rfl⟩⟩⟩
   ·have:=hexec _ _ _ hv (by rw [hA,hrun2])
    rw [this,hr2]
   ·obtain ⟨i1,i2⟩:=hI.t i q hq
    exact ⟨i1,i2.stay hs fun j hj=>⟨i2.lt j hj,rfl,rfl⟩⟩
   ·by_cases hjk:k=j
    ·subst hjk
     have hkl:k < s.o.length:=by rw [← hI.m.n];exact hkn
     rw [List.getElem?_set_self hkl] at ho'
     cases ho'
     refine ⟨hrl,hsz,fun h=>absurd h (by omega),fun _=>⟨cur',hb1',hcs,by rw [List.length_append];exact hroom,q4,?_⟩⟩
     rw [List.length_append,htk,List.flatten_append]
     exact (q5.mono fun _ _=>RD.stay hs _ _).append (hnx.mono fun _ _=>RD.stay hs _ _)
    ·rw [List.getElem?_set_ne hjk] at ho'
     have hj:j < Γ.n:=by rw [hI.m.n];exact (List.getElem?_eq_some_iff.1 ho').1
     exact (hI.m.ob j o' ho').stay hs (fun i hi=>⟨hi,rfl,rfl⟩) hj fun hcj=>hE.block _ (mine_lt hI.m hj hcj) fun h=>hjk (hI.m.sep k j hkn hj hcp hcj h.symm)
  ·right
   have holds:∀ j u,(cur.toList.take (rows.length * sz))[j]? = some u → w.cell? ((⟨Γ.β k,0,none⟩:Addr).add j)=some u:=by
    intro j u hu
    rw [Addr.add_lit,Nat.zero_add,q1.cell]
    rw [List.getElem?_take] at hu
    split at hu
    ·simpa using hu
    ·cases hu
   have hxl:(cur.toList.take (rows.length * sz)).length=rows.length * sz:=by
    rw [List.length_take]
    have hcz:cur.toList.length=cur.size:=Array.length_toList
    rw [hcz,q2]
    exact Nat.min_eq_left (Nat.mul_le_mul_right _ hnc)
   obtain ⟨v',w',hr,h2,h3⟩:=run_append_out (P:=P) w w.heap.size t o.type e sz by' hT ⟨Γ.β k,0,none⟩ rows.length (Γ.cap k) _ hxl holds _ A ys.length c news hrd h0 (by omega) hmx hbb (Nat.le_refl _)
   refine app_new hI hp (hexec _ _ _ hv hr) h3 h2 (by omega) hsz hrl (by simp) ?_
   rw [List.flatten_append]
   exact (q5.append hnx).mono fun _ _=>RD.stay ((Same.of_ext h3).stay Γ.I) _ _
section
variable {P:Program} {N p:Nat} {ops:Array Oper} {rest:List Oper} {o:Oper} {s:S} {K:S → Prop}
theorem pl_app2 {t e:TypeId} {sz by':Nat} {x z:Operand} (k:Nat) {rows ys:List (List D)} (ho:o.op = .call { callee:=.builtin .append,args := #[x,z],argTypes := #[t,t] }) (hg:gd ops s o.guard=some true) (hd:dstOk N o.dst)
  (hel:elOf P t=some (e,sz)) (hby:bytOf P e=some by') (hsz:0 < sz) (hz:(zerOf P e).map List.length=some sz) (hk:s.o[k]? = some (.arr e sz rows)) (hx:s.ev x=some (.c (.own k rows.length)))
  (hys:srcRows s.o sz (s.ev z)=some ys) (h0:0 < ys.length) (hb1:((rows.length:Int)+ys.length) * by'≤140737488355328) (hb2:(rows.length:Int)+ys.length≤9223372036854775807)
  (hA:PL P N p ops rest (S.put ⟨s.t,s.o.set k (.arr e sz (rows++ys))⟩ o.dst (.c (.own k (rows.length+ys.length)))) K)
  (hB:PL P N p ops rest (S.put ⟨s.t,s.o++[.arr e sz (rows++ys)]⟩ o.dst (.c (.own s.o.length (rows.length+ys.length)))) K):PL P N p ops (o :: rest) s K:=by
 intro Γ a w Q hS hK
 rcases app_two (p:=p) ho hel hby hsz hz hx hk hys h0 hb1 hb2 hS.inv hS.le with h|h
 ·obtain ⟨y,w',Γ',h1,h2,h3,h4⟩:=h
  unfold wpListIn
  rw [if_pos (gd_ok hg hS.inv)]
  have hle:p≤Γ'.n:=by have h5:=hS.le;rw [hS.inv.m.n] at h5;rw [h3.m.n,List.length_set];exact h5
  exact wpIn_run h1 (hA Γ' _ w' Q ⟨Inv.put h3 (dst_lt hd) h2,hle⟩ fun s' Γ'' a' w'' hk ha hg' hd'=>hK s' Γ'' a' w'' hk ha (h4.trans hg') (hd'.trans (put_defers _ _ _)))
 ·obtain ⟨y,w',Γ',h1,h2,h3,h4⟩:=h
  unfold wpListIn
  rw [if_pos (gd_ok hg hS.inv)]
  have hle:p≤Γ'.n:=by have h5:=hS.le;rw [hS.inv.m.n] at h5;rw [h3.m.n,List.length_append];omega
  exact wpIn_run h1 (hB Γ' _ w' Q ⟨Inv.put h3 (dst_lt hd) h2,hle⟩ fun s' Γ'' a' w'' hk ha hg' hd'=>hK s' Γ'' a' w'' hk ha (h4.trans hg') (hd'.trans (put_defers _ _ _)))
end
theorem weak_trim {N p:Nat} {s:S} (k n:Nat) {el:TypeId} {sz:Nat} {rows:List (List D)} (hk:s.o[k]? = some (.arr el sz rows)):Weak N p s ⟨s.t,setO s.o k (.arr el sz (rows.take n))⟩:=by
 intro Γ a w hA
 have hm:=hA.inv.m
 have hkl:k < s.o.length:=(List.getElem?_eq_some_iff.1 hk).1
 refine ⟨Γ,⟨⟨hA.inv.size,hA.inv.defers,hA.inv.t,⟨by simp [setO,hm.n],fun j o ho=>?_,hm.sep,hm.off,hm.lt,hm.pin⟩⟩,hA.le⟩,Grow.refl _ _ _⟩
 simp only [setO] at ho
 by_cases e:k=j
 ·subst e
  rw [List.getElem?_set_self hkl] at ho
  cases ho
  obtain ⟨g1,g2,g3,g4⟩:=hm.ob k _ hk
  refine ⟨fun r hr=>g1 r (List.mem_of_mem_take hr),g2,fun h=>by rw [g3 h];simp,fun hc=>?_⟩
  obtain ⟨cur,b1,b2,b3,b4,b5⟩:=g4 hc
  refine ⟨cur,b1,b2,by rw [List.length_take];omega,b4,?_⟩
  rcases Nat.lt_or_ge rows.length n with h|h
  ·rw [List.take_of_length_le (by omega)];exact b5
  ·have:=b5.take (n * sz)
   rw [take_rows g1 h,List.take_take,Nat.min_eq_left (Nat.mul_le_mul_right _ h)] at this
   rw [List.length_take,Nat.min_eq_left h]
   exact this
 ·rw [List.getElem?_set_ne e] at ho
  exact hm.ob j o ho
def inM (s:ByteArray) (l:List ByteArray):Bool:=l.any fun x=>decide (x=s)
theorem inM_iff {s:ByteArray} {l:List ByteArray}:inM s l=true ↔ s ∈ l:=by
 simp only [inM,List.any_eq_true,decide_eq_true_eq]
 exact ⟨fun ⟨x,h,e⟩=>e ▸ h,fun h=>⟨s,h,rfl⟩⟩
theorem inM_false {s:ByteArray} {l:List ByteArray}:inM s l=false ↔ s ∉ l:=by rw [← inM_iff];simp
theorem inM_cons (s a:ByteArray) (l:List ByteArray):inM s (a :: l)=(decide (a=s) || inM s l):=rfl
def setE (l:List ByteArray):List (MK × List D):=l.map fun s=>(.s s,[.v (.bool true)])
def addS (l:List ByteArray) (s:ByteArray):List ByteArray:=if inM s l=true then l else l++[s]
theorem mget_set (s:ByteArray):∀ l:List ByteArray,mget (setE l) (.s s)=if inM s l=true then some [.v (.bool true)] else none
 | []=>rfl
 | a :: l=>by
  have ih:=mget_set s l
  simp only [setE,List.map_cons,mget,MK.s.injEq,inM_cons] at ih ⊢
  by_cases h:a=s
  ·simp [h]
  ·rw [if_neg h,ih]
   simp [h]
theorem mput_set (s:ByteArray):∀ l:List ByteArray,mput (setE l) (.s s) [.v (.bool true)]=setE (addS l s)
 | []=>rfl
 | a :: l=>by
  have ih:=mput_set s l
  by_cases h:a=s
  ·subst h;simp [setE,mput,addS,inM_cons]
  ·cases hm:inM s l
   ·simp only [setE,List.map_cons,mput,MK.s.injEq,h,if_false,addS,hm,inM_cons,decide_false,Bool.false_or,Bool.false_eq_true,List.map_append,List.map_nil,List.cons_append] at ih ⊢
    rw [ih]
   ·simp only [setE,List.map_cons,mput,MK.s.injEq,h,if_false,addS,hm,inM_cons,decide_false,Bool.false_or,if_true] at ih ⊢
    rw [ih]
theorem lk_set (l:List ByteArray) (s:ByteArray):lkP false (.c (.v (.bool false))) false (mget (setE l) (.s s))=some (.c (.v (.bool (inM s l)))):=by
 rw [mget_set]
 cases h:inM s l<;>simp [lkP,rowP,okP,D.e]
theorem mem_addS {l:List ByteArray} {s x:ByteArray}:x ∈ addS l s ↔ x ∈ l∨x=s:=by
 unfold addS
 split
 ·rename_i h
  rw [inM_iff] at h
  constructor
  ·exact .inl
  ·rintro (h'|rfl)
   ·exact h'
   ·exact h
 ·simp
theorem setE_nil:setE []=[]:=rfl
theorem getD_snoc {α:Type} (l:List α) (a d:α):(l++[a]).getD l.length d=a:=by simp [List.getD]
attribute [push_cast] lk_set mput_set setE_nil
section
variable {P:Program} {N p:Nat} {ops:Array Oper} {rest:List Oper} {o:Oper} {s:S} {K:S → Prop}
end
def RetA (P:Program) (rs:List ResultVar) (p:Nat) (R:PV → List Ob → Prop) (s:S):Prop:=∃ r,resP P s rs=some r∧p≤s.o.length∧R r s.o
def RetQA (P:Program) (rs:List ResultVar) (p:Nat) (R:PV → List Ob → Prop):Exit → S → Prop
 | .normal,s=>RetA P rs p R s
 | .ret,s=>RetA P rs p R s
 | _,_=>False
theorem RetQA_normal (P:Program) (rs:List ResultVar) (p:Nat) (R:PV → List Ob → Prop) (s:S):RetQA P rs p R .normal s=RetA P rs p R s:=rfl
theorem RetQA_ret (P:Program) (rs:List ResultVar) (p:Nat) (R:PV → List Ob → Prop) (s:S):RetQA P rs p R .ret s=RetA P rs p R s:=rfl
attribute [push_cast] RetQA_normal RetQA_ret
end Go.Proofs.Ythhfpcbpiphfiaa
