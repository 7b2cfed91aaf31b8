/- What the program computes, and the plain laws of it, part 15. -/
import Derived.Test.YthconflkbeipoaaGreatDoorRows
import Derived.Shelf.Vars
import Derived.Lib.SplitLaws
import Derived.Lib.IndexBytes
import Derived.Test.YthconflkbeipoaaGreatDoorS14
namespace Go.Proofs.YthconflkbeipoaaGreatDoor
open Go.RowKit
open IntWalk renaming iteOmega → iO, toNatUp → tN
set_option linter.unusedVariables false
set_option linter.unusedSimpArgs false
def consIf {α:Type}:Bool → α → List α → List α
 | true,a,l=>a :: l
 | false,_,l=>l
def cutT (B:Nat) (ex dead:List Nat):List (Nat × PV) → List (Nat × PV)
 | []=>[]
 | (i,q) :: t=>consIf ((decide (i < B) || memB i ex) && !memB i dead) (i,q) (cutT B ex (consIf (decide (i < B) || memB i ex) i dead) t)
theorem memB_mem {i:Nat}:∀ {l:List Nat},memB i l=true ↔ i ∈ l
 | []=>by simp [memB]
 | j :: l=>by
  simp only [memB,List.mem_cons]
  split
  ·rename_i e;simp [e]
  ·rename_i e;rw [memB_mem (l:=l)];exact ⟨.inr,fun h=>h.resolve_left fun h'=>e h'.symm⟩
theorem cutT_look {B:Nat} {ex:List Nat} {i:Nat} {q:PV}:∀ {t:List (Nat × PV)} {dead:List Nat},look (cutT B ex dead t) i=some q → (i < B∨i ∈ ex)∧i ∉ dead∧look t i=some q
 | [],dead,h=>by simp [cutT,look] at h
 | (j,r) :: t,dead,h=>by
  rw [cutT] at h
  cases hk:(decide (j < B) || memB j ex)
  ·rw [hk] at h
   simp only [Bool.false_and,consIf] at h
   obtain ⟨h1,h2,h3⟩:=cutT_look h
   refine ⟨h1,h2,?_⟩
   simp only [look]
   rw [if_neg ?_]
   ·exact h3
   ·rintro rfl
    have:(decide (i < B) || memB i ex)=true:=by simpa only [Bool.or_eq_true,decide_eq_true_eq,memB_mem] using h1
    rw [hk] at this;cases this
  ·rw [hk] at h
   simp only [Bool.true_and,consIf] at h
   have hk':j < B∨j ∈ ex:=by simpa only [Bool.or_eq_true,decide_eq_true_eq,memB_mem] using hk
   cases hd:memB j dead
   ·rw [hd] at h
    simp only [Bool.not_false,consIf,look] at h ⊢
    by_cases e:i=j
    ·subst e
     rw [if_pos rfl] at h ⊢
     exact ⟨hk',(fun hj=>by rw [← memB_mem,hd] at hj;cases hj),h⟩
    ·rw [if_neg e] at h ⊢
     obtain ⟨h1,h2,h3⟩:=cutT_look h
     exact ⟨h1,fun hi=>h2 (List.mem_cons_of_mem _ hi),h3⟩
   ·rw [hd] at h
    simp only [Bool.not_true,consIf,look] at h ⊢
    obtain ⟨h1,h2,h3⟩:=cutT_look h
    have e:i≠j:=fun e=>h2 (by rw [e];exact List.mem_cons_self)
    rw [if_neg e]
    exact ⟨h1,fun hi=>h2 (List.mem_cons_of_mem _ hi),h3⟩
theorem weak_cutT {N p:Nat} (B:Nat) (ex dead:List Nat) (s:S):Weak N p s ⟨cutT B ex dead s.t,s.o⟩:=fun Γ a w hA =>
 ⟨Γ,⟨⟨hA.inv.size,hA.inv.defers,fun i q hi=>hA.inv.t i q (cutT_look hi).2.2,hA.inv.m⟩,hA.le⟩,Grow.refl _ _ _⟩
def cutS (B:Nat) (ex:List Nat) (s:S):S:=⟨cutT B ex [] s.t,s.o⟩
theorem weak_cutS {N p:Nat} (B:Nat) (ex:List Nat) (s:S):Weak N p s (cutS B ex s):=weak_cutT B ex [] s
def setM:List Ob → List (Nat × Ob) → List Ob
 | os,[]=>os
 | os,(k,o) :: r=>setM (os.set k o) r
section
variable {rd:Option Nat} {P:Program} {N p:Nat} {Q:Exit → S → Prop} {s:S}
theorem pwp_cut (B:Nat) (ex:List Nat) {c:Code} (h:PWPr rd P N p c Q (cutS B ex s)):PWPr rd P N p c Q s:=pwp_weak (weak_cutS B ex s) h
theorem pwp_loop3 {c:Code} {α:Type} (B:Nat) (ex:List Nat) (f:α → List (Nat × PV)) (g:α → List (Nat × Ob)) (Φ:α → Prop) (μ:α → Nat) (x0:α) {t0:List (Nat × PV)} (ht:cutT B ex ((f x0).map Prod.fst) s.t=t0) (h0:Φ x0)
  (hw:Weak N p s ⟨f x0++t0,setM s.o (g x0)⟩)
  (round:∀ x,Φ x → PWPr rd P N p c (thenE (fun s'=>∃ x',Φ x'∧Weak N p s' ⟨f x'++t0,setM s.o (g x')⟩∧μ x' < μ x) Q) ⟨f x++t0,setM s.o (g x)⟩):PWPr rd P N p (.loop c) Q s :=
 pwp_loop2 Φ (fun x=>⟨f x++t0,setM s.o (g x)⟩) μ x0 h0 hw round
end
attribute [push_cast] fillA consIf cutT cutS setM List.set_cons_zero List.set_cons_succ List.cons_append List.nil_append List.append_assoc Bool.and_true Bool.true_and Bool.false_and Bool.and_false Bool.or_true Bool.true_or Bool.or_false Bool.false_or Bool.not_true Bool.not_false decide_true decide_false Bool.false_eq_true
def cutO:Option (Nat × List Nat) → S → S
 | none,s=>s
 | some (B,ex),s=>cutS B ex s
def sel (n:Nat) (f g:S → Prop) (s:S):Prop:=if n=1 then f s else g s
theorem sel_one (f g:S → Prop) (s:S):sel 1 f g s=f s:=by simp [sel]
theorem sel_zero (f g:S → Prop) (s:S):sel 0 f g s=g s:=by simp [sel]
def condG:Option PV → (S → Prop) → (S → Prop) → S → Prop
 | some (.c (.v (.bool t))),f,g,s=>sel (if t=true then 1 else 0) f g s
 | _,_,_,_=>False
theorem condG_bool (t:Bool) (f g:S → Prop) (s:S):condG (some (.c (.v (.bool t)))) f g s=sel (if t=true then 1 else 0) f g s:=rfl
theorem pif {p:Prop} [Decidable p] {f g:S → Prop} {s:S} (h1:p → f s) (h2:¬ p → g s):sel (if p then 1 else 0) f g s:=by
 by_cases h:p
 ·rw [if_pos h,sel_one];exact h1 h
 ·rw [if_neg h,sel_zero];exact h2 h
theorem sel_dec (p:Prop) [Decidable p]:(if decide p=true then (1:Nat) else 0)=if p then 1 else 0:=by by_cases h:p<;>simp [h]
theorem sel_not (b:Bool):(if (!b)=true then (1:Nat) else 0)=if b=true then 0 else 1:=by cases b<;>rfl
theorem cT {b:Bool} {X:Prop} (h:b=true) (h':b=false):X:=by rw [h] at h';cases h'
theorem cF {b:Bool} {X:Prop} (h:b=false) (h':b=true):X:=by rw [h] at h';cases h'
theorem cN:(∀ (b:Bool),(¬ b=true)=(b=false))∧(∀ (b:Bool),((!b)=true)=(b=false))∧(∀ (a b:Int),(¬ a < b)=(b≤a))∧(∀ (a b:Int),(¬ a≤b)=(b < a))∧(∀ (a b:Nat),(¬ a < b)=(b≤a))∧(∀ (a b:Nat),(¬ a≤b)=(b < a)) :=
 ⟨fun b=>by cases b<;>simp,fun b=>by cases b<;>simp,fun a b=>by simp,fun a b=>by simp,fun a b=>by simp,fun a b=>by simp⟩
def go1 (rd:Option Nat) (P:Program) (N p:Nat) (ct:Option (Nat × List Nat)):Code → (Exit → S → Prop) → S → Prop
 | .seq x y,Q,s=>go1 rd P N p ct x (thenE (go1 rd P N p ct y Q) Q) s
 | .block id c,Q,s=>go1 rd P N p ct c (inE id Q) s
 | .scope c,Q,s=>go1 rd P N p ct c (noG Q) s
 | .skip,Q,s=>Q .normal s
 | .exit i,Q,s=>Q (.exit i) s
 | .ret,Q,s=>Q .ret s
 | .cond c x y,Q,s=>condG (s.ev c) (go1 rd P N p ct x Q) (go1 rd P N p ct y Q) s
 | .region id ops dr,Q,s=>match dr with
  | false=>pops P N p ops ops.toList (cutO ct s) (Q .normal)
  | true=>PWPr rd P N p (.region id ops true) Q s
 | .loop c,Q,s=>PWPr rd P N p (.loop c) Q s
 | .rangeFunc g ps x y,Q,s=>PWPr rd P N p (.rangeFunc g ps x y) Q s
 | .label l,Q,s=>PWPr rd P N p (.label l) Q s
 | .goto l,Q,s=>PWPr rd P N p (.goto l) Q s
 | .refuse w,Q,s=>PWPr rd P N p (.refuse w) Q s
def okc:Code → Bool
 | .seq x y=>okc x && okc y
 | .block _ c=>okc c
 | .scope c=>okc c
 | .cond _ x y=>okc x && okc y
 | .region _ ops false=>plains ops.toList
 | _=>true
def stp:Code → Bool
 | .seq _ _=>true
 | .block _ _=>true
 | .scope _=>true
 | .skip=>true
 | .exit _=>true
 | .ret=>true
 | .cond _ _ _=>true
 | .region _ _ false=>true
 | _=>false
section
variable {rd:Option Nat} {P:Program} {N p:Nat} {ct:Option (Nat × List Nat)} {Q:Exit → S → Prop} {s:S}
theorem go1_seq (x y:Code):go1 rd P N p ct (.seq x y) Q s=go1 rd P N p ct x (thenE (go1 rd P N p ct y Q) Q) s:=by rw [go1]
theorem go1_block (id:Nat) (c:Code):go1 rd P N p ct (.block id c) Q s=go1 rd P N p ct c (inE id Q) s:=by rw [go1]
theorem go1_scope (c:Code):go1 rd P N p ct (.scope c) Q s=go1 rd P N p ct c (noG Q) s:=by rw [go1]
theorem go1_skip:go1 rd P N p ct .skip Q s=Q .normal s:=by rw [go1]
theorem go1_exit (i:Nat):go1 rd P N p ct (.exit i) Q s=Q (.exit i) s:=by rw [go1]
theorem go1_ret:go1 rd P N p ct .ret Q s=Q .ret s:=by rw [go1]
theorem go1_cond (c:Operand) (x y:Code):go1 rd P N p ct (.cond c x y) Q s=condG (s.ev c) (go1 rd P N p ct x Q) (go1 rd P N p ct y Q) s:=by rw [go1]
theorem go1_region (id:Nat) (l:List Oper):go1 rd P N p ct (.region id l.toArray false) Q s=pops P N p l.toArray l (cutO ct s) (Q .normal):=by rw [go1]
theorem go1_drawn (id:Nat) (ops:Array Oper):go1 rd P N p ct (.region id ops true) Q s=PWPr rd P N p (.region id ops true) Q s:=by rw [go1]
theorem go1_loop (c:Code):go1 rd P N p ct (.loop c) Q s=PWPr rd P N p (.loop c) Q s:=by rw [go1]
theorem cutO_none (s:S):cutO none s=s:=rfl
theorem cutO_some (B:Nat) (ex:List Nat) (s:S):cutO (some (B,ex)) s=cutS B ex s:=rfl
theorem weak_cutO (ct:Option (Nat × List Nat)) (s:S):Weak N p s (cutO ct s):=by
 cases ct with
 | none=>exact Weak.refl _ _ _
 | some x=>exact weak_cutS x.1 x.2 s
theorem go1_ok:∀ {c:Code} {Q:Exit → S → Prop} {s:S},okc c=true → go1 rd P N p ct c Q s → PWPr rd P N p c Q s:=by
 intro c
 induction c with
 | seq x y ihx ihy =>
  intro Q s ho h
  simp only [okc,Bool.and_eq_true] at ho
  rw [go1_seq] at h
  refine pwp_seq fun K hK=>pwp_mono (ihx ho.1 h) fun e s' hq=>?_
  cases e with
  | normal=>exact hK s' (ihy ho.2 hq)
  | _=>exact hq
 | block id c ih=>intro Q s ho h;rw [go1_block] at h;exact pwp_block (ih ho h)
 | scope c ih=>intro Q s ho h;rw [go1_scope] at h;exact pwp_scope (ih ho h)
 | skip=>intro Q s ho h;rw [go1_skip] at h;exact pwp_skip h
 | exit i=>intro Q s ho h;rw [go1_exit] at h;exact pwp_exit h
 | ret=>intro Q s ho h;rw [go1_ret] at h;exact pwp_ret h
 | cond c x y ihx ihy =>
  intro Q s ho h
  simp only [okc,Bool.and_eq_true] at ho
  rw [go1_cond] at h
  refine pwp_cond ?_
  unfold condG at h
  split at h
  ·rename_i t e
   rw [e]
   cases t with
   | true=>exact ⟨fun _=>ihx ho.1 (by simpa [sel] using h),fun h'=>by cases h'⟩
   | false=>exact ⟨fun h'=>(by cases h'),fun _=>ihy ho.2 (by simpa [sel] using h)⟩
  ·exact h.elim
 | region id ops dr =>
  intro Q s ho h
  cases dr with
  | true=>rw [go1_drawn] at h;exact h
  | false =>
   obtain ⟨l⟩:=ops
   rw [go1_region] at h
   exact pwp_weak (weak_cutO ct s) (pwp_region h ho)
 | _=>intro Q s ho h;unfold go1 at h;exact h
theorem g1 {c:Code} (hs:stp c=true) (ho:okc c=true) (h:go1 rd P N p none c Q s):PWPr rd P N p c Q s:=go1_ok ho h
end
attribute [push_cast] sel_one sel_zero sel_dec sel_not condG_bool go1_seq go1_block go1_scope go1_skip go1_exit go1_ret go1_cond go1_region go1_drawn go1_loop cutO_none cutO_some
section
variable {rd:Option Nat} {P:Program} {N p:Nat} {Q:Exit → S → Prop} {s:S} {o:Oper} {ops:Array Oper} {rest:List Oper} {K:S → Prop} {fuel:Nat} {listed:Array Bool}
def CutB (_:Nat) (_:List Nat):Prop:=True
theorem pG {c:Code} (h:go1 rd P N p none c Q s) (hs:stp c=true:=by rfl) (ho:okc c=true:=by kernel_rfl):PWPr rd P N p c Q s:=go1_ok ho h
theorem pC {B:Nat} {ex:List Nat} {c:Code} (h:go1 rd P N p (some (B,ex)) c Q s) (hs:stp c=true:=by rfl) (ho:okc c=true:=by kernel_rfl) (_:CutB B ex:=by assumption):PWPr rd P N p c Q s:=go1_ok ho h
theorem pQ {id:Nat} {l:List Oper} (h:qops P N p l.toArray l s (fun s'=>Q .normal s')) (hm:P.follows .mixedOrders=true:=by kernel_rfl) (hB:Region.lexB .any l.toArray=true:=by kernel_rfl) (hp:plains l=true:=by kernel_rfl):PWPr rd P N p (.region id l.toArray true) Q s:=pwp_quiet hm hB h hp
theorem pQC {B:Nat} {ex:List Nat} {id:Nat} {l:List Oper} (h:qops P N p l.toArray l (cutS B ex s) (fun s'=>Q .normal s')) (hm:P.follows .mixedOrders=true:=by kernel_rfl) (hB:Region.lexB .any l.toArray=true:=by kernel_rfl) (hp:plains l=true:=by kernel_rfl) (_:CutB B ex:=by assumption):PWPr rd P N p (.region id l.toArray true) Q s:=pwp_cut B ex (pwp_quiet hm hB h hp)
theorem pU {c:Code} (h:PWPr rd P N p c Q s) (hk:Kontr rd P N p c Q K:=by assumption):K s:=Kont.use hk h
theorem pN {c X:Prop} (h:c) (hn:¬ c:=by intro h;(try simp only [cN] at h);first|contradiction|omega|exact cT h (by assumption)|exact cF h (by assumption)):X:=(hn h).elim
theorem sel_flip (c:Prop) [Decidable c] (f g:S → Prop) (s:S):sel (if c then 0 else 1) f g s=sel (if c then 1 else 0) g f s:=by by_cases h:c<;>simp [h,sel_one,sel_zero]
theorem plc {f:Operand} {args:Array Operand} {tys:Array TypeId} {g:FuncId} {ds:List D} {cap:List Nat} (ks:List Nat) {args':List PV} {os':List Ob} {R:PV → List Ob → Prop}
  (hc:PCalls P g args' os' R) (hG:callG N ops s o false ks (callArgs s ds args.toList cap) args' os')
  (hK:∀ r os'',R r os'' → pops P N p ops rest (S.put ⟨s.t,putBack (rho ks s.o.length) s.o ks os''⟩ o.dst (r.ren (rho ks s.o.length))) K)
  (ho:o.op = .call ⟨.value f,args,tys⟩:=by rfl) (hf:s.ev f=some (.c (.fn (.func g) ds cap)):=by rfl) (hb:bodyOk P g=true:=by kernel_rfl):PL P N p ops (o :: rest) s K :=
 pl_call2 false ks ho hf hb hc hG nofun fun r os'' h=>pl_of_pops (hK r os'' h)
theorem pas (l:List Nat) (h:paAll P N p ops fuel listed s K l) (hr:Region.ready .any ops listed=l:=by decide +kernel) (hl:l.isEmpty=false:=by rfl):PA P N p ops (fuel+1) listed s K:=pa_step l hr hl h
theorem pah (i:Nat) (h:hoG P N p ops fuel listed s K i ops[i]?) (hB:(Region.noSelect ops && (Region.ready .any ops listed).contains i && Region.free .any ops listed i && freeAt ops i)=true:=by decide +kernel):PA P N p ops (fuel+1) listed s K:=pa_hoist i hB h
theorem pad (h:K s) (hr:Region.ready .any ops listed=[]:=by decide +kernel):PA P N p ops fuel listed s K:=pa_done hr h
theorem paw {s':S} (h:PA P N p ops fuel listed s' K) (hw:Weak N p s s'):PA P N p ops fuel listed s K:=pa_weak hw h
end
attribute [push_cast] sel_flip
theorem pcalls_split0 {P:Program} {g:FuncId} {l1 l2:List PV} {sz:Nat} {os:List Ob} {R:PV → List Ob → Prop} (h:∀ A c,PCalls P g (l1++.c (.v (.slice A 0 c)) :: l2) os R):PCalls P g (l1++.c (.sl sz []) :: l2) os R:=by
 intro Γ w xs hm hx
 obtain ⟨a,b,rfl,h1,h2⟩:=hx.split
 obtain ⟨y,m,rfl,h3,h4⟩:=All2.cons_l.1 h2
 obtain ⟨A,c,xs',hy,_⟩:=rd_sl.1 h3
 exact h A c Γ w _ hm (h1.append ⟨⟨hy,rfl⟩,h4⟩)
theorem pcalls_adopt {P:Program} {g:FuncId} {args:List PV} {os:List Ob} {R R':PV → List Ob → Prop} (el:TypeId) (sz:Nat) (hsz:0 < sz) (h:PCalls P g args os R)
  (hR:∀ r os',R r os' → R' r os'∨(r = .c (.v (.slice none 0 0))∧R' (.c (.own os'.length 0)) (os'++[.arr el sz []]))):PCalls P g args os R':=by
 intro Γ w xs hm hx
 refine (h Γ w xs hm hx).mono ?_
 rintro e w' ⟨r,os',Γ',y,rfl,h2,h3,h4,h5,h6⟩
 rcases hR r os' h2 with h7|⟨rfl,h7⟩
 ·exact ⟨r,os',Γ',y,rfl,h7,h3,h4,h5,h6⟩
 ·have hS:=Same.refl w'
  have hm2:MemOk (Γ'.push 0 0) (os'++[.arr el sz []]) w':=h5.push hS _ 0 0 ⟨by simp,hsz,fun _=>rfl,fun h=>absurd h (by simp [G.push,upd_same])⟩ (fun h=>absurd h (by omega))
  have hn:=h5.n
  refine ⟨_,_,Γ'.push 0 0,y,rfl,h7,⟨by simp [G.push,hn],.inl ⟨by rw [← hn];simp [G.push,upd_same],⟨none,h3.1⟩,rfl⟩⟩,by simp;omega,hm2,?_⟩
  exact h6.trans (grow_push h5 (Ext.refl No w') 0 0 (fun h=>absurd h (by omega)) (by rw [hn];exact h4))
def inM (s:ByteArray) (l:List ByteArray):Bool:=l.any fun x=>decide (x=s)
theorem inM_iff {s:ByteArray} {l:List ByteArray}:inM s l=true ↔ s ∈ l:=by
 simp only [inM,List.any_eq_true,decide_eq_true_eq]
 exact ⟨fun ⟨x,h,e⟩=>e ▸ h,fun h=>⟨s,h,rfl⟩⟩
theorem inM_false {s:ByteArray} {l:List ByteArray}:inM s l=false ↔ s ∉ l:=by rw [← inM_iff];simp
theorem inM_cons (s a:ByteArray) (l:List ByteArray):inM s (a :: l)=(decide (a=s) || inM s l):=rfl
def setE (l:List ByteArray):List (MK × List D):=l.map fun s=>(.s s,[.v (.bool true)])
def addS (l:List ByteArray) (s:ByteArray):List ByteArray:=if inM s l=true then l else l++[s]
theorem mget_set (s:ByteArray):∀ l:List ByteArray,mget (setE l) (.s s)=if inM s l=true then some [.v (.bool true)] else none
 | []=>rfl
 | a :: l=>by
  have ih:=mget_set s l
  simp only [setE,List.map_cons,mget,MK.s.injEq,inM_cons] at ih ⊢
  by_cases h:a=s
  ·simp [h]
  ·rw [if_neg h,ih]
   simp [h]
theorem mput_set (s:ByteArray):∀ l:List ByteArray,mput (setE l) (.s s) [.v (.bool true)]=setE (addS l s)
 | []=>rfl
 | a :: l=>by
  have ih:=mput_set s l
  by_cases h:a=s
  ·subst h;simp [setE,mput,addS,inM_cons]
  ·cases hm:inM s l
   ·simp only [setE,List.map_cons,mput,MK.s.injEq,h,if_false,addS,hm,inM_cons,decide_false,Bool.false_or,Bool.false_eq_true,List.map_append,List.map_nil,List.cons_append] at ih ⊢
    rw [ih]
   ·simp only [setE,List.map_cons,mput,MK.s.injEq,h,if_false,addS,hm,inM_cons,decide_false,Bool.false_or,if_true] at ih ⊢
    rw [ih]
theorem lk_set (l:List ByteArray) (s:ByteArray):lkP false (.c (.v (.bool false))) false (mget (setE l) (.s s))=some (.c (.v (.bool (inM s l)))):=by
 rw [mget_set]
 cases h:inM s l<;>simp [lkP,rowP,okP,D.e]
theorem mem_addS {l:List ByteArray} {s x:ByteArray}:x ∈ addS l s ↔ x ∈ l∨x=s:=by
 unfold addS
 split
 ·rename_i h
  rw [inM_iff] at h
  constructor
  ·exact .inl
  ·rintro (h'|rfl)
   ·exact h'
   ·exact h
 ·simp
theorem nodup_addS {l:List ByteArray} {s:ByteArray} (h:l.Nodup):(addS l s).Nodup:=by
 unfold addS
 split
 ·exact h
 ·rename_i h'
  rw [inM_iff] at h'
  rw [List.nodup_append]
  refine ⟨h,by simp,?_⟩
  rintro a ha b hb rfl
  simp at hb
  subst hb
  exact h' ha
theorem setE_nil:setE []=[]:=rfl
attribute [push_cast] lk_set mput_set setE_nil
end Go.Proofs.YthconflkbeipoaaGreatDoor
namespace Go.Proofs.YthconflkbeipoaaGreatDoor
attribute [local irreducible] PL QL PWPr PCalls Weak RetK Kontr
open Go.RowKit
open IntWalk renaming iteOmega → iO, toNatUp → tN
set_option linter.unusedVariables false
set_option linter.unusedSimpArgs false
set_option maxRecDepth 20000
theorem fold_pure (v n:Int) (hv : -9223372036854775808≤v) (hv':v≤9223372036854775807) (hn:n≤9223372036854775807) :
  PCalls Tryz.prog 36 [.c (.v (.int .i64 v)),.c (.v (.int .i64 n))] [] fun r os=>r = .c (.v (.int .i64 (fold v n)))∧os=[]:=by
 have hlo:=Int.lt_tmod_of_pos v (b:=n)
 have hhi:=Int.tmod_lt_of_pos v (b:=n)
 refine pcalls_of Tryz.func36 rfl (by simp [Tryz.ntmps36]) ?_
 rw [Tryz.ntmps36,Tryz.results36]
 push_cast [iO,tN]
 by_cases h1:n≤1
 ·repeat' (first|((first|refine pG ?_|refine pQ ?_|refine pU ?_);push_cast [iO,tN])|(refine pif (fun h=>?_) (fun h=>?_)<;>first|exact pN h|push_cast [iO,tN]))
  (refine retK_of [] ?_;push_cast [iO,tN])
  simp [fold,h1]
 ·by_cases h0:0≤v
  ·have he:=Int.tmod_eq_emod_of_nonneg h0 (b:=n)
   have hb:=Int.emod_nonneg v (b:=n) (by omega)
   repeat' (first|((first|refine pG ?_|refine pQ ?_|refine pU ?_);push_cast [iO,tN])|(refine pif (fun h=>?_) (fun h=>?_)<;>first|exact pN h|push_cast [iO,tN]))
   (refine retK_of [] ?_;push_cast [iO,tN])
   simp only [fold,if_neg h1,he]
   rw [if_neg (by omega)]
  ·by_cases h2:v.tmod n < 0
   ·repeat' (first|((first|refine pG ?_|refine pQ ?_|refine pU ?_);push_cast [iO,tN])|(refine pif (fun h=>?_) (fun h=>?_)<;>first|exact pN h|push_cast [iO,tN]))
    (refine retK_of [] ?_;push_cast [iO,tN])
    simp [fold,h1,h2]
   ·repeat' (first|((first|refine pG ?_|refine pQ ?_|refine pU ?_);push_cast [iO,tN])|(refine pif (fun h=>?_) (fun h=>?_)<;>first|exact pN h|push_cast [iO,tN]))
    (refine retK_of [] ?_;push_cast [iO,tN])
    simp [fold,h1,h2]
def tape (L:List Int) (k:Nat):Ob:=.box 25 [.sl 1 (L.map fun x=>[D.v (.int .i64 x)]),.v (.int .i64 k)]
attribute [push_cast] tape
theorem next_pure (L:List Int) (k:Nat) (n:Int) (hk:k < 1000000) (hn:n≤9223372036854775807) (hL:∀ x ∈ L,-9223372036854775808≤x∧x≤9223372036854775807) (hl:L.length≤9223372036854775807) :
  PCalls Tryz.prog 13 [.c (.ptr 0 0),.c (.v (.int .i64 n))] [tape L k] fun r os=>r = .c (.v (.int .i64 (fold (tapeAt L k) n)))∧os=[tape L (k+1)]:=by
 refine pcalls_of Tryz.func13 rfl (by simp [Tryz.ntmps13]) ?_
 rw [Tryz.ntmps13,Tryz.results13]
 push_cast [iO,tN]
 by_cases hlt:k < L.length
 ·have hx:=hL (L.getD k default) (by rw [getD_lt L hlt];exact List.getElem_mem _)
  repeat' (first |  (refine plc [] (fold_pure (L.getD k default) n (by omega) (by omega) hn) ?_ ?_;push_cast [iO,tN];rintro r os ⟨rfl,rfl⟩;push_cast [iO,tN])  | ((first|refine pG ?_|refine pQ ?_|refine pU ?_);push_cast [iO,tN])|(refine pif (fun h=>?_) (fun h=>?_)<;>first|exact pN h|push_cast [iO,tN]))
  (refine retK_of [0] ?_;push_cast [iO,tN])
  simp [tapeAt,hlt]
 ·repeat' (first |  (refine plc [] (fold_pure ((k:Int) * 7 % 11) n (by omega) (by omega) hn) ?_ ?_;push_cast [iO,tN];rintro r os ⟨rfl,rfl⟩;push_cast [iO,tN])  | ((first|refine pG ?_|refine pQ ?_|refine pU ?_);push_cast [iO,tN])|(refine pif (fun h=>?_) (fun h=>?_)<;>first|exact pN h|push_cast [iO,tN]))
  (refine retK_of [0] ?_;push_cast [iO,tN])
  simp [tapeAt,hlt]
def strD (s:ByteArray):List D:=[.v (.string s)]
attribute [push_cast] strD
def pick (L:List Int) (k:Nat) (l:List ByteArray):ByteArray:=l.getD (fold (tapeAt L k) l.length).toNat default
theorem fold_bds (v n:Int) (hn:0 < n):0≤fold v n∧fold v n < n:=by
 unfold fold
 have:=Int.lt_tmod_of_pos v (b:=n) hn
 have:=Int.tmod_lt_of_pos v (b:=n) hn
 split
 ·omega
 ·split<;>omega
theorem one_pure (L:List Int) (k:Nat) (l:List ByteArray) (hk:k < 1000000) (h0:0 < l.length) (hn:l.length≤1000000) (hL:∀ x ∈ L,-9223372036854775808≤x∧x≤9223372036854775807) (hl:L.length≤9223372036854775807) :
  PCalls Tryz.prog 14 [.c (.ptr 0 0),.c (.sl 1 (l.map strD))] [tape L k] fun r os=>r = .c (.v (.string (pick L k l)))∧os=[tape L (k+1)]:=by
 refine pcalls_of Tryz.func14 rfl (by simp [Tryz.ntmps14]) ?_
 rw [Tryz.ntmps14,Tryz.results14]
 obtain ⟨hb,hb'⟩:=fold_bds (tapeAt L k) l.length (by omega)
 push_cast [iO,tN]
 repeat' (first |  (refine plc [0] (next_pure L k l.length hk (by omega) hL hl) ?_ ?_;push_cast [iO,tN];rintro r os ⟨rfl,rfl⟩;push_cast [iO,tN])  | ((first|refine pG ?_|refine pQ ?_|refine pU ?_);push_cast [iO,tN])|(refine pif (fun h=>?_) (fun h=>?_)<;>first|exact pN h|push_cast [iO,tN]))
 (refine retK_of [0] ?_;push_cast [iO,tN])
 simp [pick,List.getD]
theorem next_ex (L:List Int) (k:Nat) (n:Int) (hk:k < 1000000) (h0:0 < n) (hn:n≤9223372036854775807) (hL:∀ x ∈ L,-9223372036854775808≤x∧x≤9223372036854775807) (hl:L.length≤9223372036854775807) :
  PCalls Tryz.prog 13 [.c (.ptr 0 0),.c (.v (.int .i64 n))] [tape L k] fun r os=>∃ v:Int,(0≤v∧v < n)∧r = .c (.v (.int .i64 v))∧os=[tape L (k+1)] :=
 (next_pure L k n hk hn hL hl).mono fun r os h=>⟨_,fold_bds _ _ h0,h.1,h.2⟩
theorem one_ex (L:List Int) (k:Nat) (l:List ByteArray) (hk:k < 1000000) (h0:0 < l.length) (hn:l.length≤1000000) (hL:∀ x ∈ L,-9223372036854775808≤x∧x≤9223372036854775807) (hl:L.length≤9223372036854775807) :
  PCalls Tryz.prog 14 [.c (.ptr 0 0),.c (.sl 1 (l.map strD))] [tape L k] fun r os=>∃ s,s ∈ l∧r = .c (.v (.string s))∧os=[tape L (k+1)] :=
 (one_pure L k l hk h0 hn hL hl).mono fun r os h=>⟨_,by
  have:=fold_bds (tapeAt L k) l.length (by omega)
  unfold pick
  rw [getD_lt _ (by omega)]
  exact List.getElem_mem _,h.1,h.2⟩
end Go.Proofs.YthconflkbeipoaaGreatDoor
namespace Go.Proofs.YthconflkbeipoaaGreatDoor
open Go.ChangeShapes Go.WideShapes Go.ChangeAt Go.RowKit
set_option linter.unusedVariables false
set_option linter.unusedSimpArgs false
theorem sh_ints:shOf Tryz.prog 30 22=some [.sl [.int .i64]]:=by kernel_rfl
theorem pinM_of {w:World} (h:w.ShapedOpen Tryz.prog):Pin w :=
 Go.Proofs.cell_of_shapedOpen_int (zero := #[.int .i64 0]) (t:=3) h (of_decide_eq_true (by kernel_rfl)) (by kernel_rfl) rfl (by kernel_rfl) (by kernel_rfl) Tryz.underlying3
theorem pinM_lt {w:World} (h:Pin w):0 < w.heap.size:=by
 obtain ⟨m,hm⟩:=h
 rcases Nat.eq_zero_or_pos w.heap.size with h0|h0
 ·rw [World.cell?,Array.getElem?_eq_none (by rw [h0];exact Nat.le_refl _)] at hm
  simp at hm
 ·exact h0
theorem pin_start {W:World} (hsh:W.ShapedOpen Tryz.prog):Pin W∧∀ b,PinB b → b < W.heap.size :=
 ⟨pinM_of hsh,fun b hb=>by have h:b=0:=hb;subst h;exact pinM_lt (pinM_of hsh)⟩
end Go.Proofs.YthconflkbeipoaaGreatDoor
namespace Go.Proofs.YthconflkbeipoaaGreatDoor
open Go.RowKit
open IntWalk renaming iteOmega → iO, toNatUp → tN
set_option linter.unusedVariables false
set_option linter.unusedSimpArgs false
structure Atr where
 name:ByteArray
 value:ByteArray
 deriving DecidableEq,Inhabited
def Atr.d (x:Atr):List D:=[.v (.string x.name),.v (.string x.value)]
attribute [push_cast] Atr.d
structure Dev where
 index:Int
 parent:Int
 name:ByteArray
 original:ByteArray
 subsystem:ByteArray
 driver:ByteArray
 alias_:ByteArray
 kind:Int
 number:Int
 attrs:List Atr
 deriving DecidableEq,Inhabited
def Dev.w (d:Dev) (a:E):List E:=[.v (.int .i64 d.index),.v (.int .i64 d.parent),.v (.string d.name),.v (.string d.original),.v (.string d.subsystem),.v (.string d.driver),.v (.string d.alias_),.v (.int .i64 d.kind),.v (.int .i64 d.number),a]
def Dev.e (d:Dev):List E:=d.w (.sl 2 (d.attrs.map Atr.d))
attribute [push_cast] Dev.e Dev.w
def Dev.d (d:Dev):List D:=[.v (.int .i64 d.index),.v (.int .i64 d.parent),.v (.string d.name),.v (.string d.original),.v (.string d.subsystem),.v (.string d.driver),.v (.string d.alias_),.v (.int .i64 d.kind),.v (.int .i64 d.number),.sl 2 (d.attrs.map Atr.d)]
attribute [push_cast] Dev.d
def trE (l:List Dev):List E:=[.sl 10 (l.map Dev.d)]
attribute [push_cast] trE
abbrev Fit (s:ByteArray):Prop:=s.size≤9223372036854775807
def okA (l:List Atr):Prop:=∀ a ∈ l,Fit a.name∧Fit a.value
structure Dev.ok (d:Dev):Prop where
 name:Fit d.name
 original:Fit d.original
 subsystem:Fit d.subsystem
 driver:Fit d.driver
 alias_:Fit d.alias_
 attrs:okA d.attrs
 len:d.attrs.length≤9223372036854775807
 orig:d.original.size≤1048576
theorem mem_fit {l:List ByteArray} {s:ByteArray} (h:l.all (fun s=>decide (s.size≤100))=true) (hm:s ∈ l):s.size≤100:=by
 have:=List.all_eq_true.1 h s hm
 simpa using this
theorem fit_of {s:ByteArray} {n:Nat} (h:s.size≤n) (hn:n≤1048576):Fit s:=Nat.le_trans h (Nat.le_trans hn (by decide))
end Go.Proofs.YthconflkbeipoaaGreatDoor
namespace Go.Proofs.YthconflkbeipoaaGreatDoor
open Go.ChangeShapes Go.WideShapes Go.ChangeAt Go.RowKit
set_option linter.unusedVariables false
set_option linter.unusedSimpArgs false
theorem sh_atrs:shOf Tryz.prog 30 28=some [.sl [.str,.str]]:=by kernel_rfl
theorem atrs_of {rows:List (List D)} (h:∀ r ∈ rows,TR [.str,.str] r):∃ L:List Atr,rows=L.map Atr.d∧∀ x ∈ L,x.name.size≤maxLen∧x.value.size≤maxLen:=by
 induction rows with
 | nil=>exact ⟨[],rfl,by simp⟩
 | cons r rows ih =>
  obtain ⟨L,rfl,h2⟩:=ih fun r' hr'=>h r' (by simp [hr'])
  have h1:=h r (by simp)
  simp only [TR,TD] at h1
  obtain ⟨_,_,rfl,⟨n,rfl,hn⟩,_,_,rfl,⟨v,rfl,hv⟩,rfl⟩:=h1
  refine ⟨⟨n,v⟩ :: L,rfl,fun x hx=>?_⟩
  rcases List.mem_cons.1 hx with rfl|hx
  ·exact ⟨hn,hv⟩
  ·exact h2 x hx
end Go.Proofs.YthconflkbeipoaaGreatDoor
namespace Go.Proofs.YthconflkbeipoaaGreatDoor
open Go.RowKit
open IntWalk renaming iteOmega → iO, toNatUp → tN
set_option linter.unusedVariables false
set_option linter.unusedSimpArgs false
def plusL (cs:List Bool) (t:List UInt8):List Bool:=t.foldl (fun cs b=>cs.set b.toNat true) cs
theorem plusL_len:∀ (t:List UInt8) (cs:List Bool),(plusL cs t).length=cs.length
 | [],_=>rfl
 | b :: t,cs=>by have:=plusL_len t (cs.set b.toNat true);rw [List.length_set] at this;exact this
theorem plusL_get:∀ (t:List UInt8) (cs:List Bool) (b:UInt8),cs.length=256 → (plusL cs t).getD b.toNat false=(cs.getD b.toNat false || t.contains b)
 | [],cs,b,_=>by simp [plusL]
 | a :: t,cs,b,h=>by
  have hb:=b.toNat_lt
  have:=plusL_get t (cs.set a.toNat true) b (by rw [List.length_set];exact h)
  rw [show plusL cs (a :: t)=plusL (cs.set a.toNat true) t from rfl,this,List.contains_cons]
  by_cases e:b=a
  ·subst e
   have:(cs.set b.toNat true).getD b.toNat false=true:=by rw [List.getD_eq_getElem?_getD,List.getElem?_set_self (by omega)];rfl
   rw [this];simp
  ·have hne:a.toNat≠b.toNat:=fun h=>e (UInt8.toNat_inj.1 h.symm)
   have:(cs.set a.toNat true).getD b.toNat false=cs.getD b.toNat false:=by rw [List.getD_eq_getElem?_getD,List.getElem?_set_ne hne,← List.getD_eq_getElem?_getD]
   rw [this,show (b == a)=false by simpa using e,Bool.false_or]
theorem plusL_snoc (cs:List Bool) (t:List UInt8) (b:UInt8):plusL cs (t++[b])=(plusL cs t).set b.toNat true:=by simp [plusL]
def upperT:List UInt8:=[65,66,67,68,69,70,71,72,73,74,75,76,77,78,79,80,81,82,83,84,85,86,87,88,89,90]
def lowerT:List UInt8:=[97,98,99,100,101,102,103,104,105,106,107,108,109,110,111,112,113,114,115,116,117,118,119,120,121,122]
def digitT:List UInt8:=[48,49,50,51,52,53,54,55,56,57]
def moreT:List UInt8:=[95,46,58,43,45]
def noneL:List Bool:=List.replicate 256 false
def commonL:List Bool:=plusL (plusL (plusL (plusL noneL upperT) lowerT) digitT) moreT
theorem noneL_len:noneL.length=256:=List.length_replicate
theorem commonL_len:commonL.length=256:=by rw [commonL,plusL_len,plusL_len,plusL_len,plusL_len,noneL_len]
def nameT:List UInt8:=upperT++lowerT++digitT++moreT++[33]
def nameB (b:UInt8):Bool:=nameT.contains b
theorem nameL_get (b:UInt8):(plusL commonL [33]).getD b.toNat false=nameB b:=by
 have h0:noneL.getD b.toNat false=false:=by unfold noneL;rw [List.getD_eq_getElem?_getD,List.getElem?_replicate];split<;>rfl
 rw [plusL_get _ _ _ commonL_len,commonL,plusL_get _ _ _ (by rw [plusL_len,plusL_len,plusL_len,noneL_len]),plusL_get _ _ _ (by rw [plusL_len,plusL_len,noneL_len]),plusL_get _ _ _ (by rw [plusL_len,noneL_len]),plusL_get _ _ _ noneL_len,h0]
 rw [Bool.eq_iff_iff]
 simp only [nameB,nameT,Bool.or_eq_true,List.contains_iff_mem,List.mem_append,Bool.false_eq_true,false_or]
def hasL (cs:List Bool) (s:ByteArray):Bool:=s.data.toList.all fun b=>cs.getD b.toNat false
def dotsS (s:ByteArray):Bool:=decide (s=⟨#[46]⟩) || decide (s=⟨#[46,46]⟩)
def validS (s:ByteArray):Bool:=(((decide (s≠⟨#[]⟩) && decide (s.size≤32)) && !dotsS s) && s.data.toList.all nameB)
theorem has_name (s:ByteArray):hasL (plusL commonL [33]) s=s.data.toList.all nameB:=by unfold hasL;simp only [nameL_get]
def spl:List UInt8 → List (List UInt8)
 | []=>[[]]
 | b :: l=>if b=47 then [] :: spl l else match spl l with
  | []=>[[b]]
  | h :: t=>(b :: h) :: t
theorem spl_ne (l:List UInt8):spl l≠[]:=by
 cases l with
 | nil=>simp [spl]
 | cons b l=>rw [spl];split;simp;split<;>simp
theorem spl_none:∀ {l:List UInt8},(47:UInt8) ∉ l → spl l=[l]
 | [],_=>rfl
 | b :: l,h=>by
  simp only [List.mem_cons,not_or] at h
  rw [spl,if_neg (fun e=>h.1 e.symm),spl_none h.2]
theorem spl_app:∀ {a:List UInt8} (r:List UInt8),(47:UInt8) ∉ a → spl (a++47 :: r)=a :: spl r
 | [],r,_=>by rw [List.nil_append,spl,if_pos rfl]
 | b :: a,r,h=>by
  simp only [List.mem_cons,not_or] at h
  rw [List.cons_append,spl,if_neg (fun e=>h.1 e.symm),spl_app r h.2]
theorem splitK_spl:∀ (k:Nat) (s:List UInt8),s.count 47=k → Lib.splitK [47] 0 k s=spl s
 | 0,s,h=>by rw [spl_none (List.count_eq_zero.1 h)];rfl
 | k+1,s,h=>by
  have hmem:(47:UInt8) ∈ s:=List.count_pos_iff.1 (by omega)
  obtain ⟨a,r,rfl,ha⟩:∃ a r,s=a++47 :: r∧(47:UInt8) ∉ a:=by
   clear h
   induction s with
   | nil=>simp at hmem
   | cons b s ih =>
    by_cases e:b=47
    ·subst e;exact ⟨[],s,rfl,by simp⟩
    ·obtain ⟨a,r,rfl,ha⟩:=ih (by simpa [Ne.symm e] using hmem)
     exact ⟨b :: a,r,rfl,by simp [ha,Ne.symm e]⟩
  have hi:Lib.index (a++47 :: r) [47]=(a.length:Int):=by
   rw [Lib.index_one]
   clear h
   induction a with
   | nil=>simp [Lib.indexByte]
   | cons b a ih =>
    simp only [List.mem_cons,not_or] at ha
    have:=ih ha.2 (by simp)
    rw [List.cons_append,Lib.indexByte,if_neg (by simpa using Ne.symm ha.1),this,if_neg (by simp)]
    simp
  have hc:r.count 47=k:=by
   rw [List.count_append,List.count_cons_self,List.count_eq_zero.2 ha] at h
   omega
  rw [Lib.splitK,hi,if_neg (by simp),spl_app r ha]
  simp only [Int.toNat_natCast,Nat.add_zero,List.length_cons,List.length_nil,Nat.zero_add]
  rw [List.take_left,List.drop_append,List.drop_eq_nil_of_le (by omega),List.nil_append,show a.length+1 - a.length=1 by omega]
  simp only [List.drop_succ_cons,List.drop_zero]
  rw [splitK_spl k r hc]
def unT (l:List UInt8):ByteArray:=⟨l.toArray⟩
theorem unT_data (s:ByteArray):unT s.data.toList=s:=rfl
def parts (s:ByteArray):List ByteArray:=(spl s.data.toList).map unT
theorem parts_ne (s:ByteArray):0 < (parts s).length:=by
 unfold parts;rw [List.length_map];exact List.length_pos_iff.2 (spl_ne _)
theorem splitB_parts (s:ByteArray):Lib.splitB ⟨#[47]⟩ 0 (Lib.countB s ⟨#[47]⟩) s=parts s:=by
 have h:=Lib.splitB_data ⟨#[47]⟩ 0 (Lib.countB s ⟨#[47]⟩) s
 have hc:Lib.countB s ⟨#[47]⟩=s.data.toList.count 47:=Lib.count_one 47 s.data.toList
 have h2:=splitK_spl _ s.data.toList hc.symm
 have e:(⟨#[47]⟩:ByteArray).data.toList=[47]:=rfl
 rw [e,h2] at h
 unfold parts
 rw [← h,List.map_map]
 conv=>lhs;rw [← List.map_id (Lib.splitB _ _ _ _)]
 exact List.map_congr_left fun x _=>rfl
def slashS (s:ByteArray):Bool:=Lib.hasPrefix s.data.toList [47]
def restS (s:ByteArray):ByteArray:=if slashS s=true then s.extract 1 s.size else s
def splitP (s:ByteArray):Option (List ByteArray):=if slashS s=true∧(parts (restS s)).all validS=true then some (parts (restS s)) else none
theorem parts_size:∀ {s:ByteArray},(parts s).length≤s.size+1:=by
 intro s
 unfold parts
 rw [List.length_map]
 have:∀ l:List UInt8,(spl l).length≤l.length+1:=by
  intro l
  induction l with
  | nil=>simp [spl]
  | cons b l ih =>
   rw [spl]
   split
   ·simp only [List.length_cons];omega
   ·split
    ·simp
    ·rename_i h t e;rw [e] at ih;simp only [List.length_cons] at ih ⊢;omega
 have h:=this s.data.toList
 rwa [show s.data.toList.length=s.size from rfl] at h
def cmpS (a b:ByteArray):Int:=if bless a b=true then -1 else if bless b a=true then 1 else 0
def cmpL:List ByteArray → List ByteArray → Int
 | [],[]=>0
 | [],_ :: _ => -1
 | _ :: _,[]=>1
 | a :: l,b :: m=>if a=b then cmpL l m else cmpS a b
theorem cmpS_eq {a b:ByteArray}:cmpS a b=0 ↔ a=b:=by
 unfold cmpS
 constructor
 ·intro h
  split at h
  ·omega
  ·split at h
   ·omega
   ·rename_i h1 h2;exact bless_total (by simpa using h1) (by simpa using h2)
 ·rintro rfl;rw [if_neg (fun h=>bless_ne h rfl),if_neg (fun h=>bless_ne h rfl)]
theorem cmpS_anti (a b:ByteArray):cmpS b a = -cmpS a b:=by
 unfold cmpS
 by_cases h1:bless a b=true
 ·have:=bless_asymm h1;rw [if_pos h1,this];simp [h1]
 ·by_cases h2:bless b a=true
  ·rw [if_pos h2,if_neg h1,if_pos h2]
  ·rw [if_neg h2,if_neg h1,if_neg h1,if_neg h2];rfl
theorem cmpL_eq:∀ {l m:List ByteArray},cmpL l m=0 ↔ l=m
 | [],[]=>by simp [cmpL]
 | [],_ :: _=>by simp [cmpL]
 | _ :: _,[]=>by simp [cmpL]
 | a :: l,b :: m=>by
  rw [cmpL]
  split
  ·rename_i e;subst e;rw [cmpL_eq];simp
  ·rename_i e;rw [cmpS_eq];simp [e]
theorem cmpL_anti:∀ (l m:List ByteArray),cmpL m l = -cmpL l m
 | [],[]=>rfl
 | [],_ :: _=>rfl
 | _ :: _,[]=>rfl
 | a :: l,b :: m=>by
  rw [cmpL,cmpL]
  by_cases e:a=b
  ·subst e;rw [if_pos rfl,if_pos rfl];exact cmpL_anti l m
  ·rw [if_neg e,if_neg (Ne.symm e)];exact cmpS_anti a b
theorem cmpS_lt {a b:ByteArray}:cmpS a b < 0 ↔ bless a b=true:=by
 unfold cmpS
 split
 ·rename_i h;simp [h]
 ·rename_i h;split<;>simp [h]
theorem cmpL_trans:∀ {l m n:List ByteArray},cmpL l m < 0 → cmpL m n < 0 → cmpL l n < 0
 | [],[],_,h,_=>by simp [cmpL] at h
 | _ :: _,[],_,h,_=>by simp [cmpL] at h
 | _,_ :: _,[],_,h=>by simp [cmpL] at h
 | [],_ :: _,_ :: _,_,_=>by simp [cmpL]
 | a :: l,b :: m,c :: n,h1,h2=>by
  rw [cmpL] at h1 h2 ⊢
  by_cases e1:a=b
  ·subst e1
   rw [if_pos rfl] at h1
   by_cases e2:a=c
   ·subst e2;rw [if_pos rfl] at h2 ⊢;exact cmpL_trans h1 h2
   ·rw [if_neg e2] at h2 ⊢;exact h2
  ·rw [if_neg e1] at h1
   by_cases e2:b=c
   ·subst e2;rw [if_neg e1];exact h1
   ·rw [if_neg e2] at h2
    have h3:=bless_trans (cmpS_lt.1 h1) (cmpS_lt.1 h2)
    rw [if_neg (bless_ne h3)]
    exact cmpS_lt.2 h3
end Go.Proofs.YthconflkbeipoaaGreatDoor
