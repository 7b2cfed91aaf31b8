/- What the program computes, and the plain laws of it, part 11. -/
import Derived.Test.YtmbbkfffcflfcaaGreatDoorProg
import Derived.Test.YtmbbkfffcflfcaaGreatDoorRows
import Derived.Test.YtmbbkfffcflfcaaGreatDoorT10
namespace Go.Proofs.YtmbbkfffcflfcaaGreatDoor
open Go.Proofs.Tryz
set_option linter.unusedSimpArgs false
set_option linter.unusedVariables false
open Go.RowKit
section
open IntWalk renaming iteOmega → O, toNatUp → U
def l9 {α:Type}:Bool → α → List α → List α
 | true,a,l=>a :: l
 | false,_,l=>l
def sy (B:Nat) (ex dead:List Nat):List (Nat × PV) → List (Nat × PV)
 | []=>[]
 | (i,q) :: t=>l9 ((decide (i < B) || mU i ex) && !mU i dead) (i,q) (sy B ex (l9 (decide (i < B) || mU i ex) i dead) t)
theorem mW {i:Nat}:∀ {l:List Nat},mU i l=true ↔ i ∈ l
 | []=>by simp [mU]
 | j :: l=>by
  simp only [mU,List.mem_cons];split
  ·rename_i e;simp [e]
  ·rename_i e;rw [mW (l:=l)];exact ⟨.inr,fun h=>h.resolve_left fun h'=>e h'.symm⟩
theorem lv {B:Nat} {ex:List Nat} {i:Nat} {q:PV}:∀ {t:List (Nat × PV)} {dead:List Nat},cM (sy B ex dead t) i=some q → (i < B∨i ∈ ex)∧i ∉ dead∧cM t i=some q
 | [],dead,h=>by simp [sy,cM] at h
 | (j,r) :: t,dead,h=>by
  rw [sy] at h;cases hk:(decide (j < B) || mU j ex)
  ·rw [hk] at h;simp only [Bool.false_and,l9] at h;obtain ⟨h1,h2,h3⟩:=lv h;refine ⟨h1,h2,?_⟩;simp only [cM];rw [if_neg ?_]
   ·exact h3
   ·rintro rfl;have:(decide (i < B) || mU i ex)=true:=by simpa only [Bool.or_eq_true,decide_eq_true_eq,mW] using h1
    rw [hk] at this;cases this
  ·rw [hk] at h;simp only [Bool.true_and,l9] at h;have hk':j < B∨j ∈ ex:=by simpa only [Bool.or_eq_true,decide_eq_true_eq,mW] using hk
   cases hd:mU j dead
   ·rw [hd] at h;simp only [Bool.not_false,l9,cM] at h ⊢;by_cases e:i=j
    ·subst e;rw [if_pos rfl] at h ⊢;exact ⟨hk',(fun hj=>by rw [← mW,hd] at hj;cases hj),h⟩
    ·rw [if_neg e] at h ⊢;obtain ⟨h1,h2,h3⟩:=lv h;exact ⟨h1,fun hi=>h2 (List.mem_cons_of_mem _ hi),h3⟩
   ·rw [hd] at h;simp only [Bool.not_true,l9,cM] at h ⊢;obtain ⟨h1,h2,h3⟩:=lv h;have e:i≠j:=fun e=>h2 (by rw [e];exact List.mem_cons_self)
    rw [if_neg e];exact ⟨h1,fun hi=>h2 (List.mem_cons_of_mem _ hi),h3⟩
theorem fh {N p:Nat} (B:Nat) (ex dead:List Nat) (s:S):bg N p s ⟨sy B ex dead s.t,s.o⟩:=fun Γ a w hA =>
 ⟨Γ,⟨⟨hA.inv.size,hA.inv.defers,fun i q hi=>hA.inv.t i q (lv hi).2.2,hA.inv.m⟩,hA.le⟩,cq.refl _ _ _⟩
def Bl (B:Nat) (ex:List Nat) (s:S):S:=⟨sy B ex [] s.t,s.o⟩
theorem ao {N p:Nat} (B:Nat) (ex:List Nat) (s:S):bg N p s (Bl B ex s):=fh B ex [] s
def sA:List Ob → List (Nat × Ob) → List Ob
 | os,[]=>os
 | os,(k,o) :: r=>sA (os.set k o) r
section
variable {rd:Option Nat} {P:Program} {N p:Nat} {Q:Exit → S → Prop} {s:S}
theorem av (B:Nat) (ex:List Nat) {c:Code} (h:aL rd P N p c Q (Bl B ex s)):aL rd P N p c Q s:=aF (ao B ex s) h
theorem ap {c:Code} {α:Type} (B:Nat) (ex:List Nat) (f:α → List (Nat × PV)) (g:α → List (Nat × Ob)) (Φ:α → Prop) (μ:α → Nat) (x0:α) {t0:List (Nat × PV)} (ht:sy B ex ((f x0).map Prod.fst) s.t=t0) (h0:Φ x0)
  (hw:bg N p s ⟨f x0++t0,sA s.o (g x0)⟩)
  (round:∀ x,Φ x → aL rd P N p c (lQ (fun s'=>∃ x',Φ x'∧bg N p s' ⟨f x'++t0,sA s.o (g x')⟩∧μ x' < μ x) Q) ⟨f x++t0,sA s.o (g x)⟩):aL rd P N p (.loop c) Q s :=
 dh Φ (fun x=>⟨f x++t0,sA s.o (g x)⟩) μ x0 h0 hw round
end
attribute [push_cast] sV l9 sy Bl sA List.set_cons_zero List.set_cons_succ List.cons_append List.nil_append List.append_assoc Bool.and_true Bool.true_and Bool.false_and Bool.and_false Bool.or_true Bool.true_or Bool.or_false Bool.false_or Bool.not_true Bool.not_false decide_true decide_false Bool.false_eq_true
def En:Option (Nat × List Nat) → S → S
 | none,s=>s
 | some (B,ex),s=>Bl B ex s
def sel (n:Nat) (f g:S → Prop) (s:S):Prop:=if n=1 then f s else g s
theorem mX (f g:S → Prop) (s:S):sel 1 f g s=f s:=by simp [sel]
theorem kJ (f g:S → Prop) (s:S):sel 0 f g s=g s:=by simp [sel]
def Ak:Option PV → (S → Prop) → (S → Prop) → S → Prop
 | some (.c (.v (.bool t))),f,g,s=>sel (if t=true then 1 else 0) f g s
 | _,_,_,_=>False
theorem yp (t:Bool) (f g:S → Prop) (s:S):Ak (some (.c (.v (.bool t)))) f g s=sel (if t=true then 1 else 0) f g s:=rfl
theorem pif {p:Prop} [Decidable p] {f g:S → Prop} {s:S} (h1:p → f s) (h2:¬ p → g s):sel (if p then 1 else 0) f g s:=by
 by_cases h:p
 ·rw [if_pos h,mX];exact h1 h
 ·rw [if_neg h,kJ];exact h2 h
theorem G7 (p:Prop) [Decidable p]:(if decide p=true then (1:Nat) else 0)=if p then 1 else 0:=by by_cases h:p<;>simp [h]
theorem cT {b:Bool} {X:Prop} (h:b=true) (h':b=false):X:=by rw [h] at h';cases h'
theorem cF {b:Bool} {X:Prop} (h:b=false) (h':b=true):X:=by rw [h] at h';cases h'
theorem cN:(∀ (b:Bool),(¬ b=true)=(b=false))∧(∀ (b:Bool),((!b)=true)=(b=false))∧(∀ (a b:Int),(¬ a < b)=(b≤a))∧(∀ (a b:Int),(¬ a≤b)=(b < a))∧(∀ (a b:Nat),(¬ a < b)=(b≤a))∧(∀ (a b:Nat),(¬ a≤b)=(b < a)) :=
 ⟨fun b=>by cases b<;>simp,fun b=>by cases b<;>simp,fun a b=>by simp,fun a b=>by simp,fun a b=>by simp,fun a b=>by simp⟩
def go1 (rd:Option Nat) (P:Program) (N p:Nat) (ct:Option (Nat × List Nat)):Code → (Exit → S → Prop) → S → Prop
 | .seq x y,Q,s=>go1 rd P N p ct x (lQ (go1 rd P N p ct y Q) Q) s
 | .block id c,Q,s=>go1 rd P N p ct c (inE id Q) s
 | .scope c,Q,s=>go1 rd P N p ct c (noG Q) s
 | .skip,Q,s=>Q .normal s
 | .exit i,Q,s=>Q (.exit i) s
 | .ret,Q,s=>Q .ret s
 | .cond c x y,Q,s=>Ak (s.ev c) (go1 rd P N p ct x Q) (go1 rd P N p ct y Q) s
 | .region id ops dr,Q,s=>match dr with
  | false=>fY P N p ops ops.toList (En ct s) (Q .normal)
  | true=>aL rd P N p (.region id ops true) Q s
 | .loop c,Q,s=>aL rd P N p (.loop c) Q s
 | .rangeFunc g ps x y,Q,s=>aL rd P N p (.rangeFunc g ps x y) Q s
 | .label l,Q,s=>aL rd P N p (.label l) Q s
 | .goto l,Q,s=>aL rd P N p (.goto l) Q s
 | .refuse w,Q,s=>aL rd P N p (.refuse w) Q s
def okc:Code → Bool
 | .seq x y=>okc x && okc y
 | .block _ c=>okc c
 | .scope c=>okc c
 | .cond _ x y=>okc x && okc y
 | .region _ ops false=>gj ops.toList
 | _=>true
def stp:Code → Bool
 | .seq _ _=>true
 | .block _ _=>true
 | .scope _=>true
 | .skip=>true
 | .exit _=>true
 | .ret=>true
 | .cond _ _ _=>true
 | .region _ _ false=>true
 | _=>false
section
variable {rd:Option Nat} {P:Program} {N p:Nat} {ct:Option (Nat × List Nat)} {Q:Exit → S → Prop} {s:S}
theorem Am (x y:Code):go1 rd P N p ct (.seq x y) Q s=go1 rd P N p ct x (lQ (go1 rd P N p ct y Q) Q) s:=by rw [go1]
theorem tl (id:Nat) (c:Code):go1 rd P N p ct (.block id c) Q s=go1 rd P N p ct c (inE id Q) s:=by rw [go1]
theorem tn (c:Code):go1 rd P N p ct (.scope c) Q s=go1 rd P N p ct c (noG Q) s:=by rw [go1]
theorem wu:go1 rd P N p ct .skip Q s=Q .normal s:=by rw [go1]
theorem wv (i:Nat):go1 rd P N p ct (.exit i) Q s=Q (.exit i) s:=by rw [go1]
theorem An:go1 rd P N p ct .ret Q s=Q .ret s:=by rw [go1]
theorem ww (c:Operand) (x y:Code):go1 rd P N p ct (.cond c x y) Q s=Ak (s.ev c) (go1 rd P N p ct x Q) (go1 rd P N p ct y Q) s:=by rw [go1]
theorem qU (id:Nat) (l:List Oper):go1 rd P N p ct (.region id l.toArray false) Q s=fY P N p l.toArray l (En ct s) (Q .normal):=by rw [go1]
theorem to (id:Nat) (ops:Array Oper):go1 rd P N p ct (.region id ops true) Q s=aL rd P N p (.region id ops true) Q s:=by rw [go1]
theorem Eo (c:Code):go1 rd P N p ct (.loop c) Q s=aL rd P N p (.loop c) Q s:=by rw [go1]
theorem Bm (g:Operand) (ps:Array Tmp) (x y:Code):go1 rd P N p ct (.rangeFunc g ps x y) Q s=aL rd P N p (.rangeFunc g ps x y) Q s:=by rw [go1]
theorem Bn (s:S):En none s=s:=rfl
theorem Bo (B:Nat) (ex:List Nat) (s:S):En (some (B,ex)) s=Bl B ex s:=rfl
theorem Bq (ct:Option (Nat × List Nat)) (s:S):bg N p s (En ct s):=by
 cases ct with
 | none=>exact bg.refl _ _ _
 | some x=>exact ao x.1 x.2 s
theorem yq:∀ {c:Code} {Q:Exit → S → Prop} {s:S},okc c=true → go1 rd P N p ct c Q s → aL rd P N p c Q s:=by
 intro c;induction c with
 | seq x y ihx ihy =>
  intro Q s ho h;simp only [okc,Bool.and_eq_true] at ho;rw [Am] at h;refine bf fun K hK=>qN (ihx ho.1 h) fun e s' hq=>?_
  cases e with
  | normal=>exact hK s' (ihy ho.2 hq)
  | _=>exact hq
 | block id c ih=>intro Q s ho h;rw [tl] at h;exact cf (ih ho h)
 | scope c ih=>intro Q s ho h;rw [tn] at h;exact cO (ih ho h)
 | skip=>intro Q s ho h;rw [wu] at h;exact cr h
 | exit i=>intro Q s ho h;rw [wv] at h;exact dD h
 | ret=>intro Q s ho h;rw [An] at h;exact eh h
 | cond c x y ihx ihy =>
  intro Q s ho h;simp only [okc,Bool.and_eq_true] at ho;rw [ww] at h;refine cg ?_;unfold Ak at h;split at h
  ·rename_i t e;rw [e];cases t with
   | true=>exact ⟨fun _=>ihx ho.1 (by simpa [sel] using h),fun h'=>by cases h'⟩
   | false=>exact ⟨fun h'=>(by cases h'),fun _=>ihy ho.2 (by simpa [sel] using h)⟩
  ·exact h.elim
 | region id ops dr =>
  intro Q s ho h;cases dr with
  | true=>rw [to] at h;exact h
  | false =>
   obtain ⟨l⟩:=ops;rw [qU] at h;exact aF (Bq ct s) (bi h ho)
 | _=>intro Q s ho h;unfold go1 at h;exact h
theorem g1 {c:Code} (hs:stp c=true) (ho:okc c=true) (h:go1 rd P N p none c Q s):aL rd P N p c Q s:=yq ho h
end
attribute [push_cast] mX kJ G7 yp Am tl tn wu wv An ww qU to Eo Bm Bn Bo
section
variable {rd:Option Nat} {P:Program} {N p:Nat} {Q:Exit → S → Prop} {s:S} {o:Oper} {ops:Array Oper} {rest:List Oper} {K:S → Prop} {fuel:Nat} {listed:Array Bool}
def aH (_:Nat) (_:List Nat):Prop:=True
theorem pG {c:Code} (h:go1 rd P N p none c Q s) (hs:stp c=true:=by rfl) (ho:okc c=true:=by kernel_rfl):aL rd P N p c Q s:=yq ho h
theorem pC {B:Nat} {ex:List Nat} {c:Code} (h:go1 rd P N p (some (B,ex)) c Q s) (hs:stp c=true:=by rfl) (ho:okc c=true:=by kernel_rfl) (_:aH B ex:=by assumption):aL rd P N p c Q s:=yq ho h
theorem pQ {id:Nat} {l:List Oper} (h:mR P N p l.toArray l s (fun s'=>Q .normal s')) (hm:P.follows .mixedOrders=true:=by kernel_rfl) (hB:Region.lexB .any l.toArray=true:=by kernel_rfl) (hp:gj l=true:=by kernel_rfl):aL rd P N p (.region id l.toArray true) Q s:=cC hm hB h hp
theorem pQC {B:Nat} {ex:List Nat} {id:Nat} {l:List Oper} (h:mR P N p l.toArray l (Bl B ex s) (fun s'=>Q .normal s')) (hm:P.follows .mixedOrders=true:=by kernel_rfl) (hB:Region.lexB .any l.toArray=true:=by kernel_rfl) (hp:gj l=true:=by kernel_rfl) (_:aH B ex:=by assumption):aL rd P N p (.region id l.toArray true) Q s:=av B ex (cC hm hB h hp)
theorem pU {c:Code} (h:aL rd P N p c Q s) (hk:aV rd P N p c Q K:=by assumption):K s:=ej.use hk h
theorem pN {c X:Prop} (h:c) (hn:¬ c:=by intro h;(try simp only [cN] at h);first|contradiction|omega|exact cT h (by assumption)|exact cF h (by assumption)):X:=(hn h).elim
structure Iz (G:Prop):Prop where
 o:G
theorem ae {p G:Prop} (g:G) (k:Iz G → p:=by
 intro g;first|refine pC ?_|refine pQC ?_|refine pU ?_
 exact g.o):p:=k ⟨g⟩
theorem au {p G:Prop} (g:G) (k:Iz G → p:=by
 intro g;first|refine pG ?_|refine pQ ?_|refine pU ?_
 exact g.o):p:=k ⟨g⟩
theorem plc {f:Operand} {args:Array Operand} {tys:Array TypeId} {g:FuncId} {ds:List D} {cap:List Nat} (ks:List Nat) {args':List PV} {os':List Ob} {R:PV → List Ob → Prop}
  (hc:ah P g args' os' R) (hG:o8 N ops s o false ks (bC s ds args.toList cap) args' os')
  (hK:∀ r os'',R r os'' → fY P N p ops rest (S.put ⟨s.t,dE (rho ks s.o.length) s.o ks os''⟩ o.dst (r.ren (rho ks s.o.length))) K)
  (ho:o.op = .call ⟨.value f,args,tys⟩:=by rfl) (hf:s.ev f=some (.c (.fn (.func g) ds cap)):=by rfl) (hb:dK P g=true:=by kernel_rfl):PL P N p ops (o :: rest) s K :=
 aW false ks ho hf hb hc hG nofun fun r os'' h=>an (hK r os'' h)
theorem plE {f : Operand} {args : Array Operand} {tys : Array TypeId} {g : FuncId} {ds : List D} {cap : List Nat} (ks : List Nat) {args' : List PV} {os' os'' : List Ob} {r : PV}
 (hc:ah P g args' os' fun x o=>x = r∧o=os'') (hG:o8 N ops s o false ks (bC s ds args.toList cap) args' os')
 (hK:fY P N p ops rest (S.put ⟨s.t,dE (rho ks s.o.length) s.o ks os''⟩ o.dst (r.ren (rho ks s.o.length))) K)
 (ho:o.op=.call ⟨.value f,args,tys⟩:=by rfl) (hf:s.ev f=some (.c (.fn (.func g) ds cap)):=by rfl) (hb:dK P g=true:=by kernel_rfl):PL P N p ops (o::rest) s K :=
 plc ks hc hG (by rintro _ _ ⟨rfl,rfl⟩;exact hK) ho hf hb
theorem aK {f : Operand} {args : Array Operand} {tys : Array TypeId} {g : FuncId} {ds : List D} {cap : List Nat} (ks : List Nat) {args' : List PV} {os' os'' : List Ob} {r : PV}
 (hc:ah P g args' os' fun x o=>x = r∧o=os'')
 (hK:fY P N p ops rest (S.put ⟨s.t,dE (rho ks s.o.length) s.o ks os''⟩ o.dst (r.ren (rho ks s.o.length))) K)
 (ho:o.op=.call ⟨.value f,args,tys⟩:=by rfl) (hf:s.ev f=some (.c (.fn (.func g) ds cap)):=by rfl) (hb:dK P g=true:=by kernel_rfl) (hG:o8 N ops s o false ks (bC s ds args.toList cap) args' os':=by (push_cast [O,U];first|done|fail)):PL P N p ops (o::rest) s K :=
 plc ks hc hG (by rintro _ _ ⟨rfl,rfl⟩;exact hK) ho hf hb
theorem pas (l:List Nat) (h:wt P N p ops fuel listed s K l) (hr:Region.ready .any ops listed=l:=by decide +kernel) (hl:l.isEmpty=false:=by rfl):PA P N p ops (fuel+1) listed s K:=bv l hr hl h
theorem pah (i:Nat) (h:hoG P N p ops fuel listed s K i ops[i]?) (hB:(Region.noSelect ops && (Region.ready .any ops listed).contains i && Region.free .any ops listed i && yo ops i)=true:=by decide +kernel):PA P N p ops (fuel+1) listed s K:=aY i hB h
theorem pad (h:K s) (hr:Region.ready .any ops listed=[]:=by decide +kernel):PA P N p ops fuel listed s K:=Aj hr h
theorem paw {s':S} (h:PA P N p ops fuel listed s' K) (hw:bg N p s s'):PA P N p ops fuel listed s K:=aC hw h
end
section
variable {P:Program} {N p:Nat} {s:S}
theorem uM {rd:Option Nat} {Q:Exit → S → Prop} {id:Nat} {l:List Oper} {α:Type} (B:Nat) (ex:List Nat) (f:α → List (Nat × PV)) (g:α → List (Nat × Ob)) (Φ:α → Prop) (x0:α) {t0:List (Nat × PV)} (ht:sy B ex ((f x0).map Prod.fst) s.t=t0) (hmp:(P.follows .mixedOrders && gj l)=true)
  (h:PA P N p l.toArray l.length (Array.replicate l.length false) s (fun s'=>∃ x,Φ x∧bg N p s' ⟨f x++t0,sA s.o (g x)⟩)) (hq:∀ x,Φ x → Q .normal ⟨f x++t0,sA s.o (g x)⟩):aL rd P N p (.region id l.toArray true) Q s:=fun z Γ a w hA hD=>by
 simp only [Bool.and_eq_true] at hmp;refine wpIn_region_any hmp.1 (qL (by simpa using hmp.2) ?_);have hX:Ext No w { w with drawn:=w.drawn+1 }:=(Ext.refl No w).drew;refine h Γ a _ _ ⟨hA.inv.same (bS.of_ext hX),hA.le⟩ fun s' Γ' a' w' hk hA' hg hd=>?_
 obtain ⟨x,hx,hw⟩:=hk;obtain ⟨Γ2,hA2,hg2⟩:=hw Γ' a' w' hA';exact ⟨_,Γ2,hq x hx,hA2,(ep hX).trans (hg.trans hg2),hD.grow ((ep (p:=p) hX).trans (hg.trans hg2)) hd⟩
end
end
theorem KN:cn prog 3=some 1∧bG prog 3=some false∧bytOf prog 3=some 8∧zerOf prog 3=some [.v (.int .i64 0)]∧dH prog 3=some (.c (.v (.int .i64 0)))∧lY prog 3=some .i64:=by and_intros<;>kernel_rfl
theorem KO:cn prog 4=some 1∧bG prog 4=some false∧bytOf prog 4=some 1∧zerOf prog 4=some [.v (.bool false)]∧dH prog 4=some (.c (.v (.bool false)))∧qx prog 4=true:=by and_intros<;>kernel_rfl
theorem KP:cn prog 5=some 1∧bG prog 5=some false∧bytOf prog 5=some 1∧zerOf prog 5=some [.v (.int .u8 0)]∧dH prog 5=some (.c (.v (.int .u8 0)))∧lY prog 5=some .u8:=by and_intros<;>kernel_rfl
theorem KQ:cn prog 9=some 1∧bG prog 9=some false∧bytOf prog 9=some 16∧zerOf prog 9=some [.v (.string ⟨#[]⟩)]∧dH prog 9=some (.c (.v (.string ⟨#[]⟩)))∧ko prog 9=true:=by and_intros<;>kernel_rfl
theorem J1:cn prog 22=some 1∧bG prog 22=some false∧bytOf prog 22=some 24∧zerOf prog 22=some [.v (.slice none 0 0)]∧dH prog 22=some (.c (.v (.slice none 0 0)))∧jo prog 22=true∧cY prog 22=some (33,6)∧du prog 22=false:=by and_intros<;>kernel_rfl
theorem J2:cn prog 23=some 1∧bG prog 23=some false∧bytOf prog 23=some 24∧zerOf prog 23=some [.v (.slice none 0 0)]∧dH prog 23=some (.c (.v (.slice none 0 0)))∧jo prog 23=true∧cY prog 23=some (3,1)∧du prog 23=false:=by and_intros<;>kernel_rfl
theorem J3:cn prog 25=some 1∧bG prog 25=some false∧bytOf prog 25=some 8∧zerOf prog 25=some [.v (.pointer none)]∧dH prog 25=some (.c (.v (.pointer none))):=by and_intros<;>kernel_rfl
theorem J4:cn prog 27=some 2∧bG prog 27=some true∧bytOf prog 27=some 32∧zerOf prog 27=some [.v (.slice none 0 0),.v (.int .i64 0)]∧dH prog 27=some (.agg [.v (.slice none 0 0),.v (.int .i64 0)])∧bn prog 27 0=some (0,23)∧bn prog 27 1=some (1,3)∧fc prog 27=some [(0,1),(1,1)]:=by and_intros<;>kernel_rfl
theorem J5:cn prog 31=some 1∧bG prog 31=some false∧bytOf prog 31=some 24∧zerOf prog 31=some [.v (.slice none 0 0)]∧dH prog 31=some (.c (.v (.slice none 0 0)))∧jo prog 31=true∧cY prog 31=some (9,1)∧du prog 31=false:=by and_intros<;>kernel_rfl
theorem J6:cn prog 33=some 6∧bG prog 33=some true∧bytOf prog 33=some 120∧zerOf prog 33=some [.v (.string ⟨#[]⟩),.v (.slice none 0 0),.v (.slice none 0 0),.v (.slice none 0 0),.v (.slice none 0 0),.v (.bool false)]∧dH prog 33=some (.agg [.v (.string ⟨#[]⟩),.v (.slice none 0 0),.v (.slice none 0 0),.v (.slice none 0 0),.v (.slice none 0 0),.v (.bool false)])∧bn prog 33 0=some (0,9)∧bn prog 33 1=some (1,31)∧bn prog 33 2=some (2,31)∧bn prog 33 3=some (3,31)∧bn prog 33 4=some (4,31)∧bn prog 33 5=some (5,4)∧fc prog 33=some [(0,1),(1,1),(2,1),(3,1),(4,1),(5,1)]:=by and_intros<;>kernel_rfl
theorem J7:cn prog 35=some 1∧bG prog 35=some false∧bytOf prog 35=some 8∧zerOf prog 35=some [.v (.pointer none)]∧dH prog 35=some (.c (.v (.pointer none))):=by and_intros<;>kernel_rfl
theorem J8:cn prog 39=some 1∧bG prog 39=some false∧bytOf prog 39=some 24∧zerOf prog 39=some [.v (.slice none 0 0)]∧dH prog 39=some (.c (.v (.slice none 0 0)))∧jo prog 39=true∧cY prog 39=some (53,10)∧du prog 39=false:=by and_intros<;>kernel_rfl
theorem J9:cn prog 41=some 1∧bG prog 41=some true∧bytOf prog 41=some 24∧zerOf prog 41=some [.v (.slice none 0 0)]∧dH prog 41=some (.agg [.v (.slice none 0 0)])∧bn prog 41 0=some (0,39)∧fc prog 41=some [(0,1)]:=by and_intros<;>kernel_rfl
theorem Ko:cn prog 42=some 1∧bG prog 42=some false∧bytOf prog 42=some 24∧zerOf prog 42=some [.v (.slice none 0 0)]∧dH prog 42=some (.c (.v (.slice none 0 0)))∧jo prog 42=true∧cY prog 42=some (69,5)∧du prog 42=false:=by and_intros<;>kernel_rfl
theorem Kp:cn prog 44=some 5∧bG prog 44=some true∧bytOf prog 44=some 104∧zerOf prog 44=some [.v (.slice none 0 0),.v (.slice none 0 0),.v (.slice none 0 0),.v (.slice none 0 0),.v (.int .i64 0)]∧dH prog 44=some (.agg [.v (.slice none 0 0),.v (.slice none 0 0),.v (.slice none 0 0),.v (.slice none 0 0),.v (.int .i64 0)])∧bn prog 44 0=some (0,22)∧bn prog 44 1=some (1,41)∧bn prog 44 2=some (2,31)∧bn prog 44 3=some (3,42)∧bn prog 44 4=some (4,3)∧fc prog 44=some [(0,1),(1,1),(2,1),(3,1),(4,1)]:=by and_intros<;>kernel_rfl
theorem Kq:cn prog 49=some 7∧bG prog 49=some true∧bytOf prog 49=some 120∧zerOf prog 49=some [.v (.pointer none),.v (.pointer none),.v (.slice none 0 0),.v (.slice none 0 0),.v (.slice none 0 0),.v (.slice none 0 0),.v (.int .i64 0)]∧dH prog 49=some (.agg [.v (.pointer none),.v (.pointer none),.v (.slice none 0 0),.v (.slice none 0 0),.v (.slice none 0 0),.v (.slice none 0 0),.v (.int .i64 0)])∧bn prog 49 0=some (0,25)∧bn prog 49 1=some (1,35)∧bn prog 49 2=some (2,44)∧fc prog 49=some [(0,1),(1,1),(2,5)]:=by and_intros<;>kernel_rfl
theorem Kr:cn prog 51=some 1∧bG prog 51=some false∧bytOf prog 51=some 24∧zerOf prog 51=some [.v (.slice none 0 0)]∧dH prog 51=some (.c (.v (.slice none 0 0)))∧jo prog 51=true∧cY prog 51=some (97,2)∧du prog 51=false:=by and_intros<;>kernel_rfl
theorem Ks:cn prog 53=some 10∧bG prog 53=some true∧bytOf prog 53=some 136∧zerOf prog 53=some [.v (.int .i64 0),.v (.int .i64 0),.v (.string ⟨#[]⟩),.v (.string ⟨#[]⟩),.v (.string ⟨#[]⟩),.v (.string ⟨#[]⟩),.v (.string ⟨#[]⟩),.v (.int .i64 0),.v (.int .i64 0),.v (.slice none 0 0)]∧dH prog 53=some (.agg [.v (.int .i64 0),.v (.int .i64 0),.v (.string ⟨#[]⟩),.v (.string ⟨#[]⟩),.v (.string ⟨#[]⟩),.v (.string ⟨#[]⟩),.v (.string ⟨#[]⟩),.v (.int .i64 0),.v (.int .i64 0),.v (.slice none 0 0)])∧bn prog 53 0=some (0,3)∧bn prog 53 1=some (1,3)∧bn prog 53 2=some (2,9)∧bn prog 53 3=some (3,9)∧bn prog 53 4=some (4,9)∧bn prog 53 5=some (5,9)∧bn prog 53 6=some (6,9)∧bn prog 53 7=some (7,3)∧bn prog 53 8=some (8,3)∧bn prog 53 9=some (9,51)∧fc prog 53=some [(0,1),(1,1),(2,1),(3,1),(4,1),(5,1),(6,1),(7,1),(8,1),(9,1)]:=by and_intros<;>kernel_rfl
theorem Kt:cn prog 55=some 14∧bG prog 55=some true∧bytOf prog 55=some 192∧zerOf prog 55=some [.v (.int .i64 0),.v (.string ⟨#[]⟩),.v (.int .i64 0),.v (.int .i64 0),.v (.string ⟨#[]⟩),.v (.string ⟨#[]⟩),.v (.string ⟨#[]⟩),.v (.string ⟨#[]⟩),.v (.string ⟨#[]⟩),.v (.int .i64 0),.v (.int .i64 0),.v (.slice none 0 0),.v (.string ⟨#[]⟩),.v (.string ⟨#[]⟩)]∧dH prog 55=some (.agg [.v (.int .i64 0),.v (.string ⟨#[]⟩),.v (.int .i64 0),.v (.int .i64 0),.v (.string ⟨#[]⟩),.v (.string ⟨#[]⟩),.v (.string ⟨#[]⟩),.v (.string ⟨#[]⟩),.v (.string ⟨#[]⟩),.v (.int .i64 0),.v (.int .i64 0),.v (.slice none 0 0),.v (.string ⟨#[]⟩),.v (.string ⟨#[]⟩)])∧bn prog 55 0=some (0,3)∧bn prog 55 1=some (1,9)∧bn prog 55 2=some (2,53)∧bn prog 55 3=some (12,9)∧bn prog 55 4=some (13,9)∧fc prog 55=some [(0,1),(1,1),(2,10),(12,1),(13,1)]:=by and_intros<;>kernel_rfl
theorem Ku:cn prog 69=some 5∧bG prog 69=some true∧bytOf prog 69=some 56∧zerOf prog 69=some [.v (.int .i64 0),.v (.int .i64 0),.v (.int .i64 0),.v (.string ⟨#[]⟩),.v (.string ⟨#[]⟩)]∧dH prog 69=some (.agg [.v (.int .i64 0),.v (.int .i64 0),.v (.int .i64 0),.v (.string ⟨#[]⟩),.v (.string ⟨#[]⟩)])∧bn prog 69 0=some (0,3)∧bn prog 69 1=some (1,3)∧bn prog 69 2=some (2,3)∧bn prog 69 3=some (3,9)∧bn prog 69 4=some (4,9)∧fc prog 69=some [(0,1),(1,1),(2,1),(3,1),(4,1)]∧ll prog 69=some [.int,.int,.int,.str,.str]:=by and_intros<;>kernel_rfl
theorem Kv:cn prog 87=some 5∧bG prog 87=some true∧bytOf prog 87=some 104∧zerOf prog 87=some [.v (.slice none 0 0),.v (.slice none 0 0),.v (.slice none 0 0),.v (.slice none 0 0),.v (.int .i64 0)]∧dH prog 87=some (.agg [.v (.slice none 0 0),.v (.slice none 0 0),.v (.slice none 0 0),.v (.slice none 0 0),.v (.int .i64 0)])∧bn prog 87 0=some (0,41)∧bn prog 87 1=some (1,22)∧bn prog 87 2=some (2,31)∧bn prog 87 3=some (3,42)∧bn prog 87 4=some (4,3)∧fc prog 87=some [(0,1),(1,1),(2,1),(3,1),(4,1)]:=by and_intros<;>kernel_rfl
theorem Kw:cn prog 97=some 2∧bG prog 97=some true∧bytOf prog 97=some 32∧zerOf prog 97=some [.v (.string ⟨#[]⟩),.v (.string ⟨#[]⟩)]∧dH prog 97=some (.agg [.v (.string ⟨#[]⟩),.v (.string ⟨#[]⟩)])∧bn prog 97 0=some (0,9)∧bn prog 97 1=some (1,9)∧fc prog 97=some [(0,1),(1,1)]∧ll prog 97=some [.str,.str]:=by and_intros<;>kernel_rfl
theorem I1:cn prog 100=some 1∧bG prog 100=some false∧bytOf prog 100=some 8∧zerOf prog 100=some [.v (.nilFunc)]∧dH prog 100=some (.c (.v (.nilFunc))):=by and_intros<;>kernel_rfl
theorem I2:cn prog 102=some 1∧bG prog 102=some false∧bytOf prog 102=some 8∧zerOf prog 102=some [.v (.map none)]∧dH prog 102=some (.c (.v (.map none)))∧pR prog 102=some ((some .i64),100):=by and_intros<;>kernel_rfl
theorem I3:cn prog 107=some 1∧bG prog 107=some false∧bytOf prog 107=some 24∧zerOf prog 107=some [.v (.slice none 0 0)]∧dH prog 107=some (.c (.v (.slice none 0 0)))∧jo prog 107=true∧cY prog 107=some (110,1)∧du prog 107=false:=by and_intros<;>kernel_rfl
theorem I4:cn prog 110=some 1∧bG prog 110=some false∧bytOf prog 110=some 24∧zerOf prog 110=some [.v (.slice none 0 0)]∧dH prog 110=some (.c (.v (.slice none 0 0)))∧jo prog 110=true∧cY prog 110=some (162,129)∧du prog 110=false:=by and_intros<;>kernel_rfl
theorem I5:cn prog 117=some 1∧bG prog 117=some false∧bytOf prog 117=some 8∧zerOf prog 117=some [.v (.map none)]∧dH prog 117=some (.c (.v (.map none)))∧pR prog 117=some ((some .i64),3):=by and_intros<;>kernel_rfl
theorem I6:cn prog 118=some 1∧bG prog 118=some false∧bytOf prog 118=some 8∧zerOf prog 118=some [.v (.map none)]∧dH prog 118=some (.c (.v (.map none)))∧pR prog 118=some ((some .i64),9):=by and_intros<;>kernel_rfl
theorem I7:cn prog 120=some 3∧bG prog 120=some true∧bytOf prog 120=some 40∧zerOf prog 120=some [.v (.slice none 0 0),.v (.map none),.v (.map none)]∧dH prog 120=some (.agg [.v (.slice none 0 0),.v (.map none),.v (.map none)])∧bn prog 120 0=some (0,39)∧bn prog 120 1=some (1,117)∧bn prog 120 2=some (2,118)∧fc prog 120=some [(0,1),(1,1),(2,1)]:=by and_intros<;>kernel_rfl
theorem I8:cn prog 133=some 1∧bG prog 133=some false∧bytOf prog 133=some 24∧zerOf prog 133=some [.v (.slice none 0 0)]∧dH prog 133=some (.c (.v (.slice none 0 0)))∧jo prog 133=true∧cY prog 133=some (31,1)∧du prog 133=false:=by and_intros<;>kernel_rfl
theorem I9:cn prog 135=some 1∧bG prog 135=some false∧bytOf prog 135=some 8∧zerOf prog 135=some [.v (.nilFunc)]∧dH prog 135=some (.c (.v (.nilFunc))):=by and_intros<;>kernel_rfl
theorem Ja:cn prog 156=some 2∧bG prog 156=some true∧bytOf prog 156=some 24∧zerOf prog 156=some [.v (.string ⟨#[]⟩),.v (.int .i64 0)]∧dH prog 156=some (.agg [.v (.string ⟨#[]⟩),.v (.int .i64 0)])∧bn prog 156 0=some (0,9)∧bn prog 156 1=some (1,3)∧fc prog 156=some [(0,1),(1,1)]∧ll prog 156=some [.str,.int]:=by and_intros<;>kernel_rfl
theorem Jb:cn prog 160=some 127∧bG prog 160=some true∧bytOf prog 160=some 127∧zerOf prog 160=some (List.replicate 127 (.v (.bool false)))∧lM prog 160=some (127,1)∧fc prog 160=none:=by and_intros<;>kernel_rfl
theorem Jc:cn prog 162=some 129∧bG prog 162=some true∧bytOf prog 162=some 129∧bn prog 162 0=some (0,5)∧bn prog 162 1=some (1,4)∧bn prog 162 2=some (2,160)∧fc prog 162=some [(0,1),(1,1),(2,127)]:=by and_intros<;>kernel_rfl
theorem Jd:cn prog 174=some 256∧bG prog 174=some true∧bytOf prog 174=some 256∧zerOf prog 174=some (List.replicate 256 (.v (.bool false)))∧lM prog 174=some (256,1)∧fc prog 174=none:=by and_intros<;>kernel_rfl
theorem Je:cn prog 178=some 1∧bG prog 178=some false∧bytOf prog 178=some 24∧zerOf prog 178=some [.v (.slice none 0 0)]∧dH prog 178=some (.c (.v (.slice none 0 0)))∧jo prog 178=true∧cY prog 178=some (212,1)∧du prog 178=false:=by and_intros<;>kernel_rfl
theorem Jf:cn prog 207=some 128∧bG prog 207=some true∧bytOf prog 207=some 128∧zerOf prog 207=some (List.replicate 128 (.v (.bool false)))∧lM prog 207=some (128,1)∧fc prog 207=none:=by and_intros<;>kernel_rfl
theorem Jg:cn prog 209=some 130∧bG prog 209=some true∧bytOf prog 209=some 130∧zerOf prog 209=some (List.replicate 130 (.v (.bool false)))∧bn prog 209 0=some (0,4)∧bn prog 209 1=some (1,4)∧bn prog 209 2=some (2,207)∧fc prog 209=some [(0,1),(1,1),(2,128)]:=by and_intros<;>kernel_rfl
theorem Jh:cn prog 212=some 1∧bG prog 212=some false∧bytOf prog 212=some 24∧zerOf prog 212=some [.v (.slice none 0 0)]∧dH prog 212=some (.c (.v (.slice none 0 0)))∧jo prog 212=true∧cY prog 212=some (209,130)∧du prog 212=false:=by and_intros<;>kernel_rfl
theorem Ji:cn prog 227=some 1∧bG prog 227=some false∧bytOf prog 227=some 8∧zerOf prog 227=some [.v (.map none)]∧dH prog 227=some (.c (.v (.map none)))∧pR prog 227=some ((some .i64),4):=by and_intros<;>kernel_rfl
theorem Jj:cn prog 248=some 1∧bG prog 248=some false∧bytOf prog 248=some 8∧zerOf prog 248=some [.v (.int .u64 0)]∧dH prog 248=some (.c (.v (.int .u64 0)))∧lY prog 248=some .u64:=by and_intros<;>kernel_rfl
theorem Jk:cn prog 249=some 1∧bG prog 249=some false∧bytOf prog 249=some 24∧zerOf prog 249=some [.v (.slice none 0 0)]∧dH prog 249=some (.c (.v (.slice none 0 0)))∧jo prog 249=true∧cY prog 249=some (51,1)∧du prog 249=false:=by and_intros<;>kernel_rfl
theorem Jl:cn prog 271=some 1∧bG prog 271=some false∧bytOf prog 271=some 24∧zerOf prog 271=some [.v (.slice none 0 0)]∧dH prog 271=some (.c (.v (.slice none 0 0)))∧jo prog 271=true∧cY prog 271=some (4,1)∧du prog 271=false:=by and_intros<;>kernel_rfl
attribute [push_cast] KN KO KP KQ J1 J2 J3 J4 J5 J6 J7 J8 J9 Ko Kp Kq Kr Ks Kt Ku Kv Kw I1 I2 I3 I4 I5 I6 I7 I8 I9 Ja Jb Jc Jd Je Jf Jg Jh Ji Jj Jk Jl
section
open IntWalk renaming iteOmega → O, toNatUp → U
theorem iK {P:Program} {g:FuncId} {l1 l2:List PV} {sz:Nat} {os:List Ob} {R:PV → List Ob → Prop} (h:∀ A c,ah P g (l1++.c (.v (.slice A 0 c)) :: l2) os R):ah P g (l1++.c (.sl sz []) :: l2) os R:=by
 intro Γ w xs hm hx;obtain ⟨a,b,rfl,h1,h2⟩:=hx.split;obtain ⟨y,m,rfl,h3,h4⟩:=ay.cons_l.1 h2;obtain ⟨A,c,xs',hy,_⟩:=dB.1 h3;exact h A c Γ w _ hm (h1.append ⟨⟨hy,rfl⟩,h4⟩)
theorem jw {P:Program} {g:FuncId} {args:List PV} {os:List Ob} {R R':PV → List Ob → Prop} (el:TypeId) (sz:Nat) (hsz:0 < sz) (h:ah P g args os R)
  (hR:∀ r os',R r os' → R' r os'∨(r = .c (.v (.slice none 0 0))∧R' (.c (.own os'.length 0)) (os'++[.arr el sz []]))):ah P g args os R':=by
 intro Γ w xs hm hx;refine (h Γ w xs hm hx).mono ?_;rintro e w' ⟨r,os',Γ',y,rfl,h2,h3,h4,h5,h6⟩;rcases hR r os' h2 with h7|⟨rfl,h7⟩
 ·exact ⟨r,os',Γ',y,rfl,h7,h3,h4,h5,h6⟩
 ·have hS:=bS.refl w';have hm2:bz (Γ'.push 0 0) (os'++[.arr el sz []]) w':=h5.push hS _ 0 0 ⟨by simp,hsz,fun _=>rfl,fun h=>absurd h (by simp [G.push,ax])⟩ (fun h=>absurd h ac);have hn:=h5.n;refine ⟨_,_,Γ'.push 0 0,y,rfl,h7,⟨by simp [G.push,hn],.inl ⟨by rw [← hn];simp [G.push,ax],⟨none,h3.1⟩,rfl⟩⟩,by simp;omega,hm2,?_⟩;exact h6.trans (cz h5 (Ext.refl No w') 0 0 (fun h=>absurd h ac) (by rw [hn];exact h4))
theorem Br {N p:Nat} {s:S} (k n:Nat) {el:TypeId} {sz:Nat} {rows:List (List D)} (hk:s.o[k]? = some (.arr el sz rows)):bg N p s ⟨s.t,dw s.o k (.arr el sz (rows.take n))⟩:=by
 intro Γ a w hA;have hm:=hA.inv.m;have hkl:k < s.o.length:=(List.getElem?_eq_some_iff.1 hk).1;refine ⟨Γ,⟨⟨hA.inv.size,hA.inv.defers,hA.inv.t,⟨by simp [dw,hm.n],fun j o ho=>?_,hm.sep,hm.off,hm.lt,hm.pin⟩⟩,hA.le⟩,cq.refl _ _ _⟩;simp only [dw] at ho;by_cases e:k=j
 ·subst e;rw [List.getElem?_set_self hkl] at ho;cases ho;obtain ⟨g1,g2,g3,g4⟩:=hm.ob k _ hk;refine ⟨fun r hr=>g1 r (List.mem_of_mem_take hr),g2,fun h=>by rw [g3 h];simp,fun hc=>?_⟩;obtain ⟨cur,b1,b2,b3,b4,b5⟩:=g4 hc;refine ⟨cur,b1,b2,by rw [List.length_take];omega,b4,?_⟩;rcases Nat.lt_or_ge rows.length n with h|h
  ·rw [List.take_of_length_le ac];exact b5
  ·have:=b5.take (n * sz);rw [df g1 h,List.take_take,Nat.min_eq_left (Nat.mul_le_mul_right _ h)] at this;rw [List.length_take,Nat.min_eq_left h];exact this
 ·rw [List.getElem?_set_ne e] at ho;exact hm.ob j o ho
def inM (s:ByteArray) (l:List ByteArray):Bool:=l.any fun x=>decide (x=s)
theorem gp {s:ByteArray} {l:List ByteArray}:inM s l=true ↔ s ∈ l:=by
 simp only [inM,List.any_eq_true,decide_eq_true_eq];exact ⟨fun ⟨x,h,e⟩=>e ▸ h,fun h=>⟨s,h,rfl⟩⟩
theorem gA {s:ByteArray} {l:List ByteArray}:inM s l=false ↔ s ∉ l:=by rw [← gp];simp
def KR (l:List ByteArray):List (MK × List D):=l.map fun s=>(.s s,[.v (.bool true)])
theorem Ep:KR []=[]:=rfl
attribute [push_cast] Ep
end
section
attribute [local irreducible] PL QL aL ah bg La aV
open IntWalk renaming iteOmega → O, toNatUp → U
set_option maxRecDepth 20000
theorem tp (v n:Int) (hv : -9223372036854775808≤v) (hv':v≤9223372036854775807) (hn:n≤9223372036854775807) :
  ah prog 43 [.c (.v (.int .i64 v)),.c (.v (.int .i64 n))] [] fun r os=>r = .c (.v (.int .i64 (kf v n)))∧os=[]:=by
 have hlo:=Int.lt_tmod_of_pos v (b:=n);have hhi:=Int.tmod_lt_of_pos v (b:=n);refine aw func43 ntmps43 results43 ?_;push_cast [O,U];by_cases h1:n≤1
 ·repeat' ((first|refine au ?_|refine pif ?_ ?_<;>intro h<;>try exact pN h)<;>push_cast [O,U])
  (refine K9 [] ?_;push_cast [O,U]);simp [kf,h1]
 ·by_cases h0:0≤v
  ·have he:=Int.tmod_eq_emod_of_nonneg h0 (b:=n);have hb:=Int.emod_nonneg v (b:=n) ac;repeat' ((first|refine au ?_|refine pif ?_ ?_<;>intro h<;>try exact pN h)<;>push_cast [O,U])
   (refine K9 [] ?_;push_cast [O,U]);simp only [kf,if_neg h1,he];rw [if_neg ac]
  ·by_cases h2:v.tmod n < 0
   ·repeat' ((first|refine au ?_|refine pif ?_ ?_<;>intro h<;>try exact pN h)<;>push_cast [O,U])
    (refine K9 [] ?_;push_cast [O,U]);simp [kf,h1,h2]
   ·repeat' ((first|refine au ?_|refine pif ?_ ?_<;>intro h<;>try exact pN h)<;>push_cast [O,U])
    (refine K9 [] ?_;push_cast [O,U]);simp [kf,h1,h2]
def tape (L:List Int) (k:Nat):Ob:=.box 27 [.sl 1 (L.map fun x=>[D.v (.int .i64 x)]),.v (.int .i64 k)]
attribute [push_cast] tape
theorem fj (L:List Int) (k:Nat) (n:Int) (hk:k < 1000000) (hn:n≤9223372036854775807) (hL:∀ x ∈ L,-9223372036854775808≤x∧x≤9223372036854775807) (hl:L.length≤9223372036854775807) :
  ah prog 14 [.c (.ptr 0 0),.c (.v (.int .i64 n))] [tape L k] fun r os=>r = .c (.v (.int .i64 (kf (dN L k) n)))∧os=[tape L (k+1)]:=by
 refine aw func14 ntmps14 results14 ?_;push_cast [O,U];by_cases hlt:k < L.length
 ·have hx:=hL (L.getD k default) (by rw [ai L hlt];exact List.getElem_mem _);repeat' ((first|refine plE [] (tp (L.getD k default) n ac ac hn) ?_ ?_|refine au ?_|refine pif ?_ ?_<;>intro h<;>try exact pN h)<;>push_cast [O,U])
  (refine K9 [0] ?_;push_cast [O,U]);simp [dN,hlt]
 ·repeat' ((first|refine plE [] (tp ((k:Int) * 7 % 11) n ac ac hn) ?_ ?_|refine au ?_|refine pif ?_ ?_<;>intro h<;>try exact pN h)<;>push_cast [O,U])
  (refine K9 [0] ?_;push_cast [O,U]);simp [dN,hlt]
def aU (s:ByteArray):List D:=[.v (.string s)]
attribute [push_cast] aU
def pick (L:List Int) (k:Nat) (l:List ByteArray):ByteArray:=l.getD (kf (dN L k) l.length).toNat default
theorem fy (v n:Int) (hn:0 < n):0≤kf v n∧kf v n < n:=by
 unfold kf;have:=Int.lt_tmod_of_pos v (b:=n) hn;have:=Int.tmod_lt_of_pos v (b:=n) hn;split
 ·omega
 ·split<;>omega
theorem Es (L:List Int) (k:Nat) (l:List ByteArray) (hk:k < 1000000) (h0:0 < l.length) (hn:l.length≤1000000) (hL:∀ x ∈ L,-9223372036854775808≤x∧x≤9223372036854775807) (hl:L.length≤9223372036854775807) :
  ah prog 15 [.c (.ptr 0 0),.c (.sl 1 (l.map aU))] [tape L k] fun r os=>r = .c (.v (.string (pick L k l)))∧os=[tape L (k+1)]:=by
 refine aw func15 ntmps15 results15 ?_;obtain ⟨hb,hb'⟩:=fy (dN L k) l.length ac;push_cast [O,U];repeat' ((first|refine plE [0] (fj L k l.length hk ac hL hl) ?_ ?_|refine au ?_|refine pif ?_ ?_<;>intro h<;>try exact pN h)<;>push_cast [O,U])
 (refine K9 [0] ?_;push_cast [O,U]);simp [pick,List.getD]
theorem cP (L:List Int) (k:Nat) (n:Int) (hk:k < 1000000) (h0:0 < n) (hn:n≤9223372036854775807) (hL:∀ x ∈ L,-9223372036854775808≤x∧x≤9223372036854775807) (hl:L.length≤9223372036854775807) :
  ah prog 14 [.c (.ptr 0 0),.c (.v (.int .i64 n))] [tape L k] fun r os=>∃ v:Int,(0≤v∧v < n)∧r = .c (.v (.int .i64 v))∧os=[tape L (k+1)] :=
 (fj L k n hk hn hL hl).mono fun r os h=>⟨_,fy _ _ h0,h.1,h.2⟩
theorem c9 (L:List Int) (k:Nat) (l:List ByteArray) (hk:k < 1000000) (h0:0 < l.length) (hn:l.length≤1000000) (hL:∀ x ∈ L,-9223372036854775808≤x∧x≤9223372036854775807) (hl:L.length≤9223372036854775807) :
  ah prog 15 [.c (.ptr 0 0),.c (.sl 1 (l.map aU))] [tape L k] fun r os=>∃ s,s ∈ l∧r = .c (.v (.string s))∧os=[tape L (k+1)] :=
 (Es L k l hk h0 hn hL hl).mono fun r os h=>⟨_,by
  have:=fy (dN L k) l.length ac;unfold pick;rw [ai _ ac];exact List.getElem_mem _,h.1,h.2⟩
end
section
open IntWalk renaming iteOmega → O, toNatUp → U
structure Atr where
 name:ByteArray
 value:ByteArray
 deriving DecidableEq,Inhabited
def Atr.d (x:Atr):List D:=[.v (.string x.name),.v (.string x.value)]
attribute [push_cast] Atr.d
structure Dev where
 index:Int
 parent:Int
 name:ByteArray
 original:ByteArray
 subsystem:ByteArray
 driver:ByteArray
 alias_:ByteArray
 kind:Int
 number:Int
 attrs:List Atr
 deriving DecidableEq,Inhabited
def Dev.w (d:Dev) (a:E):List E:=[.v (.int .i64 d.index),.v (.int .i64 d.parent),.v (.string d.name),.v (.string d.original),.v (.string d.subsystem),.v (.string d.driver),.v (.string d.alias_),.v (.int .i64 d.kind),.v (.int .i64 d.number),a]
def Dev.e (d:Dev):List E:=d.w (.sl 2 (d.attrs.map Atr.d))
attribute [push_cast] Dev.e Dev.w
def Dev.d (d:Dev):List D:=[.v (.int .i64 d.index),.v (.int .i64 d.parent),.v (.string d.name),.v (.string d.original),.v (.string d.subsystem),.v (.string d.driver),.v (.string d.alias_),.v (.int .i64 d.kind),.v (.int .i64 d.number),.sl 2 (d.attrs.map Atr.d)]
attribute [push_cast] Dev.d
def trE (l:List Dev):List E:=[.sl 10 (l.map Dev.d)]
attribute [push_cast] trE
abbrev Fit (s:ByteArray):Prop:=s.size≤9223372036854775807
def okA (l:List Atr):Prop:=∀ a ∈ l,Fit a.name∧Fit a.value
structure Dev.ok (d:Dev):Prop where
 name:Fit d.name
 original:Fit d.original
 subsystem:Fit d.subsystem
 driver:Fit d.driver
 alias_:Fit d.alias_
 attrs:okA d.attrs
 len:d.attrs.length≤9223372036854775807
 orig:d.original.size≤1048576
theorem cJ {l:List ByteArray} {s:ByteArray} (h:l.all (fun s=>decide (s.size≤100))=true) (hm:s ∈ l):s.size≤100:=by
 have:=List.all_eq_true.1 h s hm;simpa using this
theorem bN {s:ByteArray} {n:Nat} (h:s.size≤n) (hn:n≤1048576):Fit s:=Nat.le_trans h (Nat.le_trans hn af)
structure Mod where
 name:ByteArray
 aliases:List ByteArray
 needs:List ByteArray
 pre:List ByteArray
 post:List ByteArray
 fails:Bool
 deriving DecidableEq,Inhabited
def Mod.d (m:Mod):List D:=[.v (.string m.name),.sl 1 (m.aliases.map aU),.sl 1 (m.needs.map aU),.sl 1 (m.pre.map aU),.sl 1 (m.post.map aU),.v (.bool m.fails)]
attribute [push_cast] Mod.d
def aJ (l:List Mod) (n:ByteArray):Option Mod:=l.find? fun m=>decide (m.name=n)
def bW:Mod:=⟨⟨#[]⟩,[],[],[],[],false⟩
def Mod.e (m:Mod):List E:=m.d.map D.e
attribute [push_cast] Mod.e
def fS:List (Option PV) → List PV → Prop
 | [],[]=>True
 | some q :: l,r :: m=>leP q r∧fS l m
 | _,_=>False
theorem mc {w:World} {Γ:G}:∀ {l:List (Option PV)} {m:List PV} {ys:List Value},fS l m → ay (fun q y=>∀ r,q=some r → RP w Γ r y) l ys → ay (RP w Γ) m ys
 | [],[],_,_,h=>by rw [ay.nil_l] at h ⊢;exact h
 | some q :: l,r :: m,y :: ys,h,hr=>⟨gi h.1 (hr.1 q rfl),mc h.2 hr.2⟩
 | some _ :: _,_ :: _,[],_,hr=>hr.elim
 | [],_ :: _,_,h,_=>h.elim
 | none :: _,_,_,h,_=>h.elim
 | some _ :: _,[],_,h,_=>h.elim
section
variable {P:Program} {N p:Nat} {ops:Array Oper} {rest:List Oper} {o:Oper} {s:S} {K:S → Prop}
theorem dc {f:Operand} {args:Array Operand} {tys:Array TypeId} {g:FuncId} {ds:List D} {cap:List Nat} {args':List PV} {R:PV → List Ob → Prop}
  (ho:o.op = .call ⟨.value f,args,tys⟩) (hg:gd ops s o.guard=some true) (hf:s.ev f=some (.c (.fn (.func g) ds cap))) (hb:dK P g=true) (hd:bp N o.dst)
  (ha:fS (bC s ds args.toList cap) args') (hc:ah P g args' s.o R)
  (hK:∀ r os'',R r os'' → PL P N p ops rest (S.put ⟨s.t,os''⟩ o.dst r) K):PL P N p ops (o :: rest) s K:=by
 intro Γ a w Q hA hQ;obtain ⟨xs,ys,hfv,hargs⟩:=ir hA.inv hf args;have hseen:=mc ha hargs;unfold wpListIn;rw [if_pos (fG hg hA.inv)];refine l7 (lu ho hfv hb) ?_;have:=hc _ w _ hA.inv.m hseen;rw [Array.toArray_toList] at this;refine this.mono ?_;rintro e w' ⟨r,os'',Γ',y,rfl,hR,hr,hlen,hm',hgr⟩;have hle:p≤s.o.length:=by rw [← hA.inv.m.n];exact hA.le
 have hag:∀ j,j < Γ.n → fV Γ Γ' j:=fun j hj=>by
  have hj':j < s.o.length:=by rw [← hA.inv.m.n];exact hj
  exact ⟨by rw [hm'.n];omega,(hgr.keep j hj').1,(hgr.keep j hj').2⟩
 have hI:=hA.inv.heap hm' (hgr.stay hA.inv.m) hag;refine ⟨y,rfl,hK r os'' hR Γ' _ w' Q ⟨hI.put (ec hd) hr,by rw [hm'.n];omega⟩ fun s' Γ2 a2 w2 hk hA2 hg2 hd2=>hQ s' Γ2 a2 w2 hk hA2 ?_ (hd2.trans (bK _ _ _))⟩;have hgp:cq p Γ w Γ' w':=⟨hgr.ext,hgr.sub,hgr.new,hgr.imm,fun k hk=>hgr.keep k ac⟩
 exact hgp.trans hg2
theorem cV {s':S} (ht:Ba s s'.t) (ho:s'.o=s.o):bg N p s s':=by
 intro Γ a w hA;refine ⟨Γ,⟨⟨hA.inv.size,hA.inv.defers,fun i q hq=>?_,by rw [ho];exact hA.inv.m⟩,hA.le⟩,cq.refl _ _ _⟩;obtain ⟨r,hr,hle⟩:=oe ht hq;obtain ⟨i1,i2⟩:=hA.inv.t i r hr;exact ⟨i1,gi hle i2⟩
end
theorem wx {N p:Nat} {s:S} (i:Nat) {k n:Nat} (sz:Nat) (hi:s.get i=some (.c (.own k n))):bg N p s ⟨(i,.c (.seg k sz 0 n)) :: s.t,s.o⟩:=by
 intro Γ a w hA;refine ⟨Γ,⟨⟨hA.inv.size,hA.inv.defers,fun j q hq=>?_,hA.inv.m⟩,hA.le⟩,cq.refl _ _ _⟩;simp only [S.get,cM] at hq;split at hq
 ·rename_i e;subst e;cases hq;obtain ⟨h1,h2,h3⟩:=hA.inv.t j _ hi;refine ⟨h1,h2,?_⟩;rcases h3 with ⟨_,⟨A,h4⟩,rfl⟩|⟨h4,h5,h6⟩
  ·exact ⟨A,0,h4,Nat.le_refl _,fun h=>absurd h ac⟩
  ·exact ⟨_,_,h5,h6,fun _=>⟨h4,ac,by simp⟩⟩
 ·exact hA.inv.t j q hq
def Et (P:Program) (rs:List ResultVar) (p:Nat) (R:PV → List Ob → Prop) (s:S):Prop:=∃ r,yl P s rs=some r∧p≤s.o.length∧R r s.o
def Eu (P:Program) (rs:List ResultVar) (p:Nat) (R:PV → List Ob → Prop):Exit → S → Prop
 | .normal,s=>Et P rs p R s
 | .ret,s=>Et P rs p R s
 | _,_=>False
theorem uN (P:Program) (rs:List ResultVar) (p:Nat) (R:PV → List Ob → Prop) (s:S):Eu P rs p R .normal s=Et P rs p R s:=rfl
theorem Bt (P:Program) (rs:List ResultVar) (p:Nat) (R:PV → List Ob → Prop) (s:S):Eu P rs p R .ret s=Et P rs p R s:=rfl
attribute [push_cast] uN Bt fS
theorem bA {P:Program} {g:FuncId} {fn:Func} {c:Code} {args:List PV} {os:List Ob} {R:PV → List Ob → Prop} (hf:P.funcs[g]? = some fn) (hb:fn.body=some c) (hn:args.length≤fn.ntmps)
  (h:PWP P fn.ntmps os.length c (Eu P fn.results.toList os.length R) ⟨og 0 args,os⟩):ah P g args os R:=by
 refine tg (T:=Et P fn.results.toList os.length R) hf hb hn (fun e s hq=>?_) (fun s' Γ Γ' a' w w' ht hI hg=>?_) h
 ·cases e with
  | normal=>exact ⟨.inl rfl,hq⟩
  | ret=>exact ⟨.inr rfl,hq⟩
  | exit j=>exact hq.elim
  | goto l=>exact hq.elim
  | panic ch=>exact hq.elim
  | outgrown=>exact hq.elim
 ·obtain ⟨r,h1,h2,h3⟩:=ht;obtain ⟨y,h8,h9⟩:=uK hI h1;exact ⟨y,h8,r,s'.o,Γ',h3,h9,h2,hI.m,hg⟩
end
end Go.Proofs.YtmbbkfffcflfcaaGreatDoor
