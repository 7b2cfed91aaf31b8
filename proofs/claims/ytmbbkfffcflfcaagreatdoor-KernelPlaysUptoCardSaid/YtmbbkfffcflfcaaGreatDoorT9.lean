/- What the program computes, and the plain laws of it, part 9. -/
import Derived.Test.YtmbbkfffcflfcaaGreatDoorT8
namespace Go.Proofs.YtmbbkfffcflfcaaGreatDoor
set_option linter.unusedSimpArgs false
set_option linter.unusedVariables false
open Go.RowKit
open IntWalk renaming iteOmega → O, toNatUp → U
def DZ (Γ:G) (D:Nat):Prop:=¬ Γ.I D∧∀ k,k < Γ.n → 0 < Γ.cap k → Γ.β k≠D
def iT (z:Nat) (Γ:G) (a:Act) (w:World):Prop:=z≤w.heap.size∧a.defers.Nodup∧∀ d ∈ a.defers,∃ D,d={ target:=.collected D,args := #[] }∧w.heap[D]? = some (.deferred (some []))∧DZ Γ D∧z≤D
theorem iT.nil {z:Nat} {Γ:G} {t:Array Value} {w:World} (h:z≤w.heap.size):iT z Γ { tmps:=t,defers:=[] } w:=⟨h,List.nodup_nil,fun d hd=>by cases hd⟩
theorem iT.grow {z p:Nat} {Γ Γ':G} {a a':Act} {w w':World} (h:iT z Γ a w) (hg:cq p Γ w Γ' w') (ha:a'.defers=a.defers):iT z Γ' a' w':=by
 unfold iT;rw [ha];refine ⟨Nat.le_trans h.1 hg.ext.size,h.2.1,fun d hd=>?_⟩;obtain ⟨D,h1,h2,⟨h3,h4⟩,hz⟩:=h.2.2 d hd;have hl:D < w.heap.size:=(Array.getElem?_eq_some_iff.1 h2).1;have hm:¬ lX Γ D:=fun ⟨k,a1,a2,a3⟩=>h4 k a1 a2 a3
 refine ⟨D,h1,(hg.ext.block D hl hm).trans h2,⟨fun hI=>?_,fun k hk hc e=>?_⟩,hz⟩
 ·rcases hg.imm D hI with x|x|x
  ·exact h3 x
  ·exact hm x
  ·omega
 ·rcases hg.new k hk hc with x|x
  ·exact hm (e ▸ x)
  ·omega
def uH:Op → Bool
 | .defer _=>false
 | _=>true
def gj (l:List Oper):Bool:=l.all fun o=>uH o.op
theorem Bd {rd:Option Nat} {ρ:Operand → Value} {o:Oper} (h:uH o.op=true):o.semAt rd ρ=execOp ρ o:=Oper.semAt_eq rd ρ o (fun c hc=>by rw [hc] at h;cases h)
theorem Ad {rd:Option Nat} {P:Program} {o:Oper} {a:Act} {w:World} {K:Act → World → Prop} {Q:Exit → Act → World → Prop} (hp:uH o.op=true) (h:o.wpIn (Fw none) 0 P a w K Q):o.wpIn (Fw rd) 0 P a w K Q:=by
 refine ⟨fun _ _=>trivial,?_⟩;have h2:=h.2;rw [Bd hp] at h2 ⊢;generalize (execOp a.eval o).run P w=r at h2 ⊢;cases r with
 | ok x w'=>cases x<;>exact h2
 | halt x w'=>cases x<;>exact h2
theorem qi {rd:Option Nat} {P:Program} {ops:Array Oper} {Q:Exit → Act → World → Prop}:∀ {l:List Oper} {a:Act} {w:World},gj l=true → wpListIn (Fw none) 0 P ops Q l a w → wpListIn (Fw rd) 0 P ops Q l a w
 | [],_,_,_,h=>h
 | o :: l,a,w,hp,h=>by
  simp only [gj,List.all_cons,Bool.and_eq_true] at hp;unfold wpListIn at h ⊢;split
  ·rename_i hw;rw [if_pos hw] at h;exact Ad hp.1 (Oper.wpIn_mono (fun a w h=>qi hp.2 h) h)
  ·rename_i hw;rw [if_neg hw] at h;exact ⟨fun _ _=>trivial,qi hp.2 h.2⟩
theorem qL {rd:Option Nat} {P:Program} {ops:Array Oper} {md:Region.Mode} {Q:Exit → Act → World → Prop} (hp:gj ops.toList=true):∀ {fuel:Nat} {listed:Array Bool} {a:Act} {w:World},wpAnyIn (Fw none) 0 P md ops Q fuel listed a w → wpAnyIn (Fw rd) 0 P md ops Q fuel listed a w
 | 0,_,_,_,h=>h
 | fuel+1,listed,a,w,h=>⟨h.1,fun i hi=>by
  have h1:=wpOpIn_mono (fun a w h=>qL (rd:=rd) (fuel:=fuel) hp h) (h.2 i hi);unfold wpOpIn at h1 ⊢;split
  ·rename_i ho;rw [ho] at h1;exact h1
  ·rename_i o ho;rw [ho] at h1;simp only at h1;have hpo:uH o.op=true:=by
    have:=List.all_eq_true.1 hp o (by
     have h3:ops.toList[i]? = some o:=by rw [Array.getElem?_toList];exact ho
     exact List.mem_of_getElem? h3)
    exact this
   split
   ·rename_i hw;rw [if_pos hw] at h1;exact Ad hpo h1
   ·rename_i hw;rw [if_neg hw] at h1;exact ⟨fun _ _=>trivial,h1.2⟩⟩
section
variable {F:Fence} {n:Nat} {P:Program} {Q:Exit → Act → World → Prop} {a:Act} {w:World}
theorem eD {b:Frame} {k:List Item} {cs:List Frame} {c:Code}:step P (lone (b.atR a (.code (.scope c) :: k)) cs w) = .next (lone (b.atR a (.code c :: .inScope c :: k)) cs w) :=
 step_lone_go (by simp [stepG,stepG.exec,Frame.atR])
theorem qM {b:Frame} {k:List Item} {cs:List Frame} {c:Code}:step P (lone (b.atR a (.inScope c :: k)) cs w) = .next (lone (b.atR a k) cs w) :=
 step_lone_go (by simp [stepG,stepG.exec,Frame.atR])
theorem lK {c:Code} (h:c.wpIn F n P (Exit.noGoto Q) a w):(Code.scope c).wpIn F n P Q a w:=by
 intro b k cs hro hb hr;have h0:(lone (b.atR a (.code (.scope c) :: k)) cs w).fenced P F:=fenced_calm hb hr rfl;obtain ⟨e,a₁,w₁,hq,harr⟩:=h b (.inScope c :: k) cs hro hb hr;cases e with
 | normal=>exact ⟨.normal,a₁,w₁,hq,.head h0 eD (StepsIn.trans harr (.one (fenced_calm hb hr rfl) qM))⟩
 | exit id =>
  have hx:exitTo id (.inScope c :: k)=exitTo id k:=by simp [exitTo]
  exact ⟨.exit id,a₁,w₁,hq,fun k' hk=>.head h0 eD (harr.1 k' (by rw [hx];exact hk)),fun hr' hk=>let ⟨k₁,h1,h2⟩:=harr.2 hr' (by rw [hx];exact hk);⟨k₁,h1,.head h0 eD h2⟩⟩
 | goto l=>exact hq.elim
 | ret=>exact ⟨_,a₁,w₁,hq,.of_steps (.one h0 eD) harr⟩
 | panic ch=>exact ⟨_,a₁,w₁,hq,.of_steps (.one h0 eD) harr⟩
 | outgrown=>exact ⟨_,a₁,w₁,hq,.of_steps (.one h0 eD) harr⟩
end
def GQ (z N p:Nat) (Q:Exit → S → Prop) (Γ:G) (w:World):Exit → Act → World → Prop:=fun e a' w'=>∃ s' Γ',Q e s'∧dl N p Γ' s' a' w'∧cq p Γ w Γ' w'∧iT z Γ' a' w'
def aL (rd:Option Nat) (P:Program) (N p:Nat) (c:Code) (Q:Exit → S → Prop) (s:S):Prop:=∀ z Γ a w,dl N p Γ s a w → iT z Γ a w → Code.wpIn (Fw rd) 0 P c (GQ z N p Q Γ w) a w
abbrev PWP (P:Program) (N p:Nat) (c:Code) (Q:Exit → S → Prop) (s:S):Prop:=aL none P N p c Q s
def aV (rd:Option Nat) (P:Program) (N p:Nat) (c:Code) (Q:Exit → S → Prop) (K:S → Prop):Prop:=∀ s,aL rd P N p c Q s → K s
abbrev ej (P:Program) (N p:Nat) (c:Code) (Q:Exit → S → Prop) (K:S → Prop):Prop:=aV none P N p c Q K
def lQ (K:S → Prop) (Q:Exit → S → Prop):Exit → S → Prop
 | .normal,s=>K s
 | e,s=>Q e s
def inE (id:Nat) (Q:Exit → S → Prop):Exit → S → Prop
 | .exit j,s=>if j=id then Q .normal s else Q (.exit j) s
 | e,s=>Q e s
theorem uI (K:S → Prop) (Q:Exit → S → Prop) (s:S):lQ K Q .normal s=K s:=rfl
theorem yh (K:S → Prop) (Q:Exit → S → Prop) (s:S) (j:Nat):lQ K Q (.exit j) s=Q (.exit j) s:=rfl
theorem Be (K:S → Prop) (Q:Exit → S → Prop) (s:S):lQ K Q .ret s=Q .ret s:=rfl
theorem yi (id:Nat) (Q:Exit → S → Prop) (s:S):inE id Q .normal s=Q .normal s:=rfl
theorem GR (id:Nat) (Q:Exit → S → Prop) (s:S):inE id Q .ret s=Q .ret s:=rfl
theorem D1 (id j:Nat) (Q:Exit → S → Prop) (s:S):inE id Q (.exit j) s=if j=id then Q .normal s else Q (.exit j) s:=rfl
section
variable {rd:Option Nat} {P:Program} {N p:Nat} {Q:Exit → S → Prop} {s:S}
theorem aF {c:Code} {s':S} (hw:bg N p s s') (h:aL rd P N p c Q s'):aL rd P N p c Q s:=fun z Γ a w hA hD=>by
 obtain ⟨Γ1,h1,g1⟩:=hw Γ a w hA;refine wpIn_mono (h z Γ1 a w h1 (hD.grow g1 rfl)) ?_;rintro e a' w' ⟨s2,Γ2,q,hA2,hg,hd⟩;exact ⟨s2,Γ2,q,hA2,g1.trans hg,hd⟩
theorem qN {c:Code} {Q':Exit → S → Prop} (h:aL rd P N p c Q' s) (hq:∀ e s,Q' e s → Q e s):aL rd P N p c Q s:=fun z Γ a w hA hD=>by
 refine wpIn_mono (h z Γ a w hA hD) ?_;rintro e a' w' ⟨s2,Γ2,q,hA2,hg,hd⟩;exact ⟨s2,Γ2,hq _ _ q,hA2,hg,hd⟩
theorem ej.use {c:Code} {K:S → Prop} (h:aV rd P N p c Q K) (hs:aL rd P N p c Q s):K s:=h s hs
theorem bf {x y:Code} (h:∀ K:S → Prop,aV rd P N p y Q K → aL rd P N p x (lQ K Q) s):aL rd P N p (.seq x y) Q s:=fun z Γ a w hA hD=>by
 refine wpIn_seq (wpIn_mono (h (aL rd P N p y Q) (fun _ h=>h) z Γ a w hA hD) ?_);rintro e a' w' ⟨s2,Γ2,q,hA2,hg,hd⟩;cases e with
 | normal =>
  refine wpIn_mono (q z Γ2 a' w' hA2 hd) ?_;rintro e a'' w'' ⟨s3,Γ3,q3,hA3,hg3,hd3⟩;exact ⟨s3,Γ3,q3,hA3,hg.trans hg3,hd3⟩
 | exit j=>exact ⟨s2,Γ2,q,hA2,hg,hd⟩
 | goto l=>exact ⟨s2,Γ2,q,hA2,hg,hd⟩
 | ret=>exact ⟨s2,Γ2,q,hA2,hg,hd⟩
 | panic ch=>exact ⟨s2,Γ2,q,hA2,hg,hd⟩
 | outgrown=>exact ⟨s2,Γ2,q,hA2,hg,hd⟩
theorem cr (h:Q .normal s):aL rd P N p .skip Q s:=fun z Γ a w hA hD=>wpIn_skip ⟨s,Γ,h,hA,cq.refl _ _ _,hD⟩
theorem dD {id:Nat} (h:Q (.exit id) s):aL rd P N p (.exit id) Q s:=fun z Γ a w hA hD=>wpIn_exit ⟨s,Γ,h,hA,cq.refl _ _ _,hD⟩
theorem eh (h:Q .ret s):aL rd P N p .ret Q s:=fun z Γ a w hA hD=>wpIn_ret ⟨s,Γ,h,hA,cq.refl _ _ _,hD⟩
theorem cf {id:Nat} {c:Code} (h:aL rd P N p c (inE id Q) s):aL rd P N p (.block id c) Q s:=fun z Γ a w hA hD=>by
 refine wpIn_block (wpIn_mono (h z Γ a w hA hD) ?_);rintro e a' w' ⟨s2,Γ2,q,hA2,hg,hd⟩;cases e with
 | exit j =>
  simp only [inE] at q;simp only [Exit.inBlock];split
  ·rename_i hj;rw [if_pos hj] at q;exact ⟨s2,Γ2,q,hA2,hg,hd⟩
  ·rename_i hj;rw [if_neg hj] at q;exact ⟨s2,Γ2,q,hA2,hg,hd⟩
 | normal=>exact ⟨s2,Γ2,q,hA2,hg,hd⟩
 | goto l=>exact ⟨s2,Γ2,q,hA2,hg,hd⟩
 | ret=>exact ⟨s2,Γ2,q,hA2,hg,hd⟩
 | panic ch=>exact ⟨s2,Γ2,q,hA2,hg,hd⟩
 | outgrown=>exact ⟨s2,Γ2,q,hA2,hg,hd⟩
def noG (Q:Exit → S → Prop):Exit → S → Prop
 | .goto _,_=>False
 | e,s=>Q e s
theorem yj (Q:Exit → S → Prop) (s:S):noG Q .normal s=Q .normal s:=rfl
theorem GT (Q:Exit → S → Prop) (s:S):noG Q .ret s=Q .ret s:=rfl
theorem D2 (Q:Exit → S → Prop) (s:S) (j:Nat):noG Q (.exit j) s=Q (.exit j) s:=rfl
theorem cO {c:Code} (h:aL rd P N p c (noG Q) s):aL rd P N p (.scope c) Q s:=fun z Γ a w hA hD=>by
 refine lK (wpIn_mono (h z Γ a w hA hD) ?_);rintro e a' w' ⟨s2,Γ2,q,hA2,hg,hd⟩;cases e with
 | goto l=>exact q.elim
 | exit j=>exact ⟨s2,Γ2,q,hA2,hg,hd⟩
 | normal=>exact ⟨s2,Γ2,q,hA2,hg,hd⟩
 | ret=>exact ⟨s2,Γ2,q,hA2,hg,hd⟩
 | panic ch=>exact ⟨s2,Γ2,q,hA2,hg,hd⟩
 | outgrown=>exact ⟨s2,Γ2,q,hA2,hg,hd⟩
theorem bi {id:Nat} {l:List Oper} (h:fY P N p l.toArray l s (fun s'=>Q .normal s')) (hp:gj l=true:=by kernel_rfl):aL rd P N p (.region id l.toArray false) Q s:=fun z Γ a w hA hD=>by
 refine wpIn_region_lit (qi hp ?_);exact an h Γ a w _ hA fun s' Γ' a' w' hk hA' hg hd=>⟨s',Γ',hk,hA',hg,hD.grow hg hd⟩
def D3:Option PV → Prop → Prop → Prop
 | some (.c (.v (.bool t))),X,Y=>(t=true → X)∧(t=false → Y)
 | _,_,_=>False
theorem cg {c:Operand} {x y:Code} (h:D3 (s.ev c) (aL rd P N p x Q s) (aL rd P N p y Q s)):aL rd P N p (.cond c x y) Q s:=fun z Γ a w hA hD=>by
 unfold D3 at h;split at h
 ·rename_i t X Y e;have hc:=(S.ev_ok e hA.inv).1;exact wpIn_cond_split hc (fun ht=>h.1 ht z Γ a w hA hD) (fun ht=>h.2 ht z Γ a w hA hD)
 ·exact h.elim
theorem D4 {c:Code} (I:S → Prop) (μ:S → Nat) (h0:I s) (round:∀ s,I s → aL rd P N p c (lQ (fun s'=>∃ s'',bg N p s' s''∧I s''∧μ s'' < μ s) Q) s):aL rd P N p (.loop c) Q s:=fun z Γ a w hA hD=>by
 refine wpIn_loop_ghost (fun n a' w'=>∃ s' Γ',I s'∧dl N p Γ' s' a' w'∧cq p Γ w Γ' w'∧iT z Γ' a' w'∧μ s'=n) (μ s) ⟨s,Γ,h0,hA,cq.refl _ _ _,hD,rfl⟩ ?_;rintro n a' w' ⟨s',Γ',hI,hA',hg,hd1,rfl⟩;refine wpIn_mono (round s' hI z Γ' a' w' hA' hd1) ?_;rintro e a2 w2 ⟨s2,Γ2,q,hA2,hg2,hd2⟩;cases e with
 | normal =>
  obtain ⟨s3,hw,hI3,hlt⟩:=q;obtain ⟨Γ3,hA3,hg3⟩:=hw Γ2 a2 w2 hA2;exact ⟨μ s3,hlt,s3,Γ3,hI3,hA3,(hg.trans hg2).trans hg3,hd2.grow hg3 rfl,rfl⟩
 | exit j=>exact ⟨s2,Γ2,q,hA2,hg.trans hg2,hd2⟩
 | goto l=>exact ⟨s2,Γ2,q,hA2,hg.trans hg2,hd2⟩
 | ret=>exact ⟨s2,Γ2,q,hA2,hg.trans hg2,hd2⟩
 | panic ch=>exact ⟨s2,Γ2,q,hA2,hg.trans hg2,hd2⟩
 | outgrown=>exact ⟨s2,Γ2,q,hA2,hg.trans hg2,hd2⟩
end
def QL (P:Program) (N p:Nat) (ops:Array Oper) (l:List Oper) (s:S) (K:S → Prop):Prop :=
 ∀ Γ a w,dl N p Γ s a w → wpQuietIn (Fw none) 0 P ops (fun w'=>Ext No w w') (fun a'=>∃ s',K s'∧dl N p Γ s' a' w∧a'.defers=a.defers) l a
theorem fg {P:Program} {ops:Array Oper} {C:World → Prop} {Q Q':Act → Prop} (h:∀ a,Q a → Q' a):∀ {l:List Oper} {a:Act},wpQuietIn (Fw none) 0 P ops C Q l a → wpQuietIn (Fw none) 0 P ops C Q' l a
 | [],a,hq=>h a hq
 | o :: l,a,hq=>by
  unfold wpQuietIn at hq ⊢;refine ⟨hq.1,?_⟩;have hq:=hq.2;split
  ·rename_i hw;rw [if_pos hw] at hq;exact Oper.quietIn_mono (fun a h'=>fg h h') hq
  ·rename_i hw;rw [if_neg hw] at hq;exact fg h hq
def mR (P:Program) (N p:Nat) (ops:Array Oper):List Oper → S → (S → Prop) → Prop
 | [],s,K=>K s
 | o :: rest,s,K=>match gd ops s o.guard,run1 P p s o.op with
  | some true,.val q=>bp N o.dst∧mR P N p ops rest (s.put o.dst q) K
  | some false,_=>bp N o.dst∧mR P N p ops rest (s.put o.dst .undef) K
  | _,_=>QL P N p ops (o :: rest) s K
def qgo (P:Program) (N p:Nat) (ops:Array Oper) (rest:List Oper) (K:S → Prop) (o:Oper) (s:S):Option Bool → Res → Prop
 | some true,.val q=>bp N o.dst∧mR P N p ops rest (s.put o.dst q) K
 | some false,_=>bp N o.dst∧mR P N p ops rest (s.put o.dst .undef) K
 | some true,.stop=>QL P N p ops (o :: rest) s K
 | some true,.heap _ _=>QL P N p ops (o :: rest) s K
 | some true,.app _ _ _=>QL P N p ops (o :: rest) s K
 | none,_=>QL P N p ops (o :: rest) s K
theorem wk (P:Program) (N p:Nat) (ops:Array Oper) (s:S) (K:S → Prop):mR P N p ops [] s K=K s:=by rw [mR]
theorem s8 (P:Program) (N p:Nat) (ops:Array Oper) (o:Oper) (rest:List Oper) (s:S) (K:S → Prop):mR P N p ops (o :: rest) s K=qgo P N p ops rest K o s (gd ops s o.guard) (run1 P p s o.op):=by
 rw [mR];generalize gd ops s o.guard=g;generalize run1 P p s o.op=r;cases g with
 | none=>cases r<;>rfl
 | some b=>cases b<;>cases r<;>rfl
section
variable {P:Program} {N p:Nat} {ops:Array Oper} {rest:List Oper} {o:Oper} {s:S} {K:S → Prop}
theorem IR {q:PV} (hg:gd ops s o.guard=some true) (h:yd P s o.op=some q) (hd:bp N o.dst) (hr:QL P N p ops rest (s.put o.dst q) K):QL P N p ops (o :: rest) s K:=by
 intro Γ a w hA;obtain ⟨y,h1,h2⟩:=uB h hA.inv;unfold wpQuietIn;rw [if_pos (fG hg hA.inv)];refine ⟨fun _ _ _ _=>trivial,y,fun w' hw'=>?_,fg (fun a' ⟨s',k1,k2,k3⟩=>⟨s',k1,k2,k3.trans (bK _ _ _)⟩) (hr Γ _ w ⟨hA.inv.put (ec hd) h1,hA.le⟩)⟩;unfold Oper.quietAtIn;rw [h2 w' (bS.of_ext hw')];exact ⟨rfl,rfl⟩
theorem GU (hg:gd ops s o.guard=some false) (hd:bp N o.dst) (hr:QL P N p ops rest (s.put o.dst .undef) K):QL P N p ops (o :: rest) s K:=by
 intro Γ a w hA;unfold wpQuietIn;rw [if_neg (by rw [fG hg hA.inv];simp)];exact ⟨fun _ _ _ _=>trivial,fg (fun a' ⟨s',k1,k2,k3⟩=>⟨s',k1,k2,k3.trans (bK _ _ _)⟩) (hr Γ _ w ⟨hA.inv.put (ec hd) rfl,hA.le⟩)⟩
end
theorem aD {P:Program} {N p:Nat} {ops:Array Oper}:∀ {l:List Oper} {s:S} {K:S → Prop},mR P N p ops l s K → QL P N p ops l s K
 | [],s,K,h=>by
  intro Γ a w hA;rw [wk] at h;exact ⟨s,h,hA,rfl⟩
 | o :: rest,s,K,h=>by
  rw [s8] at h;cases hg:gd ops s o.guard with
  | none=>rw [hg] at h;unfold qgo at h;exact h
  | some b =>
   cases b with
   | false=>rw [hg] at h;unfold qgo at h;exact GU hg h.1 (aD h.2)
   | true =>
    cases hr:run1 P p s o.op with
    | val q=>rw [hg,hr] at h;unfold qgo at h;exact IR hg (kC hr) h.1 (aD h.2)
    | stop=>rw [hg,hr] at h;unfold qgo at h;exact h
    | heap q os=>rw [hg,hr] at h;unfold qgo at h;exact h
    | app q os kk=>rw [hg,hr] at h;unfold qgo at h;exact h
theorem ep {p:Nat} {Γ:G} {w w':World} (h:Ext No w w'):cq p Γ w Γ w' :=
 ⟨h.no,fun _ h=>h,fun k hk hc=>.inl ⟨k,hk,hc,rfl⟩,fun _ h=>.inl h,fun _ _=>⟨rfl,rfl⟩⟩
theorem cC {rd:Option Nat} {P:Program} {N p:Nat} {Q:Exit → S → Prop} {s:S} {id:Nat} {l:List Oper} (hm:P.follows .mixedOrders=true) (hB:Region.lexB .any l.toArray=true) (h:mR P N p l.toArray l s (fun s'=>Q .normal s')) (hp:gj l=true:=by kernel_rfl):aL rd P N p (.region id l.toArray true) Q s:=fun z Γ a w hA hD=>by
 have hq:=aD h Γ a w hA;refine wpIn_region_any hm (qL (by simpa using hp) ?_);simp only [Region.lexB,Bool.and_eq_true] at hB;refine wpAnyIn_of_quiet (C:=fun w'=>Ext No w w') (Q:=fun a'=>∀ w',Ext No w w' → GQ z N p Q Γ w .normal a' w') rfl (fun _ w' hw' h=>h w' hw') _ _ _ _ (Ext.refl No w).drew ?_;have:=wpAnyQIn_lex (F:=Fw none) (n:=0) (P:=P) (C:=fun w'=>Ext No w w') (md:=.any) hB.1 l 0 (Array.replicate l.toArray.size false) a (by simp) (by simpa using hB.2) (fg (Q':=fun a'=>∀ w',Ext No w w' → GQ z N p Q Γ w .normal a' w') (fun a' ⟨s',k1,k2,k3⟩ w' hw'=>⟨s',Γ,k1,⟨k2.inv.same (bS.of_ext hw'),k2.le⟩,ep hw',hD.grow (ep (p:=p) hw') k3⟩) hq);simpa using this
def j9:List Nat → Nat → Option Nat
 | [],_=>none
 | j :: ks,k=>if j=k then some 0 else (j9 ks k).map (· + 1)
def s9 (ks:List Nat):List Nat → Option (List Nat)
 | []=>some []
 | k :: r=>match j9 ks k,s9 ks r with
  | some j,some js=>some (j :: js)
  | _,_=>none
def ka (v:Bool) (os:List Ob) (ks:List Nat):E → Option E
 | .own k n=>match j9 ks k with
  | some j=>some (.own j n)
  | none=>match v,os[k]? with
   | true,some (.arr _ sz rows)=>if n≤rows.length then some (.sl sz (rows.take n)) else none
   | _,_=>none
 | .ptr k f=>(j9 ks k).map fun j=>.ptr j f
 | .orow k sz i f=>(j9 ks k).map fun j=>.orow j sz i f
 | .fn f ds cap=>(s9 ks cap).map fun js=>.fn f ds js
 | .mp k=>(j9 ks k).map fun j=>.mp j
 | .seg k sz lo n=>match j9 ks k with
  | some j=>some (.seg j sz lo n)
  | none=>match v,os[k]? with
   | true,some (.arr _ sz' rows)=>if sz'=sz∧lo+n≤rows.length then some (.sl sz ((rows.drop lo).take n)) else none
   | _,_=>none
 | .v x=>some (.v x)
 | .sl sz l=>some (.sl sz l)
 | .full sz l=>some (.sl sz l)
 | .row cs=>some (.row cs)
 | .any=>some .any
def ei (v:Bool) (os:List Ob) (ks:List Nat):List E → Option (List E)
 | []=>some []
 | e :: r=>match ka v os ks e,ei v os ks r with
  | some e',some r'=>some (e' :: r')
  | _,_=>none
def wl (v:Bool) (os:List Ob) (ks:List Nat):Option PV → Option PV
 | some (.c e)=>(ka v os ks e).map PV.c
 | some (.agg cs)=>(ei v os ks cs).map PV.agg
 | _=>none
def kG (v:Bool) (os:List Ob) (ks:List Nat):List (Option PV) → Option (List PV)
 | []=>some []
 | q :: r=>match wl v os ks q,kG v os ks r with
  | some q',some r'=>some (q' :: r')
  | _,_=>none
def GV (v:Bool) (os:List Ob) (ks:List Nat):Option Ob → Option Ob
 | some (.box ty cs)=>(ei v os ks cs).map (Ob.box ty)
 | some (.arr el sz rows)=>some (.arr el sz rows)
 | some (.map kk ag es)=>some (.map kk ag es)
 | some (.loop _ _ _)=>none
 | none=>none
def gP (v:Bool) (os:List Ob) (ks:List Nat):List Nat → Option (List Ob)
 | []=>some []
 | k :: r=>match GV v os ks os[k]?,gP v os ks r with
  | some o,some l=>some (o :: l)
  | _,_=>none
def eE (v:Bool) (ks:List Nat) (Γ:G):G:=⟨ks.length,fun j=>Γ.β (ks.getD j 0),fun j=>Γ.cap (ks.getD j 0),fun b=>Γ.I b∨(v=true∧lX Γ b∧∀ k ∈ ks,0 < Γ.cap k → Γ.β k≠b)⟩
theorem fx:∀ {ks:List Nat} {k j:Nat},j9 ks k=some j → j < ks.length∧ks.getD j 0=k
 | [],k,j,h=>by simp [j9] at h
 | i :: ks,k,j,h=>by
  simp only [j9] at h;split at h
  ·rename_i e;cases h;exact ⟨by simp,by simpa using e⟩
  ·obtain ⟨j',h1,rfl⟩:=Option.map_eq_some_iff.1 h;obtain ⟨h2,h3⟩:=fx h1;exact ⟨by simp;omega,by simpa using h3⟩
theorem iU:∀ {ks:List Nat} {k:Nat},j9 ks k=none → k ∉ ks
 | [],k,_=>by simp
 | i :: ks,k,h=>by
  simp only [j9] at h;split at h
  ·cases h
  ·rename_i e;have:=iU (Option.map_eq_none_iff.1 h);simp only [List.mem_cons,not_or];exact ⟨fun h=>e h.symm,this⟩
theorem wm {ks:List Nat}:∀ {r js:List Nat},s9 ks r=some js → js.map (fun j=>ks.getD j 0)=r∧∀ j ∈ js,j < ks.length
 | [],js,h=>by simp [s9] at h;subst h;simp
 | k :: r,js,h=>by
  simp only [s9] at h;split at h
  ·rename_i j js' h1 h2;cases h;obtain ⟨a1,a2⟩:=fx h1;obtain ⟨b1,b2⟩:=wm h2;exact ⟨by simp only [List.map_cons,b1,a2],by simpa [a1] using b2⟩
  ·cases h
section
variable {v:Bool} {ks:List Nat} {Γ:G} {os:List Ob} {w:World}
theorem fZ:dC w Γ.I w (eE v ks Γ).I:=⟨Nat.le_refl _,fun _ _ _=>rfl,fun _ h=>.inl h⟩
theorem uJ (hm:bz Γ os w) (hks:∀ k ∈ ks,k < Γ.n) {e e':E} {y:Value} (h:ka v os ks e=some e') (hr:RE w Γ e y):RE w (eE v ks Γ) e' y:=by
 cases e with
 | own k n =>
  simp only [ka] at h;split at h
  ·rename_i j hj;cases h;obtain ⟨h1,h2⟩:=fx hj;refine ⟨h1,?_⟩;have:=hr.2;unfold iJ at this ⊢;simp only [eE,h2];exact this
  ·rename_i hj;split at h
   ·rename_i el sz rows hk;split at h
    ·rename_i hnr;cases h;obtain ⟨g1,g2,g3,g4⟩:=hm.ob k _ hk;have hnl:(rows.take n).length=n:=by rw [List.length_take];omega
     show RD w _ (.sl sz (rows.take n)) y;rw [dB];rcases hr.2 with ⟨c1,⟨A,rfl⟩,rfl⟩|⟨c1,rfl,c2⟩
     ·exact ⟨A,0,[],by simp,by simp,by simpa using Rd.nil,by simp,by simp [ay]⟩
     ·obtain ⟨cur,b1,b2,b3,b4,b5⟩:=g4 c1;have hb5:=b5.take (n * sz);rw [df g1 hnr,List.take_take,Nat.min_eq_left (Nat.mul_le_mul_right _ hnr)] at hb5;refine ⟨_,Γ.cap k,cur.toList.take (n * sz),by rw [hnl],ac,⟨?_,fun _=>⟨_,0,rfl,.inr ⟨rfl,⟨k,hr.1,c1,rfl⟩,fun k' hk' hc' e=>?_⟩,b1.lt,fun i u hu=>?_⟩⟩,fun r hr=>g1 r (List.mem_of_mem_take hr),hb5.mono fun _ _=>RD.stay fZ _ _⟩
      ·rw [List.length_take,Array.length_toList,b2,hnl];exact Nat.min_eq_left (Nat.mul_le_mul_right _ ac)
      ·have:=hm.sep k' k (hks k' hk') hr.1 hc' c1 e;subst this;exact iU hj hk'
      ·rw [b1.cell,Nat.zero_add,← Array.getElem?_toList];rw [List.getElem?_take] at hu;split at hu
       ·exact hu
       ·cases hu
    ·cases h
   ·cases h
 | ptr k f =>
  obtain ⟨j,hj,rfl⟩:=Option.map_eq_some_iff.1 h;obtain ⟨h1,h2⟩:=fx hj;exact ⟨h1,by rw [hr.2];simp only [eE,h2]⟩
 | orow k sz i f =>
  obtain ⟨j,hj,rfl⟩:=Option.map_eq_some_iff.1 h;obtain ⟨h1,h2⟩:=fx hj;exact ⟨h1,by rw [hr.2];simp only [eE,h2]⟩
 | fn f ds cap =>
  obtain ⟨js,hj,rfl⟩:=Option.map_eq_some_iff.1 h;obtain ⟨h1,h2⟩:=wm hj;obtain ⟨xs,h3,h4,h5⟩:=hr;refine ⟨xs,?_,fun hb=>(h4 hb).mono fun _ _=>RD.stay fZ _ _,h2⟩;rw [h3,← h1];congr 1;rw [List.map_map];rfl
 | mp k =>
  obtain ⟨j,hj,rfl⟩:=Option.map_eq_some_iff.1 h;obtain ⟨h1,h2⟩:=fx hj;exact ⟨h1,by rw [hr.2];simp only [eE,h2]⟩
 | seg k sz lo n =>
  simp only [ka] at h;split at h
  ·rename_i j hj;cases h;obtain ⟨h1,h2⟩:=fx hj;refine ⟨h1,?_⟩;have:=hr.2;unfold qt at this ⊢;simp only [eE,h2];exact this
  ·rename_i hj;split at h
   ·rename_i el sz' rows hk;split at h
    ·rename_i hnr;obtain ⟨rfl,hnr⟩:=hnr;cases h;obtain ⟨g1,g2,g3,g4⟩:=hm.ob k _ hk;obtain ⟨hkn,A,c,rfl,hnc,hA⟩:=hr;have hnl:((rows.drop lo).take n).length=n:=by rw [List.length_take,List.length_drop];omega
     show RD w _ (.sl sz' ((rows.drop lo).take n)) _;rw [dB];rcases Nat.eq_zero_or_pos n with h0|h0
     ·subst h0;exact ⟨A,c,[],by simp,by simp,by simpa using Rd.nil,by simp,by simp [ay]⟩
     ·obtain ⟨c1,c2,rfl⟩:=hA h0;obtain ⟨cur,b1,b2,b3,b4,b5⟩:=g4 c1;have hb5:=(b5.drop (lo * sz')).take (n * sz');rw [fM g1 ac,df (fun x hx=>g1 x (List.mem_of_mem_drop hx)) (by rw [List.length_drop];omega)] at hb5;have hle:(lo+n) * sz'≤rows.length * sz':=Nat.mul_le_mul_right _ hnr;rw [Nat.add_mul] at hle;rw [List.drop_take,List.take_take,Nat.min_eq_left ac] at hb5;refine ⟨_,c,(cur.toList.drop (lo * sz')).take (n * sz'),by rw [hnl],ac,⟨?_,fun _=>⟨_,lo * sz',rfl,.inr ⟨rfl,⟨k,hkn,c1,rfl⟩,fun k' hk' hc' e=>?_⟩,b1.lt,fun i u hu=>?_⟩⟩,fun r hr=>g1 r (List.mem_of_mem_drop (List.mem_of_mem_take hr)),hb5.mono fun _ _=>RD.stay fZ _ _⟩
      ·have hle2:rows.length * sz'≤Γ.cap k * sz':=Nat.mul_le_mul_right _ b3;rw [List.length_take,List.length_drop,Array.length_toList,b2,hnl];omega
      ·have:=hm.sep k' k (hks k' hk') hkn hc' c1 e;subst this;exact iU hj hk'
      ·rw [b1.cell,← Array.getElem?_toList];rw [List.getElem?_take] at hu;split at hu
       ·rw [List.getElem?_drop] at hu;exact hu
       ·cases hu
    ·cases h
   ·cases h
 | v x=>simp only [ka,Option.some.injEq] at h;subst h;exact hr
 | sl sz l=>simp only [ka,Option.some.injEq] at h;subst h;exact RD.stay fZ _ _ hr
 | full sz l=>simp only [ka,Option.some.injEq] at h;subst h;exact RD.stay fZ _ _ hr.1
 | row cs =>
  simp only [ka,Option.some.injEq] at h;subst h;obtain ⟨b,o,xs,h1,h2,h3,h4,h5⟩:=hr;exact ⟨b,o,xs,h1,.inl h2,h3,h4,h5.mono fun _ _=>RD.stay fZ _ _⟩
 | any=>simp only [ka,Option.some.injEq] at h;subst h;exact hr
theorem mS (hm:bz Γ os w) (hks:∀ k ∈ ks,k < Γ.n):∀ {cs cs':List E} {ys:List Value},ei v os ks cs=some cs' → ay (RE w Γ) cs ys → ay (RE w (eE v ks Γ)) cs' ys
 | [],cs',ys,h,hr=>by simp [ei] at h;subst h;rw [ay.nil_l] at hr;subst hr;trivial
 | e :: cs,cs',ys,h,hr=>by
  simp only [ei] at h;split at h
  ·rename_i e' r' h1 h2;cases h;obtain ⟨y,m,rfl,h3,h4⟩:=ay.cons_l.1 hr;exact ⟨uJ hm hks h1 h3,mS hm hks h2 h4⟩
  ·cases h
theorem Ae (hm:bz Γ os w) (hks:∀ k ∈ ks,k < Γ.n) {q:Option PV} {q':PV} {y:Value} (h:wl v os ks q=some q') (hr:∀ r,q=some r → RP w Γ r y):RP w (eE v ks Γ) q' y:=by
 unfold wl at h;split at h
 ·obtain ⟨e',h1,rfl⟩:=Option.map_eq_some_iff.1 h;exact uJ hm hks h1 (hr _ rfl)
 ·obtain ⟨cs',h1,rfl⟩:=Option.map_eq_some_iff.1 h;obtain ⟨xs,h2,h3⟩:=hr _ rfl;exact ⟨xs,h2,mS hm hks h1 h3⟩
 ·cases h
theorem mT (hm:bz Γ os w) (hks:∀ k ∈ ks,k < Γ.n):∀ {l:List (Option PV)} {ys:List Value} {qs:List PV},ay (fun q y=>∀ r,q=some r → RP w Γ r y) l ys → kG v os ks l=some qs → ay (RP w (eE v ks Γ)) qs ys
 | [],ys,qs,hl,h=>by rw [ay.nil_l] at hl;subst hl;simp [kG] at h;subst h;trivial
 | x :: xs,ys,qs,hl,h=>by
  obtain ⟨y,m,rfl,h3,h4⟩:=ay.cons_l.1 hl;simp only [kG] at h;split at h
  ·rename_i q' r' h1 h2;cases h;exact ⟨Ae hm hks h1 h3,mT hm hks h4 h2⟩
  ·cases h
theorem iV:∀ {l:List Nat} {os':List Ob},gP v os ks l=some os' → os'.length=l.length∧∀ (j:Nat) (o:Ob),os'[j]? = some o → ∃ k:Nat,l[j]? = some k∧GV v os ks os[k]? = some o
 | [],os',h=>by simp [gP] at h;subst h;simp
 | k :: l,os',h=>by
  simp only [gP] at h;split at h
  ·rename_i o l' h1 h2;cases h;obtain ⟨i1,i2⟩:=iV h2;refine ⟨by simp [i1],fun j o' ho=>?_⟩;cases j with
   | zero=>simp at ho;subst ho;exact ⟨k,by simp,h1⟩
   | succ j =>
    obtain ⟨k',h3,h4⟩:=i2 j o' (by simpa using ho);exact ⟨k',by simpa using h3,h4⟩
  ·cases h
theorem lr (hm:bz Γ os w) (hks:∀ k ∈ ks,k < Γ.n) (hnd:ks.Nodup) {os':List Ob} (h:gP v os ks ks=some os'):bz (eE v ks Γ) os' w:=by
 obtain ⟨h1,h2⟩:=iV h;have hget:∀ j,j < ks.length → ∃ k,ks[j]? = some k∧k ∈ ks∧ks.getD j 0=k:=fun j hj=>⟨ks[j],List.getElem?_eq_getElem hj,List.getElem_mem _,by simp [List.getD,hj]⟩
 refine ⟨h1.symm,fun j o ho=>?_,fun j j' hj hj' hc hc' he=>?_,fun j hj hc=>?_,fun b hb=>?_,⟨hm.pin.1,fun b hb=>.inl (hm.pin.2 b hb)⟩⟩
 ·obtain ⟨k,h3,h4⟩:=h2 j o ho;have hgk:ks.getD j 0=k:=by simp [List.getD,h3]
  unfold GV at h4;split at h4
  ·rename_i ty cs hk;obtain ⟨cs',h5,rfl⟩:=Option.map_eq_some_iff.1 h4;obtain ⟨j1,xs,j2,j3,j6⟩:=hm.ob k _ hk;exact ⟨by simp only [eE,hgk];exact j1,xs,by simp only [eE,hgk];exact j2,mS hm hks h5 j3,by unfold lW;simp only [eE,hgk];exact j6⟩
  ·rename_i el sz rows hk;cases h4;obtain ⟨j1,j2,j3,j4⟩:=hm.ob k _ hk;refine ⟨j1,j2,by simp only [eE,hgk];exact j3,fun hc=>?_⟩;simp only [eE,hgk] at hc ⊢;obtain ⟨cur,m1,m2,m3,m4,m5⟩:=j4 hc;exact ⟨cur,m1,m2,m3,m4,m5.mono fun _ _=>RD.stay (fZ (v:=v) (ks:=ks)) _ _⟩
  ·rename_i kk ag es hk;cases h4;obtain ⟨j1,ms,ck,j2,j3⟩:=hm.ob k _ hk;exact ⟨by simp only [eE,hgk];exact j1,ms,ck,by simp only [eE,hgk];exact j2,j3.stay (fZ (v:=v) (ks:=ks))⟩
  ·cases h4
  ·cases h4
 ·obtain ⟨k,a1,a2,a3⟩:=hget j hj;obtain ⟨k',b1,b2,b3⟩:=hget j' hj';simp only [eE,a3,b3] at hc hc' he;have:=hm.sep k k' (hks k a2) (hks k' b2) hc hc' he;subst this;exact (List.getElem?_inj (h₀:=hj) (hnd) ).1 (a1.trans b1.symm)
 ·obtain ⟨k,a1,a2,a3⟩:=hget j hj;simp only [eE,a3] at hc ⊢;rintro (h3|⟨_,_,h3⟩)
  ·exact hm.off k (hks k a2) hc h3
  ·exact h3 k a2 hc rfl
 ·rcases hb with hb|⟨_,⟨k,h3,h4,rfl⟩,_⟩
  ·exact hm.lt b hb
  ·exact bV hm h3 h4
end
def E.ren (ρ:Nat → Nat):E → E
 | .own k n=>.own (ρ k) n
 | .ptr k f=>.ptr (ρ k) f
 | .orow k sz i f=>.orow (ρ k) sz i f
 | .fn f ds cap=>.fn f ds (cap.map ρ)
 | .mp k=>.mp (ρ k)
 | .seg k sz lo n=>.seg (ρ k) sz lo n
 | .v x=>.v x
 | .sl sz l=>.sl sz l
 | .full sz l=>.full sz l
 | .row cs=>.row cs
 | .any=>.any
def PV.ren (ρ:Nat → Nat):PV → PV
 | .c e=>.c (e.ren ρ)
 | .agg cs=>.agg (cs.map (E.ren ρ))
 | .undef=>.undef
 | .two x y=>.two (x.ren ρ) (y.ren ρ)
 | .three x y z=>.three (x.ren ρ) (y.ren ρ) (z.ren ρ)
def GW (ρ:Nat → Nat):List (Nat × PV) → List (Nat × PV)
 | []=>[]
 | (i,q) :: t=>(i,q.ren ρ) :: GW ρ t
theorem wn (ρ:Nat → Nat) (i:Nat):∀ t:List (Nat × PV),cM (GW ρ t) i=(cM t i).map (PV.ren ρ)
 | []=>rfl
 | (d,q) :: t=>by
  simp only [GW,cM];split
  ·rfl
  ·exact wn ρ i t
def Ob.ren (ρ:Nat → Nat):Ob → Ob
 | .box ty cs=>.box ty (cs.map (E.ren ρ))
 | .arr el sz rows=>.arr el sz rows
 | .map kk ag es=>.map kk ag es
 | .loop l L t=>.loop l L (GW ρ t)
def ta:D → Bool
 | .v _=>true
 | .sl _ _=>false
def tc:E → Bool
 | .v _=>true
 | .own _ _=>true
 | .ptr _ _=>true
 | .orow _ _ _ _=>true
 | .fn _ ds _=>ds.all ta
 | .mp _=>true
 | .seg _ _ _ _=>true
 | .any=>true
 | _=>false
def gQ:PV → Bool
 | .c e=>tc e
 | .agg cs=>cs.all tc
 | .undef=>true
 | .two x y=>gQ x && gQ y
 | .three x y z=>gQ x && gQ y && gQ z
def qO:Ob → Bool
 | .box _ cs=>cs.all tc
 | .arr _ _ rows=>rows.all fun r=>r.all ta
 | .map _ _ es=>es.all fun e=>e.2.all ta
 | .loop _ _ _=>false
theorem Af {w:World} {I I':Nat → Prop} {d:D} {y:Value} (h:ta d=true) (hr:RD w I d y):RD w I' d y:=by
 cases d with
 | v x=>rw [RD] at hr ⊢;exact hr
 | sl sz l=>cases h
theorem qP {w:World} {I I':Nat → Prop}:∀ {ds:List D} {ys:List Value},ds.all ta=true → ay (RD w I) ds ys → ay (RD w I') ds ys
 | [],ys,_,h=>by rw [ay.nil_l] at h ⊢;exact h
 | d :: ds,y :: ys,hf,h=>by
  simp only [List.all_cons,Bool.and_eq_true] at hf;exact ⟨Af hf.1 h.1,qP hf.2 h.2⟩
 | _ :: _,[],_,h=>h.elim
def l8 (Γ Γ':G) (ρ:Nat → Nat) (k:Nat):Prop:=ρ k < Γ'.n∧Γ'.β (ρ k)=Γ.β k∧Γ'.cap (ρ k)=Γ.cap k
theorem RE.ren {w:World} {Γ Γ':G} {ρ:Nat → Nat} {e:E} {y:Value} (h:RE w Γ e y) (hs:tc e=true∨∀ b,Γ.I b → Γ'.I b) (hk:∀ k ∈ e.keys,l8 Γ Γ' ρ k):RE w Γ' (e.ren ρ) y:=by
 have hst:(∀ b,Γ.I b → Γ'.I b) → dC w Γ.I w Γ'.I:=fun hs=>⟨Nat.le_refl _,fun _ _ _=>rfl,hs⟩
 cases e with
 | v x=>exact h
 | sl sz l=>rcases hs with hs|hs;cases hs;exact RD.stay (hst hs) _ _ h
 | full sz l=>rcases hs with hs|hs;cases hs;exact ⟨RD.stay (hst hs) _ _ h.1,h.2⟩
 | own k n =>
  obtain ⟨h1,h2,h3⟩:=hk k (by simp [E.keys]);refine ⟨h1,?_⟩;have:=h.2;unfold iJ at *
  rwa [h2,h3]
 | ptr k f =>
  obtain ⟨h1,h2,h3⟩:=hk k (by simp [E.keys]);exact ⟨h1,by rw [h2];exact h.2⟩
 | row cs =>
  rcases hs with hs|hs
  ·cases hs
  ·obtain ⟨b,o,xs,h1,h2,h3,h4,h5⟩:=h;exact ⟨b,o,xs,h1,hs b h2,h3,h4,h5.mono fun _ _=>RD.stay (hst hs) _ _⟩
 | orow k sz i f =>
  obtain ⟨h1,h2,h3⟩:=hk k (by simp [E.keys]);exact ⟨h1,by rw [h2];exact h.2⟩
 | fn f ds cap =>
  obtain ⟨xs,h1,h2,h3⟩:=h;refine ⟨xs,?_,fun hb=>?_,fun k hk'=>?_⟩
  ·rw [h1,List.map_map];congr 1;exact List.map_congr_left fun k hk'=>by unfold eK;simp only [Function.comp];rw [(hk k hk').2.1]
  ·rcases hs with hs|hs
   ·exact qP hs (h2 hb)
   ·exact (h2 hb).mono fun _ _=>RD.stay (hst hs) _ _
  ·obtain ⟨k',h4,rfl⟩:=List.mem_map.1 hk';exact (hk k' h4).1
 | mp k =>
  obtain ⟨h1,h2,h3⟩:=hk k (by simp [E.keys]);exact ⟨h1,by rw [h2];exact h.2⟩
 | seg k sz lo n =>
  obtain ⟨h1,h2,h3⟩:=hk k (by simp [E.keys]);refine ⟨h1,?_⟩;have:=h.2;unfold qt at *
  rwa [h2,h3]
 | any=>exact h
theorem D5 {w:World} {Γ Γ':G} {ρ:Nat → Nat} {cs:List E} {ys:List Value} (h:ay (RE w Γ) cs ys) (hs:cs.all tc=true∨∀ b,Γ.I b → Γ'.I b) (hk:∀ k ∈ cs.flatMap E.keys,l8 Γ Γ' ρ k):ay (RE w Γ') (cs.map (E.ren ρ)) ys :=
 ay.map_l.2 (h.mono_mem fun e y he hr=>hr.ren (by rcases hs with hs|hs;exact .inl (List.all_eq_true.1 hs e he);exact .inr hs) fun k hk'=>hk k (List.mem_flatMap.2 ⟨e,he,hk'⟩))
theorem RP.ren {w:World} {Γ Γ':G} {ρ:Nat → Nat}:∀ {q:PV} {y:Value},RP w Γ q y → (gQ q=true∨∀ b,Γ.I b → Γ'.I b) → (∀ k ∈ q.keys,l8 Γ Γ' ρ k) → RP w Γ' (q.ren ρ) y
 | .c e,y,h,hs,hk=>RE.ren h hs hk
 | .agg cs,y,⟨xs,h1,h2⟩,hs,hk=>⟨xs,h1,D5 h2 hs hk⟩
 | .undef,y,h,_,_=>h
 | .two x z,y,⟨u,v,h1,h2,h3⟩,hs,hk =>
  ⟨u,v,h1,RP.ren h2 (by rcases hs with hs|hs;simp only [gQ,Bool.and_eq_true] at hs;exact .inl hs.1;exact .inr hs) fun k hk'=>hk k (by simp [PV.keys,hk']),
   RP.ren h3 (by rcases hs with hs|hs;simp only [gQ,Bool.and_eq_true] at hs;exact .inl hs.2;exact .inr hs) fun k hk'=>hk k (by simp [PV.keys,hk'])⟩
 | .three x z t,y,⟨u,v,r,h1,h2,h3,h4⟩,hs,hk =>
  ⟨u,v,r,h1,RP.ren h2 (by rcases hs with hs|hs;simp only [gQ,Bool.and_eq_true] at hs;exact .inl hs.1.1;exact .inr hs) fun k hk'=>hk k (by simp [PV.keys,hk']),
   RP.ren h3 (by rcases hs with hs|hs;simp only [gQ,Bool.and_eq_true] at hs;exact .inl hs.1.2;exact .inr hs) fun k hk'=>hk k (by simp [PV.keys,hk']),
   RP.ren h4 (by rcases hs with hs|hs;simp only [gQ,Bool.and_eq_true] at hs;exact .inl hs.2;exact .inr hs) fun k hk'=>hk k (by simp [PV.keys,hk'])⟩
theorem RO.ren {w:World} {Γ Γ':G} {ρ:Nat → Nat} {k:Nat} {o:Ob} (h:RO w Γ k o) (hs:qO o=true∨∀ b,Γ.I b → Γ'.I b) (ha:∀ j,j < Γ.n → l8 Γ Γ' ρ j) (hk:k < Γ.n):RO w Γ' (ρ k) (o.ren ρ):=by
 obtain ⟨_,h2,h3⟩:=ha k hk;cases o with
 | box ty cs =>
  obtain ⟨h0,xs,h4,h5,h6⟩:=h;exact ⟨by rw [h3];exact h0,xs,by rw [h2];exact h4,D5 h5 hs (fun j hj=>ha j (jV h5 j hj)),by unfold lW;rw [h3];exact h6⟩
 | arr el sz rows =>
  obtain ⟨h4,h5,h6,h7⟩:=h;refine ⟨h4,h5,by rw [h3];exact h6,fun hc=>?_⟩;rw [h3] at hc ⊢;obtain ⟨cur,g1,g2,g3,g4,g5⟩:=h7 hc;refine ⟨cur,by rw [h2];exact g1,g2,g3,g4,?_⟩;rcases hs with hs|hs
  ·refine qP ?_ g5;simp only [qO,List.all_eq_true] at hs;rw [List.all_eq_true];intro d hd;obtain ⟨r,hr,hd'⟩:=List.mem_flatten.1 hd;exact hs r hr d hd'
  ·exact g5.mono fun _ _=>RD.stay ⟨Nat.le_refl _,fun _ _ _=>rfl,hs⟩ _ _
 | map kk ag es =>
  obtain ⟨h0,ms,ck,h4,h5⟩:=h;refine ⟨by rw [h3];exact h0,ms,ck,by rw [h2];exact h4,?_⟩;rcases hs with hs|hs
  ·refine h5.stay' fun e he d hd y hr=>Af ?_ hr
   simp only [qO,List.all_eq_true] at hs;exact hs e he d hd
  ·exact h5.stay ⟨Nat.le_refl _,fun _ _ _=>rfl,hs⟩
 | loop l L t =>
  obtain ⟨h0,h1,tm,h4,h5,h6⟩:=h;refine ⟨by rw [h3];exact h0,by rw [h2];exact h1,tm,h4,h5,fun i q hq=>?_⟩;rw [wn] at hq;obtain ⟨q0,hq0,rfl⟩:=Option.map_eq_some_iff.1 hq;obtain ⟨i1,i2⟩:=h6 i q0 hq0;refine ⟨i1,i2.ren ?_ fun k hk=>ha k (i2.lt k hk)⟩;rcases hs with hs|hs
  ·cases hs
  ·exact .inr hs
def rho (ks:List Nat) (n:Nat) (j:Nat):Nat:=if j < ks.length then ks.getD j 0 else n+(j - ks.length)
def dE (ρ:Nat → Nat):List Ob → List Nat → List Ob → List Ob
 | os,[],r=>os++r.map (Ob.ren ρ)
 | os,k :: ks,o :: r=>dE ρ (os.set k (o.ren ρ)) ks r
 | os,_ :: _,[]=>os
theorem gR (ρ:Nat → Nat):∀ (ks:List Nat) (os r:List Ob),ks.length≤r.length → (dE ρ os ks r).length=os.length+(r.length - ks.length)
 | [],os,r,_=>by simp [dE]
 | k :: ks,os,[],h=>by simp at h
 | k :: ks,os,o :: r,h=>by
  simp only [dE];rw [gR ρ ks _ r (by simpa using h)];simp
theorem kH (ρ:Nat → Nat):∀ (ks:List Nat) (os r:List Ob) (i:Nat) (o:Ob),ks.Nodup → (∀ k ∈ ks,k < os.length) → ks.length≤r.length → (dE ρ os ks r)[i]? = some o →
  (∃ j:Nat,ks[j]? = some i∧∃ o',r[j]? = some o'∧o=o'.ren ρ)∨(i < os.length∧i ∉ ks∧os[i]? = some o)∨(os.length≤i∧∃ o',r[ks.length+(i - os.length)]? = some o'∧o=o'.ren ρ)
 | [],os,r,i,o,_,_,_,h=>by
  simp only [dE] at h;rcases Nat.lt_or_ge i os.length with hi|hi
  ·rw [List.getElem?_append_left hi] at h;exact .inr (.inl ⟨hi,by simp,h⟩)
  ·rw [List.getElem?_append_right hi,List.getElem?_map] at h;obtain ⟨o',h1,h2⟩:=Option.map_eq_some_iff.1 h;exact .inr (.inr ⟨hi,o',by simpa using h1,h2.symm⟩)
 | k :: ks,os,[],i,o,_,_,hl,_=>by simp at hl
 | k :: ks,os,q :: r,i,o,hnd,hk,hl,h=>by
  simp only [dE] at h;have hnd':=List.nodup_cons.1 hnd;rcases kH ρ ks (os.set k (q.ren ρ)) r i o hnd'.2 (fun k' hk'=>by rw [List.length_set];exact hk k' (by simp [hk'])) (by simpa using hl) h with ⟨j,h1,o',h2,h3⟩|⟨h1,h2,h3⟩|⟨h1,o',h2,h3⟩
  ·exact .inl ⟨j+1,by simpa using h1,o',by simpa using h2,h3⟩
  ·rw [List.length_set] at h1;by_cases e:k=i
   ·subst e;rw [List.getElem?_set_self h1] at h3;cases h3;exact .inl ⟨0,by simp,q,by simp,rfl⟩
   ·rw [List.getElem?_set_ne e] at h3;exact .inr (.inl ⟨h1,by simp only [List.mem_cons,not_or];exact ⟨fun h=>e h.symm,h2⟩,h3⟩)
  ·rw [List.length_set] at h1 h2;refine .inr (.inr ⟨h1,o',?_,h3⟩);rw [List.length_cons,show ks.length+1+(i - os.length)=(ks.length+(i - os.length))+1 by omega];simpa using h2
def td (ks:List Nat) (Γ Γ':G) (z:Nat):G :=
 ⟨Γ.n+(Γ'.n - ks.length),fun i=>if i < Γ.n then Γ.β i else Γ'.β (ks.length+(i - Γ.n)),fun i=>if i < Γ.n then Γ.cap i else Γ'.cap (ks.length+(i - Γ.n)),fun b=>Γ.I b∨(Γ'.I b∧z≤b)⟩
theorem IS {N p:Nat} {v:Bool} {ks:List Nat} {Γ Γ':G} {s:S} {a:Act} {w w':World} {os':List Ob} {r:PV} {y:Value} (hA:dl N p Γ s a w) (hks:∀ k ∈ ks,k < Γ.n) (hnd:ks.Nodup) (hlen:ks.length≤os'.length)
  (hm:bz Γ' os' w') (hg:cq ks.length (eE v ks Γ) w Γ' w') (hr:RP w' Γ' r y) (hfl:v=true → gQ r=true∧os'.all qO=true) :
  dl N p (td ks Γ Γ' w.heap.size) ⟨s.t,dE (rho ks s.o.length) s.o ks os'⟩ a w'∧RP w' (td ks Γ Γ' w.heap.size) (r.ren (rho ks s.o.length)) y∧cq p Γ w (td ks Γ Γ' w.heap.size) w':=by
 have hn:=hA.inv.m.n;obtain ⟨Γb,hΓb⟩:∃ Γb,Γb=td ks Γ Γ' w.heap.size:=⟨_,rfl⟩
 rw [← hΓb];have q1:Γb.n=Γ.n+(Γ'.n - ks.length):=by rw [hΓb];rfl
 have q2:∀ i,i < Γ.n → Γb.β i=Γ.β i∧Γb.cap i=Γ.cap i:=fun i hi=>by rw [hΓb];simp [td,hi]
 have q3:∀ i,Γ.n≤i → Γb.β i=Γ'.β (ks.length+(i - Γ.n))∧Γb.cap i=Γ'.cap (ks.length+(i - Γ.n)):=fun i hi=>by rw [hΓb];simp [td,Nat.not_lt.2 hi]
 have q4:∀ b,Γb.I b ↔ (Γ.I b∨(Γ'.I b∧w.heap.size≤b)):=fun b=>by rw [hΓb];exact Iff.rfl
 have hgetk:∀ j,j < ks.length → ks.getD j 0 ∈ ks:=fun j hj=>by simp only [List.getD,List.getElem?_eq_getElem hj,Option.getD_some];exact List.getElem_mem _
 have hkeep:∀ j,j < ks.length → Γ'.β j=Γ.β (ks.getD j 0)∧Γ'.cap j=Γ.cap (ks.getD j 0):=fun j hj=>hg.keep j hj
 have hmc:∀ b,lX (eE v ks Γ) b → ∃ k ∈ ks,0 < Γ.cap k∧Γ.β k=b:=by
  rintro b ⟨j,h1,h2,h3⟩;exact ⟨ks.getD j 0,hgetk j h1,h2,h3⟩
 have hm':∀ b,lX (eE v ks Γ) b → lX Γ b:=fun b hb=>by
  obtain ⟨k,h1,h2,h3⟩:=hmc b hb;exact ⟨k,hks k h1,h2,h3⟩
 have hnew:∀ j,ks.length≤j → j < Γ'.n → 0 < Γ'.cap j → w.heap.size≤Γ'.β j:=by
  intro j hj hj' hc;rcases hg.new j hj' hc with h1|h1
  ·exfalso;obtain ⟨i,h2,h3,h4⟩:=h1;have h2':i < ks.length:=h2;have h5:=hg.keep i h2';have:=hm.sep i j (by rw [hm.n];omega) hj' (by rw [h5.2];exact h3) hc (by rw [h5.1];exact h4);omega
  ·exact h1
 have hs:dC w Γ.I w' Γb.I:=⟨hg.ext.size,fun b hb hl=>hg.ext.block b hl fun hM=>by obtain ⟨k,h1,h2,h3⟩:=hmc b hM;exact hA.inv.m.off k (hks k h1) h2 (h3 ▸ hb),fun b hb=>(q4 b).2 (.inl hb)⟩
 have hag:∀ i,i < Γ.n → fV Γ Γb i:=fun i hi=>⟨by rw [q1];omega,(q2 i hi).1,(q2 i hi).2⟩
 have hagr:∀ j,j < Γ'.n → l8 Γ' Γb (rho ks s.o.length) j:=by
  intro j hj;unfold l8 rho;by_cases hjk:j < ks.length
  ·rw [if_pos hjk];have hk:=hks _ (hgetk j hjk);exact ⟨by rw [q1];omega,by rw [(q2 _ hk).1,(hkeep j hjk).1],by rw [(q2 _ hk).2,(hkeep j hjk).2]⟩
  ·rw [if_neg hjk];have e:Γ.n≤s.o.length+(j - ks.length):=ac;have e2:ks.length+(s.o.length+(j - ks.length) - Γ.n)=j:=ac;exact ⟨by rw [q1];omega,by rw [(q3 _ e).1,e2],by rw [(q3 _ e).2,e2]⟩
 have hIs:v=false → ∀ b,Γ'.I b → Γb.I b:=by
  intro hv b hb;rw [q4];rcases hg.imm b hb with h1|h1|h1
  ·rcases h1 with h1|⟨h1,_⟩
   ·exact .inl h1
   ·rw [hv] at h1;cases h1
  ·exfalso;obtain ⟨i,h2,h3,h4⟩:=h1;have h5:=hg.keep i h2;refine hm.off i (by rw [hm.n];have h2':i < ks.length:=h2;omega) (by rw [h5.2];exact h3) ?_;rw [h5.1,h4];exact hb
  ·exact .inr ⟨hb,h1⟩
 have hfl':∀ {b:Bool},(v=true → b=true) → (b=true∨∀ b',Γ'.I b' → Γb.I b'):=fun h=>by
  cases v with
  | true=>exact .inl (h rfl)
  | false=>exact .inr (hIs rfl)
 have hlt:∀ b,Γb.I b → b < w'.heap.size:=fun b hb=>by
  rcases (q4 b).1 hb with h1|⟨h1,_⟩
  ·exact Nat.lt_of_lt_of_le (hA.inv.m.lt b h1) hg.ext.size
  ·exact hm.lt b h1
 refine ⟨⟨⟨hA.inv.size,hA.inv.defers,fun i q hq=>⟨(hA.inv.t i q hq).1,(hA.inv.t i q hq).2.stay hs fun k hk=>hag k ((hA.inv.t i q hq).2.lt k hk)⟩,⟨?_,fun i o ho=>?_,fun i i' hi hi' hc hc' he=>?_,fun i hi hc=>?_,hlt,⟨hm.pin.1,fun b hb=>(q4 b).2 (.inl (hA.inv.m.pin.2 b hb))⟩⟩⟩,by rw [q1];have:=hA.le;omega⟩,?_,⟨hg.ext.mono hm',fun b hb=>(q4 b).2 (.inl hb),fun i hi hc=>?_,fun b hb=>?_,fun i hi=>q2 i (by have:=hA.le;omega)⟩⟩
 ·rw [q1,gR _ _ _ _ hlen,← hn,hm.n]
 ·rcases kH _ ks s.o os' i o hnd (fun k hk=>by rw [← hn];exact hks k hk) hlen ho with ⟨j,h1,o',h2,rfl⟩|⟨h1,h2,h3⟩|⟨h1,o',h2,rfl⟩
  ·have hj:j < ks.length:=(List.getElem?_eq_some_iff.1 h1).1;have hj':j < Γ'.n:=by rw [hm.n];exact (List.getElem?_eq_some_iff.1 h2).1
   have:=(hm.ob j o' h2).ren (ρ:=rho ks s.o.length) (Γ':=Γb) (hfl' fun hv=>List.all_eq_true.1 (hfl hv).2 o' (List.mem_of_getElem? h2)) hagr hj';have e:rho ks s.o.length j=i:=by unfold rho;rw [if_pos hj];simp [List.getD,h1]
   rwa [e] at this
  ·have hi:i < Γ.n:=by rw [hn];exact h1
   refine (hA.inv.m.ob i o h3).stay hs hag hi fun hc=>hg.ext.block _ (bV hA.inv.m hi hc) fun hM=>?_
   obtain ⟨k,h4,h5,h6⟩:=hmc _ hM;have:=hA.inv.m.sep k i (hks k h4) hi h5 hc h6;subst this;exact h2 h4
  ·have hj':ks.length+(i - s.o.length) < Γ'.n:=by rw [hm.n];exact (List.getElem?_eq_some_iff.1 h2).1
   have:=(hm.ob _ o' h2).ren (ρ:=rho ks s.o.length) (Γ':=Γb) (hfl' fun hv=>List.all_eq_true.1 (hfl hv).2 o' (List.mem_of_getElem? h2)) hagr hj';have e:rho ks s.o.length (ks.length+(i - s.o.length))=i:=by unfold rho;rw [if_neg ac];omega
   rwa [e] at this
 ·rw [q1] at hi hi';rcases Nat.lt_or_ge i Γ.n with h1|h1<;>rcases Nat.lt_or_ge i' Γ.n with h2|h2
  ·rw [(q2 i h1).2] at hc;rw [(q2 i' h2).2] at hc';rw [(q2 i h1).1,(q2 i' h2).1] at he;exact hA.inv.m.sep i i' h1 h2 hc hc' he
  ·rw [(q2 i h1).2] at hc;rw [(q3 i' h2).2] at hc';rw [(q2 i h1).1,(q3 i' h2).1] at he;have a1:=bV hA.inv.m h1 hc;have a2:=hnew _ ac ac hc';omega
  ·rw [(q3 i h1).2] at hc;rw [(q2 i' h2).2] at hc';rw [(q3 i h1).1,(q2 i' h2).1] at he;have a1:=bV hA.inv.m h2 hc';have a2:=hnew _ ac ac hc;omega
  ·rw [(q3 i h1).2] at hc;rw [(q3 i' h2).2] at hc';rw [(q3 i h1).1,(q3 i' h2).1] at he;have:=hm.sep _ _ ac ac hc hc' he;omega
 ·rw [q1] at hi;rw [q4];rcases Nat.lt_or_ge i Γ.n with h1|h1
  ·rw [(q2 i h1).2] at hc;rw [(q2 i h1).1];rintro (h2|⟨_,h2⟩)
   ·exact hA.inv.m.off i h1 hc h2
   ·have:=bV hA.inv.m h1 hc;omega
  ·rw [(q3 i h1).2] at hc;rw [(q3 i h1).1];have a2:=hnew _ ac ac hc;rintro (h2|⟨h2,_⟩)
   ·have:=hA.inv.m.lt _ h2;omega
   ·exact hm.off _ ac hc h2
 ·exact hr.ren (hfl' fun hv=>(hfl hv).1) fun k hk=>hagr k (hr.lt k hk)
 ·rw [q1] at hi;rcases Nat.lt_or_ge i Γ.n with h1|h1
  ·rw [(q2 i h1).2] at hc;rw [(q2 i h1).1];exact .inl ⟨i,h1,hc,rfl⟩
  ·rw [(q3 i h1).2] at hc;rw [(q3 i h1).1];exact .inr (hnew _ ac ac hc)
 ·rcases (q4 b).1 hb with h1|⟨_,h1⟩
  ·exact .inl h1
  ·exact .inr (.inr h1)
end Go.Proofs.YtmbbkfffcflfcaaGreatDoor
