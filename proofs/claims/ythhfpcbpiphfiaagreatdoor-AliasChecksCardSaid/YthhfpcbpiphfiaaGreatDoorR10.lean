/- What the program computes, and the plain laws of it, part 10. -/
import Derived.Test.YthhfpcbpiphfiaaGreatDoorR9
namespace Go.Proofs.YthhfpcbpiphfiaaGreatDoor
open Go.RowKit
open IntWalk renaming iteOmega → iO, toNatUp → tN
set_option linter.unusedVariables false
set_option linter.unusedSimpArgs false
def OffM (Γ:G) (D:Nat):Prop:=¬ Γ.I D∧∀ k,k < Γ.n → 0 < Γ.cap k → Γ.β k≠D
def DefOk (z:Nat) (Γ:G) (a:Act) (w:World):Prop:=z≤w.heap.size∧a.defers.Nodup∧∀ d ∈ a.defers,∃ D,d={ target:=.collected D,args := #[] }∧w.heap[D]? = some (.deferred (some []))∧OffM Γ D∧z≤D
theorem DefOk.nil {z:Nat} {Γ:G} {t:Array Value} {w:World} (h:z≤w.heap.size):DefOk z Γ { tmps:=t,defers:=[] } w:=⟨h,List.nodup_nil,fun d hd=>by cases hd⟩
theorem DefOk.grow {z p:Nat} {Γ Γ':G} {a a':Act} {w w':World} (h:DefOk z Γ a w) (hg:Grow p Γ w Γ' w') (ha:a'.defers=a.defers):DefOk z Γ' a' w':=by
 unfold DefOk
 rw [ha]
 refine ⟨Nat.le_trans h.1 hg.ext.size,h.2.1,fun d hd=>?_⟩
 obtain ⟨D,h1,h2,⟨h3,h4⟩,hz⟩:=h.2.2 d hd
 have hl:D < w.heap.size:=(Array.getElem?_eq_some_iff.1 h2).1
 have hm:¬ Mine Γ D:=fun ⟨k,a1,a2,a3⟩=>h4 k a1 a2 a3
 refine ⟨D,h1,(hg.ext.block D hl hm).trans h2,⟨fun hI=>?_,fun k hk hc e=>?_⟩,hz⟩
 ·rcases hg.imm D hI with x|x|x
  ·exact h3 x
  ·exact hm x
  ·omega
 ·rcases hg.new k hk hc with x|x
  ·exact hm (e ▸ x)
  ·omega
def plainO:Op → Bool
 | .defer _=>false
 | _=>true
def plains (l:List Oper):Bool:=l.all fun o=>plainO o.op
theorem sem_plain {rd:Option Nat} {ρ:Operand → Value} {o:Oper} (h:plainO o.op=true):o.semAt rd ρ=execOp ρ o:=Oper.semAt_eq rd ρ o (fun c hc=>by rw [hc] at h;cases h)
theorem wpIn_rd {rd:Option Nat} {P:Program} {o:Oper} {a:Act} {w:World} {K:Act → World → Prop} {Q:Exit → Act → World → Prop} (hp:plainO o.op=true) (h:o.wpIn (Fw none) 0 P a w K Q):o.wpIn (Fw rd) 0 P a w K Q:=by
 refine ⟨fun _ _=>trivial,?_⟩
 have h2:=h.2
 rw [sem_plain hp] at h2 ⊢
 generalize (execOp a.eval o).run P w=r at h2 ⊢
 cases r with
 | ok x w'=>cases x<;>exact h2
 | halt x w'=>cases x<;>exact h2
theorem list_rd {rd:Option Nat} {P:Program} {ops:Array Oper} {Q:Exit → Act → World → Prop}:∀ {l:List Oper} {a:Act} {w:World},plains l=true → wpListIn (Fw none) 0 P ops Q l a w → wpListIn (Fw rd) 0 P ops Q l a w
 | [],_,_,_,h=>h
 | o :: l,a,w,hp,h=>by
  simp only [plains,List.all_cons,Bool.and_eq_true] at hp
  unfold wpListIn at h ⊢
  split
  ·rename_i hw
   rw [if_pos hw] at h
   exact wpIn_rd hp.1 (Oper.wpIn_mono (fun a w h=>list_rd hp.2 h) h)
  ·rename_i hw
   rw [if_neg hw] at h
   exact ⟨fun _ _=>trivial,list_rd hp.2 h.2⟩
theorem any_rd {rd:Option Nat} {P:Program} {ops:Array Oper} {md:Region.Mode} {Q:Exit → Act → World → Prop} (hp:plains ops.toList=true):∀ {fuel:Nat} {listed:Array Bool} {a:Act} {w:World},wpAnyIn (Fw none) 0 P md ops Q fuel listed a w → wpAnyIn (Fw rd) 0 P md ops Q fuel listed a w
 | 0,_,_,_,h=>h
 | fuel+1,listed,a,w,h=>⟨h.1,fun i hi=>by
  have h1:=wpOpIn_mono (fun a w h=>any_rd (rd:=rd) (fuel:=fuel) hp h) (h.2 i hi)
  unfold wpOpIn at h1 ⊢
  split
  ·rename_i ho;rw [ho] at h1;exact h1
  ·rename_i o ho
   rw [ho] at h1
   simp only at h1
   have hpo:plainO o.op=true:=by
    have:=List.all_eq_true.1 hp o (by
     have h3:ops.toList[i]? = some o:=by rw [Array.getElem?_toList];exact ho
     exact List.mem_of_getElem? h3)
    exact this
   split
   ·rename_i hw;rw [if_pos hw] at h1;exact wpIn_rd hpo h1
   ·rename_i hw;rw [if_neg hw] at h1;exact ⟨fun _ _=>trivial,h1.2⟩⟩
section
variable {F:Fence} {n:Nat} {P:Program} {Q:Exit → Act → World → Prop} {a:Act} {w:World}
theorem stepR_scope' {b:Frame} {k:List Item} {cs:List Frame} {c:Code}:step P (lone (b.atR a (.code (.scope c) :: k)) cs w) = .next (lone (b.atR a (.code c :: .inScope c :: k)) cs w) :=
 step_lone_go (by simp [stepG,stepG.exec,Frame.atR])
theorem stepR_inScope' {b:Frame} {k:List Item} {cs:List Frame} {c:Code}:step P (lone (b.atR a (.inScope c :: k)) cs w) = .next (lone (b.atR a k) cs w) :=
 step_lone_go (by simp [stepG,stepG.exec,Frame.atR])
theorem wpIn_scope_straight {c:Code} (h:c.wpIn F n P (Exit.noGoto Q) a w):(Code.scope c).wpIn F n P Q a w:=by
 intro b k cs hro hb hr
 have h0:(lone (b.atR a (.code (.scope c) :: k)) cs w).fenced P F:=fenced_calm hb hr rfl
 obtain ⟨e,a₁,w₁,hq,harr⟩:=h b (.inScope c :: k) cs hro hb hr
 cases e with
 | normal=>exact ⟨.normal,a₁,w₁,hq,.head h0 stepR_scope' (StepsIn.trans harr (.one (fenced_calm hb hr rfl) stepR_inScope'))⟩
 | exit id =>
  have hx:exitTo id (.inScope c :: k)=exitTo id k:=by simp [exitTo]
  exact ⟨.exit id,a₁,w₁,hq,fun k' hk=>.head h0 stepR_scope' (harr.1 k' (by rw [hx];exact hk)),fun hr' hk=>let ⟨k₁,h1,h2⟩:=harr.2 hr' (by rw [hx];exact hk);⟨k₁,h1,.head h0 stepR_scope' h2⟩⟩
 | goto l=>exact hq.elim
 | ret=>exact ⟨_,a₁,w₁,hq,.of_steps (.one h0 stepR_scope') harr⟩
 | panic ch=>exact ⟨_,a₁,w₁,hq,.of_steps (.one h0 stepR_scope') harr⟩
 | outgrown=>exact ⟨_,a₁,w₁,hq,.of_steps (.one h0 stepR_scope') harr⟩
end
def Post (z N p:Nat) (Q:Exit → S → Prop) (Γ:G) (w:World):Exit → Act → World → Prop:=fun e a' w'=>∃ s' Γ',Q e s'∧Stands N p Γ' s' a' w'∧Grow p Γ w Γ' w'∧DefOk z Γ' a' w'
def PWPr (rd:Option Nat) (P:Program) (N p:Nat) (c:Code) (Q:Exit → S → Prop) (s:S):Prop:=∀ z Γ a w,Stands N p Γ s a w → DefOk z Γ a w → Code.wpIn (Fw rd) 0 P c (Post z N p Q Γ w) a w
abbrev PWP (P:Program) (N p:Nat) (c:Code) (Q:Exit → S → Prop) (s:S):Prop:=PWPr none P N p c Q s
def Kontr (rd:Option Nat) (P:Program) (N p:Nat) (c:Code) (Q:Exit → S → Prop) (K:S → Prop):Prop:=∀ s,PWPr rd P N p c Q s → K s
abbrev Kont (P:Program) (N p:Nat) (c:Code) (Q:Exit → S → Prop) (K:S → Prop):Prop:=Kontr none P N p c Q K
def thenE (K:S → Prop) (Q:Exit → S → Prop):Exit → S → Prop
 | .normal,s=>K s
 | e,s=>Q e s
def inE (id:Nat) (Q:Exit → S → Prop):Exit → S → Prop
 | .exit j,s=>if j=id then Q .normal s else Q (.exit j) s
 | e,s=>Q e s
theorem thenE_normal (K:S → Prop) (Q:Exit → S → Prop) (s:S):thenE K Q .normal s=K s:=rfl
theorem thenE_exit (K:S → Prop) (Q:Exit → S → Prop) (s:S) (j:Nat):thenE K Q (.exit j) s=Q (.exit j) s:=rfl
theorem thenE_ret (K:S → Prop) (Q:Exit → S → Prop) (s:S):thenE K Q .ret s=Q .ret s:=rfl
theorem inE_normal (id:Nat) (Q:Exit → S → Prop) (s:S):inE id Q .normal s=Q .normal s:=rfl
theorem inE_ret (id:Nat) (Q:Exit → S → Prop) (s:S):inE id Q .ret s=Q .ret s:=rfl
theorem inE_exit (id j:Nat) (Q:Exit → S → Prop) (s:S):inE id Q (.exit j) s=if j=id then Q .normal s else Q (.exit j) s:=rfl
section
variable {rd:Option Nat} {P:Program} {N p:Nat} {Q:Exit → S → Prop} {s:S}
theorem pwp_weak {c:Code} {s':S} (hw:Weak N p s s') (h:PWPr rd P N p c Q s'):PWPr rd P N p c Q s:=fun z Γ a w hA hD=>by
 obtain ⟨Γ1,h1,g1⟩:=hw Γ a w hA
 refine wpIn_mono (h z Γ1 a w h1 (hD.grow g1 rfl)) ?_
 rintro e a' w' ⟨s2,Γ2,q,hA2,hg,hd⟩
 exact ⟨s2,Γ2,q,hA2,g1.trans hg,hd⟩
theorem pwp_mono {c:Code} {Q':Exit → S → Prop} (h:PWPr rd P N p c Q' s) (hq:∀ e s,Q' e s → Q e s):PWPr rd P N p c Q s:=fun z Γ a w hA hD=>by
 refine wpIn_mono (h z Γ a w hA hD) ?_
 rintro e a' w' ⟨s2,Γ2,q,hA2,hg,hd⟩
 exact ⟨s2,Γ2,hq _ _ q,hA2,hg,hd⟩
theorem Kont.use {c:Code} {K:S → Prop} (h:Kontr rd P N p c Q K) (hs:PWPr rd P N p c Q s):K s:=h s hs
theorem pwp_seq {x y:Code} (h:∀ K:S → Prop,Kontr rd P N p y Q K → PWPr rd P N p x (thenE K Q) s):PWPr rd P N p (.seq x y) Q s:=fun z Γ a w hA hD=>by
 refine wpIn_seq (wpIn_mono (h (PWPr rd P N p y Q) (fun _ h=>h) z Γ a w hA hD) ?_)
 rintro e a' w' ⟨s2,Γ2,q,hA2,hg,hd⟩
 cases e with
 | normal =>
  refine wpIn_mono (q z Γ2 a' w' hA2 hd) ?_
  rintro e a'' w'' ⟨s3,Γ3,q3,hA3,hg3,hd3⟩
  exact ⟨s3,Γ3,q3,hA3,hg.trans hg3,hd3⟩
 | exit j=>exact ⟨s2,Γ2,q,hA2,hg,hd⟩
 | goto l=>exact ⟨s2,Γ2,q,hA2,hg,hd⟩
 | ret=>exact ⟨s2,Γ2,q,hA2,hg,hd⟩
 | panic ch=>exact ⟨s2,Γ2,q,hA2,hg,hd⟩
 | outgrown=>exact ⟨s2,Γ2,q,hA2,hg,hd⟩
theorem pwp_skip (h:Q .normal s):PWPr rd P N p .skip Q s:=fun z Γ a w hA hD=>wpIn_skip ⟨s,Γ,h,hA,Grow.refl _ _ _,hD⟩
theorem pwp_exit {id:Nat} (h:Q (.exit id) s):PWPr rd P N p (.exit id) Q s:=fun z Γ a w hA hD=>wpIn_exit ⟨s,Γ,h,hA,Grow.refl _ _ _,hD⟩
theorem pwp_ret (h:Q .ret s):PWPr rd P N p .ret Q s:=fun z Γ a w hA hD=>wpIn_ret ⟨s,Γ,h,hA,Grow.refl _ _ _,hD⟩
theorem pwp_block {id:Nat} {c:Code} (h:PWPr rd P N p c (inE id Q) s):PWPr rd P N p (.block id c) Q s:=fun z Γ a w hA hD=>by
 refine wpIn_block (wpIn_mono (h z Γ a w hA hD) ?_)
 rintro e a' w' ⟨s2,Γ2,q,hA2,hg,hd⟩
 cases e with
 | exit j =>
  simp only [inE] at q
  simp only [Exit.inBlock]
  split
  ·rename_i hj;rw [if_pos hj] at q;exact ⟨s2,Γ2,q,hA2,hg,hd⟩
  ·rename_i hj;rw [if_neg hj] at q;exact ⟨s2,Γ2,q,hA2,hg,hd⟩
 | normal=>exact ⟨s2,Γ2,q,hA2,hg,hd⟩
 | goto l=>exact ⟨s2,Γ2,q,hA2,hg,hd⟩
 | ret=>exact ⟨s2,Γ2,q,hA2,hg,hd⟩
 | panic ch=>exact ⟨s2,Γ2,q,hA2,hg,hd⟩
 | outgrown=>exact ⟨s2,Γ2,q,hA2,hg,hd⟩
def noG (Q:Exit → S → Prop):Exit → S → Prop
 | .goto _,_=>False
 | e,s=>Q e s
theorem noG_normal (Q:Exit → S → Prop) (s:S):noG Q .normal s=Q .normal s:=rfl
theorem noG_ret (Q:Exit → S → Prop) (s:S):noG Q .ret s=Q .ret s:=rfl
theorem noG_exit (Q:Exit → S → Prop) (s:S) (j:Nat):noG Q (.exit j) s=Q (.exit j) s:=rfl
theorem pwp_scope {c:Code} (h:PWPr rd P N p c (noG Q) s):PWPr rd P N p (.scope c) Q s:=fun z Γ a w hA hD=>by
 refine wpIn_scope_straight (wpIn_mono (h z Γ a w hA hD) ?_)
 rintro e a' w' ⟨s2,Γ2,q,hA2,hg,hd⟩
 cases e with
 | goto l=>exact q.elim
 | exit j=>exact ⟨s2,Γ2,q,hA2,hg,hd⟩
 | normal=>exact ⟨s2,Γ2,q,hA2,hg,hd⟩
 | ret=>exact ⟨s2,Γ2,q,hA2,hg,hd⟩
 | panic ch=>exact ⟨s2,Γ2,q,hA2,hg,hd⟩
 | outgrown=>exact ⟨s2,Γ2,q,hA2,hg,hd⟩
theorem pwp_region {id:Nat} {l:List Oper} (h:pops P N p l.toArray l s (fun s'=>Q .normal s')) (hp:plains l=true:=by kernel_rfl):PWPr rd P N p (.region id l.toArray false) Q s:=fun z Γ a w hA hD=>by
 refine wpIn_region_lit (list_rd hp ?_)
 exact pl_of_pops h Γ a w _ hA fun s' Γ' a' w' hk hA' hg hd=>⟨s',Γ',hk,hA',hg,hD.grow hg hd⟩
def condK:Option PV → Prop → Prop → Prop
 | some (.c (.v (.bool t))),X,Y=>(t=true → X)∧(t=false → Y)
 | _,_,_=>False
theorem pwp_cond {c:Operand} {x y:Code} (h:condK (s.ev c) (PWPr rd P N p x Q s) (PWPr rd P N p y Q s)):PWPr rd P N p (.cond c x y) Q s:=fun z Γ a w hA hD=>by
 unfold condK at h
 split at h
 ·rename_i t X Y e
  have hc:=(S.ev_ok e hA.inv).1
  exact wpIn_cond_split hc (fun ht=>h.1 ht z Γ a w hA hD) (fun ht=>h.2 ht z Γ a w hA hD)
 ·exact h.elim
theorem pwp_loop {c:Code} (I:S → Prop) (μ:S → Nat) (h0:I s) (round:∀ s,I s → PWPr rd P N p c (thenE (fun s'=>∃ s'',Weak N p s' s''∧I s''∧μ s'' < μ s) Q) s):PWPr rd P N p (.loop c) Q s:=fun z Γ a w hA hD=>by
 refine wpIn_loop_ghost (fun n a' w'=>∃ s' Γ',I s'∧Stands N p Γ' s' a' w'∧Grow p Γ w Γ' w'∧DefOk z Γ' a' w'∧μ s'=n) (μ s) ⟨s,Γ,h0,hA,Grow.refl _ _ _,hD,rfl⟩ ?_
 rintro n a' w' ⟨s',Γ',hI,hA',hg,hd1,rfl⟩
 refine wpIn_mono (round s' hI z Γ' a' w' hA' hd1) ?_
 rintro e a2 w2 ⟨s2,Γ2,q,hA2,hg2,hd2⟩
 cases e with
 | normal =>
  obtain ⟨s3,hw,hI3,hlt⟩:=q
  obtain ⟨Γ3,hA3,hg3⟩:=hw Γ2 a2 w2 hA2
  exact ⟨μ s3,hlt,s3,Γ3,hI3,hA3,(hg.trans hg2).trans hg3,hd2.grow hg3 rfl,rfl⟩
 | exit j=>exact ⟨s2,Γ2,q,hA2,hg.trans hg2,hd2⟩
 | goto l=>exact ⟨s2,Γ2,q,hA2,hg.trans hg2,hd2⟩
 | ret=>exact ⟨s2,Γ2,q,hA2,hg.trans hg2,hd2⟩
 | panic ch=>exact ⟨s2,Γ2,q,hA2,hg.trans hg2,hd2⟩
 | outgrown=>exact ⟨s2,Γ2,q,hA2,hg.trans hg2,hd2⟩
end
def QL (P:Program) (N p:Nat) (ops:Array Oper) (l:List Oper) (s:S) (K:S → Prop):Prop :=
 ∀ Γ a w,Stands N p Γ s a w → wpQuietIn (Fw none) 0 P ops (fun w'=>Ext No w w') (fun a'=>∃ s',K s'∧Stands N p Γ s' a' w∧a'.defers=a.defers) l a
theorem quiet_mono' {P:Program} {ops:Array Oper} {C:World → Prop} {Q Q':Act → Prop} (h:∀ a,Q a → Q' a):∀ {l:List Oper} {a:Act},wpQuietIn (Fw none) 0 P ops C Q l a → wpQuietIn (Fw none) 0 P ops C Q' l a
 | [],a,hq=>h a hq
 | o :: l,a,hq=>by
  unfold wpQuietIn at hq ⊢
  refine ⟨hq.1,?_⟩
  have hq:=hq.2
  split
  ·rename_i hw;rw [if_pos hw] at hq;exact Oper.quietIn_mono (fun a h'=>quiet_mono' h h') hq
  ·rename_i hw;rw [if_neg hw] at hq;exact quiet_mono' h hq
def qops (P:Program) (N p:Nat) (ops:Array Oper):List Oper → S → (S → Prop) → Prop
 | [],s,K=>K s
 | o :: rest,s,K=>match gd ops s o.guard,run1 P p s o.op with
  | some true,.val q=>dstOk N o.dst∧qops P N p ops rest (s.put o.dst q) K
  | some false,_=>dstOk N o.dst∧qops P N p ops rest (s.put o.dst .undef) K
  | _,_=>QL P N p ops (o :: rest) s K
def qgo (P:Program) (N p:Nat) (ops:Array Oper) (rest:List Oper) (K:S → Prop) (o:Oper) (s:S):Option Bool → Res → Prop
 | some true,.val q=>dstOk N o.dst∧qops P N p ops rest (s.put o.dst q) K
 | some false,_=>dstOk N o.dst∧qops P N p ops rest (s.put o.dst .undef) K
 | some true,.stop=>QL P N p ops (o :: rest) s K
 | some true,.heap _ _=>QL P N p ops (o :: rest) s K
 | some true,.app _ _ _=>QL P N p ops (o :: rest) s K
 | none,_=>QL P N p ops (o :: rest) s K
theorem qops_nil (P:Program) (N p:Nat) (ops:Array Oper) (s:S) (K:S → Prop):qops P N p ops [] s K=K s:=by rw [qops]
theorem qops_cons (P:Program) (N p:Nat) (ops:Array Oper) (o:Oper) (rest:List Oper) (s:S) (K:S → Prop):qops P N p ops (o :: rest) s K=qgo P N p ops rest K o s (gd ops s o.guard) (run1 P p s o.op):=by
 rw [qops]
 generalize gd ops s o.guard=g
 generalize run1 P p s o.op=r
 cases g with
 | none=>cases r<;>rfl
 | some b=>cases b<;>cases r<;>rfl
section
variable {P:Program} {N p:Nat} {ops:Array Oper} {rest:List Oper} {o:Oper} {s:S} {K:S → Prop}
theorem ql_val {q:PV} (hg:gd ops s o.guard=some true) (h:pval P s o.op=some q) (hd:dstOk N o.dst) (hr:QL P N p ops rest (s.put o.dst q) K):QL P N p ops (o :: rest) s K:=by
 intro Γ a w hA
 obtain ⟨y,h1,h2⟩:=pval_ok h hA.inv
 unfold wpQuietIn
 rw [if_pos (gd_ok hg hA.inv)]
 refine ⟨fun _ _ _ _=>trivial,y,fun w' hw'=>?_,quiet_mono' (fun a' ⟨s',k1,k2,k3⟩=>⟨s',k1,k2,k3.trans (put_defers _ _ _)⟩) (hr Γ _ w ⟨hA.inv.put (dst_lt hd) h1,hA.le⟩)⟩
 unfold Oper.quietAtIn
 rw [h2 w' (Same.of_ext hw')]
 exact ⟨rfl,rfl⟩
theorem ql_skip (hg:gd ops s o.guard=some false) (hd:dstOk N o.dst) (hr:QL P N p ops rest (s.put o.dst .undef) K):QL P N p ops (o :: rest) s K:=by
 intro Γ a w hA
 unfold wpQuietIn
 rw [if_neg (by rw [gd_ok hg hA.inv];simp)]
 exact ⟨fun _ _ _ _=>trivial,quiet_mono' (fun a' ⟨s',k1,k2,k3⟩=>⟨s',k1,k2,k3.trans (put_defers _ _ _)⟩) (hr Γ _ w ⟨hA.inv.put (dst_lt hd) rfl,hA.le⟩)⟩
end
theorem ql_of_qops {P:Program} {N p:Nat} {ops:Array Oper}:∀ {l:List Oper} {s:S} {K:S → Prop},qops P N p ops l s K → QL P N p ops l s K
 | [],s,K,h=>by
  intro Γ a w hA
  rw [qops_nil] at h
  exact ⟨s,h,hA,rfl⟩
 | o :: rest,s,K,h=>by
  rw [qops_cons] at h
  cases hg:gd ops s o.guard with
  | none=>rw [hg] at h;unfold qgo at h;exact h
  | some b =>
   cases b with
   | false=>rw [hg] at h;unfold qgo at h;exact ql_skip hg h.1 (ql_of_qops h.2)
   | true =>
    cases hr:run1 P p s o.op with
    | val q=>rw [hg,hr] at h;unfold qgo at h;exact ql_val hg (run1_val hr) h.1 (ql_of_qops h.2)
    | stop=>rw [hg,hr] at h;unfold qgo at h;exact h
    | heap q os=>rw [hg,hr] at h;unfold qgo at h;exact h
    | app q os kk=>rw [hg,hr] at h;unfold qgo at h;exact h
theorem ext_grow {p:Nat} {Γ:G} {w w':World} (h:Ext No w w'):Grow p Γ w Γ w' :=
 ⟨h.no,fun _ h=>h,fun k hk hc=>.inl ⟨k,hk,hc,rfl⟩,fun _ h=>.inl h,fun _ _=>⟨rfl,rfl⟩⟩
theorem pwp_quiet {rd:Option Nat} {P:Program} {N p:Nat} {Q:Exit → S → Prop} {s:S} {id:Nat} {l:List Oper} (hm:P.follows .mixedOrders=true) (hB:Region.lexB .any l.toArray=true) (h:qops P N p l.toArray l s (fun s'=>Q .normal s')) (hp:plains l=true:=by kernel_rfl):PWPr rd P N p (.region id l.toArray true) Q s:=fun z Γ a w hA hD=>by
 have hq:=ql_of_qops h Γ a w hA
 refine wpIn_region_any hm (any_rd (by simpa using hp) ?_)
 simp only [Region.lexB,Bool.and_eq_true] at hB
 refine wpAnyIn_of_quiet (C:=fun w'=>Ext No w w') (Q:=fun a'=>∀ w',Ext No w w' → Post z N p Q Γ w .normal a' w') rfl (fun _ w' hw' h=>h w' hw') _ _ _ _ (Ext.refl No w).drew ?_
 have:=wpAnyQIn_lex (F:=Fw none) (n:=0) (P:=P) (C:=fun w'=>Ext No w w') (md:=.any) hB.1 l 0 (Array.replicate l.toArray.size false) a (by simp) (by simpa using hB.2) (quiet_mono' (Q':=fun a'=>∀ w',Ext No w w' → Post z N p Q Γ w .normal a' w') (fun a' ⟨s',k1,k2,k3⟩ w' hw'=>⟨s',Γ,k1,⟨k2.inv.same (Same.of_ext hw'),k2.le⟩,ext_grow hw',hD.grow (ext_grow (p:=p) hw') k3⟩) hq)
 simpa using this
end Go.Proofs.YthhfpcbpiphfiaaGreatDoor
