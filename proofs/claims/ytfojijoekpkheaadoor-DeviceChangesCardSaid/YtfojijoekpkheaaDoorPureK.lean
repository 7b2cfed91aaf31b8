/- PURE WALKS, eleventh part: code (PWP), function calls (PCalls). No program in sight. -/
import Derived.Test.YtfojijoekpkheaaDoorPureJ
namespace Go.Proofs.YtfojijoekpkheaaDoor
open Go.RowKit
set_option linter.unusedVariables false
set_option linter.unusedSimpArgs false

/-! ### code -/
def Post (N p : Nat) (Q : Exit → S → Prop) (Γ : G) (w : World) : Exit → Act → World → Prop := fun e a' w' => ∃ s' Γ', Q e s' ∧ Stands N p Γ' s' a' w' ∧ Grow p Γ w Γ' w'
def PWP (P : Program) (N p : Nat) (c : Code) (Q : Exit → S → Prop) (s : S) : Prop := ∀ Γ a w, Stands N p Γ s a w → Code.wp P c (Post N p Q Γ w) a w
/-- what follows: K holds of each state from which the code c goes well -/
def Kont (P : Program) (N p : Nat) (c : Code) (Q : Exit → S → Prop) (K : S → Prop) : Prop := ∀ s, PWP P N p c Q s → K s
def thenE (K : S → Prop) (Q : Exit → S → Prop) : Exit → S → Prop
  | .normal, s => K s
  | e, s => Q e s
def inE (id : Nat) (Q : Exit → S → Prop) : Exit → S → Prop
  | .exit j, s => if j = id then Q .normal s else Q (.exit j) s
  | e, s => Q e s
theorem thenE_normal (K : S → Prop) (Q : Exit → S → Prop) (s : S) : thenE K Q .normal s = K s := rfl
theorem thenE_exit (K : S → Prop) (Q : Exit → S → Prop) (s : S) (j : Nat) : thenE K Q (.exit j) s = Q (.exit j) s := rfl
theorem thenE_ret (K : S → Prop) (Q : Exit → S → Prop) (s : S) : thenE K Q .ret s = Q .ret s := rfl
theorem inE_normal (id : Nat) (Q : Exit → S → Prop) (s : S) : inE id Q .normal s = Q .normal s := rfl
theorem inE_ret (id : Nat) (Q : Exit → S → Prop) (s : S) : inE id Q .ret s = Q .ret s := rfl
theorem inE_exit (id j : Nat) (Q : Exit → S → Prop) (s : S) : inE id Q (.exit j) s = if j = id then Q .normal s else Q (.exit j) s := rfl

section
variable {P : Program} {N p : Nat} {Q : Exit → S → Prop} {s : S}
theorem pwp_weak {c : Code} {s' : S} (hw : Weak N p s s') (h : PWP P N p c Q s') : PWP P N p c Q s := fun Γ a w hA => by
  obtain ⟨Γ1, h1, g1⟩ := hw Γ a w hA
  refine wp_mono (h Γ1 a w h1) ?_
  rintro e a' w' ⟨s2, Γ2, q, hA2, hg⟩
  exact ⟨s2, Γ2, q, hA2, g1.trans hg⟩
theorem pwp_mono {c : Code} {Q' : Exit → S → Prop} (h : PWP P N p c Q' s) (hq : ∀ e s, Q' e s → Q e s) : PWP P N p c Q s := fun Γ a w hA => by
  refine wp_mono (h Γ a w hA) ?_
  rintro e a' w' ⟨s2, Γ2, q, hA2, hg⟩
  exact ⟨s2, Γ2, hq _ _ q, hA2, hg⟩
theorem Kont.use {c : Code} {K : S → Prop} (h : Kont P N p c Q K) (hs : PWP P N p c Q s) : K s := h s hs
theorem pwp_seq {x y : Code} (h : ∀ K : S → Prop, Kont P N p y Q K → PWP P N p x (thenE K Q) s) : PWP P N p (.seq x y) Q s := fun Γ a w hA => by
  refine wp_seq (wp_mono (h (PWP P N p y Q) (fun _ h => h) Γ a w hA) ?_)
  rintro e a' w' ⟨s2, Γ2, q, hA2, hg⟩
  cases e with
  | normal =>
    refine wp_mono (q Γ2 a' w' hA2) ?_
    rintro e a'' w'' ⟨s3, Γ3, q3, hA3, hg3⟩
    exact ⟨s3, Γ3, q3, hA3, hg.trans hg3⟩
  | exit j => exact ⟨s2, Γ2, q, hA2, hg⟩
  | goto l => exact ⟨s2, Γ2, q, hA2, hg⟩
  | ret => exact ⟨s2, Γ2, q, hA2, hg⟩
  | panic ch => exact ⟨s2, Γ2, q, hA2, hg⟩
  | outgrown => exact ⟨s2, Γ2, q, hA2, hg⟩
theorem pwp_skip (h : Q .normal s) : PWP P N p .skip Q s := fun Γ a w hA => wp_skip ⟨s, Γ, h, hA, Grow.refl _ _ _⟩
theorem pwp_exit {id : Nat} (h : Q (.exit id) s) : PWP P N p (.exit id) Q s := fun Γ a w hA => wp_exit ⟨s, Γ, h, hA, Grow.refl _ _ _⟩
theorem pwp_ret (h : Q .ret s) : PWP P N p .ret Q s := fun Γ a w hA => wp_ret ⟨s, Γ, h, hA, Grow.refl _ _ _⟩
theorem pwp_block {id : Nat} {c : Code} (h : PWP P N p c (inE id Q) s) : PWP P N p (.block id c) Q s := fun Γ a w hA => by
  refine wp_block (wp_mono (h Γ a w hA) ?_)
  rintro e a' w' ⟨s2, Γ2, q, hA2, hg⟩
  cases e with
  | exit j =>
    simp only [inE] at q
    simp only [Exit.inBlock]
    split
    · rename_i hj; rw [if_pos hj] at q; exact ⟨s2, Γ2, q, hA2, hg⟩
    · rename_i hj; rw [if_neg hj] at q; exact ⟨s2, Γ2, q, hA2, hg⟩
  | normal => exact ⟨s2, Γ2, q, hA2, hg⟩
  | goto l => exact ⟨s2, Γ2, q, hA2, hg⟩
  | ret => exact ⟨s2, Γ2, q, hA2, hg⟩
  | panic ch => exact ⟨s2, Γ2, q, hA2, hg⟩
  | outgrown => exact ⟨s2, Γ2, q, hA2, hg⟩
def noG (Q : Exit → S → Prop) : Exit → S → Prop
  | .goto _, _ => False
  | e, s => Q e s
theorem noG_normal (Q : Exit → S → Prop) (s : S) : noG Q .normal s = Q .normal s := rfl
theorem noG_ret (Q : Exit → S → Prop) (s : S) : noG Q .ret s = Q .ret s := rfl
theorem noG_exit (Q : Exit → S → Prop) (s : S) (j : Nat) : noG Q (.exit j) s = Q (.exit j) s := rfl
theorem pwp_scope {c : Code} (h : PWP P N p c (noG Q) s) : PWP P N p (.scope c) Q s := fun Γ a w hA => by
  refine wp_scope_straight (wp_mono (h Γ a w hA) ?_)
  rintro e a' w' ⟨s2, Γ2, q, hA2, hg⟩
  cases e with
  | goto l => exact q.elim
  | exit j => exact ⟨s2, Γ2, q, hA2, hg⟩
  | normal => exact ⟨s2, Γ2, q, hA2, hg⟩
  | ret => exact ⟨s2, Γ2, q, hA2, hg⟩
  | panic ch => exact ⟨s2, Γ2, q, hA2, hg⟩
  | outgrown => exact ⟨s2, Γ2, q, hA2, hg⟩
theorem pwp_region {id : Nat} {l : List Oper} (h : pops P N p l.toArray l s (fun s' => Q .normal s')) : PWP P N p (.region id l.toArray false) Q s := fun Γ a w hA => by
  refine wp_region_lit ?_
  exact pl_of_pops h Γ a w _ hA fun s' Γ' a' w' hk hA' hg => ⟨s', Γ', hk, hA', hg⟩
/-- a test's outcome -/
def condK : Option PV → Prop → Prop → Prop
  | some (.c (.v (.bool t))), X, Y => (t = true → X) ∧ (t = false → Y)
  | _, _, _ => False
theorem pwp_cond {c : Operand} {x y : Code} (h : condK (s.ev c) (PWP P N p x Q s) (PWP P N p y Q s)) : PWP P N p (.cond c x y) Q s := fun Γ a w hA => by
  unfold condK at h
  split at h
  · rename_i t X Y e
    have hc := (S.ev_ok e hA.inv).1
    exact wp_cond_split hc (fun ht => h.1 ht Γ a w hA) (fun ht => h.2 ht Γ a w hA)
  · exact h.elim
/-- a loop: I holds of the state at each round's head, μ goes down -/
theorem pwp_loop {c : Code} (I : S → Prop) (μ : S → Nat) (h0 : I s) (round : ∀ s, I s → PWP P N p c (thenE (fun s' => ∃ s'', Weak N p s' s'' ∧ I s'' ∧ μ s'' < μ s) Q) s) : PWP P N p (.loop c) Q s := fun Γ a w hA => by
  refine wp_loop_ghost (fun n a' w' => ∃ s' Γ', I s' ∧ Stands N p Γ' s' a' w' ∧ Grow p Γ w Γ' w' ∧ μ s' = n) (μ s) ⟨s, Γ, h0, hA, Grow.refl _ _ _, rfl⟩ ?_
  rintro n a' w' ⟨s', Γ', hI, hA', hg, rfl⟩
  refine wp_mono (round s' hI Γ' a' w' hA') ?_
  rintro e a2 w2 ⟨s2, Γ2, q, hA2, hg2⟩
  cases e with
  | normal =>
    obtain ⟨s3, hw, hI3, hlt⟩ := q
    obtain ⟨Γ3, hA3, hg3⟩ := hw Γ2 a2 w2 hA2
    exact ⟨μ s3, hlt, s3, Γ3, hI3, hA3, (hg.trans hg2).trans hg3, rfl⟩
  | exit j => exact ⟨s2, Γ2, q, hA2, hg.trans hg2⟩
  | goto l => exact ⟨s2, Γ2, q, hA2, hg.trans hg2⟩
  | ret => exact ⟨s2, Γ2, q, hA2, hg.trans hg2⟩
  | panic ch => exact ⟨s2, Γ2, q, hA2, hg.trans hg2⟩
  | outgrown => exact ⟨s2, Γ2, q, hA2, hg.trans hg2⟩
end

/-! ### a region that draws its order, and only reads (calls of functions that hand back a plain value let in) -/
def QL (P : Program) (N p : Nat) (ops : Array Oper) (l : List Oper) (s : S) (K : S → Prop) : Prop :=
  ∀ Γ a w, Stands N p Γ s a w → wpQuiet P ops (fun w' => Ext No w w') (fun a' => ∃ s', K s' ∧ Stands N p Γ s' a' w) l a
def qops (P : Program) (N p : Nat) (ops : Array Oper) : List Oper → S → (S → Prop) → Prop
  | [], s, K => K s
  | o :: rest, s, K => match gd ops s o.guard, run1 P p s o.op with
    | some true, .val q => dstOk N o.dst ∧ qops P N p ops rest (s.put o.dst q) K
    | some false, _ => dstOk N o.dst ∧ qops P N p ops rest (s.put o.dst .undef) K
    | _, _ => QL P N p ops (o :: rest) s K
def qgo (P : Program) (N p : Nat) (ops : Array Oper) (rest : List Oper) (K : S → Prop) (o : Oper) (s : S) : Option Bool → Res → Prop
  | some true, .val q => dstOk N o.dst ∧ qops P N p ops rest (s.put o.dst q) K
  | some false, _ => dstOk N o.dst ∧ qops P N p ops rest (s.put o.dst .undef) K
  | some true, .stop => QL P N p ops (o :: rest) s K
  | some true, .heap _ _ => QL P N p ops (o :: rest) s K
  | some true, .app _ _ _ => QL P N p ops (o :: rest) s K
  | none, _ => QL P N p ops (o :: rest) s K
theorem qops_nil (P : Program) (N p : Nat) (ops : Array Oper) (s : S) (K : S → Prop) : qops P N p ops [] s K = K s := by rw [qops]
theorem qops_cons (P : Program) (N p : Nat) (ops : Array Oper) (o : Oper) (rest : List Oper) (s : S) (K : S → Prop) : qops P N p ops (o :: rest) s K = qgo P N p ops rest K o s (gd ops s o.guard) (run1 P p s o.op) := by
  rw [qops]
  generalize gd ops s o.guard = g
  generalize run1 P p s o.op = r
  cases g with
  | none => cases r <;> rfl
  | some b => cases b <;> cases r <;> rfl
section
variable {P : Program} {N p : Nat} {ops : Array Oper} {rest : List Oper} {o : Oper} {s : S} {K : S → Prop}
theorem ql_val {q : PV} (hg : gd ops s o.guard = some true) (h : pval P s o.op = some q) (hd : dstOk N o.dst) (hr : QL P N p ops rest (s.put o.dst q) K) : QL P N p ops (o :: rest) s K := by
  intro Γ a w hA
  obtain ⟨y, h1, h2⟩ := pval_ok h hA.inv
  unfold wpQuiet
  rw [if_pos (gd_ok hg hA.inv)]
  refine ⟨y, fun w' hw' => ?_, hr Γ _ w ⟨hA.inv.put (dst_lt hd) h1, hA.le⟩⟩
  unfold Oper.quietAt
  rw [h2 w' (Same.of_ext hw')]
  exact ⟨rfl, rfl⟩
theorem ql_skip (hg : gd ops s o.guard = some false) (hd : dstOk N o.dst) (hr : QL P N p ops rest (s.put o.dst .undef) K) : QL P N p ops (o :: rest) s K := by
  intro Γ a w hA
  unfold wpQuiet
  rw [if_neg (by rw [gd_ok hg hA.inv]; simp)]
  exact hr Γ _ w ⟨hA.inv.put (dst_lt hd) rfl, hA.le⟩
end
theorem ql_of_qops {P : Program} {N p : Nat} {ops : Array Oper} : ∀ {l : List Oper} {s : S} {K : S → Prop}, qops P N p ops l s K → QL P N p ops l s K
  | [], s, K, h => by
    intro Γ a w hA
    rw [qops_nil] at h
    exact ⟨s, h, hA⟩
  | o :: rest, s, K, h => by
    rw [qops_cons] at h
    cases hg : gd ops s o.guard with
    | none => rw [hg] at h; unfold qgo at h; exact h
    | some b =>
      cases b with
      | false => rw [hg] at h; unfold qgo at h; exact ql_skip hg h.1 (ql_of_qops h.2)
      | true =>
        cases hr : run1 P p s o.op with
        | val q => rw [hg, hr] at h; unfold qgo at h; exact ql_val hg (run1_val hr) h.1 (ql_of_qops h.2)
        | stop => rw [hg, hr] at h; unfold qgo at h; exact h
        | heap q os => rw [hg, hr] at h; unfold qgo at h; exact h
        | app q os kk => rw [hg, hr] at h; unfold qgo at h; exact h
theorem ext_grow {p : Nat} {Γ : G} {w w' : World} (h : Ext No w w') : Grow p Γ w Γ w' :=
  ⟨h.no, fun _ h => h, fun k hk hc => .inl ⟨k, hk, hc, rfl⟩, fun _ h => .inl h, fun _ _ => ⟨rfl, rfl⟩⟩
theorem pwp_quiet {P : Program} {N p : Nat} {Q : Exit → S → Prop} {s : S} {id : Nat} {l : List Oper} (hm : P.follows .mixedOrders = true) (hB : Region.lexB .any l.toArray = true) (h : qops P N p l.toArray l s (fun s' => Q .normal s')) : PWP P N p (.region id l.toArray true) Q s := fun Γ a w hA => by
  have hq := ql_of_qops h Γ a w hA
  refine wp_region_quiet (C := fun w' => Ext No w w') hm hB (Ext.refl No w).drew ?_
  have mono : ∀ (l' : List Oper) (a : Act), wpQuiet P l.toArray (fun w' => Ext No w w') (fun a' => ∃ s', Q .normal s' ∧ Stands N p Γ s' a' w) l' a → wpQuiet P l.toArray (fun w' => Ext No w w') (fun a' => ∀ w', Ext No w w' → Post N p Q Γ w .normal a' w') l' a := by
    intro l'
    induction l' with
    | nil =>
      rintro a ⟨s', h1, h2⟩ w' hw'
      exact ⟨s', Γ, h1, ⟨h2.inv.same (Same.of_ext hw'), h2.le⟩, ext_grow hw'⟩
    | cons o l' ih =>
      intro a h
      unfold wpQuiet at h ⊢
      split
      · rename_i hw; rw [if_pos hw] at h; exact Oper.quiet_mono ih h
      · rename_i hw; rw [if_neg hw] at h; exact ih _ h
  simpa using mono l a hq
end Go.Proofs.YtfojijoekpkheaaDoor
