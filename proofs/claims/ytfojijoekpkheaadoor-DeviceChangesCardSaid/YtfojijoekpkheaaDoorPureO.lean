/- PURE WALKS, fifteenth part: regions that draw their order, whatever they do: each order that the region lets. No program in sight. -/
import Derived.Test.YtfojijoekpkheaaDoorPureN
import Derived.Orders
namespace Go.Proofs.YtfojijoekpkheaaDoor
open Go.RowKit
set_option linter.unusedVariables false
set_option linter.unusedSimpArgs false

theorem oper_wp_to {P : Program} {o : Oper} {a : Act} {w : World} {K K' : Act → World → Prop} {Q Q' : Exit → Act → World → Prop} (h : ∀ a w, K a w → K' a w) (hq : ∀ e a w, e ≠ .normal → ¬ Q e a w)
    (hh : o.wp P a w K Q) : o.wp P a w K' Q' := by
  unfold Oper.wp at *
  generalize (execOp a.eval o).run P w = r at *
  cases r with
  | ok n w' =>
    cases n with
    | value v => exact h _ _ hh
    | skip => exact h _ _ hh
    | defer d => exact h _ _ hh
    | enter f args =>
      simp only [Oper.upon] at hh ⊢
      refine Calls.mono hh fun e w'' he => ?_
      cases e with
      | returned v => exact h _ _ he
      | panicked ch => exact absurd he (hq _ _ _ (by simp))
      | outgrown => obtain ⟨a', w3, h3⟩ := he; exact absurd h3 (hq _ _ _ (by simp))
    | row r args =>
      simp only [Oper.upon] at hh ⊢
      exact Rows.mono hh fun _ _ he => h _ _ he
    | _ => exact hh.elim
  | halt x w' =>
    cases x with
    | panic v => exact absurd hh (hq _ _ _ (by simp))
    | _ => exact hh.elim

section
variable {P : Program} {N p : Nat} {ops : Array Oper} {s : S} {K : S → Prop} {fuel : Nat} {listed : Array Bool}
/-- from state s on, whatever order the rest of the region takes (listed: what is done) -/
def PA (P : Program) (N p : Nat) (ops : Array Oper) (fuel : Nat) (listed : Array Bool) (s : S) (K : S → Prop) : Prop :=
  ∀ (Γ : G) (a : Act) (w : World) (Q : Exit → Act → World → Prop), Stands N p Γ s a w → (∀ s' Γ' a' w', K s' → Stands N p Γ' s' a' w' → Grow p Γ w Γ' w' → Q .normal a' w') → wpAny P .any ops Q fuel listed a w
theorem pa_done (hr : Region.ready .any ops listed = []) (h : K s) : PA P N p ops fuel listed s K := fun Γ a w Q hA hK => by
  have := hK s Γ a w h hA (Grow.refl _ _ _)
  cases fuel with
  | zero => exact ⟨hr, this⟩
  | succ f => exact ⟨fun _ => this, fun i hi => by rw [hr] at hi; cases hi⟩
/-- one operation that may be the next -/
def paOne (P : Program) (N p : Nat) (ops : Array Oper) (fuel : Nat) (listed : Array Bool) (s : S) (K : S → Prop) (i : Nat) : Option Oper → Prop
  | some o => pops P N p ops [o] s (fun s' => PA P N p ops fuel (listed.setIfInBounds i true) s' K)
  | none => False
def paAll (P : Program) (N p : Nat) (ops : Array Oper) (fuel : Nat) (listed : Array Bool) (s : S) (K : S → Prop) : List Nat → Prop
  | [] => True
  | i :: r => paOne P N p ops fuel listed s K i ops[i]? ∧ paAll P N p ops fuel listed s K r
theorem paAll_mem : ∀ {l : List Nat}, paAll P N p ops fuel listed s K l → ∀ i ∈ l, paOne P N p ops fuel listed s K i ops[i]?
  | [], _, i, hi => by cases hi
  | j :: r, h, i, hi => by
    rcases List.mem_cons.1 hi with rfl | hi
    · exact h.1
    · exact paAll_mem h.2 i hi
theorem pa_step (l : List Nat) (hr : Region.ready .any ops listed = l) (hl : l.isEmpty = false) (h : paAll P N p ops fuel listed s K l) : PA P N p ops (fuel + 1) listed s K := fun Γ a w Q hA hK => by
  refine ⟨fun h0 => ?_, fun i hi => ?_⟩
  · rw [hr] at h0; subst h0; cases hl
  · rw [hr] at hi
    have h1 := paAll_mem h i hi
    unfold wpOp
    cases ho : ops[i]? with
    | none => rw [ho] at h1; exact h1.elim
    | some o =>
      rw [ho] at h1
      have h2 := pl_of_pops h1 Γ a w (fun e a' w' => e = .normal ∧ wpAny P .any ops Q fuel (listed.setIfInBounds i true) a' w') hA (fun s' Γ' a' w' hk hA' hg => ⟨rfl, hk Γ' a' w' Q hA' fun s'' Γ'' a'' w'' hk' hA'' hg' => hK s'' Γ'' a'' w'' hk' hA'' (hg.trans hg')⟩)
      unfold wpList at h2
      simp only []
      split
      · rename_i hw
        rw [if_pos hw] at h2
        refine .inl ?_
        rcases h2 with h2 | ⟨_, a', w', h3, _⟩
        · exact oper_wp_to (fun a' w' h => h.2) (fun e a' w' hne h => hne h.1) h2
        · cases h3
      · rename_i hw
        rw [if_neg hw] at h2
        exact h2.2
/-- only normal exits count -/
def nrm (Q : Exit → Act → World → Prop) : Exit → Act → World → Prop := fun e a w => e = .normal ∧ Q .normal a w
theorem wpAny_nrm {Q : Exit → Act → World → Prop} : ∀ {fuel : Nat} {listed : Array Bool} {a : Act} {w : World}, wpAny P .any ops (nrm Q) fuel listed a w → wpAny P .any ops Q fuel listed a w
  | 0, _, _, _, h => ⟨h.1, h.2.2⟩
  | fuel + 1, listed, a, w, h => ⟨fun h0 => (h.1 h0).2, fun i hi => by
    have h1 := h.2 i hi
    unfold wpOp at h1 ⊢
    split
    · rename_i ho; rw [ho] at h1; exact wpAny_nrm h1
    · rename_i o ho
      rw [ho] at h1
      simp only at h1
      split
      · rename_i hw
        rw [if_pos hw] at h1
        rcases h1 with h1 | ⟨_, a', w', h3, _⟩
        · exact .inl (oper_wp_to (fun _ _ h => wpAny_nrm h) (fun e a' w' hne h => hne h.1) h1)
        · cases h3
      · rename_i hw
        rw [if_neg hw] at h1
        exact wpAny_nrm h1⟩
def freeAt (ops : Array Oper) (i : Nat) : Bool := match ops[i]? with
  | some o => pfree o.op
  | none => false
def hoR (P : Program) (N p : Nat) (ops : Array Oper) (fuel : Nat) (listed : Array Bool) (s : S) (K : S → Prop) (i : Nat) (o : Oper) : Option Bool → Res → Prop
  | some true, .val q => dstOk N o.dst ∧ PA P N p ops fuel (listed.setIfInBounds i true) (s.put o.dst q) K
  | some false, _ => dstOk N o.dst ∧ PA P N p ops fuel (listed.setIfInBounds i true) (s.put o.dst .undef) K
  | _, _ => False
def hoG (P : Program) (N p : Nat) (ops : Array Oper) (fuel : Nat) (listed : Array Bool) (s : S) (K : S → Prop) (i : Nat) : Option Oper → Prop
  | some o => hoR P N p ops fuel listed s K i o (gd ops s o.guard) (run1 P p s o.op)
  | none => False
/-- an operation that is ready, looks at no memory and is apart from the others may be done first -/
theorem pa_hoist (i : Nat) (hB : (Region.noSelect ops && (Region.ready .any ops listed).contains i && Region.free .any ops listed i && freeAt ops i) = true) (h : hoG P N p ops fuel listed s K i ops[i]?) : PA P N p ops (fuel + 1) listed s K := fun Γ a w Q hA hK => by
  simp only [Bool.and_eq_true, List.contains_iff_mem] at hB
  obtain ⟨⟨⟨b1, b2⟩, b3⟩, b4⟩ := hB
  cases ho : ops[i]? with
  | none => rw [ho] at h; exact h.elim
  | some o =>
    rw [ho] at h
    have hf : pfree o.op = true := by unfold freeAt at b4; rw [ho] at b4; exact b4
    change hoR P N p ops fuel listed s K i o (gd ops s o.guard) (run1 P p s o.op) at h
    refine wpAny_nrm ?_
    have hQ : ∀ (v : Value) c a' w', nrm Q (.panic c) (a'.put o.dst v) w' → nrm Q (.panic c) a' w' := fun v c a' w' h => absurd h.1 (by simp)
    unfold hoR at h
    split at h
    · rename_i q hg hr
      obtain ⟨hd, hn⟩ := h
      obtain ⟨y, h1, h2⟩ := pval_free hf (run1_val hr) hA.inv
      refine wpAny_first ho (Region.noSelect_spec b1) (hQ y) fuel listed a w (Region.free_spec ho b3) b2 (.inl ⟨gd_ok hg hA.inv, h2⟩) ?_
      exact hn Γ _ w _ ⟨hA.inv.put (dst_lt hd) h1, hA.le⟩ fun s' Γ' a' w' hk ha hg' => ⟨rfl, hK s' Γ' a' w' hk ha hg'⟩
    · rename_i r hg
      obtain ⟨hd, hn⟩ := h
      refine wpAny_first ho (Region.noSelect_spec b1) (hQ Go.undef) fuel listed a w (Region.free_spec ho b3) b2 (.inr ⟨gd_ok hg hA.inv, rfl⟩) ?_
      exact hn Γ _ w _ ⟨hA.inv.put (dst_lt hd) rfl, hA.le⟩ fun s' Γ' a' w' hk ha hg' => ⟨rfl, hK s' Γ' a' w' hk ha hg'⟩
    · exact h.elim
theorem pa_weak {s' : S} (hw : Weak N p s s') (h : PA P N p ops fuel listed s' K) : PA P N p ops fuel listed s K := fun Γ a w Q hA hK => by
  obtain ⟨Γ1, h1, g1⟩ := hw Γ a w hA
  exact h Γ1 a w Q h1 fun s2 Γ2 a2 w2 hk hA2 hg => hK s2 Γ2 a2 w2 hk hA2 (g1.trans hg)
theorem pa_have {f0 : Nat} {l0 : Array Bool} {s0 : S} (fuel : Nat) (listed : Array Bool) (s : S) (h : PA P N p ops fuel listed s K → PA P N p ops f0 l0 s0 K) (h2 : PA P N p ops fuel listed s K) : PA P N p ops f0 l0 s0 K := h h2
theorem pwp_drawn {Q : Exit → S → Prop} {id : Nat} {l : List Oper} (hm : P.follows .mixedOrders = true) (h : PA P N p l.toArray l.length (Array.replicate l.length false) s (fun s' => Q .normal s')) : PWP P N p (.region id l.toArray true) Q s := fun Γ a w hA => by
  refine wp_region_any hm ?_
  have hX : Ext No w { w with drawn := w.drawn + 1 } := (Ext.refl No w).drew
  exact h Γ a _ _ ⟨hA.inv.same (Same.of_ext hX), hA.le⟩ fun s' Γ' a' w' hk hA' hg => ⟨s', Γ', hk, hA', (ext_grow hX).trans hg⟩
/-- .. and each order ends in a state that says s1 -/
theorem pwp_drawn_to {Q : Exit → S → Prop} {id : Nat} {l : List Oper} (s1 : S) (hm : P.follows .mixedOrders = true) (h : PA P N p l.toArray l.length (Array.replicate l.length false) s (fun s' => Weak N p s' s1)) (hq : Q .normal s1) : PWP P N p (.region id l.toArray true) Q s := fun Γ a w hA => by
  refine wp_region_any hm ?_
  have hX : Ext No w { w with drawn := w.drawn + 1 } := (Ext.refl No w).drew
  refine h Γ a _ _ ⟨hA.inv.same (Same.of_ext hX), hA.le⟩ fun s' Γ' a' w' hk hA' hg => ?_
  obtain ⟨Γ2, hA2, hg2⟩ := hk Γ' a' w' hA'
  exact ⟨s1, Γ2, hq, hA2, (ext_grow hX).trans (hg.trans hg2)⟩
end
attribute [push_cast] paOne paAll hoG hoR
attribute [local irreducible] PA
end Go.Proofs.YtfojijoekpkheaaDoor
