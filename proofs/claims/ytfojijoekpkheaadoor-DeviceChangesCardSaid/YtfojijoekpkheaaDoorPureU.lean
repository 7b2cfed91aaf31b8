/- PURE WALKS, twenty-first part: less to write: temporaries are dropped by number, a loop's state is what is there but for what the loop turns, a drawing region's end is taken from its first order. No program in sight. -/
import Derived.Test.YtfojijoekpkheaaDoorPureO
namespace Go.Proofs.YtfojijoekpkheaaDoor
open Go.RowKit
set_option linter.unusedVariables false
set_option linter.unusedSimpArgs false
def consIf {α : Type} : Bool → α → List α → List α
  | true, a, l => a :: l
  | false, _, l => l
/-- what is left of the temporaries: those below B or in ex, but not the dead, each once -/
def cutT (B : Nat) (ex dead : List Nat) : List (Nat × PV) → List (Nat × PV)
  | [] => []
  | (i, q) :: t => consIf ((decide (i < B) || memB i ex) && !memB i dead) (i, q) (cutT B ex (consIf (decide (i < B) || memB i ex) i dead) t)
theorem memB_mem {i : Nat} : ∀ {l : List Nat}, memB i l = true ↔ i ∈ l
  | [] => by simp [memB]
  | j :: l => by 
    simp only [memB, List.mem_cons]
    split
    · rename_i e; simp [e]
    · rename_i e; rw [memB_mem (l := l)]; exact ⟨.inr, fun h => h.resolve_left fun h' => e h'.symm⟩
theorem cutT_look {B : Nat} {ex : List Nat} {i : Nat} {q : PV} : ∀ {t : List (Nat × PV)} {dead : List Nat}, look (cutT B ex dead t) i = some q → (i < B ∨ i ∈ ex) ∧ i ∉ dead ∧ look t i = some q
  | [], dead, h => by simp [cutT, look] at h
  | (j, r) :: t, dead, h => by
    rw [cutT] at h
    cases hk : (decide (j < B) || memB j ex)
    · rw [hk] at h
      simp only [Bool.false_and, consIf] at h
      obtain ⟨h1, h2, h3⟩ := cutT_look h
      refine ⟨h1, h2, ?_⟩
      simp only [look]
      rw [if_neg ?_]
      · exact h3
      · rintro rfl
        have : (decide (i < B) || memB i ex) = true := by simpa only [Bool.or_eq_true, decide_eq_true_eq, memB_mem] using h1
        rw [hk] at this; cases this
    · rw [hk] at h
      simp only [Bool.true_and, consIf] at h
      have hk' : j < B ∨ j ∈ ex := by simpa only [Bool.or_eq_true, decide_eq_true_eq, memB_mem] using hk
      cases hd : memB j dead
      · rw [hd] at h
        simp only [Bool.not_false, consIf, look] at h ⊢
        by_cases e : i = j
        · subst e
          rw [if_pos rfl] at h ⊢
          exact ⟨hk', (fun hj => by rw [← memB_mem, hd] at hj; cases hj), h⟩
        · rw [if_neg e] at h ⊢
          obtain ⟨h1, h2, h3⟩ := cutT_look h
          exact ⟨h1, fun hi => h2 (List.mem_cons_of_mem _ hi), h3⟩
      · rw [hd] at h
        simp only [Bool.not_true, consIf, look] at h ⊢
        obtain ⟨h1, h2, h3⟩ := cutT_look h
        have e : i ≠ j := fun e => h2 (by rw [e]; exact List.mem_cons_self)
        rw [if_neg e]
        exact ⟨h1, fun hi => h2 (List.mem_cons_of_mem _ hi), h3⟩
theorem weak_cutT {N p : Nat} (B : Nat) (ex dead : List Nat) (s : S) : Weak N p s ⟨cutT B ex dead s.t, s.o⟩ := fun Γ a w hA =>
  ⟨Γ, ⟨⟨hA.inv.size, hA.inv.defers, fun i q hi => hA.inv.t i q (cutT_look hi).2.2, hA.inv.m⟩, hA.le⟩, Grow.refl _ _ _⟩
def cutS (B : Nat) (ex : List Nat) (s : S) : S := ⟨cutT B ex [] s.t, s.o⟩
theorem weak_cutS {N p : Nat} (B : Nat) (ex : List Nat) (s : S) : Weak N p s (cutS B ex s) := weak_cutT B ex [] s
/-- objects turned -/
def setM : List Ob → List (Nat × Ob) → List Ob
  | os, [] => os
  | os, (k, o) :: r => setM (os.set k o) r
section
variable {P : Program} {N p : Nat} {Q : Exit → S → Prop} {s : S}
theorem pwp_cut (B : Nat) (ex : List Nat) {c : Code} (h : PWP P N p c Q (cutS B ex s)) : PWP P N p c Q s := pwp_weak (weak_cutS B ex s) h
/-- a loop: slots f, objects g turn; all other slots below B (and ex) and all other objects stay -/
theorem pwp_loop3 {c : Code} {α : Type} (B : Nat) (ex : List Nat) (f : α → List (Nat × PV)) (g : α → List (Nat × Ob)) (Φ : α → Prop) (μ : α → Nat) (x0 : α) {t0 : List (Nat × PV)} (ht : cutT B ex ((f x0).map Prod.fst) s.t = t0) (h0 : Φ x0)
    (hw : Weak N p s ⟨f x0 ++ t0, setM s.o (g x0)⟩)
    (round : ∀ x, Φ x → PWP P N p c (thenE (fun s' => ∃ x', Φ x' ∧ Weak N p s' ⟨f x' ++ t0, setM s.o (g x')⟩ ∧ μ x' < μ x) Q) ⟨f x ++ t0, setM s.o (g x)⟩) : PWP P N p (.loop c) Q s :=
  pwp_loop2 Φ (fun x => ⟨f x ++ t0, setM s.o (g x)⟩) μ x0 h0 hw round
end
attribute [push_cast] fillA consIf cutT cutS setM List.set_cons_zero List.set_cons_succ List.cons_append List.nil_append List.append_assoc Bool.and_true Bool.true_and Bool.false_and Bool.and_false Bool.or_true Bool.true_or Bool.or_false Bool.false_or Bool.not_true Bool.not_false decide_true decide_false Bool.false_eq_true
end Go.Proofs.YtfojijoekpkheaaDoor
