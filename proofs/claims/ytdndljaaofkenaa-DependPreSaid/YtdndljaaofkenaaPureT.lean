/- PURE WALKS, twentieth part: rows in variables and structs, seen with less. No program in sight. -/
import Derived.Test.YtdndljaaofkenaaPureQ
namespace Go.Proofs.Ytdndljaaofkenaa
open Go.RowKit
set_option linter.unusedVariables false
set_option linter.unusedSimpArgs false
/-- a cell's data seen with less -/
def leC : E → E → Prop
  | .full sz l, .sl sz' l' => sz = sz' ∧ leRows l l'
  | .v x, .v y => x = y
  | _, _ => False
def leCs : List E → List E → Prop
  | [], [] => True
  | a :: r, b :: r' => leC a b ∧ leCs r r'
  | _, _ => False
attribute [push_cast] leC leCs
theorem leC_ok {w : World} {Γ : G} {a b : E} {y : Value} (h : leC a b) (hr : RE w Γ a y) : RE w Γ b y := by
  unfold leC at h
  split at h
  · obtain ⟨rfl, h⟩ := h
    obtain ⟨h2, _⟩ := hr
    obtain ⟨A, c, xs, h3, h4, h5, h6, h7⟩ := rd_sl.1 h2
    show RD w Γ.I (.sl _ _) _
    rw [rd_sl, h3]
    have hl := leRows_length h
    exact ⟨A, c, xs, by rw [hl], by omega, by rw [← hl]; exact h5, leRows_mem h h6, leRows_ok h h7⟩
  · subst h; exact hr
  · exact h.elim
theorem leCs_ok {w : World} {Γ : G} : ∀ {a b : List E} {ys : List Value}, leCs a b → All2 (RE w Γ) a ys → All2 (RE w Γ) b ys
  | [], [], _, _, h => h
  | _ :: _, _ :: _, [], _, h => h.elim
  | _ :: _, _ :: _, _ :: _, h, hr => ⟨leC_ok h.1 hr.1, leCs_ok h.2 hr.2⟩
  | [], _ :: _, _, h, _ => h.elim
  | _ :: _, [], _, h, _ => h.elim
theorem weak_boxrows {N p : Nat} {s : S} (k : Nat) {ty : TypeId} {cs : List E} (cs' : List E) (hk : s.o[k]? = some (.box ty cs)) (h : leCs cs cs') : Weak N p s ⟨s.t, setO s.o k (.box ty cs')⟩ := by
  intro Γ a w hA
  have hm := hA.inv.m
  have hkl : k < s.o.length := (List.getElem?_eq_some_iff.1 hk).1
  refine ⟨Γ, ⟨⟨hA.inv.size, hA.inv.defers, hA.inv.t, ⟨by simp [setO, hm.n], fun j o ho => ?_, hm.sep, hm.off, hm.lt, hm.pin⟩⟩, hA.le⟩, Grow.refl _ _ _⟩
  simp only [setO] at ho
  by_cases e : k = j
  · subst e
    rw [List.getElem?_set_self hkl] at ho
    cases ho
    obtain ⟨g1, xs, g2, g3⟩ := hm.ob k _ hk
    exact ⟨g1, xs, g2, leCs_ok h g3⟩
  · rw [List.getElem?_set_ne e] at ho
    exact hm.ob j o ho
theorem weak_aggrows {N p : Nat} {s : S} (i : Nat) {cs : List E} (cs' : List E) (hi : s.get i = some (.agg cs)) (h : leCs cs cs') : Weak N p s ⟨(i, .agg cs') :: s.t, s.o⟩ := by
  intro Γ a w hA
  refine ⟨Γ, ⟨⟨hA.inv.size, hA.inv.defers, fun j q hq => ?_, hA.inv.m⟩, hA.le⟩, Grow.refl _ _ _⟩
  simp only [S.get, look] at hq
  split at hq
  · rename_i e
    subst e
    cases hq
    obtain ⟨h1, xs, h2, h3⟩ := hA.inv.t j _ hi
    exact ⟨h1, xs, h2, leCs_ok h h3⟩
  · exact hA.inv.t j q hq
end Go.Proofs.Ytdndljaaofkenaa
