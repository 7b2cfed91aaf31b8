/- PURE WALKS, seventeenth part: the last row of an array, seen with less. No program in sight. -/
import Derived.Test.YtdndljaaofkenaaPureP
namespace Go.Proofs.Ytdndljaaofkenaa
open Go.RowKit
set_option linter.unusedVariables false
set_option linter.unusedSimpArgs false
/-- what r says, r' says with less: an empty slice is a list without rows -/
def leD : D → D → Prop
  | .v x, .v y => x = y
  | .v x, .sl _ l => isEmp x = true ∧ l = []
  | .sl sz l, .sl sz' l' => sz = sz' ∧ l = l'
  | _, _ => False
def leDs : List D → List D → Prop
  | [], [] => True
  | a :: l, b :: m => leD a b ∧ leDs l m
  | _, _ => False
theorem leD_ok {w : World} {I : Nat → Prop} {d d' : D} {y : Value} (h : leD d d') (hr : RD w I d y) : RD w I d' y := by
  cases d with
  | v x =>
    cases d' with
    | v z => obtain rfl : x = z := h; exact hr
    | sl sz l =>
      obtain ⟨h, rfl⟩ := h
      obtain ⟨A, c, rfl⟩ := isEmp_ok h
      rw [RD] at hr
      rw [rd_sl, hr.1]
      exact ⟨A, c, [], rfl, Nat.zero_le _, Rd.nil, by simp, trivial⟩
  | sl sz l =>
    cases d' with
    | v z => exact h.elim
    | sl sz' l' => obtain ⟨rfl, rfl⟩ := h; exact hr
theorem leDs_ok {w : World} {I : Nat → Prop} : ∀ {r r' : List D} {ys : List Value}, leDs r r' → All2 (RD w I) r ys → All2 (RD w I) r' ys
  | [], [], _, _, hr => hr
  | a :: l, b :: m, y :: ys, h, hr => ⟨leD_ok h.1 hr.1, leDs_ok h.2 hr.2⟩
  | _ :: _, _ :: _, [], _, hr => hr.elim
  | [], _ :: _, _, h, _ => h.elim
  | _ :: _, [], _, h, _ => h.elim
theorem leDs_length : ∀ {r r' : List D}, leDs r r' → r.length = r'.length
  | [], [], _ => rfl
  | a :: l, b :: m, h => by simp [leDs_length h.2]
  | [], _ :: _, h => h.elim
  | _ :: _, [], h => h.elim
attribute [push_cast] leD leDs
/-- the last row of an array, seen with less -/
theorem weak_last {N p : Nat} {s : S} (k : Nat) {el : TypeId} {sz : Nat} {pre : List (List D)} {r : List D} (r' : List D) (hk : s.o[k]? = some (.arr el sz (pre ++ [r]))) (h : leDs r r') : Weak N p s ⟨s.t, setO s.o k (.arr el sz (pre ++ [r']))⟩ := by
  intro Γ a w hA
  have hm := hA.inv.m
  have hkl : k < s.o.length := (List.getElem?_eq_some_iff.1 hk).1
  refine ⟨Γ, ⟨⟨hA.inv.size, hA.inv.defers, hA.inv.t, ⟨by simp [setO, hm.n], fun j o ho => ?_, hm.sep, hm.off, hm.lt, hm.pin⟩⟩, hA.le⟩, Grow.refl _ _ _⟩
  simp only [setO] at ho
  by_cases e : k = j
  · subst e
    rw [List.getElem?_set_self hkl] at ho
    cases ho
    obtain ⟨g1, g2, g3, g4⟩ := hm.ob k _ hk
    refine ⟨fun x hx => ?_, g2, fun h => absurd (g3 h) (by simp), fun hc => ?_⟩
    · rcases List.mem_append.1 hx with hx | hx
      · exact g1 x (by simp [hx])
      · simp at hx; subst hx; rw [← leDs_length h]; exact g1 r (by simp)
    obtain ⟨cur, b1, b2, b3, b4, b5⟩ := g4 hc
    refine ⟨cur, b1, b2, by simpa using b3, b4, ?_⟩
    have e2 : (pre ++ [r']).length = (pre ++ [r]).length := by simp
    rw [e2]
    rw [List.flatten_append] at b5 ⊢
    obtain ⟨x1, x2, hx, h1, h2⟩ := b5.split
    rw [hx]
    refine h1.append ?_
    simp only [List.flatten_cons, List.flatten_nil, List.append_nil] at h2 ⊢
    exact leDs_ok h h2
  · rw [List.getElem?_set_ne e] at ho
    exact hm.ob j o ho
def leRows : List (List D) → List (List D) → Prop
  | [], [] => True
  | a :: l, b :: m => leDs a b ∧ leRows l m
  | _, _ => False
theorem leRows_ok {w : World} {I : Nat → Prop} : ∀ {r r' : List (List D)} {ys : List Value}, leRows r r' → All2 (RD w I) r.flatten ys → All2 (RD w I) r'.flatten ys
  | [], [], _, _, hr => hr
  | a :: l, b :: m, ys, h, hr => by
    simp only [List.flatten_cons] at hr ⊢
    obtain ⟨x, y, rfl, h1, h2⟩ := hr.split
    exact (leDs_ok h.1 h1).append (leRows_ok h.2 h2)
  | [], _ :: _, _, h, _ => h.elim
  | _ :: _, [], _, h, _ => h.elim
theorem leRows_length : ∀ {r r' : List (List D)}, leRows r r' → r.length = r'.length
  | [], [], _ => rfl
  | a :: l, b :: m, h => by simp [leRows_length h.2]
  | [], _ :: _, h => h.elim
  | _ :: _, [], h => h.elim
theorem leRows_mem {sz : Nat} : ∀ {r r' : List (List D)}, leRows r r' → (∀ x ∈ r, x.length = sz) → ∀ x ∈ r', x.length = sz
  | [], [], _, _, x, hx => by simp at hx
  | a :: l, b :: m, h, hr, x, hx => by
    rcases List.mem_cons.1 hx with rfl | hx
    · rw [← leDs_length h.1]; exact hr a (by simp)
    · exact leRows_mem h.2 (fun y hy => hr y (by simp [hy])) x hx
  | [], _ :: _, h, _, _, _ => h.elim
  | _ :: _, [], h, _, _, _ => h.elim
attribute [push_cast] leRows
/-- a slice of data in a slot, its rows seen with less -/
theorem weak_rows {N p : Nat} {s : S} (i : Nat) {sz : Nat} {l : List (List D)} (l' : List (List D)) (hi : s.get i = some (.c (.full sz l))) (h : leRows l l') : Weak N p s ⟨(i, .c (.sl sz l')) :: s.t, s.o⟩ := by
  intro Γ a w hA
  refine ⟨Γ, ⟨⟨hA.inv.size, hA.inv.defers, fun j q hq => ?_, hA.inv.m⟩, hA.le⟩, Grow.refl _ _ _⟩
  simp only [S.get, look] at hq
  split at hq
  · rename_i e
    subst e
    cases hq
    obtain ⟨h1, h2, _⟩ := hA.inv.t j _ hi
    refine ⟨h1, ?_⟩
    obtain ⟨A, c, xs, h3, h4, h5, h6, h7⟩ := rd_sl.1 h2
    show RD w Γ.I (.sl sz l') _
    rw [rd_sl, h3]
    have hl := leRows_length h
    exact ⟨A, c, xs, by rw [hl], by omega, by rw [← hl]; exact h5, leRows_mem h h6, leRows_ok h h7⟩
  · exact hA.inv.t j q hq
end Go.Proofs.Ytdndljaaofkenaa
