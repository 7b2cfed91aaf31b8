/- PURE WALKS, sixteenth part: contracts turned: an empty slice is nil or not; nil as an array of one's own; sets as maps. No program in sight. -/
import Derived.Test.YtfojijoekpkheaaDoorPureO
namespace Go.Proofs.YtfojijoekpkheaaDoor
open Go.RowKit
set_option linter.unusedVariables false
set_option linter.unusedSimpArgs false
/-- an argument that is a slice without rows: whatever slice it is -/
theorem pcalls_split0 {P : Program} {g : FuncId} {l1 l2 : List PV} {sz : Nat} {os : List Ob} {R : PV → List Ob → Prop} (h : ∀ A c, PCalls P g (l1 ++ .c (.v (.slice A 0 c)) :: l2) os R) : PCalls P g (l1 ++ .c (.sl sz []) :: l2) os R := by
  intro Γ w xs hm hx
  obtain ⟨a, b, rfl, h1, h2⟩ := hx.split
  obtain ⟨y, m, rfl, h3, h4⟩ := All2.cons_l.1 h2
  obtain ⟨A, c, xs', hy, _⟩ := rd_sl.1 h3
  exact h A c Γ w _ hm (h1.append ⟨⟨hy, rfl⟩, h4⟩)
/-- nil that comes back is an array of one's own without rows -/
theorem pcalls_adopt {P : Program} {g : FuncId} {args : List PV} {os : List Ob} {R R' : PV → List Ob → Prop} (el : TypeId) (sz : Nat) (hsz : 0 < sz) (h : PCalls P g args os R)
    (hR : ∀ r os', R r os' → R' r os' ∨ (r = .c (.v (.slice none 0 0)) ∧ R' (.c (.own os'.length 0)) (os' ++ [.arr el sz []]))) : PCalls P g args os R' := by
  intro Γ w xs hm hx
  refine (h Γ w xs hm hx).mono ?_
  rintro e w' ⟨r, os', Γ', y, rfl, h2, h3, h4, h5, h6⟩
  rcases hR r os' h2 with h7 | ⟨rfl, h7⟩
  · exact ⟨r, os', Γ', y, rfl, h7, h3, h4, h5, h6⟩
  · have hS := Same.refl w'
    have hm2 : MemOk (Γ'.push 0 0) (os' ++ [.arr el sz []]) w' := h5.push hS _ 0 0 ⟨by simp, hsz, fun _ => rfl, fun h => absurd h (by simp [G.push, upd_same])⟩ (fun h => absurd h (by omega))
    have hn := h5.n
    refine ⟨_, _, Γ'.push 0 0, y, rfl, h7, ⟨by simp [G.push, hn], .inl ⟨by rw [← hn]; simp [G.push, upd_same], ⟨none, h3.1⟩, rfl⟩⟩, by simp; omega, hm2, ?_⟩
    exact h6.trans (grow_push h5 (Ext.refl No w') 0 0 (fun h => absurd h (by omega)) (by rw [hn]; exact h4))
/-- only the first n rows of an array are kept -/
theorem weak_trim {N p : Nat} {s : S} (k n : Nat) {el : TypeId} {sz : Nat} {rows : List (List D)} (hk : s.o[k]? = some (.arr el sz rows)) : Weak N p s ⟨s.t, setO s.o k (.arr el sz (rows.take n))⟩ := by
  intro Γ a w hA
  have hm := hA.inv.m
  have hkl : k < s.o.length := (List.getElem?_eq_some_iff.1 hk).1
  refine ⟨Γ, ⟨⟨hA.inv.size, hA.inv.defers, hA.inv.t, ⟨by simp [setO, hm.n], fun j o ho => ?_, hm.sep, hm.off, hm.lt, hm.pin⟩⟩, hA.le⟩, Grow.refl _ _ _⟩
  simp only [setO] at ho
  by_cases e : k = j
  · subst e
    rw [List.getElem?_set_self hkl] at ho
    cases ho
    obtain ⟨g1, g2, g3, g4⟩ := hm.ob k _ hk
    refine ⟨fun r hr => g1 r (List.mem_of_mem_take hr), g2, fun h => by rw [g3 h]; simp, fun hc => ?_⟩
    obtain ⟨cur, b1, b2, b3, b4, b5⟩ := g4 hc
    refine ⟨cur, b1, b2, by rw [List.length_take]; omega, b4, ?_⟩
    rcases Nat.lt_or_ge rows.length n with h | h
    · rw [List.take_of_length_le (by omega)]; exact b5
    · have := b5.take (n * sz)
      rw [take_rows g1 h, List.take_take, Nat.min_eq_left (Nat.mul_le_mul_right _ h)] at this
      rw [List.length_take, Nat.min_eq_left h]
      exact this
  · rw [List.getElem?_set_ne e] at ho
    exact hm.ob j o ho
/-! ### sets of texts as maps -/
def inM (s : ByteArray) (l : List ByteArray) : Bool := l.any fun x => decide (x = s)
theorem inM_iff {s : ByteArray} {l : List ByteArray} : inM s l = true ↔ s ∈ l := by
  simp only [inM, List.any_eq_true, decide_eq_true_eq]
  exact ⟨fun ⟨x, h, e⟩ => e ▸ h, fun h => ⟨s, h, rfl⟩⟩
theorem inM_false {s : ByteArray} {l : List ByteArray} : inM s l = false ↔ s ∉ l := by rw [← inM_iff]; simp
theorem inM_cons (s a : ByteArray) (l : List ByteArray) : inM s (a :: l) = (decide (a = s) || inM s l) := rfl
theorem inM_nil (s : ByteArray) : inM s [] = false := rfl
def setE (l : List ByteArray) : List (MK × List D) := l.map fun s => (.s s, [.v (.bool true)])
def addS (l : List ByteArray) (s : ByteArray) : List ByteArray := if inM s l = true then l else l ++ [s]
theorem mget_set (s : ByteArray) : ∀ l : List ByteArray, mget (setE l) (.s s) = if inM s l = true then some [.v (.bool true)] else none
  | [] => rfl
  | a :: l => by
    have ih := mget_set s l
    simp only [setE, List.map_cons, mget, MK.s.injEq, inM_cons] at ih ⊢
    by_cases h : a = s
    · simp [h]
    · rw [if_neg h, ih]
      simp [h]
theorem mput_set (s : ByteArray) : ∀ l : List ByteArray, mput (setE l) (.s s) [.v (.bool true)] = setE (addS l s)
  | [] => rfl
  | a :: l => by
    have ih := mput_set s l
    by_cases h : a = s
    · subst h; simp [setE, mput, addS, inM_cons]
    · cases hm : inM s l
      · simp only [setE, List.map_cons, mput, MK.s.injEq, h, if_false, addS, hm, inM_cons, decide_false, Bool.false_or, Bool.false_eq_true, List.map_append, List.map_nil, List.cons_append] at ih ⊢
        rw [ih]
      · simp only [setE, List.map_cons, mput, MK.s.injEq, h, if_false, addS, hm, inM_cons, decide_false, Bool.false_or, if_true] at ih ⊢
        rw [ih]
theorem lk_set (l : List ByteArray) (s : ByteArray) : lkP false (.c (.v (.bool false))) false (mget (setE l) (.s s)) = some (.c (.v (.bool (inM s l)))) := by
  rw [mget_set]
  cases h : inM s l <;> simp [lkP, rowP, okP, D.e]
theorem mem_addS {l : List ByteArray} {s x : ByteArray} : x ∈ addS l s ↔ x ∈ l ∨ x = s := by
  unfold addS
  split
  · rename_i h
    rw [inM_iff] at h
    constructor
    · exact .inl
    · rintro (h' | rfl)
      · exact h'
      · exact h
  · simp
theorem nodup_addS {l : List ByteArray} {s : ByteArray} (h : l.Nodup) : (addS l s).Nodup := by
  unfold addS
  split
  · exact h
  · rename_i h'
    rw [inM_iff] at h'
    rw [List.nodup_append]
    refine ⟨h, by simp, ?_⟩
    rintro a ha b hb rfl
    simp at hb
    subst hb
    exact h' ha
theorem setE_nil : setE [] = [] := rfl
theorem getD_snoc {α : Type} (l : List α) (a d : α) : (l ++ [a]).getD l.length d = a := by simp [List.getD]
attribute [push_cast] lk_set mput_set setE_nil
end Go.Proofs.YtfojijoekpkheaaDoor
