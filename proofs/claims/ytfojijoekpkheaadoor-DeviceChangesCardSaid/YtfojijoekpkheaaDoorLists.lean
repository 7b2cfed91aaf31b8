/- Slices that read as lists: elements of any fixed number of cells. No program in sight. -/
import Derived.Test.YtfojijoekpkheaaDoorBase
namespace Go.Proofs.YtfojijoekpkheaaDoor
open Go.RowKit
set_option linter.unusedVariables false
set_option linter.unusedSimpArgs false

section
variable {α : Type} {f : α → List Value} {size : Nat}
def rows (f : α → List Value) (l : List α) : List Value := l.flatMap f
theorem rows_nil : rows f [] = [] := rfl
theorem rows_cons (x : α) (l : List α) : rows f (x :: l) = f x ++ rows f l := by simp [rows]
theorem rows_append (l m : List α) : rows f (l ++ m) = rows f l ++ rows f m := by simp [rows]
theorem rows_length (hf : ∀ x, (f x).length = size) (l : List α) : (rows f l).length = l.length * size := by
  induction l with
  | nil => simp [rows]
  | cons x l ih => rw [rows_cons, List.length_append, hf, ih, List.length_cons, Nat.add_mul]; omega
theorem rows_get (hf : ∀ x, (f x).length = size) (hp : 0 < size) (l : List α) : ∀ j, (rows f l)[j]? = (l[j / size]?).bind fun x => (f x)[j % size]? := by
  induction l with
  | nil => intro j; simp [rows]
  | cons x l ih =>
    intro j
    rw [rows_cons]
    by_cases hj : j < size
    · rw [List.getElem?_append_left (by rw [hf]; exact hj), Nat.div_eq_of_lt hj, Nat.mod_eq_of_lt hj]; simp
    · rw [List.getElem?_append_right (by rw [hf]; omega), hf, ih]
      have h1 : j / size = (j - size) / size + 1 := by
        conv => lhs; rw [show j = (j - size) + size by omega]
        exact Nat.add_div_right _ hp
      have h2 : j % size = (j - size) % size := by
        conv => lhs; rw [show j = (j - size) + size by omega]
        exact Nat.add_mod_right _ _
      rw [h1, h2]; simp
theorem rows_one (h1 : ∀ x, ∀ v ∈ f x, v.oneCell' = true) (l : List α) : ∀ v ∈ rows f l, v.oneCell' = true := by
  intro v hv
  simp only [rows, List.mem_flatMap] at hv
  obtain ⟨x, _, hx⟩ := hv
  exact h1 x v hx
theorem rows_take (hf : ∀ x, (f x).length = size) (l : List α) (k : Nat) (h : k ≤ l.length) : (rows f l).take (k * size) = rows f (l.take k) := by
  have h1 := rows_append (f := f) (l.take k) (l.drop k)
  rw [List.take_append_drop] at h1
  have h2 : (rows f (l.take k)).length = k * size := by rw [rows_length hf, List.length_take, Nat.min_eq_left h]
  rw [h1, List.take_append_of_le_length (by omega), List.take_of_length_le (by omega)]
theorem rows_drop (hf : ∀ x, (f x).length = size) (l : List α) (k : Nat) (h : k ≤ l.length) : (rows f l).drop (k * size) = rows f (l.drop k) := by
  have h1 := rows_append (f := f) (l.take k) (l.drop k)
  rw [List.take_append_drop] at h1
  have h2 : (rows f (l.take k)).length = k * size := by rw [rows_length hf, List.length_take, Nat.min_eq_left h]
  rw [h1, List.drop_append_of_le_length (by omega), List.drop_eq_nil_of_le (by omega), List.nil_append]

/-- the slice value v reads as the list l, in blocks that P allows -/
def Sl (w : World) (P : Nat → Prop) (size : Nat) (f : α → List Value) (v : Value) (l : List α) : Prop := ∃ A c, v = .slice A l.length c ∧ l.length ≤ c ∧ Rd w P size A l.length (rows f l)
variable {w w' : World} {P Q S : Nat → Prop} {v : Value} {l : List α}
theorem Sl.ext (h : Sl w P size f v l) (e : Ext S w w') (hS : ∀ b, P b → ¬ S b) : Sl w' P size f v l := by
  obtain ⟨A, c, rfl, hc, hr⟩ := h
  exact ⟨A, c, rfl, hc, hr.ext e hS⟩
theorem Sl.more (h : Sl w P size f v l) (hP : ∀ b, P b → Q b) : Sl w Q size f v l := by
  obtain ⟨A, c, rfl, hc, hr⟩ := h
  exact ⟨A, c, rfl, hc, hr.more hP⟩
theorem Sl.drewN (h : Sl w P size f v l) (n : Nat) : Sl (w.drewN n) P size f v l := h
theorem Sl.drew (h : Sl w P size f v l) : Sl w.drew P size f v l := h
theorem Sl.lt (h : Sl w P size f v l) : Sl w (fun b => P b ∧ b < w.heap.size) size f v l := by
  obtain ⟨A, c, rfl, hc, hr⟩ := h
  exact ⟨A, c, rfl, hc, hr.and hr.lt⟩
theorem Sl.nil : Sl w P size f (.slice none 0 0) [] := ⟨none, 0, rfl, Nat.le_refl _, Rd.nil⟩
theorem Sl.own {base : Nat} {e : TypeId} {n : Nat} (h : w.ownsRow base e size v n (rows f l)) (hn : n = l.length) : Sl w (base ≤ ·) size f v l := by
  subst hn
  obtain ⟨A, c, rfl, hc, _, hr⟩ := own_form h
  exact ⟨A, c, rfl, hc, hr⟩
/-- element k's cells -/
theorem rd_row (hf : ∀ x, (f x).length = size) (hp : 0 < size) {A : Option Addr} (h : Rd w P size A l.length (rows f l)) {k : Nat} (hk : k < l.length) :
    ∃ b o, A = some ⟨b, o, none⟩ ∧ P b ∧ b < w.heap.size ∧ ∀ j u, (f l[k])[j]? = some u → w.cell? ⟨b, o + k * size + j, none⟩ = some u := by
  obtain ⟨b, o, rfl, hb, hlt, hc⟩ := h.get (by omega)
  refine ⟨b, o, rfl, hb, hlt, fun j u hu => ?_⟩
  have hj : j < size := by
    have := (List.getElem?_eq_some_iff.1 hu).1
    rwa [hf] at this
  rw [Nat.add_assoc]
  refine hc _ u ?_
  rw [rows_get hf hp, show (k * size + j) / size = k by rw [Nat.mul_comm, Nat.mul_add_div hp, Nat.div_eq_of_lt hj]; omega, show (k * size + j) % size = j by rw [Nat.mul_comm, Nat.mul_add_mod, Nat.mod_eq_of_lt hj]]
  simp [hk, hu]
end
end Go.Proofs.YtfojijoekpkheaaDoor
