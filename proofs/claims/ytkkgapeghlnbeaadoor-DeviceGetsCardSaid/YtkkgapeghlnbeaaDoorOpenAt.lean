/- An argument that is a slice of attributes. -/
import Derived.Test.YtkkgapeghlnbeaaDoorOpen
import Derived.Test.YtkkgapeghlnbeaaDoorAttr
namespace Go.Proofs.YtkkgapeghlnbeaaDoor
open Go.ChangeShapes Go.WideShapes Go.ChangeAt Go.RowKit
set_option linter.unusedVariables false
set_option linter.unusedSimpArgs false
set_option maxRecDepth 100000

theorem at_of_trod {H : Type} {enc : TypeId × Value → H} {W : World} {m : Nat} {cs : List Value} {y : DataW H × List MemPlace} (hl : cs.length = 2) (h : DataW.trod enc Tryd.prog W 0 (fun _ => true) true m 58 cs = some y) :
    ∃ e : At, cs = e.cells := by
  obtain ⟨xs, n, _, _, _, hx, hf⟩ := DataW.trod_struct Tryd.underlying58 h
  match cs, hl with
  | [c0, c1], _ =>
    match xs, hx with
    | [y0, y1], _ =>
      have f0 := hf 0 _ rfl
      have f1 := hf 1 _ rfl
      have cs : Tryd.prog.cellsOf 9 = 1 := by kernel_rfl
      simp [cs] at f0 f1
      obtain ⟨s0, e0, _⟩ := DataW.trod_string Tryd.underlying9 f0
      obtain ⟨s1, e1, _⟩ := DataW.trod_string Tryd.underlying9 f1
      simp at e0 e1
      exact ⟨⟨s0, s1⟩, by simp [At.cells, e0, e1]⟩

theorem rows_of_fun {α : Type} {f : α → List Value} {F : Nat → List Value} {n : Nat} {g : Nat → α} (hf : ∀ i, i < n → F i = f (g i)) : (List.range n).flatMap F = rows f ((List.range n).map g) := by
  unfold rows
  rw [List.flatMap_map]
  simp only [List.flatMap_def]
  congr 1
  exact List.map_congr_left fun i hi => hf i (List.mem_range.1 hi)
theorem open_ats {H : Type} {enc : TypeId × Value → H} {W : World} {base : Nat} {v : Value} {d : DataW H} {ps : List MemPlace}
    (hv : Value.okWide Tryd.prog W .any base 26 v) (h : DataW.Trod enc Tryd.prog W 0 (fun _ => true) true 26 v d ps) :
    ∃ (A : Option Addr) (l : List At) (c : Nat), v = .slice A l.length c ∧ l.length ≤ c ∧ c ≤ 9223372036854775807 ∧ Rd W (fun _ => True) 2 A l.length (rows At.cells l) := by
  obtain ⟨A, n, c, F, rfl, h1, h2, h3, h4⟩ := open_rows Tryd.underlying26 (size := 2) (by kernel_rfl) (by decide) hv h
  obtain ⟨f, hf⟩ := Go.Deep.choose_lt (n := n) (p := fun i (e : At) => F i = e.cells) (fun i hi => by
    obtain ⟨hl, m, y, ht⟩ := h3 i hi
    exact at_of_trod hl ht)
  have hn : ((List.range n).map f).length = n := by simp
  refine ⟨A, (List.range n).map f, c, by rw [hn], by rw [hn]; exact h1, by unfold maxLen at h2; omega, by rw [hn, ← rows_of_fun hf]; exact h4⟩
end Go.Proofs.YtkkgapeghlnbeaaDoor
