/- An argument that is a slice of events. -/
import Derived.Test.YtfibfahgdjhhkaaOpen
import Derived.Test.YtfibfahgdjhhkaaSockC
namespace Go.Proofs.Ytfibfahgdjhhkaa
open Go.ChangeShapes Go.WideShapes Go.ChangeAt Go.RowKit
set_option linter.unusedVariables false
set_option linter.unusedSimpArgs false
instance : Inhabited Ev := ⟨⟨0, 0, 0, ByteArray.empty, ByteArray.empty⟩⟩

theorem ev_of_trod {H : Type} {enc : TypeId × Value → H} {W : World} {m : Nat} {cs : List Value} {y : DataW H × List MemPlace} (hl : cs.length = 5) (h : DataW.trod enc Try.prog W 0 (fun _ => true) true m 42 cs = some y) :
    ∃ e : Ev, cs = e.cells := by
  obtain ⟨xs, n, _, _, _, hx, hf⟩ := DataW.trod_struct Try.underlying42 h
  match cs, hl with
  | [c0, c1, c2, c3, c4], _ =>
    match xs, hx with
    | [y0, y1, y2, y3, y4], _ =>
      have f0 := hf 0 _ rfl
      have f1 := hf 1 _ rfl
      have f2 := hf 2 _ rfl
      have f3 := hf 3 _ rfl
      have f4 := hf 4 _ rfl
      have ci : Try.prog.cellsOf 3 = 1 := by kernel_rfl
      have cs : Try.prog.cellsOf 9 = 1 := by kernel_rfl
      simp [ci, cs] at f0 f1 f2 f3 f4
      obtain ⟨n0, e0, _⟩ := DataW.trod_int Try.underlying3 f0
      obtain ⟨n1, e1, _⟩ := DataW.trod_int Try.underlying3 f1
      obtain ⟨n2, e2, _⟩ := DataW.trod_int Try.underlying3 f2
      obtain ⟨s3, e3, _⟩ := DataW.trod_string Try.underlying9 f3
      obtain ⟨s4, e4, _⟩ := DataW.trod_string Try.underlying9 f4
      simp at e0 e1 e2 e3 e4
      exact ⟨⟨n0, n1, n2, s3, s4⟩, by simp [Ev.cells, e0, e1, e2, e3, e4]⟩

theorem open_evs {H : Type} {enc : TypeId × Value → H} {W : World} {base : Nat} {v : Value} {d : DataW H} {ps : List MemPlace}
    (hv : Value.okWide Try.prog W .any base 23 v) (h : DataW.Trod enc Try.prog W 0 (fun _ => true) true 23 v d ps) :
    ∃ (A : Option Addr) (l : List Ev) (c : Nat), v = .slice A l.length c ∧ l.length ≤ c ∧ c ≤ 9223372036854775807 ∧ Rd W (fun _ => True) 5 A l.length (flat l) := by
  obtain ⟨A, n, c, F, rfl, h1, h2, h3, h4⟩ := open_rows Try.underlying23 (size := 5) (by kernel_rfl) (by decide) hv h
  obtain ⟨f, hf⟩ := Go.Deep.choose_lt (n := n) (p := fun i (e : Ev) => F i = e.cells) (fun i hi => by
    obtain ⟨hl, m, y, ht⟩ := h3 i hi
    exact ev_of_trod hl ht)
  have hfl : (List.range n).flatMap F = flat ((List.range n).map f) := by
    unfold flat
    rw [List.flatMap_map]
    simp only [List.flatMap_def]
    congr 1
    exact List.map_congr_left fun i hi => hf i (List.mem_range.1 hi)
  have hn : ((List.range n).map f).length = n := by simp
  refine ⟨A, (List.range n).map f, c, by rw [hn], by rw [hn]; exact h1, by unfold maxLen at h2; omega, by rw [hn, ← hfl]; exact h4⟩
end Go.Proofs.Ytfibfahgdjhhkaa
