/- Arguments that are lists of numbers, texts; the world at the start (PIN=M). (pure walks) -/
import Derived.Test.YtfojijoekpkheaaDoorPOpen
import Derived.Test.YtfojijoekpkheaaDoorPTape
import Derived.Shelf.Vars
namespace Go.Proofs.YtfojijoekpkheaaDoor
open Go.ChangeShapes Go.WideShapes Go.ChangeAt Go.RowKit
set_option linter.unusedVariables false
set_option linter.unusedSimpArgs false
theorem sh_ints : shOf Tryd.prog 30 22 = some [.sl [.int .i64]] := by kernel_rfl
theorem pinM_of {w : World} (h : w.ShapedOpen Tryd.prog) : Pin w :=
  Go.Proofs.cell_of_shapedOpen_int (zero := #[.int .i64 0]) (t := 3) h (of_decide_eq_true (by kernel_rfl)) (by kernel_rfl) rfl (by kernel_rfl) (by kernel_rfl) Tryd.underlying3
theorem pinM_lt {w : World} (h : Pin w) : 0 < w.heap.size := by
  obtain ⟨m, hm⟩ := h
  rcases Nat.eq_zero_or_pos w.heap.size with h0 | h0
  · rw [World.cell?, Array.getElem?_eq_none (by rw [h0]; exact Nat.le_refl _)] at hm
    simp at hm
  · exact h0
theorem pin_start {W : World} (hsh : W.ShapedOpen Tryd.prog) : Pin W ∧ ∀ b, PinB b → b < W.heap.size :=
  ⟨pinM_of hsh, fun b hb => by have h : b = 0 := hb; subst h; exact pinM_lt (pinM_of hsh)⟩
end Go.Proofs.YtfojijoekpkheaaDoor
