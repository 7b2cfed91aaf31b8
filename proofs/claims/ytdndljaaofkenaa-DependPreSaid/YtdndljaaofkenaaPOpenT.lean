/- Arguments that are lists of numbers or of texts, texts; the world at the start. (pure walks) -/
import Derived.Test.YtdndljaaofkenaaPOpen
import Derived.Test.YtdndljaaofkenaaPTape
namespace Go.Proofs.Ytdndljaaofkenaa
open Go.ChangeShapes Go.WideShapes Go.ChangeAt Go.RowKit
set_option linter.unusedVariables false
set_option linter.unusedSimpArgs false
theorem sh_ints : shOf Try.prog 30 22 = some [.sl [.int .i64]] := by kernel_rfl
theorem sh_strs : shOf Try.prog 30 27 = some [.sl [.str]] := by kernel_rfl
theorem strs_of {rows : List (List D)} (h : ∀ r ∈ rows, TR [.str] r) : ∃ L : List ByteArray, rows = L.map strD ∧ ∀ x ∈ L, x.size ≤ maxLen := by
  induction rows with
  | nil => exact ⟨[], rfl, by simp⟩
  | cons r rows ih =>
    obtain ⟨L, rfl, h2⟩ := ih fun r' hr' => h r' (by simp [hr'])
    have h1 := h r (by simp)
    simp only [TR, TD] at h1
    obtain ⟨_, _, rfl, ⟨n, rfl, hn⟩, rfl⟩ := h1
    refine ⟨n :: L, rfl, fun x hx => ?_⟩
    rcases List.mem_cons.1 hx with rfl | hx
    · exact hn
    · exact h2 x hx
theorem pin_start (W : World) : Pin W ∧ ∀ b, PinB b → b < W.heap.size := ⟨trivial, fun _ h => h.elim⟩
end Go.Proofs.Ytdndljaaofkenaa
