/- Arguments that are devices, or lists of attributes. (pure walks) -/
import Derived.Test.YtkkgapeghlnbeaaDoorPOpen
import Derived.Test.YtkkgapeghlnbeaaDoorPDev
namespace Go.Proofs.YtkkgapeghlnbeaaDoor
open Go.ChangeShapes Go.WideShapes Go.ChangeAt Go.RowKit
set_option linter.unusedVariables false
set_option linter.unusedSimpArgs false
def shAt : List Sh := [.str, .str]
def shDev : List Sh := [.int .i64, .int .i64, .str, .str, .str, .str, .str, .int .i64, .int .i64, .sl shAt]
theorem at_dec (r : List D) (h : TR shAt r) : ∃ x : Atr, r = x.d := by
  simp only [shAt, TR, TD] at h
  obtain ⟨_, _, rfl, ⟨a, rfl, _⟩, _, _, rfl, ⟨b, rfl, _⟩, rfl⟩ := h
  exact ⟨⟨a, b⟩, rfl⟩
theorem dev_dec (ds : List D) (h : TR shDev ds) : ∃ d : Dev, ds.map D.e = d.e ∧ d.attrs.length ≤ 9223372036854775807 := by
  simp only [shDev, TR, TD] at h
  obtain ⟨_, _, rfl, ⟨a1, rfl, _⟩, _, _, rfl, ⟨a2, rfl, _⟩, _, _, rfl, ⟨a3, rfl, _⟩, _, _, rfl, ⟨a4, rfl, _⟩, _, _, rfl, ⟨a5, rfl, _⟩, _, _, rfl, ⟨a6, rfl, _⟩, _, _, rfl, ⟨a7, rfl, _⟩, _, _, rfl, ⟨a8, rfl, _⟩, _, _, rfl, ⟨a9, rfl, _⟩, _, _, rfl, ⟨rows, rfl, hl, hr⟩, rfl⟩ := h
  obtain ⟨l, rfl⟩ := rows_of hr at_dec
  refine ⟨⟨a1, a2, a3, a4, a5, a6, a7, a8, a9, l⟩, rfl, ?_⟩
  simpa [maxLen] using hl
theorem sh_dev : shOf Tryd.prog 30 40 = some shDev := by kernel_rfl
theorem sh_ints : shOf Tryd.prog 30 22 = some [.sl [.int .i64]] := by kernel_rfl
end Go.Proofs.YtkkgapeghlnbeaaDoor
