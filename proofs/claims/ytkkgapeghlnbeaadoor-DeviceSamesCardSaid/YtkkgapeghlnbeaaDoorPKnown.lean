/- The law's own check known, as a pure contract. -/
import Derived.Test.YtkkgapeghlnbeaaDoorPSame
import Derived.Test.YtkkgapeghlnbeaaDoorKnown
namespace Go.Proofs.YtkkgapeghlnbeaaDoor
open Go.RowKit
set_option linter.unusedVariables false
set_option linter.unusedSimpArgs false
theorem known_pure : PCalls Tryd.prog 16 [] [] fun r os => r = .c (.v (.bool true)) ∧ os = [] := fun Γ w xs hm hx => by
  rw [All2.nil_l] at hx
  subst hx
  refine (known_walk w hm.pin.1).mono ?_
  rintro e w' ⟨rfl, hE⟩
  exact ⟨_, [], Γ, _, rfl, ⟨rfl, rfl⟩, ⟨rfl, rfl⟩, Nat.le_refl _, hm.same (Same.of_ext hE), ext_grow hE⟩
theorem pin_start {W : World} (hsh : W.ShapedOpen Tryd.prog) : Pin W ∧ ∀ b, PinB b → b < W.heap.size :=
  ⟨maxLen_of hsh, fun b hb => by have h : b = 0 := hb; subst h; exact (maxLen_of hsh).lt⟩
end Go.Proofs.YtkkgapeghlnbeaaDoor
