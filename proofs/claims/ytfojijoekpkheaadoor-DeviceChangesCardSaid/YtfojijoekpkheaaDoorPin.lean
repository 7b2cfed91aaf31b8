/- What the package variables hold that are read and never written: internal/bytealg.MaxLen reads as some integer. -/
import Derived.Test.YtfojijoekpkheaaDoorBase
namespace Go.Proofs.YtfojijoekpkheaaDoor
/-- what is known of the world at all times: internal/bytealg.MaxLen reads as some integer -/
def Pin (w : World) : Prop := ∃ m, w.cell? ⟨0, 0, none⟩ = some (.int .i64 m)
/-- the blocks that this is about -/
def PinB (b : Nat) : Prop := b = 0
theorem Pin.stay {w w' : World} (h : ∀ b, PinB b → w'.heap[b]? = w.heap[b]?) (hp : Pin w) : Pin w' := by
  obtain ⟨m, hm⟩ := hp
  exact ⟨m, (World.cell?_of_block (h 0 rfl)).trans hm⟩
end Go.Proofs.YtfojijoekpkheaaDoor
