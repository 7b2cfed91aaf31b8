/- What the package variables hold that are read and never written: here nothing is known of any. (A seat whose code reads one has a text of its own under this name: see XPinM.) -/
import Derived.Test.YtdndljaaofkenaaBase
namespace Go.Proofs.Ytdndljaaofkenaa
/-- what is known of the world at all times -/
def Pin (w : World) : Prop := True
/-- the blocks that this is about -/
def PinB (b : Nat) : Prop := False
theorem Pin.stay {w w' : World} (h : ∀ b, PinB b → w'.heap[b]? = w.heap[b]?) (hp : Pin w) : Pin w' := trivial
end Go.Proofs.Ytdndljaaofkenaa
