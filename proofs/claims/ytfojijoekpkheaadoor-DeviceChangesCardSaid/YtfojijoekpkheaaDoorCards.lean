/-
  DERIVED. GIVEN WITH THE SEED: THE CARDS: each row of YtfojijoekpkheaaDoorRows.lean that lists a variable, with what it lists TIED to the program's text (the seventh form; the later family's looks); each row that meets fmt, with fmt's text TOLD by the authors' own Lean function (tested against real Go, not proved from fmt's source: count such statements apart). THE CARD IS WHAT COUNTS. Prove the row's statement (the work); the ties are given (YtfojijoekpkheaaDoorTie.lean); close each card by the builder's one call (the guide's Derived/Test/ToyasCard.lean, 'card_holds'). Laid BY PROGRAM, IN A SANDBOX (cutbox-door.mjs). By AI agents, Wed Nov 11 2026. No macro, syntax, notation, axiom, sorry.
-/
import Derived.Test.YtfojijoekpkheaaDoorRows
import GoSem.ClaimSeven
namespace Go.Proofs.YtfojijoekpkheaaDoor
namespace Rows

/-- THE TIED CARD OF 'coldpluglaw03.DeviceChanges'. -/
def deviceChangesCard : Claim7 := { stood := { row := deviceChangesRow, standIns := [], harness := (true, "b868633f9fe29287c302501e2b36e81e2e974808ffb01524957769a34fae7892"), looks := false }, kinds := [], alts := [], laidByText := true, laidKinds := [.data, .pinned], laidTests := true, laidLooks := .later }
def DeviceChangesCardSaid : Prop := Claim7.holds Tryd.pinned (.plain (OpenSpec.ofChange deviceChangesSpec)) deviceChangesCard

/-- THE TIED CARD OF 'coldpluglaw03.DeviceNodes'. -/
def deviceNodesCard : Claim7 := { stood := { row := deviceNodesRow, standIns := [], harness := (true, "b868633f9fe29287c302501e2b36e81e2e974808ffb01524957769a34fae7892"), looks := false }, kinds := [], alts := [], laidByText := true, laidKinds := [.data, .pinned, .pinned], laidTests := true, laidLooks := .later }
def DeviceNodesCardSaid : Prop := Claim7.holds Tryd.pinned (.plain (OpenSpec.ofChange deviceNodesSpec)) deviceNodesCard

/-- THE TIED CARD OF 'coldpluglaw03.DeviceChecks'. -/
def deviceChecksCard : Claim7 := { stood := { row := deviceChecksRow, standIns := [], harness := (true, "b868633f9fe29287c302501e2b36e81e2e974808ffb01524957769a34fae7892"), looks := false }, kinds := [], alts := [], laidByText := true, laidKinds := [.data, .pinned, .pinned], laidTests := true, laidLooks := .later }
def DeviceChecksCardSaid : Prop := Claim7.holds Tryd.pinned (.plain (OpenSpec.ofChange deviceChecksSpec)) deviceChecksCard

/-- THE SECOND FORM's CARD OF 'coldpluglaw03.DeviceChanges'. -/
def deviceChangesUptoCard : Claim7 := { stood := { row := deviceChangesUptoRow, standIns := [], harness := (true, "b868633f9fe29287c302501e2b36e81e2e974808ffb01524957769a34fae7892"), looks := false }, kinds := [], alts := [], laidByText := true, laidKinds := [.data, .pinned], laidTests := true, laidLooks := .later }
def DeviceChangesUptoCardSaid : Prop := Claim7.holds Tryd.pinned (.plain (OpenSpec.upto deviceChangesSpec)) deviceChangesUptoCard

/-- THE SECOND FORM's CARD OF 'coldpluglaw03.DeviceNodes'. -/
def deviceNodesUptoCard : Claim7 := { stood := { row := deviceNodesUptoRow, standIns := [], harness := (true, "b868633f9fe29287c302501e2b36e81e2e974808ffb01524957769a34fae7892"), looks := false }, kinds := [], alts := [], laidByText := true, laidKinds := [.data, .pinned, .pinned], laidTests := true, laidLooks := .later }
def DeviceNodesUptoCardSaid : Prop := Claim7.holds Tryd.pinned (.plain (OpenSpec.upto deviceNodesSpec)) deviceNodesUptoCard

/-- THE SECOND FORM's CARD OF 'coldpluglaw03.DeviceChecks'. -/
def deviceChecksUptoCard : Claim7 := { stood := { row := deviceChecksUptoRow, standIns := [], harness := (true, "b868633f9fe29287c302501e2b36e81e2e974808ffb01524957769a34fae7892"), looks := false }, kinds := [], alts := [], laidByText := true, laidKinds := [.data, .pinned, .pinned], laidTests := true, laidLooks := .later }
def DeviceChecksUptoCardSaid : Prop := Claim7.holds Tryd.pinned (.plain (OpenSpec.upto deviceChecksSpec)) deviceChecksUptoCard
end Rows
end Go.Proofs.YtfojijoekpkheaaDoor
