/-
  DERIVED. GIVEN WITH THE SEED: THE CARDS: each row of YtkkgapeghlnbeaaDoorRows.lean that lists a variable, with what it lists TIED to the program's text (the seventh form; the later family's looks); each row that meets fmt, with fmt's text TOLD by the authors' own Lean function (tested against real Go, not proved from fmt's source: count such statements apart). THE CARD IS WHAT COUNTS. Prove the row's statement (the work); the ties are given (YtkkgapeghlnbeaaDoorTie.lean); close each card by the builder's one call (the guide's Derived/Test/ToyasCard.lean, 'card_holds'). Laid BY PROGRAM, IN A SANDBOX (cutbox-door.mjs). By AI agents, Wed Nov 11 2026. No macro, syntax, notation, axiom, sorry.
-/
import Derived.Test.YtkkgapeghlnbeaaDoorRows
import GoSem.ClaimSeven
namespace Go.Proofs.YtkkgapeghlnbeaaDoor
namespace Rows

/-- THE TIED CARD OF 'coldpluglaw03.DeviceSets'. -/
def deviceSetsCard : Claim7 := { stood := { row := deviceSetsRow, standIns := [], harness := (true, "eb1b67f9719743c1d34d27e13cfefcbfa13c4b2044910448a3b45e52d7fc7510"), looks := false }, kinds := [], alts := [], laidByText := true, laidKinds := [.data, .pinned], laidTests := true, laidLooks := .later }
def DeviceSetsCardSaid : Prop := Claim7.holds Tryd.pinned (.plain (OpenSpec.ofChange deviceSetsSpec)) deviceSetsCard

/-- THE TIED CARD OF 'coldpluglaw03.DeviceGets'. -/
def deviceGetsCard : Claim7 := { stood := { row := deviceGetsRow, standIns := [], harness := (true, "eb1b67f9719743c1d34d27e13cfefcbfa13c4b2044910448a3b45e52d7fc7510"), looks := false }, kinds := [], alts := [], laidByText := true, laidKinds := [.data, .pinned], laidTests := true, laidLooks := .later }
def DeviceGetsCardSaid : Prop := Claim7.holds Tryd.pinned (.plain (OpenSpec.ofChange deviceGetsSpec)) deviceGetsCard

/-- THE TIED CARD OF 'coldpluglaw03.DeviceSetMeans'. -/
def deviceSetMeansCard : Claim7 := { stood := { row := deviceSetMeansRow, standIns := [], harness := (true, "eb1b67f9719743c1d34d27e13cfefcbfa13c4b2044910448a3b45e52d7fc7510"), looks := false }, kinds := [], alts := [], laidByText := true, laidKinds := [.data, .pinned], laidTests := true, laidLooks := .later }
def DeviceSetMeansCardSaid : Prop := Claim7.holds Tryd.pinned (.plain (OpenSpec.ofChange deviceSetMeansSpec)) deviceSetMeansCard

/-- THE TIED CARD OF 'coldpluglaw03.DeviceSames'. -/
def deviceSamesCard : Claim7 := { stood := { row := deviceSamesRow, standIns := [], harness := (true, "eb1b67f9719743c1d34d27e13cfefcbfa13c4b2044910448a3b45e52d7fc7510"), looks := false }, kinds := [], alts := [], laidByText := true, laidKinds := [.data, .pinned], laidTests := true, laidLooks := .later }
def DeviceSamesCardSaid : Prop := Claim7.holds Tryd.pinned (.plain (OpenSpec.ofChange deviceSamesSpec)) deviceSamesCard

/-- THE TIED CARD OF 'coldpluglaw03.DeviceChanges'. -/
def deviceChangesCard : Claim7 := { stood := { row := deviceChangesRow, standIns := [], harness := (true, "eb1b67f9719743c1d34d27e13cfefcbfa13c4b2044910448a3b45e52d7fc7510"), looks := false }, kinds := [], alts := [], laidByText := true, laidKinds := [.data, .pinned], laidTests := true, laidLooks := .later }
def DeviceChangesCardSaid : Prop := Claim7.holds Tryd.pinned (.plain (OpenSpec.ofChange deviceChangesSpec)) deviceChangesCard

/-- THE TIED CARD OF 'coldpluglaw03.DeviceNodes'. -/
def deviceNodesCard : Claim7 := { stood := { row := deviceNodesRow, standIns := [], harness := (true, "eb1b67f9719743c1d34d27e13cfefcbfa13c4b2044910448a3b45e52d7fc7510"), looks := false }, kinds := [], alts := [], laidByText := true, laidKinds := [.data, .pinned, .pinned], laidTests := true, laidLooks := .later }
def DeviceNodesCardSaid : Prop := Claim7.holds Tryd.pinned (.plain (OpenSpec.ofChange deviceNodesSpec)) deviceNodesCard

/-- THE TIED CARD OF 'coldpluglaw03.DeviceChecks'. -/
def deviceChecksCard : Claim7 := { stood := { row := deviceChecksRow, standIns := [], harness := (true, "eb1b67f9719743c1d34d27e13cfefcbfa13c4b2044910448a3b45e52d7fc7510"), looks := false }, kinds := [], alts := [], laidByText := true, laidKinds := [.data, .pinned, .pinned], laidTests := true, laidLooks := .later }
def DeviceChecksCardSaid : Prop := Claim7.holds Tryd.pinned (.plain (OpenSpec.ofChange deviceChecksSpec)) deviceChecksCard

/-- THE SECOND FORM's CARD OF 'coldpluglaw03.DeviceSets'. -/
def deviceSetsUptoCard : Claim7 := { stood := { row := deviceSetsUptoRow, standIns := [], harness := (true, "eb1b67f9719743c1d34d27e13cfefcbfa13c4b2044910448a3b45e52d7fc7510"), looks := false }, kinds := [], alts := [], laidByText := true, laidKinds := [.data, .pinned], laidTests := true, laidLooks := .later }
def DeviceSetsUptoCardSaid : Prop := Claim7.holds Tryd.pinned (.plain (OpenSpec.upto deviceSetsSpec)) deviceSetsUptoCard

/-- THE SECOND FORM's CARD OF 'coldpluglaw03.DeviceGets'. -/
def deviceGetsUptoCard : Claim7 := { stood := { row := deviceGetsUptoRow, standIns := [], harness := (true, "eb1b67f9719743c1d34d27e13cfefcbfa13c4b2044910448a3b45e52d7fc7510"), looks := false }, kinds := [], alts := [], laidByText := true, laidKinds := [.data, .pinned], laidTests := true, laidLooks := .later }
def DeviceGetsUptoCardSaid : Prop := Claim7.holds Tryd.pinned (.plain (OpenSpec.upto deviceGetsSpec)) deviceGetsUptoCard

/-- THE SECOND FORM's CARD OF 'coldpluglaw03.DeviceSetMeans'. -/
def deviceSetMeansUptoCard : Claim7 := { stood := { row := deviceSetMeansUptoRow, standIns := [], harness := (true, "eb1b67f9719743c1d34d27e13cfefcbfa13c4b2044910448a3b45e52d7fc7510"), looks := false }, kinds := [], alts := [], laidByText := true, laidKinds := [.data, .pinned], laidTests := true, laidLooks := .later }
def DeviceSetMeansUptoCardSaid : Prop := Claim7.holds Tryd.pinned (.plain (OpenSpec.upto deviceSetMeansSpec)) deviceSetMeansUptoCard

/-- THE SECOND FORM's CARD OF 'coldpluglaw03.DeviceSames'. -/
def deviceSamesUptoCard : Claim7 := { stood := { row := deviceSamesUptoRow, standIns := [], harness := (true, "eb1b67f9719743c1d34d27e13cfefcbfa13c4b2044910448a3b45e52d7fc7510"), looks := false }, kinds := [], alts := [], laidByText := true, laidKinds := [.data, .pinned], laidTests := true, laidLooks := .later }
def DeviceSamesUptoCardSaid : Prop := Claim7.holds Tryd.pinned (.plain (OpenSpec.upto deviceSamesSpec)) deviceSamesUptoCard

/-- THE SECOND FORM's CARD OF 'coldpluglaw03.DeviceChanges'. -/
def deviceChangesUptoCard : Claim7 := { stood := { row := deviceChangesUptoRow, standIns := [], harness := (true, "eb1b67f9719743c1d34d27e13cfefcbfa13c4b2044910448a3b45e52d7fc7510"), looks := false }, kinds := [], alts := [], laidByText := true, laidKinds := [.data, .pinned], laidTests := true, laidLooks := .later }
def DeviceChangesUptoCardSaid : Prop := Claim7.holds Tryd.pinned (.plain (OpenSpec.upto deviceChangesSpec)) deviceChangesUptoCard

/-- THE SECOND FORM's CARD OF 'coldpluglaw03.DeviceNodes'. -/
def deviceNodesUptoCard : Claim7 := { stood := { row := deviceNodesUptoRow, standIns := [], harness := (true, "eb1b67f9719743c1d34d27e13cfefcbfa13c4b2044910448a3b45e52d7fc7510"), looks := false }, kinds := [], alts := [], laidByText := true, laidKinds := [.data, .pinned, .pinned], laidTests := true, laidLooks := .later }
def DeviceNodesUptoCardSaid : Prop := Claim7.holds Tryd.pinned (.plain (OpenSpec.upto deviceNodesSpec)) deviceNodesUptoCard

/-- THE SECOND FORM's CARD OF 'coldpluglaw03.DeviceChecks'. -/
def deviceChecksUptoCard : Claim7 := { stood := { row := deviceChecksUptoRow, standIns := [], harness := (true, "eb1b67f9719743c1d34d27e13cfefcbfa13c4b2044910448a3b45e52d7fc7510"), looks := false }, kinds := [], alts := [], laidByText := true, laidKinds := [.data, .pinned, .pinned], laidTests := true, laidLooks := .later }
def DeviceChecksUptoCardSaid : Prop := Claim7.holds Tryd.pinned (.plain (OpenSpec.upto deviceChecksSpec)) deviceChecksUptoCard
end Rows
end Go.Proofs.YtkkgapeghlnbeaaDoor
