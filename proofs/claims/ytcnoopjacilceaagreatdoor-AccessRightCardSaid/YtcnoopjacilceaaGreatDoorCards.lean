/-
  DERIVED. GIVEN WITH THE SEED: THE CARDS: each row of YtcnoopjacilceaaGreatDoorRows.lean that lists a variable, with what it lists TIED to the program's text (the seventh form; the later family's looks); each row that meets fmt, with fmt's text TOLD by the authors' own Lean function (tested against real Go, not proved from fmt's source: count such statements apart). THE CARD IS WHAT COUNTS. Prove the row's statement (the work); the ties are given (YtcnoopjacilceaaGreatDoorTie.lean); close each card by the builder's one call (the guide's Derived/Test/ToyasCard.lean, 'card_holds'). Laid BY PROGRAM, IN A SANDBOX (cutbox-door.mjs). By AI agents, Wed Nov 11 2026. No macro, syntax, notation, axiom, sorry.
-/
import Derived.Test.YtcnoopjacilceaaGreatDoorRows
import GoSem.ClaimSeven
namespace Go.Proofs.YtcnoopjacilceaaGreatDoor
namespace Rows

/-- THE TIED CARD OF 'coldpluglaw38.AccessWants'. -/
def accessWantsCard : Claim7 := { stood := { row := accessWantsRow, standIns := [], harness := (true, "02ea7231ce27ab0c10b365f623f2248c239582a91b9f5c8f0a3f849ef7a20d95"), looks := false }, kinds := [], alts := [], laidByText := true, laidKinds := [.data, .data, .data, .data, .pinned, .pinned], laidTests := true, laidLooks := .later }
def AccessWantsCardSaid : Prop := Claim7.holds Tryz.pinned (.plain (OpenSpec.ofChange accessWantsSpec)) accessWantsCard

/-- THE TIED CARD OF 'coldpluglaw38.AccessRight'. -/
def accessRightCard : Claim7 := { stood := { row := accessRightRow, standIns := [], harness := (true, "02ea7231ce27ab0c10b365f623f2248c239582a91b9f5c8f0a3f849ef7a20d95"), looks := false }, kinds := [], alts := [], laidByText := true, laidKinds := [.data, .data, .data, .data, .pinned, .pinned], laidTests := true, laidLooks := .later }
def AccessRightCardSaid : Prop := Claim7.holds Tryz.pinned (.plain (OpenSpec.ofChange accessRightSpec)) accessRightCard

/-- THE TIED CARD OF 'coldpluglaw38.AccessClosed'. -/
def accessClosedCard : Claim7 := { stood := { row := accessClosedRow, standIns := [], harness := (true, "02ea7231ce27ab0c10b365f623f2248c239582a91b9f5c8f0a3f849ef7a20d95"), looks := false }, kinds := [], alts := [], laidByText := true, laidKinds := [.data, .data, .data, .data, .pinned, .pinned], laidTests := true, laidLooks := .later }
def AccessClosedCardSaid : Prop := Claim7.holds Tryz.pinned (.plain (OpenSpec.ofChange accessClosedSpec)) accessClosedCard

/-- THE TIED CARD OF 'coldpluglaw38.AccessSwitches'. -/
def accessSwitchesCard : Claim7 := { stood := { row := accessSwitchesRow, standIns := [], harness := (true, "02ea7231ce27ab0c10b365f623f2248c239582a91b9f5c8f0a3f849ef7a20d95"), looks := false }, kinds := [], alts := [], laidByText := true, laidKinds := [.data, .data, .data, .data, .pinned, .pinned], laidTests := true, laidLooks := .later }
def AccessSwitchesCardSaid : Prop := Claim7.holds Tryz.pinned (.plain (OpenSpec.ofChange accessSwitchesSpec)) accessSwitchesCard

/-- THE SECOND FORM's CARD OF 'coldpluglaw38.AccessWants'. -/
def accessWantsUptoCard : Claim7 := { stood := { row := accessWantsUptoRow, standIns := [], harness := (true, "02ea7231ce27ab0c10b365f623f2248c239582a91b9f5c8f0a3f849ef7a20d95"), looks := false }, kinds := [], alts := [], laidByText := true, laidKinds := [.data, .data, .data, .data, .pinned, .pinned], laidTests := true, laidLooks := .later }
def AccessWantsUptoCardSaid : Prop := Claim7.holds Tryz.pinned (.plain (OpenSpec.upto accessWantsSpec)) accessWantsUptoCard

/-- THE SECOND FORM's CARD OF 'coldpluglaw38.AccessRight'. -/
def accessRightUptoCard : Claim7 := { stood := { row := accessRightUptoRow, standIns := [], harness := (true, "02ea7231ce27ab0c10b365f623f2248c239582a91b9f5c8f0a3f849ef7a20d95"), looks := false }, kinds := [], alts := [], laidByText := true, laidKinds := [.data, .data, .data, .data, .pinned, .pinned], laidTests := true, laidLooks := .later }
def AccessRightUptoCardSaid : Prop := Claim7.holds Tryz.pinned (.plain (OpenSpec.upto accessRightSpec)) accessRightUptoCard

/-- THE SECOND FORM's CARD OF 'coldpluglaw38.AccessClosed'. -/
def accessClosedUptoCard : Claim7 := { stood := { row := accessClosedUptoRow, standIns := [], harness := (true, "02ea7231ce27ab0c10b365f623f2248c239582a91b9f5c8f0a3f849ef7a20d95"), looks := false }, kinds := [], alts := [], laidByText := true, laidKinds := [.data, .data, .data, .data, .pinned, .pinned], laidTests := true, laidLooks := .later }
def AccessClosedUptoCardSaid : Prop := Claim7.holds Tryz.pinned (.plain (OpenSpec.upto accessClosedSpec)) accessClosedUptoCard

/-- THE SECOND FORM's CARD OF 'coldpluglaw38.AccessSwitches'. -/
def accessSwitchesUptoCard : Claim7 := { stood := { row := accessSwitchesUptoRow, standIns := [], harness := (true, "02ea7231ce27ab0c10b365f623f2248c239582a91b9f5c8f0a3f849ef7a20d95"), looks := false }, kinds := [], alts := [], laidByText := true, laidKinds := [.data, .data, .data, .data, .pinned, .pinned], laidTests := true, laidLooks := .later }
def AccessSwitchesUptoCardSaid : Prop := Claim7.holds Tryz.pinned (.plain (OpenSpec.upto accessSwitchesSpec)) accessSwitchesUptoCard
end Rows
end Go.Proofs.YtcnoopjacilceaaGreatDoor
