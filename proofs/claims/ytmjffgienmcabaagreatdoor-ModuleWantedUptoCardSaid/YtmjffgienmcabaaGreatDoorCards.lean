/-
  DERIVED. GIVEN WITH THE SEED: THE CARDS: each row of YtmjffgienmcabaaGreatDoorRows.lean that lists a variable, with what it lists TIED to the program's text (the seventh form; the later family's looks); each row that meets fmt, with fmt's text TOLD by the authors' own Lean function (tested against real Go, not proved from fmt's source: count such statements apart). THE CARD IS WHAT COUNTS. Prove the row's statement (the work); the ties are given (YtmjffgienmcabaaGreatDoorTie.lean); close each card by the builder's one call (the guide's Derived/Test/ToyasCard.lean, 'card_holds'). Laid BY PROGRAM, IN A SANDBOX (cutbox-door.mjs). By AI agents, Wed Nov 11 2026. No macro, syntax, notation, axiom, sorry.
-/
import Derived.Test.YtmjffgienmcabaaGreatDoorRows
import GoSem.ClaimSeven
namespace Go.Proofs.YtmjffgienmcabaaGreatDoor
namespace Rows

/-- THE TIED CARD OF 'coldpluglaw20.ModuleWanted'. -/
def moduleWantedCard : Claim7 := { stood := { row := moduleWantedRow, standIns := [], harness := (true, "ff2ad9feb2d6a8cac9fe54303c255f2987982120d94aecf7c64c3ad3ab6f4a65"), looks := false }, kinds := [], alts := [], laidByText := true, laidKinds := [.data, .pinned], laidTests := true, laidLooks := .later }
def ModuleWantedCardSaid : Prop := Claim7.holds Tryz.pinned (.plain (OpenSpec.ofChange moduleWantedSpec)) moduleWantedCard

/-- THE TIED CARD OF 'coldpluglaw20.ModuleGrows'. -/
def moduleGrowsCard : Claim7 := { stood := { row := moduleGrowsRow, standIns := [], harness := (true, "ff2ad9feb2d6a8cac9fe54303c255f2987982120d94aecf7c64c3ad3ab6f4a65"), looks := false }, kinds := [], alts := [], laidByText := true, laidKinds := [.data, .pinned], laidTests := true, laidLooks := .later }
def ModuleGrowsCardSaid : Prop := Claim7.holds Tryz.pinned (.plain (OpenSpec.ofChange moduleGrowsSpec)) moduleGrowsCard

/-- THE SECOND FORM's CARD OF 'coldpluglaw20.ModuleWanted'. -/
def moduleWantedUptoCard : Claim7 := { stood := { row := moduleWantedUptoRow, standIns := [], harness := (true, "ff2ad9feb2d6a8cac9fe54303c255f2987982120d94aecf7c64c3ad3ab6f4a65"), looks := false }, kinds := [], alts := [], laidByText := true, laidKinds := [.data, .pinned], laidTests := true, laidLooks := .later }
def ModuleWantedUptoCardSaid : Prop := Claim7.holds Tryz.pinned (.plain (OpenSpec.upto moduleWantedSpec)) moduleWantedUptoCard

/-- THE SECOND FORM's CARD OF 'coldpluglaw20.ModuleGrows'. -/
def moduleGrowsUptoCard : Claim7 := { stood := { row := moduleGrowsUptoRow, standIns := [], harness := (true, "ff2ad9feb2d6a8cac9fe54303c255f2987982120d94aecf7c64c3ad3ab6f4a65"), looks := false }, kinds := [], alts := [], laidByText := true, laidKinds := [.data, .pinned], laidTests := true, laidLooks := .later }
def ModuleGrowsUptoCardSaid : Prop := Claim7.holds Tryz.pinned (.plain (OpenSpec.upto moduleGrowsSpec)) moduleGrowsUptoCard
end Rows
end Go.Proofs.YtmjffgienmcabaaGreatDoor
