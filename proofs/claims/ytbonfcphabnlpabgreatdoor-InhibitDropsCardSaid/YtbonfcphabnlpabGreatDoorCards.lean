/-
  DERIVED. GIVEN WITH THE SEED: THE CARDS: each row of YtbonfcphabnlpabGreatDoorRows.lean that lists a variable, with what it lists TIED to the program's text (the seventh form; the later family's looks); each row that meets fmt, with fmt's text TOLD by the authors' own Lean function (tested against real Go, not proved from fmt's source: count such statements apart). THE CARD IS WHAT COUNTS. Prove the row's statement (the work); the ties are given (YtbonfcphabnlpabGreatDoorTie.lean); close each card by the builder's one call (the guide's Derived/Test/ToyasCard.lean, 'card_holds'). Laid BY PROGRAM, IN A SANDBOX (cutbox-door.mjs). By AI agents, Wed Nov 11 2026. No macro, syntax, notation, axiom, sorry.
-/
import Derived.Test.YtbonfcphabnlpabGreatDoorRows
import GoSem.ClaimSeven
namespace Go.Proofs.YtbonfcphabnlpabGreatDoor
namespace Rows

/-- THE TIED CARD OF 'coldpluglaw39.InhibitDrops'. -/
def inhibitDropsCard : Claim7 := { stood := { row := inhibitDropsRow, standIns := [], harness := (true, "502d8278ebe9c2b8b32a8afb20dc9d8bf0ce04fb30f8b254395c92504be4ec80"), looks := false }, kinds := [], alts := [], laidByText := true, laidKinds := [.data, .data, .data, .data, .pinned, .pinned], laidTests := true, laidLooks := .later }
def InhibitDropsCardSaid : Prop := Claim7.holds Tryz.pinned (.plain (OpenSpec.ofChange inhibitDropsSpec)) inhibitDropsCard

/-- THE TIED CARD OF 'coldpluglaw39.InhibitFalls'. -/
def inhibitFallsCard : Claim7 := { stood := { row := inhibitFallsRow, standIns := [], harness := (true, "502d8278ebe9c2b8b32a8afb20dc9d8bf0ce04fb30f8b254395c92504be4ec80"), looks := false }, kinds := [], alts := [], laidByText := true, laidKinds := [.data, .data, .data, .data, .pinned, .pinned], laidTests := true, laidLooks := .later }
def InhibitFallsCardSaid : Prop := Claim7.holds Tryz.pinned (.plain (OpenSpec.ofChange inhibitFallsSpec)) inhibitFallsCard

/-- THE SECOND FORM's CARD OF 'coldpluglaw39.InhibitDrops'. -/
def inhibitDropsUptoCard : Claim7 := { stood := { row := inhibitDropsUptoRow, standIns := [], harness := (true, "502d8278ebe9c2b8b32a8afb20dc9d8bf0ce04fb30f8b254395c92504be4ec80"), looks := false }, kinds := [], alts := [], laidByText := true, laidKinds := [.data, .data, .data, .data, .pinned, .pinned], laidTests := true, laidLooks := .later }
def InhibitDropsUptoCardSaid : Prop := Claim7.holds Tryz.pinned (.plain (OpenSpec.upto inhibitDropsSpec)) inhibitDropsUptoCard

/-- THE SECOND FORM's CARD OF 'coldpluglaw39.InhibitFalls'. -/
def inhibitFallsUptoCard : Claim7 := { stood := { row := inhibitFallsUptoRow, standIns := [], harness := (true, "502d8278ebe9c2b8b32a8afb20dc9d8bf0ce04fb30f8b254395c92504be4ec80"), looks := false }, kinds := [], alts := [], laidByText := true, laidKinds := [.data, .data, .data, .data, .pinned, .pinned], laidTests := true, laidLooks := .later }
def InhibitFallsUptoCardSaid : Prop := Claim7.holds Tryz.pinned (.plain (OpenSpec.upto inhibitFallsSpec)) inhibitFallsUptoCard
end Rows
end Go.Proofs.YtbonfcphabnlpabGreatDoor
