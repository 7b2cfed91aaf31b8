/-
  DERIVED. GIVEN WITH THE SEED: THE CARDS: each row of YtbonfcphabnlpaaGreatDoorRows.lean that lists a variable, with what it lists TIED to the program's text (the seventh form; the later family's looks); each row that meets fmt, with fmt's text TOLD by the authors' own Lean function (tested against real Go, not proved from fmt's source: count such statements apart). THE CARD IS WHAT COUNTS. Prove the row's statement (the work); the ties are given (YtbonfcphabnlpaaGreatDoorTie.lean); close each card by the builder's one call (the guide's Derived/Test/ToyasCard.lean, 'card_holds'). Laid BY PROGRAM, IN A SANDBOX (cutbox-door.mjs). By AI agents, Wed Nov 11 2026. No macro, syntax, notation, axiom, sorry.
-/
import Derived.Test.YtbonfcphabnlpaaGreatDoorRows
import GoSem.ClaimSeven
namespace Go.Proofs.YtbonfcphabnlpaaGreatDoor
namespace Rows

/-- THE TIED CARD OF 'coldpluglaw39.InhibitFull'. -/
def inhibitFullCard : Claim7 := { stood := { row := inhibitFullRow, standIns := [], harness := (true, "031e7dd1383b3680eae2adf8441e99ddbf0ea687f9dbdd670e30ed7455109380"), looks := false }, kinds := [], alts := [], laidByText := true, laidKinds := [.data, .pinned, .pinned], laidTests := true, laidLooks := .later }
def InhibitFullCardSaid : Prop := Claim7.holds Tryz.pinned (.plain (OpenSpec.ofChange inhibitFullSpec)) inhibitFullCard

/-- THE TIED CARD OF 'coldpluglaw39.InhibitPlays'. -/
def inhibitPlaysCard : Claim7 := { stood := { row := inhibitPlaysRow, standIns := [], harness := (true, "031e7dd1383b3680eae2adf8441e99ddbf0ea687f9dbdd670e30ed7455109380"), looks := false }, kinds := [], alts := [], laidByText := true, laidKinds := [.data, .data, .data, .data, .pinned, .pinned], laidTests := true, laidLooks := .later }
def InhibitPlaysCardSaid : Prop := Claim7.holds Tryz.pinned (.plain (OpenSpec.ofChange inhibitPlaysSpec)) inhibitPlaysCard

/-- THE TIED CARD OF 'coldpluglaw39.InhibitDelays'. -/
def inhibitDelaysCard : Claim7 := { stood := { row := inhibitDelaysRow, standIns := [], harness := (true, "031e7dd1383b3680eae2adf8441e99ddbf0ea687f9dbdd670e30ed7455109380"), looks := false }, kinds := [], alts := [], laidByText := true, laidKinds := [.data, .data, .data, .data, .pinned, .pinned], laidTests := true, laidLooks := .later }
def InhibitDelaysCardSaid : Prop := Claim7.holds Tryz.pinned (.plain (OpenSpec.ofChange inhibitDelaysSpec)) inhibitDelaysCard

/-- THE TIED CARD OF 'coldpluglaw39.InhibitPasses'. -/
def inhibitPassesCard : Claim7 := { stood := { row := inhibitPassesRow, standIns := [], harness := (true, "031e7dd1383b3680eae2adf8441e99ddbf0ea687f9dbdd670e30ed7455109380"), looks := false }, kinds := [], alts := [], laidByText := true, laidKinds := [.data, .data, .data, .data, .pinned, .pinned], laidTests := true, laidLooks := .later }
def InhibitPassesCardSaid : Prop := Claim7.holds Tryz.pinned (.plain (OpenSpec.ofChange inhibitPassesSpec)) inhibitPassesCard

/-- THE TIED CARD OF 'coldpluglaw39.InhibitEnds'. -/
def inhibitEndsCard : Claim7 := { stood := { row := inhibitEndsRow, standIns := [], harness := (true, "031e7dd1383b3680eae2adf8441e99ddbf0ea687f9dbdd670e30ed7455109380"), looks := false }, kinds := [], alts := [], laidByText := true, laidKinds := [.data, .data, .data, .data, .pinned, .pinned], laidTests := true, laidLooks := .later }
def InhibitEndsCardSaid : Prop := Claim7.holds Tryz.pinned (.plain (OpenSpec.ofChange inhibitEndsSpec)) inhibitEndsCard

/-- THE TIED CARD OF 'coldpluglaw39.InhibitReleases'. -/
def inhibitReleasesCard : Claim7 := { stood := { row := inhibitReleasesRow, standIns := [], harness := (true, "031e7dd1383b3680eae2adf8441e99ddbf0ea687f9dbdd670e30ed7455109380"), looks := false }, kinds := [], alts := [], laidByText := true, laidKinds := [.data, .data, .data, .data, .pinned, .pinned], laidTests := true, laidLooks := .later }
def InhibitReleasesCardSaid : Prop := Claim7.holds Tryz.pinned (.plain (OpenSpec.ofChange inhibitReleasesSpec)) inhibitReleasesCard

/-- THE SECOND FORM's CARD OF 'coldpluglaw39.InhibitFull'. -/
def inhibitFullUptoCard : Claim7 := { stood := { row := inhibitFullUptoRow, standIns := [], harness := (true, "031e7dd1383b3680eae2adf8441e99ddbf0ea687f9dbdd670e30ed7455109380"), looks := false }, kinds := [], alts := [], laidByText := true, laidKinds := [.data, .pinned, .pinned], laidTests := true, laidLooks := .later }
def InhibitFullUptoCardSaid : Prop := Claim7.holds Tryz.pinned (.plain (OpenSpec.upto inhibitFullSpec)) inhibitFullUptoCard

/-- THE SECOND FORM's CARD OF 'coldpluglaw39.InhibitPlays'. -/
def inhibitPlaysUptoCard : Claim7 := { stood := { row := inhibitPlaysUptoRow, standIns := [], harness := (true, "031e7dd1383b3680eae2adf8441e99ddbf0ea687f9dbdd670e30ed7455109380"), looks := false }, kinds := [], alts := [], laidByText := true, laidKinds := [.data, .data, .data, .data, .pinned, .pinned], laidTests := true, laidLooks := .later }
def InhibitPlaysUptoCardSaid : Prop := Claim7.holds Tryz.pinned (.plain (OpenSpec.upto inhibitPlaysSpec)) inhibitPlaysUptoCard

/-- THE SECOND FORM's CARD OF 'coldpluglaw39.InhibitDelays'. -/
def inhibitDelaysUptoCard : Claim7 := { stood := { row := inhibitDelaysUptoRow, standIns := [], harness := (true, "031e7dd1383b3680eae2adf8441e99ddbf0ea687f9dbdd670e30ed7455109380"), looks := false }, kinds := [], alts := [], laidByText := true, laidKinds := [.data, .data, .data, .data, .pinned, .pinned], laidTests := true, laidLooks := .later }
def InhibitDelaysUptoCardSaid : Prop := Claim7.holds Tryz.pinned (.plain (OpenSpec.upto inhibitDelaysSpec)) inhibitDelaysUptoCard

/-- THE SECOND FORM's CARD OF 'coldpluglaw39.InhibitPasses'. -/
def inhibitPassesUptoCard : Claim7 := { stood := { row := inhibitPassesUptoRow, standIns := [], harness := (true, "031e7dd1383b3680eae2adf8441e99ddbf0ea687f9dbdd670e30ed7455109380"), looks := false }, kinds := [], alts := [], laidByText := true, laidKinds := [.data, .data, .data, .data, .pinned, .pinned], laidTests := true, laidLooks := .later }
def InhibitPassesUptoCardSaid : Prop := Claim7.holds Tryz.pinned (.plain (OpenSpec.upto inhibitPassesSpec)) inhibitPassesUptoCard

/-- THE SECOND FORM's CARD OF 'coldpluglaw39.InhibitEnds'. -/
def inhibitEndsUptoCard : Claim7 := { stood := { row := inhibitEndsUptoRow, standIns := [], harness := (true, "031e7dd1383b3680eae2adf8441e99ddbf0ea687f9dbdd670e30ed7455109380"), looks := false }, kinds := [], alts := [], laidByText := true, laidKinds := [.data, .data, .data, .data, .pinned, .pinned], laidTests := true, laidLooks := .later }
def InhibitEndsUptoCardSaid : Prop := Claim7.holds Tryz.pinned (.plain (OpenSpec.upto inhibitEndsSpec)) inhibitEndsUptoCard

/-- THE SECOND FORM's CARD OF 'coldpluglaw39.InhibitReleases'. -/
def inhibitReleasesUptoCard : Claim7 := { stood := { row := inhibitReleasesUptoRow, standIns := [], harness := (true, "031e7dd1383b3680eae2adf8441e99ddbf0ea687f9dbdd670e30ed7455109380"), looks := false }, kinds := [], alts := [], laidByText := true, laidKinds := [.data, .data, .data, .data, .pinned, .pinned], laidTests := true, laidLooks := .later }
def InhibitReleasesUptoCardSaid : Prop := Claim7.holds Tryz.pinned (.plain (OpenSpec.upto inhibitReleasesSpec)) inhibitReleasesUptoCard
end Rows
end Go.Proofs.YtbonfcphabnlpaaGreatDoor
