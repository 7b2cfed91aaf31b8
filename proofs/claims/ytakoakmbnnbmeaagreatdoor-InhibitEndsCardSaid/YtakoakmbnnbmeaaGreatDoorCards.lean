/-
  DERIVED. GIVEN WITH THE SEED: THE CARDS: each row of YtakoakmbnnbmeaaGreatDoorRows.lean that lists a variable, with what it lists TIED to the program's text (the seventh form; the later family's looks); each row that meets fmt, with fmt's text TOLD by the authors' own Lean function (tested against real Go, not proved from fmt's source: count such statements apart). THE CARD IS WHAT COUNTS. Prove the row's statement (the work); the ties are given (YtakoakmbnnbmeaaGreatDoorTie.lean); close each card by the builder's one call (the guide's Derived/Test/ToyasCard.lean, 'card_holds'). Laid BY PROGRAM, IN A SANDBOX (cutbox-door.mjs). By AI agents, Wed Nov 11 2026. No macro, syntax, notation, axiom, sorry.
-/
import Derived.Test.YtakoakmbnnbmeaaGreatDoorRows
import GoSem.ClaimSeven
namespace Go.Proofs.YtakoakmbnnbmeaaGreatDoor
namespace Rows

/-- THE TIED CARD OF 'coldpluglaw39.InhibitFull'. -/
def inhibitFullCard : Claim7 := { stood := { row := inhibitFullRow, standIns := [], harness := (true, "811cde8735da4ec154921ca8fb8c390a1dab3a960dc2db7ffaea11ffbbd9dca0"), looks := false }, kinds := [], alts := [], laidByText := true, laidKinds := [.data, .pinned, .pinned], laidTests := true, laidLooks := .later }
def InhibitFullCardSaid : Prop := Claim7.holds Tryz.pinned (.plain (OpenSpec.ofChange inhibitFullSpec)) inhibitFullCard

/-- THE TIED CARD OF 'coldpluglaw39.InhibitPlays'. -/
def inhibitPlaysCard : Claim7 := { stood := { row := inhibitPlaysRow, standIns := [], harness := (true, "811cde8735da4ec154921ca8fb8c390a1dab3a960dc2db7ffaea11ffbbd9dca0"), looks := false }, kinds := [], alts := [], laidByText := true, laidKinds := [.data, .data, .data, .data, .pinned, .pinned], laidTests := true, laidLooks := .later }
def InhibitPlaysCardSaid : Prop := Claim7.holds Tryz.pinned (.plain (OpenSpec.ofChange inhibitPlaysSpec)) inhibitPlaysCard

/-- THE TIED CARD OF 'coldpluglaw39.InhibitDelays'. -/
def inhibitDelaysCard : Claim7 := { stood := { row := inhibitDelaysRow, standIns := [], harness := (true, "811cde8735da4ec154921ca8fb8c390a1dab3a960dc2db7ffaea11ffbbd9dca0"), looks := false }, kinds := [], alts := [], laidByText := true, laidKinds := [.data, .data, .data, .data, .pinned, .pinned], laidTests := true, laidLooks := .later }
def InhibitDelaysCardSaid : Prop := Claim7.holds Tryz.pinned (.plain (OpenSpec.ofChange inhibitDelaysSpec)) inhibitDelaysCard

/-- THE TIED CARD OF 'coldpluglaw39.InhibitPasses'. -/
def inhibitPassesCard : Claim7 := { stood := { row := inhibitPassesRow, standIns := [], harness := (true, "811cde8735da4ec154921ca8fb8c390a1dab3a960dc2db7ffaea11ffbbd9dca0"), looks := false }, kinds := [], alts := [], laidByText := true, laidKinds := [.data, .data, .data, .data, .pinned, .pinned], laidTests := true, laidLooks := .later }
def InhibitPassesCardSaid : Prop := Claim7.holds Tryz.pinned (.plain (OpenSpec.ofChange inhibitPassesSpec)) inhibitPassesCard

/-- THE TIED CARD OF 'coldpluglaw39.InhibitEnds'. -/
def inhibitEndsCard : Claim7 := { stood := { row := inhibitEndsRow, standIns := [], harness := (true, "811cde8735da4ec154921ca8fb8c390a1dab3a960dc2db7ffaea11ffbbd9dca0"), looks := false }, kinds := [], alts := [], laidByText := true, laidKinds := [.data, .data, .data, .data, .pinned, .pinned], laidTests := true, laidLooks := .later }
def InhibitEndsCardSaid : Prop := Claim7.holds Tryz.pinned (.plain (OpenSpec.ofChange inhibitEndsSpec)) inhibitEndsCard

/-- THE TIED CARD OF 'coldpluglaw39.InhibitReleases'. -/
def inhibitReleasesCard : Claim7 := { stood := { row := inhibitReleasesRow, standIns := [], harness := (true, "811cde8735da4ec154921ca8fb8c390a1dab3a960dc2db7ffaea11ffbbd9dca0"), looks := false }, kinds := [], alts := [], laidByText := true, laidKinds := [.data, .data, .data, .data, .pinned, .pinned], laidTests := true, laidLooks := .later }
def InhibitReleasesCardSaid : Prop := Claim7.holds Tryz.pinned (.plain (OpenSpec.ofChange inhibitReleasesSpec)) inhibitReleasesCard

/-- THE TIED CARD OF 'coldpluglaw39.InhibitDrops'. -/
def inhibitDropsCard : Claim7 := { stood := { row := inhibitDropsRow, standIns := [], harness := (true, "811cde8735da4ec154921ca8fb8c390a1dab3a960dc2db7ffaea11ffbbd9dca0"), looks := false }, kinds := [], alts := [], laidByText := true, laidKinds := [.data, .data, .data, .data, .pinned, .pinned], laidTests := true, laidLooks := .later }
def InhibitDropsCardSaid : Prop := Claim7.holds Tryz.pinned (.plain (OpenSpec.ofChange inhibitDropsSpec)) inhibitDropsCard

/-- THE TIED CARD OF 'coldpluglaw39.InhibitFalls'. -/
def inhibitFallsCard : Claim7 := { stood := { row := inhibitFallsRow, standIns := [], harness := (true, "811cde8735da4ec154921ca8fb8c390a1dab3a960dc2db7ffaea11ffbbd9dca0"), looks := false }, kinds := [], alts := [], laidByText := true, laidKinds := [.data, .data, .data, .data, .pinned, .pinned], laidTests := true, laidLooks := .later }
def InhibitFallsCardSaid : Prop := Claim7.holds Tryz.pinned (.plain (OpenSpec.ofChange inhibitFallsSpec)) inhibitFallsCard

/-- THE SECOND FORM's CARD OF 'coldpluglaw39.InhibitFull'. -/
def inhibitFullUptoCard : Claim7 := { stood := { row := inhibitFullUptoRow, standIns := [], harness := (true, "811cde8735da4ec154921ca8fb8c390a1dab3a960dc2db7ffaea11ffbbd9dca0"), looks := false }, kinds := [], alts := [], laidByText := true, laidKinds := [.data, .pinned, .pinned], laidTests := true, laidLooks := .later }
def InhibitFullUptoCardSaid : Prop := Claim7.holds Tryz.pinned (.plain (OpenSpec.upto inhibitFullSpec)) inhibitFullUptoCard

/-- THE SECOND FORM's CARD OF 'coldpluglaw39.InhibitPlays'. -/
def inhibitPlaysUptoCard : Claim7 := { stood := { row := inhibitPlaysUptoRow, standIns := [], harness := (true, "811cde8735da4ec154921ca8fb8c390a1dab3a960dc2db7ffaea11ffbbd9dca0"), looks := false }, kinds := [], alts := [], laidByText := true, laidKinds := [.data, .data, .data, .data, .pinned, .pinned], laidTests := true, laidLooks := .later }
def InhibitPlaysUptoCardSaid : Prop := Claim7.holds Tryz.pinned (.plain (OpenSpec.upto inhibitPlaysSpec)) inhibitPlaysUptoCard

/-- THE SECOND FORM's CARD OF 'coldpluglaw39.InhibitDelays'. -/
def inhibitDelaysUptoCard : Claim7 := { stood := { row := inhibitDelaysUptoRow, standIns := [], harness := (true, "811cde8735da4ec154921ca8fb8c390a1dab3a960dc2db7ffaea11ffbbd9dca0"), looks := false }, kinds := [], alts := [], laidByText := true, laidKinds := [.data, .data, .data, .data, .pinned, .pinned], laidTests := true, laidLooks := .later }
def InhibitDelaysUptoCardSaid : Prop := Claim7.holds Tryz.pinned (.plain (OpenSpec.upto inhibitDelaysSpec)) inhibitDelaysUptoCard

/-- THE SECOND FORM's CARD OF 'coldpluglaw39.InhibitPasses'. -/
def inhibitPassesUptoCard : Claim7 := { stood := { row := inhibitPassesUptoRow, standIns := [], harness := (true, "811cde8735da4ec154921ca8fb8c390a1dab3a960dc2db7ffaea11ffbbd9dca0"), looks := false }, kinds := [], alts := [], laidByText := true, laidKinds := [.data, .data, .data, .data, .pinned, .pinned], laidTests := true, laidLooks := .later }
def InhibitPassesUptoCardSaid : Prop := Claim7.holds Tryz.pinned (.plain (OpenSpec.upto inhibitPassesSpec)) inhibitPassesUptoCard

/-- THE SECOND FORM's CARD OF 'coldpluglaw39.InhibitEnds'. -/
def inhibitEndsUptoCard : Claim7 := { stood := { row := inhibitEndsUptoRow, standIns := [], harness := (true, "811cde8735da4ec154921ca8fb8c390a1dab3a960dc2db7ffaea11ffbbd9dca0"), looks := false }, kinds := [], alts := [], laidByText := true, laidKinds := [.data, .data, .data, .data, .pinned, .pinned], laidTests := true, laidLooks := .later }
def InhibitEndsUptoCardSaid : Prop := Claim7.holds Tryz.pinned (.plain (OpenSpec.upto inhibitEndsSpec)) inhibitEndsUptoCard

/-- THE SECOND FORM's CARD OF 'coldpluglaw39.InhibitReleases'. -/
def inhibitReleasesUptoCard : Claim7 := { stood := { row := inhibitReleasesUptoRow, standIns := [], harness := (true, "811cde8735da4ec154921ca8fb8c390a1dab3a960dc2db7ffaea11ffbbd9dca0"), looks := false }, kinds := [], alts := [], laidByText := true, laidKinds := [.data, .data, .data, .data, .pinned, .pinned], laidTests := true, laidLooks := .later }
def InhibitReleasesUptoCardSaid : Prop := Claim7.holds Tryz.pinned (.plain (OpenSpec.upto inhibitReleasesSpec)) inhibitReleasesUptoCard

/-- THE SECOND FORM's CARD OF 'coldpluglaw39.InhibitDrops'. -/
def inhibitDropsUptoCard : Claim7 := { stood := { row := inhibitDropsUptoRow, standIns := [], harness := (true, "811cde8735da4ec154921ca8fb8c390a1dab3a960dc2db7ffaea11ffbbd9dca0"), looks := false }, kinds := [], alts := [], laidByText := true, laidKinds := [.data, .data, .data, .data, .pinned, .pinned], laidTests := true, laidLooks := .later }
def InhibitDropsUptoCardSaid : Prop := Claim7.holds Tryz.pinned (.plain (OpenSpec.upto inhibitDropsSpec)) inhibitDropsUptoCard

/-- THE SECOND FORM's CARD OF 'coldpluglaw39.InhibitFalls'. -/
def inhibitFallsUptoCard : Claim7 := { stood := { row := inhibitFallsUptoRow, standIns := [], harness := (true, "811cde8735da4ec154921ca8fb8c390a1dab3a960dc2db7ffaea11ffbbd9dca0"), looks := false }, kinds := [], alts := [], laidByText := true, laidKinds := [.data, .data, .data, .data, .pinned, .pinned], laidTests := true, laidLooks := .later }
def InhibitFallsUptoCardSaid : Prop := Claim7.holds Tryz.pinned (.plain (OpenSpec.upto inhibitFallsSpec)) inhibitFallsUptoCard
end Rows
end Go.Proofs.YtakoakmbnnbmeaaGreatDoor
