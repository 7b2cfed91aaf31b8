/-
  DERIVED. GIVEN WITH THE SEED: THE CARDS: each row of YthhfpcbpiphfiaaGreatDoorRows.lean that lists a variable, with what it lists TIED to the program's text (the seventh form; the later family's looks); each row that meets fmt, with fmt's text TOLD by the authors' own Lean function (tested against real Go, not proved from fmt's source: count such statements apart). THE CARD IS WHAT COUNTS. Prove the row's statement (the work); the ties are given (YthhfpcbpiphfiaaGreatDoorTie.lean); close each card by the builder's one call (the guide's Derived/Test/ToyasCard.lean, 'card_holds'). Laid BY PROGRAM, IN A SANDBOX (cutbox-door.mjs). By AI agents, Wed Nov 11 2026. No macro, syntax, notation, axiom, sorry.
-/
import Derived.Test.YthhfpcbpiphfiaaGreatDoorRows
import GoSem.ClaimSeven
namespace Go.Proofs.YthhfpcbpiphfiaaGreatDoor
namespace Rows

/-- THE TIED CARD OF 'coldpluglaw18.AliasChecks'. -/
def aliasChecksCard : Claim7 := { stood := { row := aliasChecksRow, standIns := [], harness := (true, "436c01f2d12ebb955c567aaf9fe0d9c80e3c99ff61151ed3694fd154005df7a0"), looks := false }, kinds := [], alts := [], laidByText := true, laidKinds := [.data, .pinned, .pinned], laidTests := true, laidLooks := .later }
def AliasChecksCardSaid : Prop := Claim7.holds Tryz.pinned (.plain (OpenSpec.ofChange aliasChecksSpec)) aliasChecksCard

/-- THE SECOND FORM's CARD OF 'coldpluglaw18.AliasChecks'. -/
def aliasChecksUptoCard : Claim7 := { stood := { row := aliasChecksUptoRow, standIns := [], harness := (true, "436c01f2d12ebb955c567aaf9fe0d9c80e3c99ff61151ed3694fd154005df7a0"), looks := false }, kinds := [], alts := [], laidByText := true, laidKinds := [.data, .pinned, .pinned], laidTests := true, laidLooks := .later }
def AliasChecksUptoCardSaid : Prop := Claim7.holds Tryz.pinned (.plain (OpenSpec.upto aliasChecksSpec)) aliasChecksUptoCard
end Rows
end Go.Proofs.YthhfpcbpiphfiaaGreatDoor
