/-
  DERIVED. GIVEN WITH THE SEED: THE CARDS: each row of YtgijigkfmbiifaaGreatDoorRows.lean that lists a variable, with what it lists TIED to the program's text (the seventh form; the later family's looks); each row that meets fmt, with fmt's text TOLD by the authors' own Lean function (tested against real Go, not proved from fmt's source: count such statements apart). THE CARD IS WHAT COUNTS. Prove the row's statement (the work); the ties are given (YtgijigkfmbiifaaGreatDoorTie.lean); close each card by the builder's one call (the guide's Derived/Test/ToyasCard.lean, 'card_holds'). Laid BY PROGRAM, IN A SANDBOX (cutbox-door.mjs). By AI agents, Wed Nov 11 2026. No macro, syntax, notation, axiom, sorry.
-/
import Derived.Test.YtgijigkfmbiifaaGreatDoorRows
import GoSem.ClaimSeven
namespace Go.Proofs.YtgijigkfmbiifaaGreatDoor
namespace Rows

/-- THE TIED CARD OF 'coldpluglaw19.DependLoads'. -/
def dependLoadsCard : Claim7 := { stood := { row := dependLoadsRow, standIns := [], harness := (true, "04aacd5481d131ee50422e9272e49942c96c5d7642f217d1970b87ce3739cdbf"), looks := false }, kinds := [], alts := [], laidByText := true, laidKinds := [.data, .pinned, .pinned], laidTests := true, laidLooks := .later }
def DependLoadsCardSaid : Prop := Claim7.holds Tryz.pinned (.plain (OpenSpec.ofChange dependLoadsSpec)) dependLoadsCard

/-- THE SECOND FORM's CARD OF 'coldpluglaw19.DependLoads'. -/
def dependLoadsUptoCard : Claim7 := { stood := { row := dependLoadsUptoRow, standIns := [], harness := (true, "04aacd5481d131ee50422e9272e49942c96c5d7642f217d1970b87ce3739cdbf"), looks := false }, kinds := [], alts := [], laidByText := true, laidKinds := [.data, .pinned, .pinned], laidTests := true, laidLooks := .later }
def DependLoadsUptoCardSaid : Prop := Claim7.holds Tryz.pinned (.plain (OpenSpec.upto dependLoadsSpec)) dependLoadsUptoCard
end Rows
end Go.Proofs.YtgijigkfmbiifaaGreatDoor
