/-
  DERIVED. GIVEN WITH THE SEED: THE CARDS: each row of YtipgjpcbmnlbhaaDoorRows.lean that lists a variable, with what it lists TIED to the program's text (the seventh form; the later family's looks); each row that meets fmt, with fmt's text TOLD by the authors' own Lean function (tested against real Go, not proved from fmt's source: count such statements apart). THE CARD IS WHAT COUNTS. Prove the row's statement (the work); the ties are given (YtipgjpcbmnlbhaaDoorTie.lean); close each card by the builder's one call (the guide's Derived/Test/ToyasCard.lean, 'card_holds'). Laid BY PROGRAM, IN A SANDBOX (cutbox-door.mjs). By AI agents, Wed Nov 11 2026. No macro, syntax, notation, axiom, sorry.
-/
import Derived.Test.YtipgjpcbmnlbhaaDoorRows
import GoSem.ClaimSeven
namespace Go.Proofs.YtipgjpcbmnlbhaaDoor
namespace Rows

/-- THE TIED CARD OF 'coldpluglaw38.AccessUsers'. -/
def accessUsersCard : Claim7 := { stood := { row := accessUsersRow, standIns := [], harness := (true, "f3a2d4176b1b8547fa9ba64de0741deb3a232aa317bbe5acd88142a53420f1ef"), looks := false }, kinds := [], alts := [], laidByText := true, laidKinds := [.data, .pinned, .pinned], laidTests := true, laidLooks := .later }
def AccessUsersCardSaid : Prop := Claim7.holds Tryd.pinned (.plain (OpenSpec.ofChange accessUsersSpec)) accessUsersCard

/-- THE TIED CARD OF 'coldpluglaw38.AccessBack'. -/
def accessBackCard : Claim7 := { stood := { row := accessBackRow, standIns := [], harness := (true, "f3a2d4176b1b8547fa9ba64de0741deb3a232aa317bbe5acd88142a53420f1ef"), looks := false }, kinds := [], alts := [], laidByText := true, laidKinds := [.data, .pinned, .pinned], laidTests := true, laidLooks := .later }
def AccessBackCardSaid : Prop := Claim7.holds Tryd.pinned (.plain (OpenSpec.ofChange accessBackSpec)) accessBackCard

/-- THE TIED CARD OF 'coldpluglaw38.AccessPlans'. -/
def accessPlansCard : Claim7 := { stood := { row := accessPlansRow, standIns := [], harness := (true, "f3a2d4176b1b8547fa9ba64de0741deb3a232aa317bbe5acd88142a53420f1ef"), looks := false }, kinds := [], alts := [], laidByText := true, laidKinds := [.data, .pinned, .pinned], laidTests := true, laidLooks := .later }
def AccessPlansCardSaid : Prop := Claim7.holds Tryd.pinned (.plain (OpenSpec.ofChange accessPlansSpec)) accessPlansCard

/-- THE TIED CARD OF 'coldpluglaw38.AccessReaches'. -/
def accessReachesCard : Claim7 := { stood := { row := accessReachesRow, standIns := [], harness := (true, "f3a2d4176b1b8547fa9ba64de0741deb3a232aa317bbe5acd88142a53420f1ef"), looks := false }, kinds := [], alts := [], laidByText := true, laidKinds := [.data, .pinned, .pinned], laidTests := true, laidLooks := .later }
def AccessReachesCardSaid : Prop := Claim7.holds Tryd.pinned (.plain (OpenSpec.ofChange accessReachesSpec)) accessReachesCard

/-- THE SECOND FORM's CARD OF 'coldpluglaw38.AccessUsers'. -/
def accessUsersUptoCard : Claim7 := { stood := { row := accessUsersUptoRow, standIns := [], harness := (true, "f3a2d4176b1b8547fa9ba64de0741deb3a232aa317bbe5acd88142a53420f1ef"), looks := false }, kinds := [], alts := [], laidByText := true, laidKinds := [.data, .pinned, .pinned], laidTests := true, laidLooks := .later }
def AccessUsersUptoCardSaid : Prop := Claim7.holds Tryd.pinned (.plain (OpenSpec.upto accessUsersSpec)) accessUsersUptoCard

/-- THE SECOND FORM's CARD OF 'coldpluglaw38.AccessBack'. -/
def accessBackUptoCard : Claim7 := { stood := { row := accessBackUptoRow, standIns := [], harness := (true, "f3a2d4176b1b8547fa9ba64de0741deb3a232aa317bbe5acd88142a53420f1ef"), looks := false }, kinds := [], alts := [], laidByText := true, laidKinds := [.data, .pinned, .pinned], laidTests := true, laidLooks := .later }
def AccessBackUptoCardSaid : Prop := Claim7.holds Tryd.pinned (.plain (OpenSpec.upto accessBackSpec)) accessBackUptoCard

/-- THE SECOND FORM's CARD OF 'coldpluglaw38.AccessPlans'. -/
def accessPlansUptoCard : Claim7 := { stood := { row := accessPlansUptoRow, standIns := [], harness := (true, "f3a2d4176b1b8547fa9ba64de0741deb3a232aa317bbe5acd88142a53420f1ef"), looks := false }, kinds := [], alts := [], laidByText := true, laidKinds := [.data, .pinned, .pinned], laidTests := true, laidLooks := .later }
def AccessPlansUptoCardSaid : Prop := Claim7.holds Tryd.pinned (.plain (OpenSpec.upto accessPlansSpec)) accessPlansUptoCard

/-- THE SECOND FORM's CARD OF 'coldpluglaw38.AccessReaches'. -/
def accessReachesUptoCard : Claim7 := { stood := { row := accessReachesUptoRow, standIns := [], harness := (true, "f3a2d4176b1b8547fa9ba64de0741deb3a232aa317bbe5acd88142a53420f1ef"), looks := false }, kinds := [], alts := [], laidByText := true, laidKinds := [.data, .pinned, .pinned], laidTests := true, laidLooks := .later }
def AccessReachesUptoCardSaid : Prop := Claim7.holds Tryd.pinned (.plain (OpenSpec.upto accessReachesSpec)) accessReachesUptoCard
end Rows
end Go.Proofs.YtipgjpcbmnlbhaaDoor
