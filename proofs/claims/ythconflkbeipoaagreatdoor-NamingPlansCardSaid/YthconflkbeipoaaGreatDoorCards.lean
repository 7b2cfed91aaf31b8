/-
  DERIVED. GIVEN WITH THE SEED: THE CARDS: each row of YthconflkbeipoaaGreatDoorRows.lean that lists a variable, with what it lists TIED to the program's text (the seventh form; the later family's looks); each row that meets fmt, with fmt's text TOLD by the authors' own Lean function (tested against real Go, not proved from fmt's source: count such statements apart). THE CARD IS WHAT COUNTS. Prove the row's statement (the work); the ties are given (YthconflkbeipoaaGreatDoorTie.lean); close each card by the builder's one call (the guide's Derived/Test/ToyasCard.lean, 'card_holds'). Laid BY PROGRAM, IN A SANDBOX (cutbox-door.mjs). By AI agents, Wed Nov 11 2026. No macro, syntax, notation, axiom, sorry.
-/
import Derived.Test.YthconflkbeipoaaGreatDoorRows
import GoSem.ClaimSeven
namespace Go.Proofs.YthconflkbeipoaaGreatDoor
namespace Rows

/-- THE TIED CARD OF 'coldpluglaw23.NamingApart'. -/
def namingApartCard : Claim7 := { stood := { row := namingApartRow, standIns := [], harness := (true, "21ef0b2877b01edaa37040be85155f5c0e9238843378dced4d74acac8aaf7d72"), looks := false }, kinds := [], alts := [], laidByText := true, laidKinds := [.data, .data, .data, .data, .pinned, .pinned], laidTests := true, laidLooks := .later }
def NamingApartCardSaid : Prop := Claim7.holds Tryz.pinned (.plain (OpenSpec.ofChange namingApartSpec)) namingApartCard

/-- THE TIED CARD OF 'coldpluglaw23.NamingAssigns'. -/
def namingAssignsCard : Claim7 := { stood := { row := namingAssignsRow, standIns := [], harness := (true, "21ef0b2877b01edaa37040be85155f5c0e9238843378dced4d74acac8aaf7d72"), looks := false }, kinds := [], alts := [], laidByText := true, laidKinds := [.data, .data, .data, .data, .pinned, .pinned], laidTests := true, laidLooks := .later }
def NamingAssignsCardSaid : Prop := Claim7.holds Tryz.pinned (.plain (OpenSpec.ofChange namingAssignsSpec)) namingAssignsCard

/-- THE TIED CARD OF 'coldpluglaw23.NamingRings'. -/
def namingRingsCard : Claim7 := { stood := { row := namingRingsRow, standIns := [], harness := (true, "21ef0b2877b01edaa37040be85155f5c0e9238843378dced4d74acac8aaf7d72"), looks := false }, kinds := [], alts := [], laidByText := true, laidKinds := [.data, .data, .data, .data, .pinned, .pinned], laidTests := true, laidLooks := .later }
def NamingRingsCardSaid : Prop := Claim7.holds Tryz.pinned (.plain (OpenSpec.ofChange namingRingsSpec)) namingRingsCard

/-- THE TIED CARD OF 'coldpluglaw23.NamingPlans'. -/
def namingPlansCard : Claim7 := { stood := { row := namingPlansRow, standIns := [], harness := (true, "21ef0b2877b01edaa37040be85155f5c0e9238843378dced4d74acac8aaf7d72"), looks := false }, kinds := [], alts := [], laidByText := true, laidKinds := [.data, .data, .data, .data, .pinned, .pinned], laidTests := true, laidLooks := .later }
def NamingPlansCardSaid : Prop := Claim7.holds Tryz.pinned (.plain (OpenSpec.ofChange namingPlansSpec)) namingPlansCard

/-- THE TIED CARD OF 'coldpluglaw23.NamingWishes'. -/
def namingWishesCard : Claim7 := { stood := { row := namingWishesRow, standIns := [], harness := (true, "21ef0b2877b01edaa37040be85155f5c0e9238843378dced4d74acac8aaf7d72"), looks := false }, kinds := [], alts := [], laidByText := true, laidKinds := [.data, .data, .data, .data, .pinned, .pinned], laidTests := true, laidLooks := .later }
def NamingWishesCardSaid : Prop := Claim7.holds Tryz.pinned (.plain (OpenSpec.ofChange namingWishesSpec)) namingWishesCard

/-- THE TIED CARD OF 'coldpluglaw23.NamingReaches'. -/
def namingReachesCard : Claim7 := { stood := { row := namingReachesRow, standIns := [], harness := (true, "21ef0b2877b01edaa37040be85155f5c0e9238843378dced4d74acac8aaf7d72"), looks := false }, kinds := [], alts := [], laidByText := true, laidKinds := [.data, .data, .data, .data, .pinned, .pinned], laidTests := true, laidLooks := .later }
def NamingReachesCardSaid : Prop := Claim7.holds Tryz.pinned (.plain (OpenSpec.ofChange namingReachesSpec)) namingReachesCard

/-- THE SECOND FORM's CARD OF 'coldpluglaw23.NamingApart'. -/
def namingApartUptoCard : Claim7 := { stood := { row := namingApartUptoRow, standIns := [], harness := (true, "21ef0b2877b01edaa37040be85155f5c0e9238843378dced4d74acac8aaf7d72"), looks := false }, kinds := [], alts := [], laidByText := true, laidKinds := [.data, .data, .data, .data, .pinned, .pinned], laidTests := true, laidLooks := .later }
def NamingApartUptoCardSaid : Prop := Claim7.holds Tryz.pinned (.plain (OpenSpec.upto namingApartSpec)) namingApartUptoCard

/-- THE SECOND FORM's CARD OF 'coldpluglaw23.NamingAssigns'. -/
def namingAssignsUptoCard : Claim7 := { stood := { row := namingAssignsUptoRow, standIns := [], harness := (true, "21ef0b2877b01edaa37040be85155f5c0e9238843378dced4d74acac8aaf7d72"), looks := false }, kinds := [], alts := [], laidByText := true, laidKinds := [.data, .data, .data, .data, .pinned, .pinned], laidTests := true, laidLooks := .later }
def NamingAssignsUptoCardSaid : Prop := Claim7.holds Tryz.pinned (.plain (OpenSpec.upto namingAssignsSpec)) namingAssignsUptoCard

/-- THE SECOND FORM's CARD OF 'coldpluglaw23.NamingRings'. -/
def namingRingsUptoCard : Claim7 := { stood := { row := namingRingsUptoRow, standIns := [], harness := (true, "21ef0b2877b01edaa37040be85155f5c0e9238843378dced4d74acac8aaf7d72"), looks := false }, kinds := [], alts := [], laidByText := true, laidKinds := [.data, .data, .data, .data, .pinned, .pinned], laidTests := true, laidLooks := .later }
def NamingRingsUptoCardSaid : Prop := Claim7.holds Tryz.pinned (.plain (OpenSpec.upto namingRingsSpec)) namingRingsUptoCard

/-- THE SECOND FORM's CARD OF 'coldpluglaw23.NamingPlans'. -/
def namingPlansUptoCard : Claim7 := { stood := { row := namingPlansUptoRow, standIns := [], harness := (true, "21ef0b2877b01edaa37040be85155f5c0e9238843378dced4d74acac8aaf7d72"), looks := false }, kinds := [], alts := [], laidByText := true, laidKinds := [.data, .data, .data, .data, .pinned, .pinned], laidTests := true, laidLooks := .later }
def NamingPlansUptoCardSaid : Prop := Claim7.holds Tryz.pinned (.plain (OpenSpec.upto namingPlansSpec)) namingPlansUptoCard

/-- THE SECOND FORM's CARD OF 'coldpluglaw23.NamingWishes'. -/
def namingWishesUptoCard : Claim7 := { stood := { row := namingWishesUptoRow, standIns := [], harness := (true, "21ef0b2877b01edaa37040be85155f5c0e9238843378dced4d74acac8aaf7d72"), looks := false }, kinds := [], alts := [], laidByText := true, laidKinds := [.data, .data, .data, .data, .pinned, .pinned], laidTests := true, laidLooks := .later }
def NamingWishesUptoCardSaid : Prop := Claim7.holds Tryz.pinned (.plain (OpenSpec.upto namingWishesSpec)) namingWishesUptoCard

/-- THE SECOND FORM's CARD OF 'coldpluglaw23.NamingReaches'. -/
def namingReachesUptoCard : Claim7 := { stood := { row := namingReachesUptoRow, standIns := [], harness := (true, "21ef0b2877b01edaa37040be85155f5c0e9238843378dced4d74acac8aaf7d72"), looks := false }, kinds := [], alts := [], laidByText := true, laidKinds := [.data, .data, .data, .data, .pinned, .pinned], laidTests := true, laidLooks := .later }
def NamingReachesUptoCardSaid : Prop := Claim7.holds Tryz.pinned (.plain (OpenSpec.upto namingReachesSpec)) namingReachesUptoCard
end Rows
end Go.Proofs.YthconflkbeipoaaGreatDoor
