/-
  DERIVED. GIVEN WITH THE SEED: THE CARDS: each row of YtmbbkfffcflfcaaGreatDoorRows.lean that lists a variable, with what it lists TIED to the program's text (the seventh form; the later family's looks); each row that meets fmt, with fmt's text TOLD by the authors' own Lean function (tested against real Go, not proved from fmt's source: count such statements apart). THE CARD IS WHAT COUNTS. Prove the row's statement (the work); the ties are given (YtmbbkfffcflfcaaGreatDoorTie.lean); close each card by the builder's one call (the guide's Derived/Test/ToyasCard.lean, 'card_holds'). Laid BY PROGRAM, IN A SANDBOX (cutbox-door.mjs). By AI agents, Wed Nov 11 2026. No macro, syntax, notation, axiom, sorry.
-/
import Derived.Test.YtmbbkfffcflfcaaGreatDoorRows
import GoSem.ClaimSeven
namespace Go.Proofs.YtmbbkfffcflfcaaGreatDoor
namespace Rows

/-- THE TIED CARD OF 'coldpluglaw05.KernelModules'. -/
def kernelModulesCard : Claim7 := { stood := { row := kernelModulesRow, standIns := [], harness := (true, "15af4e16878e2e6cc41814cd9228e07e68b1592b5030f94051a2ecd17fdfa08c"), looks := false }, kinds := [], alts := [], laidByText := true, laidKinds := [.data, .pinned, .pinned], laidTests := true, laidLooks := .later }
def KernelModulesCardSaid : Prop := Claim7.holds Tryz.pinned (.plain (OpenSpec.ofChange kernelModulesSpec)) kernelModulesCard

/-- THE TIED CARD OF 'coldpluglaw05.KernelNeeds'. -/
def kernelNeedsCard : Claim7 := { stood := { row := kernelNeedsRow, standIns := [], harness := (true, "15af4e16878e2e6cc41814cd9228e07e68b1592b5030f94051a2ecd17fdfa08c"), looks := false }, kinds := [], alts := [], laidByText := true, laidKinds := [.data, .pinned, .pinned], laidTests := true, laidLooks := .later }
def KernelNeedsCardSaid : Prop := Claim7.holds Tryz.pinned (.plain (OpenSpec.ofChange kernelNeedsSpec)) kernelNeedsCard

/-- THE TIED CARD OF 'coldpluglaw05.KernelTells'. -/
def kernelTellsCard : Claim7 := { stood := { row := kernelTellsRow, standIns := [], harness := (true, "15af4e16878e2e6cc41814cd9228e07e68b1592b5030f94051a2ecd17fdfa08c"), looks := false }, kinds := [], alts := [], laidByText := true, laidKinds := [.data, .pinned, .pinned], laidTests := true, laidLooks := .later }
def KernelTellsCardSaid : Prop := Claim7.holds Tryz.pinned (.plain (OpenSpec.ofChange kernelTellsSpec)) kernelTellsCard

/-- THE TIED CARD OF 'coldpluglaw05.KernelBinds'. -/
def kernelBindsCard : Claim7 := { stood := { row := kernelBindsRow, standIns := [], harness := (true, "15af4e16878e2e6cc41814cd9228e07e68b1592b5030f94051a2ecd17fdfa08c"), looks := false }, kinds := [], alts := [], laidByText := true, laidKinds := [.data, .pinned, .pinned], laidTests := true, laidLooks := .later }
def KernelBindsCardSaid : Prop := Claim7.holds Tryz.pinned (.plain (OpenSpec.ofChange kernelBindsSpec)) kernelBindsCard

/-- THE TIED CARD OF 'coldpluglaw05.KernelPlays'. -/
def kernelPlaysCard : Claim7 := { stood := { row := kernelPlaysRow, standIns := [], harness := (true, "15af4e16878e2e6cc41814cd9228e07e68b1592b5030f94051a2ecd17fdfa08c"), looks := false }, kinds := [], alts := [], laidByText := true, laidKinds := [.data, .pinned, .pinned], laidTests := true, laidLooks := .later }
def KernelPlaysCardSaid : Prop := Claim7.holds Tryz.pinned (.plain (OpenSpec.ofChange kernelPlaysSpec)) kernelPlaysCard

/-- THE TIED CARD OF 'coldpluglaw05.KernelOrder'. -/
def kernelOrderCard : Claim7 := { stood := { row := kernelOrderRow, standIns := [], harness := (true, "15af4e16878e2e6cc41814cd9228e07e68b1592b5030f94051a2ecd17fdfa08c"), looks := false }, kinds := [], alts := [], laidByText := true, laidKinds := [.data, .pinned, .pinned], laidTests := true, laidLooks := .later }
def KernelOrderCardSaid : Prop := Claim7.holds Tryz.pinned (.plain (OpenSpec.ofChange kernelOrderSpec)) kernelOrderCard

/-- THE TIED CARD OF 'coldpluglaw05.KernelCopies'. -/
def kernelCopiesCard : Claim7 := { stood := { row := kernelCopiesRow, standIns := [], harness := (true, "15af4e16878e2e6cc41814cd9228e07e68b1592b5030f94051a2ecd17fdfa08c"), looks := false }, kinds := [], alts := [], laidByText := true, laidKinds := [.data, .pinned, .pinned], laidTests := true, laidLooks := .later }
def KernelCopiesCardSaid : Prop := Claim7.holds Tryz.pinned (.plain (OpenSpec.ofChange kernelCopiesSpec)) kernelCopiesCard

/-- THE TIED CARD OF 'coldpluglaw05.KernelValid'. -/
def kernelValidCard : Claim7 := { stood := { row := kernelValidRow, standIns := [], harness := (true, "15af4e16878e2e6cc41814cd9228e07e68b1592b5030f94051a2ecd17fdfa08c"), looks := false }, kinds := [], alts := [], laidByText := true, laidKinds := [.data, .pinned, .pinned], laidTests := true, laidLooks := .later }
def KernelValidCardSaid : Prop := Claim7.holds Tryz.pinned (.plain (OpenSpec.ofChange kernelValidSpec)) kernelValidCard

/-- THE TIED CARD OF 'coldpluglaw06.SocketKernel'. -/
def socketKernelCard : Claim7 := { stood := { row := socketKernelRow, standIns := [], harness := (true, "15af4e16878e2e6cc41814cd9228e07e68b1592b5030f94051a2ecd17fdfa08c"), looks := false }, kinds := [], alts := [], laidByText := true, laidKinds := [.data, .pinned, .pinned], laidTests := true, laidLooks := .later }
def SocketKernelCardSaid : Prop := Claim7.holds Tryz.pinned (.plain (OpenSpec.ofChange socketKernelSpec)) socketKernelCard

/-- THE SECOND FORM's CARD OF 'coldpluglaw05.KernelModules'. -/
def kernelModulesUptoCard : Claim7 := { stood := { row := kernelModulesUptoRow, standIns := [], harness := (true, "15af4e16878e2e6cc41814cd9228e07e68b1592b5030f94051a2ecd17fdfa08c"), looks := false }, kinds := [], alts := [], laidByText := true, laidKinds := [.data, .pinned, .pinned], laidTests := true, laidLooks := .later }
def KernelModulesUptoCardSaid : Prop := Claim7.holds Tryz.pinned (.plain (OpenSpec.upto kernelModulesSpec)) kernelModulesUptoCard

/-- THE SECOND FORM's CARD OF 'coldpluglaw05.KernelNeeds'. -/
def kernelNeedsUptoCard : Claim7 := { stood := { row := kernelNeedsUptoRow, standIns := [], harness := (true, "15af4e16878e2e6cc41814cd9228e07e68b1592b5030f94051a2ecd17fdfa08c"), looks := false }, kinds := [], alts := [], laidByText := true, laidKinds := [.data, .pinned, .pinned], laidTests := true, laidLooks := .later }
def KernelNeedsUptoCardSaid : Prop := Claim7.holds Tryz.pinned (.plain (OpenSpec.upto kernelNeedsSpec)) kernelNeedsUptoCard

/-- THE SECOND FORM's CARD OF 'coldpluglaw05.KernelTells'. -/
def kernelTellsUptoCard : Claim7 := { stood := { row := kernelTellsUptoRow, standIns := [], harness := (true, "15af4e16878e2e6cc41814cd9228e07e68b1592b5030f94051a2ecd17fdfa08c"), looks := false }, kinds := [], alts := [], laidByText := true, laidKinds := [.data, .pinned, .pinned], laidTests := true, laidLooks := .later }
def KernelTellsUptoCardSaid : Prop := Claim7.holds Tryz.pinned (.plain (OpenSpec.upto kernelTellsSpec)) kernelTellsUptoCard

/-- THE SECOND FORM's CARD OF 'coldpluglaw05.KernelBinds'. -/
def kernelBindsUptoCard : Claim7 := { stood := { row := kernelBindsUptoRow, standIns := [], harness := (true, "15af4e16878e2e6cc41814cd9228e07e68b1592b5030f94051a2ecd17fdfa08c"), looks := false }, kinds := [], alts := [], laidByText := true, laidKinds := [.data, .pinned, .pinned], laidTests := true, laidLooks := .later }
def KernelBindsUptoCardSaid : Prop := Claim7.holds Tryz.pinned (.plain (OpenSpec.upto kernelBindsSpec)) kernelBindsUptoCard

/-- THE SECOND FORM's CARD OF 'coldpluglaw05.KernelPlays'. -/
def kernelPlaysUptoCard : Claim7 := { stood := { row := kernelPlaysUptoRow, standIns := [], harness := (true, "15af4e16878e2e6cc41814cd9228e07e68b1592b5030f94051a2ecd17fdfa08c"), looks := false }, kinds := [], alts := [], laidByText := true, laidKinds := [.data, .pinned, .pinned], laidTests := true, laidLooks := .later }
def KernelPlaysUptoCardSaid : Prop := Claim7.holds Tryz.pinned (.plain (OpenSpec.upto kernelPlaysSpec)) kernelPlaysUptoCard

/-- THE SECOND FORM's CARD OF 'coldpluglaw05.KernelOrder'. -/
def kernelOrderUptoCard : Claim7 := { stood := { row := kernelOrderUptoRow, standIns := [], harness := (true, "15af4e16878e2e6cc41814cd9228e07e68b1592b5030f94051a2ecd17fdfa08c"), looks := false }, kinds := [], alts := [], laidByText := true, laidKinds := [.data, .pinned, .pinned], laidTests := true, laidLooks := .later }
def KernelOrderUptoCardSaid : Prop := Claim7.holds Tryz.pinned (.plain (OpenSpec.upto kernelOrderSpec)) kernelOrderUptoCard

/-- THE SECOND FORM's CARD OF 'coldpluglaw05.KernelCopies'. -/
def kernelCopiesUptoCard : Claim7 := { stood := { row := kernelCopiesUptoRow, standIns := [], harness := (true, "15af4e16878e2e6cc41814cd9228e07e68b1592b5030f94051a2ecd17fdfa08c"), looks := false }, kinds := [], alts := [], laidByText := true, laidKinds := [.data, .pinned, .pinned], laidTests := true, laidLooks := .later }
def KernelCopiesUptoCardSaid : Prop := Claim7.holds Tryz.pinned (.plain (OpenSpec.upto kernelCopiesSpec)) kernelCopiesUptoCard

/-- THE SECOND FORM's CARD OF 'coldpluglaw05.KernelValid'. -/
def kernelValidUptoCard : Claim7 := { stood := { row := kernelValidUptoRow, standIns := [], harness := (true, "15af4e16878e2e6cc41814cd9228e07e68b1592b5030f94051a2ecd17fdfa08c"), looks := false }, kinds := [], alts := [], laidByText := true, laidKinds := [.data, .pinned, .pinned], laidTests := true, laidLooks := .later }
def KernelValidUptoCardSaid : Prop := Claim7.holds Tryz.pinned (.plain (OpenSpec.upto kernelValidSpec)) kernelValidUptoCard

/-- THE SECOND FORM's CARD OF 'coldpluglaw06.SocketKernel'. -/
def socketKernelUptoCard : Claim7 := { stood := { row := socketKernelUptoRow, standIns := [], harness := (true, "15af4e16878e2e6cc41814cd9228e07e68b1592b5030f94051a2ecd17fdfa08c"), looks := false }, kinds := [], alts := [], laidByText := true, laidKinds := [.data, .pinned, .pinned], laidTests := true, laidLooks := .later }
def SocketKernelUptoCardSaid : Prop := Claim7.holds Tryz.pinned (.plain (OpenSpec.upto socketKernelSpec)) socketKernelUptoCard
end Rows
end Go.Proofs.YtmbbkfffcflfcaaGreatDoor
