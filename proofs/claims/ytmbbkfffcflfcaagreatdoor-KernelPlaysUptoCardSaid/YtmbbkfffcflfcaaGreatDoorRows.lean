/-
  NARROWER THAN 'FOR EVERY INPUT', by the rows' own cells (each row's printed sentence says how): KernelModules: laid · KernelNeeds: laid · KernelTells: laid · KernelBinds: laid · KernelPlays: laid · KernelOrder: laid · KernelCopies: laid · KernelValid: laid · SocketKernel: laid.
  DERIVED. THE GIVEN ROWS OF THIS SEAT. 9 by the template 'for every input the law returns true; each argument reads behind the call as it read before'; 0 by the template 'total and deterministic' (their statements: YtmbbkfffcflfcaaGreatDoorTotals.lean).
  GIVEN WITH THE SEED: the statements are not yours to turn. If you find one false, say at which input.
  Laid BY PROGRAM, IN A SANDBOX (cutbox-rows.mjs): the forced cells as the released guide's own fill.sh prints them over the translation f0bef22915fe8f58… (all of the seat's roots in one cut). By AI agents, Wed Nov 11 2026. No macro, syntax, notation, axiom, sorry.
-/
import Derived.Test.YtmbbkfffcflfcaaGreatDoorChecked
import GoSem.PinnedTables
import GoSem.Claim
import GoSem.ClaimJoined
import GoSem.ClaimMapViews
import Derived.JoinedTies
import Derived.KernelRfl
namespace Go.Proofs.YtmbbkfffcflfcaaGreatDoor
/- THE CELL 'sum', in the pinned program and in every row, IS THE sha256 OF THE DUMP (.gsa) THAT YtmbbkfffcflfcaaGreatDoorProg.lean LOADS. Nothing in Lean hashes anything: it is a label: what it is worth is what the hold of that sum in a sandbox is worth. -/
noncomputable def Tryz.pinned : Pinned := { name := "ytmbbkfffcflfcaagreatdoor", sum := "f0bef22915fe8f588dfd363b07108ae7aa72a96df3ff80d15d4378e5f572f1a9", checked := Tryz.checked }
namespace Rows
def none {H : Type} : Left H := { results := [], args := [] }

/- WHAT THE LISTED PACKAGE-LEVEL VARIABLES READ AS WHEN THE CALL BEGINS. Each datum BY PROGRAM (the guide's laid-datum.mjs) off the statement by which the dump's own 'gosem.cut.vars' lays the variable. In a bare row this is a premise. The card (YtmbbkfffcflfcaaGreatDoorCards.lean) ties it to the program's text. -/
def laid_unicode_utf8_acceptRanges {H : Type} : DataW H := .agg [.agg [.lit (.int .u8 128), .lit (.int .u8 191)], .agg [.lit (.int .u8 160), .lit (.int .u8 191)], .agg [.lit (.int .u8 128), .lit (.int .u8 159)], .agg [.lit (.int .u8 144), .lit (.int .u8 191)], .agg [.lit (.int .u8 128), .lit (.int .u8 143)], .agg [.lit (.int .u8 0), .lit (.int .u8 0)], .agg [.lit (.int .u8 0), .lit (.int .u8 0)], .agg [.lit (.int .u8 0), .lit (.int .u8 0)], .agg [.lit (.int .u8 0), .lit (.int .u8 0)], .agg [.lit (.int .u8 0), .lit (.int .u8 0)], .agg [.lit (.int .u8 0), .lit (.int .u8 0)], .agg [.lit (.int .u8 0), .lit (.int .u8 0)], .agg [.lit (.int .u8 0), .lit (.int .u8 0)], .agg [.lit (.int .u8 0), .lit (.int .u8 0)], .agg [.lit (.int .u8 0), .lit (.int .u8 0)], .agg [.lit (.int .u8 0), .lit (.int .u8 0)]]
/-- One of Go's own tables, pinned by name: the form's constant. -/
def laid_unicode_CaseRanges : DataW Unit := Go.Pinned.caseRanges
/-- One of Go's own tables, pinned by name: the form's constant. -/
def laid_unicode_utf8_first : DataW Unit := Go.Pinned.utf8First

/-- 'coldpluglaw05.KernelModules': WHATEVER THE INPUT: true; the input reads as it did. -/
def kernelModulesSpec : ChangeSpec := { name := "kernelModules", fn := fun _ => fun
  | [d1, d2] => { results := [.lit (.bool true)], args := [d1, d2] }
  | _ => none }
def kernelModulesRow : OpenClaim := { program := "ytmbbkfffcflfcaagreatdoor", sum := "f0bef22915fe8f588dfd363b07108ae7aa72a96df3ff80d15d4378e5f572f1a9", func := "coldplug/coldpluglaw05.KernelModules", spec := "kernelModules", inPlace := ["internal/abi.NoEscape", "internal/bytealg.MakeNoZero", "internal/bytealg.CountString", "internal/bytealg.IndexByteString", "internal/bytealg.IndexString", "slices.overlaps[coldplug/api.Device]", "internal/bytealg.abigen_runtime_cmpstring"], unfollowed := true, recurses := true, named := ["unicode/utf8.first", "unicode/utf8.acceptRanges", "unicode.CaseRanges", "internal/bytealg.MaxLen"], apart := false, laid := [("unicode/utf8.acceptRanges", laid_unicode_utf8_acceptRanges), ("unicode.CaseRanges", laid_unicode_CaseRanges), ("unicode/utf8.first", laid_unicode_utf8_first)] }
def KernelModulesSaid : Prop := kernelModulesRow.holds Tryz.pinned (OpenSpec.ofChange kernelModulesSpec)

/-- ITS FALSE NEIGHBOUR: 'it returns false'. Refute it at one input. -/
def kernelModulesWrong : ChangeSpec := { name := "kernelModules", fn := fun _ => fun
  | [d1, d2] => { results := [.lit (.bool false)], args := [d1, d2] }
  | _ => none }
def KernelModulesWrongFalsely : Prop := kernelModulesRow.holds Tryz.pinned (OpenSpec.ofChange kernelModulesWrong)

/-- 'coldpluglaw05.KernelNeeds': WHATEVER THE INPUT: true; the input reads as it did. -/
def kernelNeedsSpec : ChangeSpec := { name := "kernelNeeds", fn := fun _ => fun
  | [d] => { results := [.lit (.bool true)], args := [d] }
  | _ => none }
def kernelNeedsRow : OpenClaim := { program := "ytmbbkfffcflfcaagreatdoor", sum := "f0bef22915fe8f588dfd363b07108ae7aa72a96df3ff80d15d4378e5f572f1a9", func := "coldplug/coldpluglaw05.KernelNeeds", spec := "kernelNeeds", inPlace := ["internal/bytealg.IndexByteString", "internal/abi.NoEscape", "internal/bytealg.MakeNoZero", "internal/bytealg.CountString", "internal/bytealg.IndexString", "slices.overlaps[coldplug/api.Device]", "internal/bytealg.abigen_runtime_cmpstring"], unfollowed := true, recurses := true, named := ["unicode/utf8.first", "unicode/utf8.acceptRanges", "unicode.CaseRanges", "internal/bytealg.MaxLen"], apart := false, laid := [("unicode/utf8.acceptRanges", laid_unicode_utf8_acceptRanges), ("unicode.CaseRanges", laid_unicode_CaseRanges), ("unicode/utf8.first", laid_unicode_utf8_first)] }
def KernelNeedsSaid : Prop := kernelNeedsRow.holds Tryz.pinned (OpenSpec.ofChange kernelNeedsSpec)

/-- ITS FALSE NEIGHBOUR: 'it returns false'. Refute it at one input. -/
def kernelNeedsWrong : ChangeSpec := { name := "kernelNeeds", fn := fun _ => fun
  | [d] => { results := [.lit (.bool false)], args := [d] }
  | _ => none }
def KernelNeedsWrongFalsely : Prop := kernelNeedsRow.holds Tryz.pinned (OpenSpec.ofChange kernelNeedsWrong)

/-- 'coldpluglaw05.KernelTells': WHATEVER THE INPUT: true; the input reads as it did. -/
def kernelTellsSpec : ChangeSpec := { name := "kernelTells", fn := fun _ => fun
  | [d] => { results := [.lit (.bool true)], args := [d] }
  | _ => none }
def kernelTellsRow : OpenClaim := { program := "ytmbbkfffcflfcaagreatdoor", sum := "f0bef22915fe8f588dfd363b07108ae7aa72a96df3ff80d15d4378e5f572f1a9", func := "coldplug/coldpluglaw05.KernelTells", spec := "kernelTells", inPlace := ["internal/bytealg.IndexByteString", "internal/abi.NoEscape", "internal/bytealg.MakeNoZero", "internal/bytealg.CountString", "internal/bytealg.IndexString", "slices.overlaps[coldplug/api.Device]", "internal/bytealg.abigen_runtime_cmpstring"], unfollowed := true, recurses := true, named := ["unicode/utf8.first", "unicode/utf8.acceptRanges", "unicode.CaseRanges", "internal/bytealg.MaxLen"], apart := false, laid := [("unicode/utf8.acceptRanges", laid_unicode_utf8_acceptRanges), ("unicode.CaseRanges", laid_unicode_CaseRanges), ("unicode/utf8.first", laid_unicode_utf8_first)] }
def KernelTellsSaid : Prop := kernelTellsRow.holds Tryz.pinned (OpenSpec.ofChange kernelTellsSpec)

/-- ITS FALSE NEIGHBOUR: 'it returns false'. Refute it at one input. -/
def kernelTellsWrong : ChangeSpec := { name := "kernelTells", fn := fun _ => fun
  | [d] => { results := [.lit (.bool false)], args := [d] }
  | _ => none }
def KernelTellsWrongFalsely : Prop := kernelTellsRow.holds Tryz.pinned (OpenSpec.ofChange kernelTellsWrong)

/-- 'coldpluglaw05.KernelBinds': WHATEVER THE INPUT: true; the input reads as it did. -/
def kernelBindsSpec : ChangeSpec := { name := "kernelBinds", fn := fun _ => fun
  | [d] => { results := [.lit (.bool true)], args := [d] }
  | _ => none }
def kernelBindsRow : OpenClaim := { program := "ytmbbkfffcflfcaagreatdoor", sum := "f0bef22915fe8f588dfd363b07108ae7aa72a96df3ff80d15d4378e5f572f1a9", func := "coldplug/coldpluglaw05.KernelBinds", spec := "kernelBinds", inPlace := ["internal/bytealg.IndexByteString", "internal/abi.NoEscape", "internal/bytealg.MakeNoZero", "internal/bytealg.CountString", "internal/bytealg.IndexString", "slices.overlaps[coldplug/api.Device]", "internal/bytealg.abigen_runtime_cmpstring"], unfollowed := true, recurses := true, named := ["unicode/utf8.first", "unicode/utf8.acceptRanges", "unicode.CaseRanges", "internal/bytealg.MaxLen"], apart := false, laid := [("unicode/utf8.acceptRanges", laid_unicode_utf8_acceptRanges), ("unicode.CaseRanges", laid_unicode_CaseRanges), ("unicode/utf8.first", laid_unicode_utf8_first)] }
def KernelBindsSaid : Prop := kernelBindsRow.holds Tryz.pinned (OpenSpec.ofChange kernelBindsSpec)

/-- ITS FALSE NEIGHBOUR: 'it returns false'. Refute it at one input. -/
def kernelBindsWrong : ChangeSpec := { name := "kernelBinds", fn := fun _ => fun
  | [d] => { results := [.lit (.bool false)], args := [d] }
  | _ => none }
def KernelBindsWrongFalsely : Prop := kernelBindsRow.holds Tryz.pinned (OpenSpec.ofChange kernelBindsWrong)

/-- 'coldpluglaw05.KernelPlays': WHATEVER THE INPUT: true; the input reads as it did. -/
def kernelPlaysSpec : ChangeSpec := { name := "kernelPlays", fn := fun _ => fun
  | [d1, d2] => { results := [.lit (.bool true)], args := [d1, d2] }
  | _ => none }
def kernelPlaysRow : OpenClaim := { program := "ytmbbkfffcflfcaagreatdoor", sum := "f0bef22915fe8f588dfd363b07108ae7aa72a96df3ff80d15d4378e5f572f1a9", func := "coldplug/coldpluglaw05.KernelPlays", spec := "kernelPlays", inPlace := ["internal/bytealg.IndexByteString", "internal/abi.NoEscape", "internal/bytealg.MakeNoZero", "internal/bytealg.CountString", "internal/bytealg.IndexString", "slices.overlaps[coldplug/api.Device]", "internal/bytealg.abigen_runtime_cmpstring"], unfollowed := true, recurses := true, named := ["unicode/utf8.first", "unicode/utf8.acceptRanges", "unicode.CaseRanges", "internal/bytealg.MaxLen"], apart := false, laid := [("unicode/utf8.acceptRanges", laid_unicode_utf8_acceptRanges), ("unicode.CaseRanges", laid_unicode_CaseRanges), ("unicode/utf8.first", laid_unicode_utf8_first)] }
def KernelPlaysSaid : Prop := kernelPlaysRow.holds Tryz.pinned (OpenSpec.ofChange kernelPlaysSpec)

/-- ITS FALSE NEIGHBOUR: 'it returns false'. Refute it at one input. -/
def kernelPlaysWrong : ChangeSpec := { name := "kernelPlays", fn := fun _ => fun
  | [d1, d2] => { results := [.lit (.bool false)], args := [d1, d2] }
  | _ => none }
def KernelPlaysWrongFalsely : Prop := kernelPlaysRow.holds Tryz.pinned (OpenSpec.ofChange kernelPlaysWrong)

/-- 'coldpluglaw05.KernelOrder': WHATEVER THE INPUT: true; the input reads as it did. -/
def kernelOrderSpec : ChangeSpec := { name := "kernelOrder", fn := fun _ => fun
  | [d] => { results := [.lit (.bool true)], args := [d] }
  | _ => none }
def kernelOrderRow : OpenClaim := { program := "ytmbbkfffcflfcaagreatdoor", sum := "f0bef22915fe8f588dfd363b07108ae7aa72a96df3ff80d15d4378e5f572f1a9", func := "coldplug/coldpluglaw05.KernelOrder", spec := "kernelOrder", inPlace := ["internal/bytealg.IndexByteString", "internal/abi.NoEscape", "internal/bytealg.MakeNoZero", "internal/bytealg.CountString", "internal/bytealg.IndexString", "slices.overlaps[coldplug/api.Device]", "internal/bytealg.abigen_runtime_cmpstring"], unfollowed := true, recurses := true, named := ["unicode/utf8.first", "unicode/utf8.acceptRanges", "unicode.CaseRanges", "internal/bytealg.MaxLen"], apart := false, laid := [("unicode/utf8.acceptRanges", laid_unicode_utf8_acceptRanges), ("unicode.CaseRanges", laid_unicode_CaseRanges), ("unicode/utf8.first", laid_unicode_utf8_first)] }
def KernelOrderSaid : Prop := kernelOrderRow.holds Tryz.pinned (OpenSpec.ofChange kernelOrderSpec)

/-- ITS FALSE NEIGHBOUR: 'it returns false'. Refute it at one input. -/
def kernelOrderWrong : ChangeSpec := { name := "kernelOrder", fn := fun _ => fun
  | [d] => { results := [.lit (.bool false)], args := [d] }
  | _ => none }
def KernelOrderWrongFalsely : Prop := kernelOrderRow.holds Tryz.pinned (OpenSpec.ofChange kernelOrderWrong)

/-- 'coldpluglaw05.KernelCopies': WHATEVER THE INPUT: true; the input reads as it did. -/
def kernelCopiesSpec : ChangeSpec := { name := "kernelCopies", fn := fun _ => fun
  | [d] => { results := [.lit (.bool true)], args := [d] }
  | _ => none }
def kernelCopiesRow : OpenClaim := { program := "ytmbbkfffcflfcaagreatdoor", sum := "f0bef22915fe8f588dfd363b07108ae7aa72a96df3ff80d15d4378e5f572f1a9", func := "coldplug/coldpluglaw05.KernelCopies", spec := "kernelCopies", inPlace := ["internal/bytealg.IndexByteString", "internal/abi.NoEscape", "internal/bytealg.MakeNoZero", "internal/bytealg.CountString", "internal/bytealg.IndexString", "slices.overlaps[coldplug/api.Device]", "internal/bytealg.abigen_runtime_cmpstring"], unfollowed := true, recurses := true, named := ["unicode/utf8.first", "unicode/utf8.acceptRanges", "unicode.CaseRanges", "internal/bytealg.MaxLen"], apart := false, laid := [("unicode/utf8.acceptRanges", laid_unicode_utf8_acceptRanges), ("unicode.CaseRanges", laid_unicode_CaseRanges), ("unicode/utf8.first", laid_unicode_utf8_first)] }
def KernelCopiesSaid : Prop := kernelCopiesRow.holds Tryz.pinned (OpenSpec.ofChange kernelCopiesSpec)

/-- ITS FALSE NEIGHBOUR: 'it returns false'. Refute it at one input. -/
def kernelCopiesWrong : ChangeSpec := { name := "kernelCopies", fn := fun _ => fun
  | [d] => { results := [.lit (.bool false)], args := [d] }
  | _ => none }
def KernelCopiesWrongFalsely : Prop := kernelCopiesRow.holds Tryz.pinned (OpenSpec.ofChange kernelCopiesWrong)

/-- 'coldpluglaw05.KernelValid': WHATEVER THE INPUT: true; the input reads as it did. -/
def kernelValidSpec : ChangeSpec := { name := "kernelValid", fn := fun _ => fun
  | [d1, d2] => { results := [.lit (.bool true)], args := [d1, d2] }
  | _ => none }
def kernelValidRow : OpenClaim := { program := "ytmbbkfffcflfcaagreatdoor", sum := "f0bef22915fe8f588dfd363b07108ae7aa72a96df3ff80d15d4378e5f572f1a9", func := "coldplug/coldpluglaw05.KernelValid", spec := "kernelValid", inPlace := ["internal/bytealg.IndexByteString", "internal/abi.NoEscape", "internal/bytealg.MakeNoZero", "internal/bytealg.CountString", "internal/bytealg.IndexString", "slices.overlaps[coldplug/api.Device]", "internal/bytealg.abigen_runtime_cmpstring"], unfollowed := true, recurses := true, named := ["unicode/utf8.first", "unicode/utf8.acceptRanges", "unicode.CaseRanges", "internal/bytealg.MaxLen"], apart := false, laid := [("unicode/utf8.acceptRanges", laid_unicode_utf8_acceptRanges), ("unicode.CaseRanges", laid_unicode_CaseRanges), ("unicode/utf8.first", laid_unicode_utf8_first)] }
def KernelValidSaid : Prop := kernelValidRow.holds Tryz.pinned (OpenSpec.ofChange kernelValidSpec)

/-- ITS FALSE NEIGHBOUR: 'it returns false'. Refute it at one input. -/
def kernelValidWrong : ChangeSpec := { name := "kernelValid", fn := fun _ => fun
  | [d1, d2] => { results := [.lit (.bool false)], args := [d1, d2] }
  | _ => none }
def KernelValidWrongFalsely : Prop := kernelValidRow.holds Tryz.pinned (OpenSpec.ofChange kernelValidWrong)

/-- 'coldpluglaw06.SocketKernel': WHATEVER THE INPUT: true; the input reads as it did. -/
def socketKernelSpec : ChangeSpec := { name := "socketKernel", fn := fun _ => fun
  | [d] => { results := [.lit (.bool true)], args := [d] }
  | _ => none }
def socketKernelRow : OpenClaim := { program := "ytmbbkfffcflfcaagreatdoor", sum := "f0bef22915fe8f588dfd363b07108ae7aa72a96df3ff80d15d4378e5f572f1a9", func := "coldplug/coldpluglaw06.SocketKernel", spec := "socketKernel", inPlace := ["internal/abi.NoEscape", "internal/bytealg.MakeNoZero", "internal/bytealg.CountString", "internal/bytealg.IndexByteString", "internal/bytealg.IndexString", "slices.overlaps[coldplug/api.Device]", "internal/bytealg.abigen_runtime_cmpstring"], unfollowed := true, recurses := true, named := ["unicode/utf8.first", "unicode/utf8.acceptRanges", "unicode.CaseRanges", "internal/bytealg.MaxLen"], apart := false, laid := [("unicode/utf8.acceptRanges", laid_unicode_utf8_acceptRanges), ("unicode.CaseRanges", laid_unicode_CaseRanges), ("unicode/utf8.first", laid_unicode_utf8_first)] }
def SocketKernelSaid : Prop := socketKernelRow.holds Tryz.pinned (OpenSpec.ofChange socketKernelSpec)

/-- ITS FALSE NEIGHBOUR: 'it returns false'. Refute it at one input. -/
def socketKernelWrong : ChangeSpec := { name := "socketKernel", fn := fun _ => fun
  | [d] => { results := [.lit (.bool false)], args := [d] }
  | _ => none }
def SocketKernelWrongFalsely : Prop := socketKernelRow.holds Tryz.pinned (OpenSpec.ofChange socketKernelWrong)

/- THE SECOND FORM. 'bulk': how many values and letters a reading holds, each counted each time it is reached (what is shared counts as often as it is met; a slice's spare places count too). A statement '..UptoSaid' is the law's where the arguments, and the package variables that the reading takes, are together of bulk at most 1048576: NARROWER than '..Said'. Prove '..Said' where nothing that the law and all that it calls make is longer than what came in: it says more and counts as full. Else prove '..UptoSaid'. A law counts once. -/
mutual
def uptoBulk {H : Type} : DataW H → Nat
  | .lit (.string bytes) => bytes.length + 1
  | .lit _ => 1
  | .nil => 1
  | .ptr d => uptoBulk d + 1
  | .slice elems spare => uptoBulkAll elems + uptoBulkAll spare + 1
  | .agg parts => uptoBulkAll parts + 1
  | .iface _ d => uptoBulk d + 1
  | .map entries => uptoBulkEntries entries + 1
  | .held _ => 1
def uptoBulkAll {H : Type} : List (DataW H) → Nat
  | [] => 0
  | d :: r => uptoBulk d + uptoBulkAll r
def uptoBulkEntries {H : Type} : List (Lit × DataW H) → Nat
  | [] => 0
  | x :: r => uptoBulkEntry x + uptoBulkEntries r
def uptoBulkEntry {H : Type} : Lit × DataW H → Nat
  | (.string bytes, d) => bytes.length + uptoBulk d + 1
  | (_, d) => uptoBulk d + 1
 end
def uptoSmall : (H : Type) → List (DataW H) → Bool := fun _ ds => decide (uptoBulkAll ds ≤ 1048576)
def OpenSpec.upto (s : _root_.Go.ChangeSpec) : _root_.Go.OpenSpec := { _root_.Go.OpenSpec.ofChange s with cond := some uptoSmall }

/-- 'coldpluglaw05.KernelModules', WHERE WHAT IT READS IS OF BULK AT MOST 1048576: true; the input reads as it did. -/
def kernelModulesUptoRow : OpenClaim := { program := "ytmbbkfffcflfcaagreatdoor", sum := "f0bef22915fe8f588dfd363b07108ae7aa72a96df3ff80d15d4378e5f572f1a9", func := "coldplug/coldpluglaw05.KernelModules", spec := "kernelModules", inPlace := ["internal/abi.NoEscape", "internal/bytealg.MakeNoZero", "internal/bytealg.CountString", "internal/bytealg.IndexByteString", "internal/bytealg.IndexString", "slices.overlaps[coldplug/api.Device]", "internal/bytealg.abigen_runtime_cmpstring"], unfollowed := true, recurses := true, named := ["unicode/utf8.first", "unicode/utf8.acceptRanges", "unicode.CaseRanges", "internal/bytealg.MaxLen"], apart := false, laid := [("unicode/utf8.acceptRanges", laid_unicode_utf8_acceptRanges), ("unicode.CaseRanges", laid_unicode_CaseRanges), ("unicode/utf8.first", laid_unicode_utf8_first)], narrowed := true }
def KernelModulesUptoSaid : Prop := kernelModulesUptoRow.holds Tryz.pinned (OpenSpec.upto kernelModulesSpec)

/-- 'coldpluglaw05.KernelNeeds', WHERE WHAT IT READS IS OF BULK AT MOST 1048576: true; the input reads as it did. -/
def kernelNeedsUptoRow : OpenClaim := { program := "ytmbbkfffcflfcaagreatdoor", sum := "f0bef22915fe8f588dfd363b07108ae7aa72a96df3ff80d15d4378e5f572f1a9", func := "coldplug/coldpluglaw05.KernelNeeds", spec := "kernelNeeds", inPlace := ["internal/bytealg.IndexByteString", "internal/abi.NoEscape", "internal/bytealg.MakeNoZero", "internal/bytealg.CountString", "internal/bytealg.IndexString", "slices.overlaps[coldplug/api.Device]", "internal/bytealg.abigen_runtime_cmpstring"], unfollowed := true, recurses := true, named := ["unicode/utf8.first", "unicode/utf8.acceptRanges", "unicode.CaseRanges", "internal/bytealg.MaxLen"], apart := false, laid := [("unicode/utf8.acceptRanges", laid_unicode_utf8_acceptRanges), ("unicode.CaseRanges", laid_unicode_CaseRanges), ("unicode/utf8.first", laid_unicode_utf8_first)], narrowed := true }
def KernelNeedsUptoSaid : Prop := kernelNeedsUptoRow.holds Tryz.pinned (OpenSpec.upto kernelNeedsSpec)

/-- 'coldpluglaw05.KernelTells', WHERE WHAT IT READS IS OF BULK AT MOST 1048576: true; the input reads as it did. -/
def kernelTellsUptoRow : OpenClaim := { program := "ytmbbkfffcflfcaagreatdoor", sum := "f0bef22915fe8f588dfd363b07108ae7aa72a96df3ff80d15d4378e5f572f1a9", func := "coldplug/coldpluglaw05.KernelTells", spec := "kernelTells", inPlace := ["internal/bytealg.IndexByteString", "internal/abi.NoEscape", "internal/bytealg.MakeNoZero", "internal/bytealg.CountString", "internal/bytealg.IndexString", "slices.overlaps[coldplug/api.Device]", "internal/bytealg.abigen_runtime_cmpstring"], unfollowed := true, recurses := true, named := ["unicode/utf8.first", "unicode/utf8.acceptRanges", "unicode.CaseRanges", "internal/bytealg.MaxLen"], apart := false, laid := [("unicode/utf8.acceptRanges", laid_unicode_utf8_acceptRanges), ("unicode.CaseRanges", laid_unicode_CaseRanges), ("unicode/utf8.first", laid_unicode_utf8_first)], narrowed := true }
def KernelTellsUptoSaid : Prop := kernelTellsUptoRow.holds Tryz.pinned (OpenSpec.upto kernelTellsSpec)

/-- 'coldpluglaw05.KernelBinds', WHERE WHAT IT READS IS OF BULK AT MOST 1048576: true; the input reads as it did. -/
def kernelBindsUptoRow : OpenClaim := { program := "ytmbbkfffcflfcaagreatdoor", sum := "f0bef22915fe8f588dfd363b07108ae7aa72a96df3ff80d15d4378e5f572f1a9", func := "coldplug/coldpluglaw05.KernelBinds", spec := "kernelBinds", inPlace := ["internal/bytealg.IndexByteString", "internal/abi.NoEscape", "internal/bytealg.MakeNoZero", "internal/bytealg.CountString", "internal/bytealg.IndexString", "slices.overlaps[coldplug/api.Device]", "internal/bytealg.abigen_runtime_cmpstring"], unfollowed := true, recurses := true, named := ["unicode/utf8.first", "unicode/utf8.acceptRanges", "unicode.CaseRanges", "internal/bytealg.MaxLen"], apart := false, laid := [("unicode/utf8.acceptRanges", laid_unicode_utf8_acceptRanges), ("unicode.CaseRanges", laid_unicode_CaseRanges), ("unicode/utf8.first", laid_unicode_utf8_first)], narrowed := true }
def KernelBindsUptoSaid : Prop := kernelBindsUptoRow.holds Tryz.pinned (OpenSpec.upto kernelBindsSpec)

/-- 'coldpluglaw05.KernelPlays', WHERE WHAT IT READS IS OF BULK AT MOST 1048576: true; the input reads as it did. -/
def kernelPlaysUptoRow : OpenClaim := { program := "ytmbbkfffcflfcaagreatdoor", sum := "f0bef22915fe8f588dfd363b07108ae7aa72a96df3ff80d15d4378e5f572f1a9", func := "coldplug/coldpluglaw05.KernelPlays", spec := "kernelPlays", inPlace := ["internal/bytealg.IndexByteString", "internal/abi.NoEscape", "internal/bytealg.MakeNoZero", "internal/bytealg.CountString", "internal/bytealg.IndexString", "slices.overlaps[coldplug/api.Device]", "internal/bytealg.abigen_runtime_cmpstring"], unfollowed := true, recurses := true, named := ["unicode/utf8.first", "unicode/utf8.acceptRanges", "unicode.CaseRanges", "internal/bytealg.MaxLen"], apart := false, laid := [("unicode/utf8.acceptRanges", laid_unicode_utf8_acceptRanges), ("unicode.CaseRanges", laid_unicode_CaseRanges), ("unicode/utf8.first", laid_unicode_utf8_first)], narrowed := true }
def KernelPlaysUptoSaid : Prop := kernelPlaysUptoRow.holds Tryz.pinned (OpenSpec.upto kernelPlaysSpec)

/-- 'coldpluglaw05.KernelOrder', WHERE WHAT IT READS IS OF BULK AT MOST 1048576: true; the input reads as it did. -/
def kernelOrderUptoRow : OpenClaim := { program := "ytmbbkfffcflfcaagreatdoor", sum := "f0bef22915fe8f588dfd363b07108ae7aa72a96df3ff80d15d4378e5f572f1a9", func := "coldplug/coldpluglaw05.KernelOrder", spec := "kernelOrder", inPlace := ["internal/bytealg.IndexByteString", "internal/abi.NoEscape", "internal/bytealg.MakeNoZero", "internal/bytealg.CountString", "internal/bytealg.IndexString", "slices.overlaps[coldplug/api.Device]", "internal/bytealg.abigen_runtime_cmpstring"], unfollowed := true, recurses := true, named := ["unicode/utf8.first", "unicode/utf8.acceptRanges", "unicode.CaseRanges", "internal/bytealg.MaxLen"], apart := false, laid := [("unicode/utf8.acceptRanges", laid_unicode_utf8_acceptRanges), ("unicode.CaseRanges", laid_unicode_CaseRanges), ("unicode/utf8.first", laid_unicode_utf8_first)], narrowed := true }
def KernelOrderUptoSaid : Prop := kernelOrderUptoRow.holds Tryz.pinned (OpenSpec.upto kernelOrderSpec)

/-- 'coldpluglaw05.KernelCopies', WHERE WHAT IT READS IS OF BULK AT MOST 1048576: true; the input reads as it did. -/
def kernelCopiesUptoRow : OpenClaim := { program := "ytmbbkfffcflfcaagreatdoor", sum := "f0bef22915fe8f588dfd363b07108ae7aa72a96df3ff80d15d4378e5f572f1a9", func := "coldplug/coldpluglaw05.KernelCopies", spec := "kernelCopies", inPlace := ["internal/bytealg.IndexByteString", "internal/abi.NoEscape", "internal/bytealg.MakeNoZero", "internal/bytealg.CountString", "internal/bytealg.IndexString", "slices.overlaps[coldplug/api.Device]", "internal/bytealg.abigen_runtime_cmpstring"], unfollowed := true, recurses := true, named := ["unicode/utf8.first", "unicode/utf8.acceptRanges", "unicode.CaseRanges", "internal/bytealg.MaxLen"], apart := false, laid := [("unicode/utf8.acceptRanges", laid_unicode_utf8_acceptRanges), ("unicode.CaseRanges", laid_unicode_CaseRanges), ("unicode/utf8.first", laid_unicode_utf8_first)], narrowed := true }
def KernelCopiesUptoSaid : Prop := kernelCopiesUptoRow.holds Tryz.pinned (OpenSpec.upto kernelCopiesSpec)

/-- 'coldpluglaw05.KernelValid', WHERE WHAT IT READS IS OF BULK AT MOST 1048576: true; the input reads as it did. -/
def kernelValidUptoRow : OpenClaim := { program := "ytmbbkfffcflfcaagreatdoor", sum := "f0bef22915fe8f588dfd363b07108ae7aa72a96df3ff80d15d4378e5f572f1a9", func := "coldplug/coldpluglaw05.KernelValid", spec := "kernelValid", inPlace := ["internal/bytealg.IndexByteString", "internal/abi.NoEscape", "internal/bytealg.MakeNoZero", "internal/bytealg.CountString", "internal/bytealg.IndexString", "slices.overlaps[coldplug/api.Device]", "internal/bytealg.abigen_runtime_cmpstring"], unfollowed := true, recurses := true, named := ["unicode/utf8.first", "unicode/utf8.acceptRanges", "unicode.CaseRanges", "internal/bytealg.MaxLen"], apart := false, laid := [("unicode/utf8.acceptRanges", laid_unicode_utf8_acceptRanges), ("unicode.CaseRanges", laid_unicode_CaseRanges), ("unicode/utf8.first", laid_unicode_utf8_first)], narrowed := true }
def KernelValidUptoSaid : Prop := kernelValidUptoRow.holds Tryz.pinned (OpenSpec.upto kernelValidSpec)

/-- 'coldpluglaw06.SocketKernel', WHERE WHAT IT READS IS OF BULK AT MOST 1048576: true; the input reads as it did. -/
def socketKernelUptoRow : OpenClaim := { program := "ytmbbkfffcflfcaagreatdoor", sum := "f0bef22915fe8f588dfd363b07108ae7aa72a96df3ff80d15d4378e5f572f1a9", func := "coldplug/coldpluglaw06.SocketKernel", spec := "socketKernel", inPlace := ["internal/abi.NoEscape", "internal/bytealg.MakeNoZero", "internal/bytealg.CountString", "internal/bytealg.IndexByteString", "internal/bytealg.IndexString", "slices.overlaps[coldplug/api.Device]", "internal/bytealg.abigen_runtime_cmpstring"], unfollowed := true, recurses := true, named := ["unicode/utf8.first", "unicode/utf8.acceptRanges", "unicode.CaseRanges", "internal/bytealg.MaxLen"], apart := false, laid := [("unicode/utf8.acceptRanges", laid_unicode_utf8_acceptRanges), ("unicode.CaseRanges", laid_unicode_CaseRanges), ("unicode/utf8.first", laid_unicode_utf8_first)], narrowed := true }
def SocketKernelUptoSaid : Prop := socketKernelUptoRow.holds Tryz.pinned (OpenSpec.upto socketKernelSpec)

end Rows
end Go.Proofs.YtmbbkfffcflfcaaGreatDoor
