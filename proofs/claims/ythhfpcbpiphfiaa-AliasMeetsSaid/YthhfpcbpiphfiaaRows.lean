/-
  No cell of these rows narrows 'for every input' (looked for: loops, veiled, ifaces, maps, wideKeys, modest, calm, conditions, laid).
  DERIVED. THE GIVEN ROWS OF THIS SEAT. 4 by the template 'for every input the law returns true; each argument reads behind the call as it read before'; 0 by the template 'total and deterministic' (their statements: YthhfpcbpiphfiaaTotals.lean).
  GIVEN WITH THE SEED: the statements are not yours to turn. If you find one false, say at which input.
  Laid BY PROGRAM, IN A SANDBOX (cutbox-rows.mjs): the forced cells as the released guide's own fill.sh prints them over the translation ff828ac6de114ddc… (all of the seat's roots in one cut). By AI agents, Wed Nov 11 2026. No macro, syntax, notation, axiom, sorry.
-/
import Derived.Test.YthhfpcbpiphfiaaChecked
import GoSem.Claim
import GoSem.ClaimJoined
import GoSem.ClaimMapViews
import Derived.JoinedTies
import Derived.KernelRfl
namespace Go.Proofs.Ythhfpcbpiphfiaa
/- THE CELL 'sum', in the pinned program and in every row, IS THE sha256 OF THE DUMP (.gsa) THAT YthhfpcbpiphfiaaProg.lean LOADS. Nothing in Lean hashes anything: it is a label: what it is worth is what the hold of that sum in a sandbox is worth. -/
noncomputable def Try.pinned : Pinned := { name := "ythhfpcbpiphfiaa", sum := "ff828ac6de114ddc4525e83386c1d694d2df420283c6efc8351b06a903d28abd", checked := Try.checked }
namespace Rows
def none {H : Type} : Left H := { results := [], args := [] }

/-- 'coldpluglaw18.AliasFinds': WHATEVER THE INPUT: true; the input reads as it did. -/
def aliasFindsSpec : ChangeSpec := { name := "aliasFinds", fn := fun _ => fun
  | [d1, d2] => { results := [.lit (.bool true)], args := [d1, d2] }
  | _ => none }
def aliasFindsRow : OpenClaim := { program := "ythhfpcbpiphfiaa", sum := "ff828ac6de114ddc4525e83386c1d694d2df420283c6efc8351b06a903d28abd", func := "coldplug/coldpluglaw18.AliasFinds", spec := "aliasFinds", unfollowed := true, recurses := true, plainKeys := false, apart := false }
def AliasFindsSaid : Prop := aliasFindsRow.holds Try.pinned (OpenSpec.ofChange aliasFindsSpec)

/-- ITS FALSE NEIGHBOUR: 'it returns false'. Refute it at one input. -/
def aliasFindsWrong : ChangeSpec := { name := "aliasFinds", fn := fun _ => fun
  | [d1, d2] => { results := [.lit (.bool false)], args := [d1, d2] }
  | _ => none }
def AliasFindsWrongFalsely : Prop := aliasFindsRow.holds Try.pinned (OpenSpec.ofChange aliasFindsWrong)

/-- 'coldpluglaw18.AliasBlocks': WHATEVER THE INPUT: true; the input reads as it did. -/
def aliasBlocksSpec : ChangeSpec := { name := "aliasBlocks", fn := fun _ => fun
  | [d] => { results := [.lit (.bool true)], args := [d] }
  | _ => none }
def aliasBlocksRow : OpenClaim := { program := "ythhfpcbpiphfiaa", sum := "ff828ac6de114ddc4525e83386c1d694d2df420283c6efc8351b06a903d28abd", func := "coldplug/coldpluglaw18.AliasBlocks", spec := "aliasBlocks", unfollowed := true, recurses := true, plainKeys := false, apart := false }
def AliasBlocksSaid : Prop := aliasBlocksRow.holds Try.pinned (OpenSpec.ofChange aliasBlocksSpec)

/-- ITS FALSE NEIGHBOUR: 'it returns false'. Refute it at one input. -/
def aliasBlocksWrong : ChangeSpec := { name := "aliasBlocks", fn := fun _ => fun
  | [d] => { results := [.lit (.bool false)], args := [d] }
  | _ => none }
def AliasBlocksWrongFalsely : Prop := aliasBlocksRow.holds Try.pinned (OpenSpec.ofChange aliasBlocksWrong)

/-- 'coldpluglaw18.AliasShares': WHATEVER THE INPUT: true; the input reads as it did. -/
def aliasSharesSpec : ChangeSpec := { name := "aliasShares", fn := fun _ => fun
  | [d1, d2, d3] => { results := [.lit (.bool true)], args := [d1, d2, d3] }
  | _ => none }
def aliasSharesRow : OpenClaim := { program := "ythhfpcbpiphfiaa", sum := "ff828ac6de114ddc4525e83386c1d694d2df420283c6efc8351b06a903d28abd", func := "coldplug/coldpluglaw18.AliasShares", spec := "aliasShares", unfollowed := true, recurses := true, plainKeys := false, apart := false }
def AliasSharesSaid : Prop := aliasSharesRow.holds Try.pinned (OpenSpec.ofChange aliasSharesSpec)

/-- ITS FALSE NEIGHBOUR: 'it returns false'. Refute it at one input. -/
def aliasSharesWrong : ChangeSpec := { name := "aliasShares", fn := fun _ => fun
  | [d1, d2, d3] => { results := [.lit (.bool false)], args := [d1, d2, d3] }
  | _ => none }
def AliasSharesWrongFalsely : Prop := aliasSharesRow.holds Try.pinned (OpenSpec.ofChange aliasSharesWrong)

/-- 'coldpluglaw18.AliasMeets': WHATEVER THE INPUT: true; the input reads as it did. -/
def aliasMeetsSpec : ChangeSpec := { name := "aliasMeets", fn := fun _ => fun
  | [d] => { results := [.lit (.bool true)], args := [d] }
  | _ => none }
def aliasMeetsRow : OpenClaim := { program := "ythhfpcbpiphfiaa", sum := "ff828ac6de114ddc4525e83386c1d694d2df420283c6efc8351b06a903d28abd", func := "coldplug/coldpluglaw18.AliasMeets", spec := "aliasMeets", unfollowed := true, recurses := true, plainKeys := false, apart := false }
def AliasMeetsSaid : Prop := aliasMeetsRow.holds Try.pinned (OpenSpec.ofChange aliasMeetsSpec)

/-- ITS FALSE NEIGHBOUR: 'it returns false'. Refute it at one input. -/
def aliasMeetsWrong : ChangeSpec := { name := "aliasMeets", fn := fun _ => fun
  | [d] => { results := [.lit (.bool false)], args := [d] }
  | _ => none }
def AliasMeetsWrongFalsely : Prop := aliasMeetsRow.holds Try.pinned (OpenSpec.ofChange aliasMeetsWrong)

/- THE SECOND FORM. 'bulk': how many values and letters a reading holds, each counted each time it is reached (what is shared counts as often as it is met; a slice's spare places count too). A statement '..UptoSaid' is the law's where the arguments, and the package variables that the reading takes, are together of bulk at most 1048576: NARROWER than '..Said'. Prove '..Said' where nothing that the law and all that it calls make is longer than what came in: it says more and counts as full. Else prove '..UptoSaid'. A law counts once. -/
mutual
def uptoBulk {H : Type} : DataW H → Nat
  | .lit (.string bytes) => bytes.length + 1
  | .lit _ => 1
  | .nil => 1
  | .ptr d => uptoBulk d + 1
  | .slice elems spare => uptoBulkAll elems + uptoBulkAll spare + 1
  | .agg parts => uptoBulkAll parts + 1
  | .iface _ d => uptoBulk d + 1
  | .map entries => uptoBulkEntries entries + 1
  | .held _ => 1
def uptoBulkAll {H : Type} : List (DataW H) → Nat
  | [] => 0
  | d :: r => uptoBulk d + uptoBulkAll r
def uptoBulkEntries {H : Type} : List (Lit × DataW H) → Nat
  | [] => 0
  | x :: r => uptoBulkEntry x + uptoBulkEntries r
def uptoBulkEntry {H : Type} : Lit × DataW H → Nat
  | (.string bytes, d) => bytes.length + uptoBulk d + 1
  | (_, d) => uptoBulk d + 1
 end
def uptoSmall : (H : Type) → List (DataW H) → Bool := fun _ ds => decide (uptoBulkAll ds ≤ 1048576)
def OpenSpec.upto (s : _root_.Go.ChangeSpec) : _root_.Go.OpenSpec := { _root_.Go.OpenSpec.ofChange s with cond := some uptoSmall }

/-- 'coldpluglaw18.AliasFinds', WHERE WHAT IT READS IS OF BULK AT MOST 1048576: true; the input reads as it did. -/
def aliasFindsUptoRow : OpenClaim := { program := "ythhfpcbpiphfiaa", sum := "ff828ac6de114ddc4525e83386c1d694d2df420283c6efc8351b06a903d28abd", func := "coldplug/coldpluglaw18.AliasFinds", spec := "aliasFinds", unfollowed := true, recurses := true, plainKeys := false, apart := false, narrowed := true }
def AliasFindsUptoSaid : Prop := aliasFindsUptoRow.holds Try.pinned (OpenSpec.upto aliasFindsSpec)

/-- 'coldpluglaw18.AliasBlocks', WHERE WHAT IT READS IS OF BULK AT MOST 1048576: true; the input reads as it did. -/
def aliasBlocksUptoRow : OpenClaim := { program := "ythhfpcbpiphfiaa", sum := "ff828ac6de114ddc4525e83386c1d694d2df420283c6efc8351b06a903d28abd", func := "coldplug/coldpluglaw18.AliasBlocks", spec := "aliasBlocks", unfollowed := true, recurses := true, plainKeys := false, apart := false, narrowed := true }
def AliasBlocksUptoSaid : Prop := aliasBlocksUptoRow.holds Try.pinned (OpenSpec.upto aliasBlocksSpec)

/-- 'coldpluglaw18.AliasShares', WHERE WHAT IT READS IS OF BULK AT MOST 1048576: true; the input reads as it did. -/
def aliasSharesUptoRow : OpenClaim := { program := "ythhfpcbpiphfiaa", sum := "ff828ac6de114ddc4525e83386c1d694d2df420283c6efc8351b06a903d28abd", func := "coldplug/coldpluglaw18.AliasShares", spec := "aliasShares", unfollowed := true, recurses := true, plainKeys := false, apart := false, narrowed := true }
def AliasSharesUptoSaid : Prop := aliasSharesUptoRow.holds Try.pinned (OpenSpec.upto aliasSharesSpec)

/-- 'coldpluglaw18.AliasMeets', WHERE WHAT IT READS IS OF BULK AT MOST 1048576: true; the input reads as it did. -/
def aliasMeetsUptoRow : OpenClaim := { program := "ythhfpcbpiphfiaa", sum := "ff828ac6de114ddc4525e83386c1d694d2df420283c6efc8351b06a903d28abd", func := "coldplug/coldpluglaw18.AliasMeets", spec := "aliasMeets", unfollowed := true, recurses := true, plainKeys := false, apart := false, narrowed := true }
def AliasMeetsUptoSaid : Prop := aliasMeetsUptoRow.holds Try.pinned (OpenSpec.upto aliasMeetsSpec)

end Rows
end Go.Proofs.Ythhfpcbpiphfiaa
