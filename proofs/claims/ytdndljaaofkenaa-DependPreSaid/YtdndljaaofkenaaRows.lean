/-
  No cell of these rows narrows 'for every input' (looked for: loops, veiled, ifaces, maps, wideKeys, modest, calm, conditions, laid).
  DERIVED. THE GIVEN ROWS OF THIS SEAT. 6 by the template 'for every input the law returns true; each argument reads behind the call as it read before'; 0 by the template 'total and deterministic' (their statements: YtdndljaaofkenaaTotals.lean).
  GIVEN WITH THE SEED: the statements are not yours to turn. If you find one false, say at which input.
  Laid BY PROGRAM, IN A SANDBOX (cutbox-rows.mjs): the forced cells as the released guide's own fill.sh prints them over the translation 5e0894d6026e8a92… (all of the seat's roots in one cut). By AI agents, Wed Nov 11 2026. No macro, syntax, notation, axiom, sorry.
-/
import Derived.Test.YtdndljaaofkenaaChecked
import GoSem.Claim
import GoSem.ClaimJoined
import GoSem.ClaimMapViews
import Derived.JoinedTies
import Derived.KernelRfl
namespace Go.Proofs.Ytdndljaaofkenaa
/- THE CELL 'sum', in the pinned program and in every row, IS THE sha256 OF THE DUMP (.gsa) THAT YtdndljaaofkenaaProg.lean LOADS. Nothing in Lean hashes anything: it is a label: what it is worth is what the hold of that sum in a sandbox is worth. -/
noncomputable def Try.pinned : Pinned := { name := "ytdndljaaofkenaa", sum := "5e0894d6026e8a92ecb504e869d07ec19896b55de001fbdad218660a393e5387", checked := Try.checked }
namespace Rows
def none {H : Type} : Left H := { results := [], args := [] }

/-- 'coldpluglaw19.DependCans': WHATEVER THE INPUT: true; the input reads as it did. -/
def dependCansSpec : ChangeSpec := { name := "dependCans", fn := fun _ => fun
  | [d1, d2] => { results := [.lit (.bool true)], args := [d1, d2] }
  | _ => none }
def dependCansRow : OpenClaim := { program := "ytdndljaaofkenaa", sum := "5e0894d6026e8a92ecb504e869d07ec19896b55de001fbdad218660a393e5387", func := "coldplug/coldpluglaw19.DependCans", spec := "dependCans", unfollowed := true, recurses := true, apart := false }
def DependCansSaid : Prop := dependCansRow.holds Try.pinned (OpenSpec.ofChange dependCansSpec)

/-- ITS FALSE NEIGHBOUR: 'it returns false'. Refute it at one input. -/
def dependCansWrong : ChangeSpec := { name := "dependCans", fn := fun _ => fun
  | [d1, d2] => { results := [.lit (.bool false)], args := [d1, d2] }
  | _ => none }
def DependCansWrongFalsely : Prop := dependCansRow.holds Try.pinned (OpenSpec.ofChange dependCansWrong)

/-- 'coldpluglaw19.DependClosures': WHATEVER THE INPUT: true; the input reads as it did. -/
def dependClosuresSpec : ChangeSpec := { name := "dependClosures", fn := fun _ => fun
  | [d1, d2] => { results := [.lit (.bool true)], args := [d1, d2] }
  | _ => none }
def dependClosuresRow : OpenClaim := { program := "ytdndljaaofkenaa", sum := "5e0894d6026e8a92ecb504e869d07ec19896b55de001fbdad218660a393e5387", func := "coldplug/coldpluglaw19.DependClosures", spec := "dependClosures", unfollowed := true, recurses := true, apart := false }
def DependClosuresSaid : Prop := dependClosuresRow.holds Try.pinned (OpenSpec.ofChange dependClosuresSpec)

/-- ITS FALSE NEIGHBOUR: 'it returns false'. Refute it at one input. -/
def dependClosuresWrong : ChangeSpec := { name := "dependClosures", fn := fun _ => fun
  | [d1, d2] => { results := [.lit (.bool false)], args := [d1, d2] }
  | _ => none }
def DependClosuresWrongFalsely : Prop := dependClosuresRow.holds Try.pinned (OpenSpec.ofChange dependClosuresWrong)

/-- 'coldpluglaw19.DependOrders': WHATEVER THE INPUT: true; the input reads as it did. -/
def dependOrdersSpec : ChangeSpec := { name := "dependOrders", fn := fun _ => fun
  | [d1, d2] => { results := [.lit (.bool true)], args := [d1, d2] }
  | _ => none }
def dependOrdersRow : OpenClaim := { program := "ytdndljaaofkenaa", sum := "5e0894d6026e8a92ecb504e869d07ec19896b55de001fbdad218660a393e5387", func := "coldplug/coldpluglaw19.DependOrders", spec := "dependOrders", unfollowed := true, recurses := true, apart := false }
def DependOrdersSaid : Prop := dependOrdersRow.holds Try.pinned (OpenSpec.ofChange dependOrdersSpec)

/-- ITS FALSE NEIGHBOUR: 'it returns false'. Refute it at one input. -/
def dependOrdersWrong : ChangeSpec := { name := "dependOrders", fn := fun _ => fun
  | [d1, d2] => { results := [.lit (.bool false)], args := [d1, d2] }
  | _ => none }
def DependOrdersWrongFalsely : Prop := dependOrdersRow.holds Try.pinned (OpenSpec.ofChange dependOrdersWrong)

/-- 'coldpluglaw19.DependMembers': WHATEVER THE INPUT: true; the input reads as it did. -/
def dependMembersSpec : ChangeSpec := { name := "dependMembers", fn := fun _ => fun
  | [d] => { results := [.lit (.bool true)], args := [d] }
  | _ => none }
def dependMembersRow : OpenClaim := { program := "ytdndljaaofkenaa", sum := "5e0894d6026e8a92ecb504e869d07ec19896b55de001fbdad218660a393e5387", func := "coldplug/coldpluglaw19.DependMembers", spec := "dependMembers", unfollowed := true, recurses := true, apart := false }
def DependMembersSaid : Prop := dependMembersRow.holds Try.pinned (OpenSpec.ofChange dependMembersSpec)

/-- ITS FALSE NEIGHBOUR: 'it returns false'. Refute it at one input. -/
def dependMembersWrong : ChangeSpec := { name := "dependMembers", fn := fun _ => fun
  | [d] => { results := [.lit (.bool false)], args := [d] }
  | _ => none }
def DependMembersWrongFalsely : Prop := dependMembersRow.holds Try.pinned (OpenSpec.ofChange dependMembersWrong)

/-- 'coldpluglaw19.DependPre': WHATEVER THE INPUT: true; the input reads as it did. -/
def dependPreSpec : ChangeSpec := { name := "dependPre", fn := fun _ => fun
  | [d] => { results := [.lit (.bool true)], args := [d] }
  | _ => none }
def dependPreRow : OpenClaim := { program := "ytdndljaaofkenaa", sum := "5e0894d6026e8a92ecb504e869d07ec19896b55de001fbdad218660a393e5387", func := "coldplug/coldpluglaw19.DependPre", spec := "dependPre", unfollowed := true, recurses := true, apart := false }
def DependPreSaid : Prop := dependPreRow.holds Try.pinned (OpenSpec.ofChange dependPreSpec)

/-- ITS FALSE NEIGHBOUR: 'it returns false'. Refute it at one input. -/
def dependPreWrong : ChangeSpec := { name := "dependPre", fn := fun _ => fun
  | [d] => { results := [.lit (.bool false)], args := [d] }
  | _ => none }
def DependPreWrongFalsely : Prop := dependPreRow.holds Try.pinned (OpenSpec.ofChange dependPreWrong)

/-- 'coldpluglaw19.DependHards': WHATEVER THE INPUT: true; the input reads as it did. -/
def dependHardsSpec : ChangeSpec := { name := "dependHards", fn := fun _ => fun
  | [d1, d2] => { results := [.lit (.bool true)], args := [d1, d2] }
  | _ => none }
def dependHardsRow : OpenClaim := { program := "ytdndljaaofkenaa", sum := "5e0894d6026e8a92ecb504e869d07ec19896b55de001fbdad218660a393e5387", func := "coldplug/coldpluglaw19.DependHards", spec := "dependHards", unfollowed := true, recurses := true, apart := false }
def DependHardsSaid : Prop := dependHardsRow.holds Try.pinned (OpenSpec.ofChange dependHardsSpec)

/-- ITS FALSE NEIGHBOUR: 'it returns false'. Refute it at one input. -/
def dependHardsWrong : ChangeSpec := { name := "dependHards", fn := fun _ => fun
  | [d1, d2] => { results := [.lit (.bool false)], args := [d1, d2] }
  | _ => none }
def DependHardsWrongFalsely : Prop := dependHardsRow.holds Try.pinned (OpenSpec.ofChange dependHardsWrong)

/- THE SECOND FORM. 'bulk': how many values and letters a reading holds, each counted each time it is reached (what is shared counts as often as it is met; a slice's spare places count too). A statement '..UptoSaid' is the law's where the arguments, and the package variables that the reading takes, are together of bulk at most 1048576: NARROWER than '..Said'. Prove '..Said' where nothing that the law and all that it calls make is longer than what came in: it says more and counts as full. Else prove '..UptoSaid'. A law counts once. -/
mutual
def uptoBulk {H : Type} : DataW H → Nat
  | .lit (.string bytes) => bytes.length + 1
  | .lit _ => 1
  | .nil => 1
  | .ptr d => uptoBulk d + 1
  | .slice elems spare => uptoBulkAll elems + uptoBulkAll spare + 1
  | .agg parts => uptoBulkAll parts + 1
  | .iface _ d => uptoBulk d + 1
  | .map entries => uptoBulkEntries entries + 1
  | .held _ => 1
def uptoBulkAll {H : Type} : List (DataW H) → Nat
  | [] => 0
  | d :: r => uptoBulk d + uptoBulkAll r
def uptoBulkEntries {H : Type} : List (Lit × DataW H) → Nat
  | [] => 0
  | x :: r => uptoBulkEntry x + uptoBulkEntries r
def uptoBulkEntry {H : Type} : Lit × DataW H → Nat
  | (.string bytes, d) => bytes.length + uptoBulk d + 1
  | (_, d) => uptoBulk d + 1
 end
def uptoSmall : (H : Type) → List (DataW H) → Bool := fun _ ds => decide (uptoBulkAll ds ≤ 1048576)
def OpenSpec.upto (s : _root_.Go.ChangeSpec) : _root_.Go.OpenSpec := { _root_.Go.OpenSpec.ofChange s with cond := some uptoSmall }

/-- 'coldpluglaw19.DependCans', WHERE WHAT IT READS IS OF BULK AT MOST 1048576: true; the input reads as it did. -/
def dependCansUptoRow : OpenClaim := { program := "ytdndljaaofkenaa", sum := "5e0894d6026e8a92ecb504e869d07ec19896b55de001fbdad218660a393e5387", func := "coldplug/coldpluglaw19.DependCans", spec := "dependCans", unfollowed := true, recurses := true, apart := false, narrowed := true }
def DependCansUptoSaid : Prop := dependCansUptoRow.holds Try.pinned (OpenSpec.upto dependCansSpec)

/-- 'coldpluglaw19.DependClosures', WHERE WHAT IT READS IS OF BULK AT MOST 1048576: true; the input reads as it did. -/
def dependClosuresUptoRow : OpenClaim := { program := "ytdndljaaofkenaa", sum := "5e0894d6026e8a92ecb504e869d07ec19896b55de001fbdad218660a393e5387", func := "coldplug/coldpluglaw19.DependClosures", spec := "dependClosures", unfollowed := true, recurses := true, apart := false, narrowed := true }
def DependClosuresUptoSaid : Prop := dependClosuresUptoRow.holds Try.pinned (OpenSpec.upto dependClosuresSpec)

/-- 'coldpluglaw19.DependOrders', WHERE WHAT IT READS IS OF BULK AT MOST 1048576: true; the input reads as it did. -/
def dependOrdersUptoRow : OpenClaim := { program := "ytdndljaaofkenaa", sum := "5e0894d6026e8a92ecb504e869d07ec19896b55de001fbdad218660a393e5387", func := "coldplug/coldpluglaw19.DependOrders", spec := "dependOrders", unfollowed := true, recurses := true, apart := false, narrowed := true }
def DependOrdersUptoSaid : Prop := dependOrdersUptoRow.holds Try.pinned (OpenSpec.upto dependOrdersSpec)

/-- 'coldpluglaw19.DependMembers', WHERE WHAT IT READS IS OF BULK AT MOST 1048576: true; the input reads as it did. -/
def dependMembersUptoRow : OpenClaim := { program := "ytdndljaaofkenaa", sum := "5e0894d6026e8a92ecb504e869d07ec19896b55de001fbdad218660a393e5387", func := "coldplug/coldpluglaw19.DependMembers", spec := "dependMembers", unfollowed := true, recurses := true, apart := false, narrowed := true }
def DependMembersUptoSaid : Prop := dependMembersUptoRow.holds Try.pinned (OpenSpec.upto dependMembersSpec)

/-- 'coldpluglaw19.DependPre', WHERE WHAT IT READS IS OF BULK AT MOST 1048576: true; the input reads as it did. -/
def dependPreUptoRow : OpenClaim := { program := "ytdndljaaofkenaa", sum := "5e0894d6026e8a92ecb504e869d07ec19896b55de001fbdad218660a393e5387", func := "coldplug/coldpluglaw19.DependPre", spec := "dependPre", unfollowed := true, recurses := true, apart := false, narrowed := true }
def DependPreUptoSaid : Prop := dependPreUptoRow.holds Try.pinned (OpenSpec.upto dependPreSpec)

/-- 'coldpluglaw19.DependHards', WHERE WHAT IT READS IS OF BULK AT MOST 1048576: true; the input reads as it did. -/
def dependHardsUptoRow : OpenClaim := { program := "ytdndljaaofkenaa", sum := "5e0894d6026e8a92ecb504e869d07ec19896b55de001fbdad218660a393e5387", func := "coldplug/coldpluglaw19.DependHards", spec := "dependHards", unfollowed := true, recurses := true, apart := false, narrowed := true }
def DependHardsUptoSaid : Prop := dependHardsUptoRow.holds Try.pinned (OpenSpec.upto dependHardsSpec)

end Rows
end Go.Proofs.Ytdndljaaofkenaa
