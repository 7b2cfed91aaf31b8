/- Contracts of the shelf at this translation: written by the kit's layers, the wanted ones alone. -/
import Derived.Shelf.Small.Strs
import Derived.Test.YtkkgapeghlnbeaaDoorProg
namespace Go.Proofs.YtkkgapeghlnbeaaDoor
open Go.Shelf
def lays106_ren : Go.Shelf.Ren := ⟨fun | 106 => 36 | 213 => 58 | 265 => 76 | n => n, fun | 9 => 9 | 3 => 3 | n => n, fun | n => n⟩
theorem lays106 : Go.Proofs.Lays.n106 Tryd.prog lays106_ren := {
  mixed := by kernel_rfl
  f106 := Tryd.func36.trans (congrArg some (by kernel_rfl))
  f213 := Tryd.func58.trans (congrArg some (by kernel_rfl))
  f265 := Tryd.func76.trans (congrArg some (by kernel_rfl))
  t3 := Tryd.underlying3
  a3 := Tryd.isAgg3
  z3 := Tryd.sizeOf3
  v3 := Tryd.zeroValue3
  t9 := Tryd.underlying9
  a9 := Tryd.isAgg9
  z9 := Tryd.sizeOf9
  v9 := Tryd.zeroValue9 }
open Go.RowKit in
theorem strings_Compare (a b : ByteArray) (w : World) :
    Calls Tryd.prog 36 #[.string a, .string b] w fun e w' => e = .returned (.int .i64 (Lib.compareBytes a.data.toList b.data.toList)) ∧ w' = w := Any.strings_Compare lays106 a b w
end Go.Proofs.YtkkgapeghlnbeaaDoor
