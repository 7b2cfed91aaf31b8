/- Contracts of the shelf at this translation: written by the kit's layers, the wanted ones alone. -/
import Derived.Shelf.Strings.Builder1
import Derived.Shelf.Strings.Builder2
import Derived.Shelf.Strings.OnBuilder
import Derived.Shelf.Small.Utf8
import Derived.Shelf.Small.Strs
import Derived.Shelf.Strings.Search1
import Derived.Shelf.Strings.Search2
import Derived.Shelf.Strings.Search3
import Derived.Shelf.Strings.Count
import Derived.Shelf.Strings.Shaped
import Derived.Shelf.Strings.Split
import Derived.Shelf.Strings.Replace
import Derived.Shelf.Unicode.Latin
import Derived.Shelf.Strings.Runes
import Derived.Shelf.Strings.IndexAny
import Derived.Shelf.Strings.AsciiSet
import Derived.Shelf.Strings.IndexAnyAll
import Derived.Shelf.Unicode.DecodeSlow
import Derived.Shelf.Unicode.CaseLookup
import Derived.Shelf.Unicode.CaseConvert
import Derived.Shelf.Unicode.CaseTo
import Derived.Shelf.Unicode.CaseLaid
import Derived.Shelf.Slices.CompactS
import Derived.Shelf.SortM.Plain
import Derived.Shelf.SortM.SortNone
import Derived.Test.YtfojijoekpkheaaDoorProg
namespace Go.Proofs.YtfojijoekpkheaaDoor
open Go.Shelf
set_option maxHeartbeats 1000000
def lays159_ren : Go.Shelf.Ren := ⟨fun | 159 => 89 | 165 => 82 | 166 => 84 | 167 => 106 | 169 => 86 | 230 => 107 | 204 => 108 | 240 => 101 | 241 => 102 | 197 => 85 | 118 => 120 | 168 => 121 | 270 => 122 | 262 => 123 | 276 => 111 | 277 => 112 | 260 => 104 | 242 => 127 | 313 => 128 | 278 => 129 | 274 => 130 | 275 => 131 | n => n, fun | 9 => 9 | 4 => 4 | 3 => 3 | 5 => 5 | 72 => 93 | 0 => 0 | 76 => 97 | 75 => 96 | 107 => 117 | 70 => 91 | 20 => 20 | 37 => 67 | 127 => 114 | 21 => 21 | 105 => 99 | 164 => 121 | 162 => 144 | 203 => 142 | 119 => 124 | 46 => 73 | 139 => 127 | 138 => 126 | 51 => 88 | 160 => 145 | 208 => 151 | 206 => 149 | 80 => 101 | n => n, fun | 13 => 3 | 3 => 1 | 4 => 2 | n => n⟩
theorem lays159 : Go.Proofs.Lays.n159 Tryd.prog lays159_ren := {
  mixed := by kernel_rfl
  f118 := Tryd.func120.trans (congrArg some (by kernel_rfl))
  f159 := Tryd.func89.trans (congrArg some (by kernel_rfl))
  f165 := Tryd.func82.trans (congrArg some (by kernel_rfl))
  f166 := Tryd.func84.trans (congrArg some (by kernel_rfl))
  f167 := Tryd.func106.trans (congrArg some (by kernel_rfl))
  f168 := Tryd.func121.trans (congrArg some (by kernel_rfl))
  f169 := Tryd.func86.trans (congrArg some (by kernel_rfl))
  f197 := Tryd.func85.trans (congrArg some (by kernel_rfl))
  f204 := Tryd.func108.trans (congrArg some (by kernel_rfl))
  f230 := Tryd.func107.trans (congrArg some (by kernel_rfl))
  f240 := Tryd.func101.trans (congrArg some (by kernel_rfl))
  f241 := Tryd.func102.trans (congrArg some (by kernel_rfl))
  f242 := Tryd.func127.trans (congrArg some (by kernel_rfl))
  f260 := Tryd.func104.trans (congrArg some (by kernel_rfl))
  f262 := Tryd.func123.trans (congrArg some (by kernel_rfl))
  f270 := Tryd.func122.trans (congrArg some (by kernel_rfl))
  f274 := Tryd.func130.trans (congrArg some (by kernel_rfl))
  f275 := Tryd.func131.trans (congrArg some (by kernel_rfl))
  f276 := Tryd.func111.trans (congrArg some (by kernel_rfl))
  f277 := Tryd.func112.trans (congrArg some (by kernel_rfl))
  f278 := Tryd.func129.trans (congrArg some (by kernel_rfl))
  f313 := Tryd.func128.trans (congrArg some (by kernel_rfl))
  t0 := Tryd.underlying0
  a0 := Tryd.isAgg0
  z0 := Tryd.sizeOf0
  v0 := Tryd.zeroValue0
  t3 := Tryd.underlying3
  a3 := Tryd.isAgg3
  z3 := Tryd.sizeOf3
  v3 := Tryd.zeroValue3
  t4 := Tryd.underlying4
  a4 := Tryd.isAgg4
  z4 := Tryd.sizeOf4
  v4 := Tryd.zeroValue4
  t5 := Tryd.underlying5
  a5 := Tryd.isAgg5
  z5 := Tryd.sizeOf5
  v5 := Tryd.zeroValue5
  t9 := Tryd.underlying9
  a9 := Tryd.isAgg9
  z9 := Tryd.sizeOf9
  v9 := Tryd.zeroValue9
  t20 := Tryd.underlying20
  a20 := Tryd.isAgg20
  z20 := Tryd.sizeOf20
  v20 := Tryd.zeroValue20
  t21 := Tryd.underlying21
  a21 := Tryd.isAgg21
  z21 := Tryd.sizeOf21
  v21 := Tryd.zeroValue21
  t37 := Tryd.underlying67
  a37 := Tryd.isAgg67
  z37 := Tryd.sizeOf67
  v37 := Tryd.zeroValue67
  t46 := Tryd.underlying73
  a46 := Tryd.isAgg73
  z46 := Tryd.sizeOf73
  v46 := Tryd.zeroValue73
  t51 := Tryd.underlying88
  a51 := Tryd.isAgg88
  z51 := Tryd.sizeOf88
  v51 := Tryd.zeroValue88
  t70 := Tryd.underlying91
  a70 := Tryd.isAgg91
  z70 := Tryd.sizeOf91
  v70 := Tryd.zeroValue91
  t72 := Tryd.underlying93
  a72 := Tryd.isAgg93
  z72 := Tryd.sizeOf93
  v72 := Tryd.zeroValue93
  t75 := Tryd.underlying96
  a75 := Tryd.isAgg96
  z75 := Tryd.sizeOf96
  v75 := Tryd.zeroValue96
  t76 := Tryd.underlying97
  a76 := Tryd.isAgg97
  z76 := Tryd.sizeOf97
  v76 := Tryd.zeroValue97
  t105 := Tryd.underlying99
  a105 := Tryd.isAgg99
  z105 := Tryd.sizeOf99
  v105 := Tryd.zeroValue99
  t107 := Tryd.underlying117
  a107 := Tryd.isAgg117
  z107 := Tryd.sizeOf117
  v107 := Tryd.zeroValue117
  t119 := Tryd.underlying124
  a119 := Tryd.isAgg124
  z119 := Tryd.sizeOf124
  t127 := Tryd.underlying114
  a127 := Tryd.isAgg114
  z127 := Tryd.sizeOf114
  v127 := Tryd.zeroValue114
  t138 := Tryd.underlying126
  a138 := Tryd.isAgg126
  z138 := Tryd.sizeOf126
  v138 := Tryd.zeroValue126
  t139 := Tryd.underlying127
  a139 := Tryd.isAgg127
  z139 := Tryd.sizeOf127
  v139 := Tryd.zeroValue127
  t160 := Tryd.underlying145
  a160 := Tryd.isAgg145
  z160 := Tryd.sizeOf145
  v160 := Tryd.zeroValue145
  t162 := Tryd.underlying144
  a162 := Tryd.isAgg144
  z162 := Tryd.sizeOf144
  v162 := Tryd.zeroValue144
  t164 := Tryd.underlying121
  a164 := Tryd.isAgg121
  z164 := Tryd.sizeOf121
  v164 := Tryd.zeroValue121
  t203 := Tryd.underlying142
  a203 := Tryd.isAgg142
  z203 := Tryd.sizeOf142
  v203 := Tryd.zeroValue142
  t206 := Tryd.underlying149
  a206 := Tryd.isAgg149
  z206 := Tryd.sizeOf149
  v206 := Tryd.zeroValue149
  t208 := Tryd.underlying151
  a208 := Tryd.isAgg151
  z208 := Tryd.sizeOf151
  v208 := Tryd.zeroValue151
  g3 := by kernel_rfl
  g4 := by kernel_rfl
  g13 := by kernel_rfl }
theorem Builder_Extra_159 : Builder.Extra Tryd.prog lays159_ren := {
  sizeBuilder := by kernel_rfl
  liesBuilder := by kernel_rfl
  t5 := Tryd.underlying5
  a5 := Tryd.isAgg5
  z5 := Tryd.sizeOf5
  v5 := Tryd.zeroValue5
  infoByte := by kernel_rfl
  cellsByte := by kernel_rfl
  sizeByte := by kernel_rfl
  neB5 := by decide }
open Go.RowKit in
theorem strings_ToLower_ascii (s : ByteArray) (w : World) (hs : s.size ≤ 140737488355328) (hascii : ∀ (j : Nat) (b : UInt8), s.data.toList[j]? = some b → b.toNat < 128) :
    Calls Tryd.prog 89 #[.string s] w fun e w' => e = .returned (.string ⟨(Lib.toLowerA s.data.toList).toArray⟩) ∧ Below w.heap.size w w' := Any.strings_ToLower_ascii lays159 Builder_Extra_159 s w hs hascii
def lays106_ren : Go.Shelf.Ren := ⟨fun | 106 => 30 | 213 => 54 | 265 => 80 | n => n, fun | 9 => 9 | 3 => 3 | n => n, fun | n => n⟩
theorem lays106 : Go.Proofs.Lays.n106 Tryd.prog lays106_ren := {
  mixed := by kernel_rfl
  f106 := Tryd.func30.trans (congrArg some (by kernel_rfl))
  f213 := Tryd.func54.trans (congrArg some (by kernel_rfl))
  f265 := Tryd.func80.trans (congrArg some (by kernel_rfl))
  t3 := Tryd.underlying3
  a3 := Tryd.isAgg3
  z3 := Tryd.sizeOf3
  v3 := Tryd.zeroValue3
  t9 := Tryd.underlying9
  a9 := Tryd.isAgg9
  z9 := Tryd.sizeOf9
  v9 := Tryd.zeroValue9 }
open Go.RowKit in
theorem strings_Compare (a b : ByteArray) (w : World) :
    Calls Tryd.prog 30 #[.string a, .string b] w fun e w' => e = .returned (.int .i64 (Lib.compareBytes a.data.toList b.data.toList)) ∧ w' = w := Any.strings_Compare lays106 a b w
def lays137_ren : Go.Shelf.Ren := ⟨fun | 137 => 92 | 217 => 109 | 266 => 124 | n => n, fun | 9 => 9 | 5 => 5 | 3 => 3 | n => n, fun | n => n⟩
theorem lays137 : Go.Proofs.Lays.n137 Tryd.prog lays137_ren := {
  mixed := by kernel_rfl
  f137 := Tryd.func92.trans (congrArg some (by kernel_rfl))
  f217 := Tryd.func109.trans (congrArg some (by kernel_rfl))
  f266 := Tryd.func124.trans (congrArg some (by kernel_rfl))
  t3 := Tryd.underlying3
  a3 := Tryd.isAgg3
  z3 := Tryd.sizeOf3
  v3 := Tryd.zeroValue3
  t5 := Tryd.underlying5
  a5 := Tryd.isAgg5
  z5 := Tryd.sizeOf5
  v5 := Tryd.zeroValue5
  t9 := Tryd.underlying9
  a9 := Tryd.isAgg9
  z9 := Tryd.sizeOf9
  v9 := Tryd.zeroValue9 }
open Go.RowKit in
theorem strings_IndexByte (s : ByteArray) (c : Int) (w : World) :
    Calls Tryd.prog 92 #[.string s, .int .u8 c] w fun e w' => e = .returned (.int .i64 (Lib.indexByte s.data.toList c.toNat.toUInt8)) ∧ w' = w := Any.strings_IndexByte lays137 s c w
def lays144_ren : Go.Shelf.Ren := ⟨fun | 144 => 68 | 143 => 83 | 219 => 103 | 217 => 109 | 225 => 113 | 224 => 114 | 267 => 115 | 266 => 124 | 314 => 125 | n => n, fun | 9 => 9 | 4 => 4 | 3 => 3 | 5 => 5 | 46 => 73 | 146 => 137 | 51 => 88 | n => n, fun | 1 => 0 | n => n⟩
theorem lays144 : Go.Proofs.Lays.n144 Tryd.prog lays144_ren := {
  mixed := by kernel_rfl
  f143 := Tryd.func83.trans (congrArg some (by kernel_rfl))
  f144 := Tryd.func68.trans (congrArg some (by kernel_rfl))
  f217 := Tryd.func109.trans (congrArg some (by kernel_rfl))
  f219 := Tryd.func103.trans (congrArg some (by kernel_rfl))
  f224 := Tryd.func114.trans (congrArg some (by kernel_rfl))
  f225 := Tryd.func113.trans (congrArg some (by kernel_rfl))
  f266 := Tryd.func124.trans (congrArg some (by kernel_rfl))
  f267 := Tryd.func115.trans (congrArg some (by kernel_rfl))
  f314 := Tryd.func125.trans (congrArg some (by kernel_rfl))
  t3 := Tryd.underlying3
  a3 := Tryd.isAgg3
  z3 := Tryd.sizeOf3
  v3 := Tryd.zeroValue3
  t4 := Tryd.underlying4
  a4 := Tryd.isAgg4
  z4 := Tryd.sizeOf4
  v4 := Tryd.zeroValue4
  t5 := Tryd.underlying5
  a5 := Tryd.isAgg5
  z5 := Tryd.sizeOf5
  v5 := Tryd.zeroValue5
  t9 := Tryd.underlying9
  a9 := Tryd.isAgg9
  z9 := Tryd.sizeOf9
  v9 := Tryd.zeroValue9
  t46 := Tryd.underlying73
  a46 := Tryd.isAgg73
  z46 := Tryd.sizeOf73
  v46 := Tryd.zeroValue73
  t51 := Tryd.underlying88
  a51 := Tryd.isAgg88
  z51 := Tryd.sizeOf88
  v51 := Tryd.zeroValue88
  t146 := Tryd.underlying137
  a146 := Tryd.isAgg137
  z146 := Tryd.sizeOf137
  v146 := Tryd.zeroValue137
  g1 := by kernel_rfl }
open Go.RowKit Go.Lib in
theorem strings_Contains (s sub : ByteArray) (m : Int) (w : World) (hs : s.size < 4294967281) (hm : w.cell? ⟨0, 0, none⟩ = some (.int .i64 m)) :
    Calls Tryd.prog 68 #[.string s, .string sub] w fun e w' => e = .returned (.bool (Lib.contains s.data.toList sub.data.toList)) ∧ w' = w := Any.strings_Contains lays144 s sub m w hs hm
def lays146_ren : Go.Shelf.Ren := ⟨fun | 146 => 41 | 221 => 65 | 268 => 91 | 138 => 81 | 143 => 83 | 195 => 99 | 197 => 85 | 218 => 100 | 219 => 103 | 260 => 104 | 217 => 109 | 225 => 113 | 224 => 114 | 267 => 115 | 266 => 124 | 314 => 125 | n => n, fun | 9 => 9 | 31 => 28 | 3 => 3 | 4 => 4 | 0 => 0 | 105 => 99 | 21 => 21 | 5 => 5 | 46 => 73 | 119 => 124 | 139 => 127 | 138 => 126 | 146 => 137 | 51 => 88 | n => n, fun | 1 => 0 | 3 => 1 | 4 => 2 | n => n⟩
theorem lays146 : Go.Proofs.Lays.n146 Tryd.prog lays146_ren := {
  mixed := by kernel_rfl
  f138 := Tryd.func81.trans (congrArg some (by kernel_rfl))
  f143 := Tryd.func83.trans (congrArg some (by kernel_rfl))
  f146 := Tryd.func41.trans (congrArg some (by kernel_rfl))
  f195 := Tryd.func99.trans (congrArg some (by kernel_rfl))
  f197 := Tryd.func85.trans (congrArg some (by kernel_rfl))
  f217 := Tryd.func109.trans (congrArg some (by kernel_rfl))
  f218 := Tryd.func100.trans (congrArg some (by kernel_rfl))
  f219 := Tryd.func103.trans (congrArg some (by kernel_rfl))
  f221 := Tryd.func65.trans (congrArg some (by kernel_rfl))
  f224 := Tryd.func114.trans (congrArg some (by kernel_rfl))
  f225 := Tryd.func113.trans (congrArg some (by kernel_rfl))
  f260 := Tryd.func104.trans (congrArg some (by kernel_rfl))
  f266 := Tryd.func124.trans (congrArg some (by kernel_rfl))
  f267 := Tryd.func115.trans (congrArg some (by kernel_rfl))
  f268 := Tryd.func91.trans (congrArg some (by kernel_rfl))
  f314 := Tryd.func125.trans (congrArg some (by kernel_rfl))
  t0 := Tryd.underlying0
  a0 := Tryd.isAgg0
  z0 := Tryd.sizeOf0
  v0 := Tryd.zeroValue0
  t3 := Tryd.underlying3
  a3 := Tryd.isAgg3
  z3 := Tryd.sizeOf3
  v3 := Tryd.zeroValue3
  t4 := Tryd.underlying4
  a4 := Tryd.isAgg4
  z4 := Tryd.sizeOf4
  v4 := Tryd.zeroValue4
  t5 := Tryd.underlying5
  a5 := Tryd.isAgg5
  z5 := Tryd.sizeOf5
  v5 := Tryd.zeroValue5
  t9 := Tryd.underlying9
  a9 := Tryd.isAgg9
  z9 := Tryd.sizeOf9
  v9 := Tryd.zeroValue9
  t21 := Tryd.underlying21
  a21 := Tryd.isAgg21
  z21 := Tryd.sizeOf21
  v21 := Tryd.zeroValue21
  t31 := Tryd.underlying28
  a31 := Tryd.isAgg28
  z31 := Tryd.sizeOf28
  v31 := Tryd.zeroValue28
  t46 := Tryd.underlying73
  a46 := Tryd.isAgg73
  z46 := Tryd.sizeOf73
  v46 := Tryd.zeroValue73
  t51 := Tryd.underlying88
  a51 := Tryd.isAgg88
  z51 := Tryd.sizeOf88
  v51 := Tryd.zeroValue88
  t105 := Tryd.underlying99
  a105 := Tryd.isAgg99
  z105 := Tryd.sizeOf99
  v105 := Tryd.zeroValue99
  t119 := Tryd.underlying124
  a119 := Tryd.isAgg124
  z119 := Tryd.sizeOf124
  t138 := Tryd.underlying126
  a138 := Tryd.isAgg126
  z138 := Tryd.sizeOf126
  v138 := Tryd.zeroValue126
  t139 := Tryd.underlying127
  a139 := Tryd.isAgg127
  z139 := Tryd.sizeOf127
  v139 := Tryd.zeroValue127
  t146 := Tryd.underlying137
  a146 := Tryd.isAgg137
  z146 := Tryd.sizeOf137
  v146 := Tryd.zeroValue137
  g1 := by kernel_rfl
  g3 := by kernel_rfl
  g4 := by kernel_rfl }
open Go.RowKit Go.Lib in
theorem strings_Split (s sep : ByteArray) (m : Int) (w : World) (hs : s.size < 4294967281) (hm : w.cell? ⟨0, 0, none⟩ = some (.int .i64 m)) (h1 : 1 ≤ sep.size) :
    Calls Tryd.prog 41 #[.string s, .string sep] w fun e w' =>
      e = .returned (.slice (some ⟨w.heap.size, 0, none⟩) (Lib.countB s sep + 1) (Lib.countB s sep + 1)) ∧ w' = w.alloc (.cells ((Lib.splitB sep 0 (Lib.countB s sep) s).map Value.string).toArray 9) := Any.strings_Split lays146 (by kernel_rfl) s sep m w hs hm h1
def lays155_ren : Go.Shelf.Ren := ⟨fun | 155 => 33 | 154 => 55 | 138 => 81 | 165 => 82 | 143 => 83 | 166 => 84 | 197 => 85 | 169 => 86 | 195 => 99 | 218 => 100 | 240 => 101 | 241 => 102 | 219 => 103 | 260 => 104 | 276 => 111 | 277 => 112 | 217 => 109 | 225 => 113 | 224 => 114 | 267 => 115 | 266 => 124 | 314 => 125 | n => n, fun | 9 => 9 | 3 => 3 | 4 => 4 | 72 => 93 | 0 => 0 | 76 => 97 | 105 => 99 | 21 => 21 | 5 => 5 | 70 => 91 | 20 => 20 | 37 => 67 | 75 => 96 | 127 => 114 | 164 => 121 | 46 => 73 | 119 => 124 | 139 => 127 | 138 => 126 | 146 => 137 | 51 => 88 | 80 => 101 | n => n, fun | 1 => 0 | 3 => 1 | 4 => 2 | n => n⟩
theorem lays155 : Go.Proofs.Lays.n155 Tryd.prog lays155_ren := {
  mixed := by kernel_rfl
  f138 := Tryd.func81.trans (congrArg some (by kernel_rfl))
  f143 := Tryd.func83.trans (congrArg some (by kernel_rfl))
  f154 := Tryd.func55.trans (congrArg some (by kernel_rfl))
  f155 := Tryd.func33.trans (congrArg some (by kernel_rfl))
  f165 := Tryd.func82.trans (congrArg some (by kernel_rfl))
  f166 := Tryd.func84.trans (congrArg some (by kernel_rfl))
  f169 := Tryd.func86.trans (congrArg some (by kernel_rfl))
  f195 := Tryd.func99.trans (congrArg some (by kernel_rfl))
  f197 := Tryd.func85.trans (congrArg some (by kernel_rfl))
  f217 := Tryd.func109.trans (congrArg some (by kernel_rfl))
  f218 := Tryd.func100.trans (congrArg some (by kernel_rfl))
  f219 := Tryd.func103.trans (congrArg some (by kernel_rfl))
  f224 := Tryd.func114.trans (congrArg some (by kernel_rfl))
  f225 := Tryd.func113.trans (congrArg some (by kernel_rfl))
  f240 := Tryd.func101.trans (congrArg some (by kernel_rfl))
  f241 := Tryd.func102.trans (congrArg some (by kernel_rfl))
  f260 := Tryd.func104.trans (congrArg some (by kernel_rfl))
  f266 := Tryd.func124.trans (congrArg some (by kernel_rfl))
  f267 := Tryd.func115.trans (congrArg some (by kernel_rfl))
  f276 := Tryd.func111.trans (congrArg some (by kernel_rfl))
  f277 := Tryd.func112.trans (congrArg some (by kernel_rfl))
  f314 := Tryd.func125.trans (congrArg some (by kernel_rfl))
  t0 := Tryd.underlying0
  a0 := Tryd.isAgg0
  z0 := Tryd.sizeOf0
  v0 := Tryd.zeroValue0
  t3 := Tryd.underlying3
  a3 := Tryd.isAgg3
  z3 := Tryd.sizeOf3
  v3 := Tryd.zeroValue3
  t4 := Tryd.underlying4
  a4 := Tryd.isAgg4
  z4 := Tryd.sizeOf4
  v4 := Tryd.zeroValue4
  t5 := Tryd.underlying5
  a5 := Tryd.isAgg5
  z5 := Tryd.sizeOf5
  v5 := Tryd.zeroValue5
  t9 := Tryd.underlying9
  a9 := Tryd.isAgg9
  z9 := Tryd.sizeOf9
  v9 := Tryd.zeroValue9
  t20 := Tryd.underlying20
  a20 := Tryd.isAgg20
  z20 := Tryd.sizeOf20
  v20 := Tryd.zeroValue20
  t21 := Tryd.underlying21
  a21 := Tryd.isAgg21
  z21 := Tryd.sizeOf21
  v21 := Tryd.zeroValue21
  t37 := Tryd.underlying67
  a37 := Tryd.isAgg67
  z37 := Tryd.sizeOf67
  v37 := Tryd.zeroValue67
  t46 := Tryd.underlying73
  a46 := Tryd.isAgg73
  z46 := Tryd.sizeOf73
  v46 := Tryd.zeroValue73
  t51 := Tryd.underlying88
  a51 := Tryd.isAgg88
  z51 := Tryd.sizeOf88
  v51 := Tryd.zeroValue88
  t70 := Tryd.underlying91
  a70 := Tryd.isAgg91
  z70 := Tryd.sizeOf91
  v70 := Tryd.zeroValue91
  t72 := Tryd.underlying93
  a72 := Tryd.isAgg93
  z72 := Tryd.sizeOf93
  v72 := Tryd.zeroValue93
  t75 := Tryd.underlying96
  a75 := Tryd.isAgg96
  z75 := Tryd.sizeOf96
  v75 := Tryd.zeroValue96
  t76 := Tryd.underlying97
  a76 := Tryd.isAgg97
  z76 := Tryd.sizeOf97
  v76 := Tryd.zeroValue97
  t105 := Tryd.underlying99
  a105 := Tryd.isAgg99
  z105 := Tryd.sizeOf99
  v105 := Tryd.zeroValue99
  t119 := Tryd.underlying124
  a119 := Tryd.isAgg124
  z119 := Tryd.sizeOf124
  t127 := Tryd.underlying114
  a127 := Tryd.isAgg114
  z127 := Tryd.sizeOf114
  v127 := Tryd.zeroValue114
  t138 := Tryd.underlying126
  a138 := Tryd.isAgg126
  z138 := Tryd.sizeOf126
  v138 := Tryd.zeroValue126
  t139 := Tryd.underlying127
  a139 := Tryd.isAgg127
  z139 := Tryd.sizeOf127
  v139 := Tryd.zeroValue127
  t146 := Tryd.underlying137
  a146 := Tryd.isAgg137
  z146 := Tryd.sizeOf137
  v146 := Tryd.zeroValue137
  t164 := Tryd.underlying121
  a164 := Tryd.isAgg121
  z164 := Tryd.sizeOf121
  v164 := Tryd.zeroValue121
  g1 := by kernel_rfl
  g3 := by kernel_rfl
  g4 := by kernel_rfl }
theorem Builder_Extra_155 : Builder.Extra Tryd.prog lays155_ren := {
  sizeBuilder := by kernel_rfl
  liesBuilder := by kernel_rfl
  t5 := Tryd.underlying5
  a5 := Tryd.isAgg5
  z5 := Tryd.sizeOf5
  v5 := Tryd.zeroValue5
  infoByte := by kernel_rfl
  cellsByte := by kernel_rfl
  sizeByte := by kernel_rfl
  neB5 := by decide }
open Go.RowKit Go.Lib in
theorem strings_ReplaceAll (s old new : ByteArray) (m : Int) (w : World) (hs : s.size < 4294967281) (hm : w.cell? ⟨0, 0, none⟩ = some (.int .i64 m)) (h1 : 1 ≤ old.size) (hlen : s.size + Lib.countB s old * new.size ≤ 140737488355328) :
    Calls Tryd.prog 33 #[.string s, .string old, .string new] w fun e w' =>
      e = .returned (.string ⟨(Lib.replaceAll s.data.toList old.data.toList new.data.toList).toArray⟩) ∧ Below w.heap.size w w' := Any.strings_ReplaceAll lays155 Builder_Extra_155 s old new m w hs hm h1 hlen
def lays150_ren : Go.Shelf.Ren := ⟨fun | 150 => 87 | 153 => 105 | 152 => 116 | 226 => 117 | 227 => 118 | 228 => 119 | 137 => 92 | 119 => 126 | 224 => 114 | 225 => 113 | 217 => 109 | 266 => 124 | n => n, fun | 9 => 9 | 4 => 4 | 3 => 3 | 5 => 5 | 21 => 21 | 117 => 130 | 116 => 129 | 0 => 0 | 46 => 73 | 124 => 140 | n => n, fun | n => n⟩
theorem lays150 : Go.Proofs.Lays.n150 Tryd.prog lays150_ren := {
  mixed := by kernel_rfl
  f119 := Tryd.func126.trans (congrArg some (by kernel_rfl))
  f137 := Tryd.func92.trans (congrArg some (by kernel_rfl))
  f150 := Tryd.func87.trans (congrArg some (by kernel_rfl))
  f152 := Tryd.func116.trans (congrArg some (by kernel_rfl))
  f153 := Tryd.func105.trans (congrArg some (by kernel_rfl))
  f217 := Tryd.func109.trans (congrArg some (by kernel_rfl))
  f224 := Tryd.func114.trans (congrArg some (by kernel_rfl))
  f225 := Tryd.func113.trans (congrArg some (by kernel_rfl))
  f226 := Tryd.func117.trans (congrArg some (by kernel_rfl))
  f227 := Tryd.func118.trans (congrArg some (by kernel_rfl))
  f228 := Tryd.func119.trans (congrArg some (by kernel_rfl))
  f266 := Tryd.func124.trans (congrArg some (by kernel_rfl))
  t0 := Tryd.underlying0
  a0 := Tryd.isAgg0
  z0 := Tryd.sizeOf0
  v0 := Tryd.zeroValue0
  t3 := Tryd.underlying3
  a3 := Tryd.isAgg3
  z3 := Tryd.sizeOf3
  v3 := Tryd.zeroValue3
  t4 := Tryd.underlying4
  a4 := Tryd.isAgg4
  z4 := Tryd.sizeOf4
  v4 := Tryd.zeroValue4
  t5 := Tryd.underlying5
  a5 := Tryd.isAgg5
  z5 := Tryd.sizeOf5
  v5 := Tryd.zeroValue5
  t9 := Tryd.underlying9
  a9 := Tryd.isAgg9
  z9 := Tryd.sizeOf9
  v9 := Tryd.zeroValue9
  t21 := Tryd.underlying21
  a21 := Tryd.isAgg21
  z21 := Tryd.sizeOf21
  v21 := Tryd.zeroValue21
  t46 := Tryd.underlying73
  a46 := Tryd.isAgg73
  z46 := Tryd.sizeOf73
  v46 := Tryd.zeroValue73
  t116 := Tryd.underlying129
  a116 := Tryd.isAgg129
  z116 := Tryd.sizeOf129
  t117 := Tryd.underlying130
  a117 := Tryd.isAgg130
  z117 := Tryd.sizeOf130
  v117 := Tryd.zeroValue130
  t124 := Tryd.underlying140
  a124 := Tryd.isAgg140
  z124 := Tryd.sizeOf140
  v124 := Tryd.zeroValue140 }
open Go.RowKit Go.Lib in
theorem strings_ContainsAny_laid (s chars : ByteArray) (w : World) (hs : s.size < 4294967281) (hcs : chars.size < 4294967281) (has : ∀ (j : Nat) b, s.data.toList[j]? = some b → b.toNat < 128) (hac : ∀ (j : Nat) b, chars.data.toList[j]? = some b → b.toNat < 128) :
    Calls Tryd.prog 87 #[.string s, .string chars] w fun e w' => e = .returned (.bool (Lib.containsAny s.data.toList chars.data.toList)) ∧ Below w.heap.size w w' := Any.strings_ContainsAny_laid lays150 (by kernel_rfl) s chars w hs hcs has hac
def lays194_ren : Go.Shelf.Ren := ⟨fun | 194 => 26 | n => n, fun | 31 => 28 | 9 => 9 | 3 => 3 | 4 => 4 | 0 => 0 | n => n, fun | n => n⟩
theorem lays194 : Go.Proofs.Lays.n194 Tryd.prog lays194_ren := {
  mixed := by kernel_rfl
  f194 := Tryd.func26.trans (congrArg some (by kernel_rfl))
  t0 := Tryd.underlying0
  a0 := Tryd.isAgg0
  z0 := Tryd.sizeOf0
  v0 := Tryd.zeroValue0
  t3 := Tryd.underlying3
  a3 := Tryd.isAgg3
  z3 := Tryd.sizeOf3
  v3 := Tryd.zeroValue3
  t4 := Tryd.underlying4
  a4 := Tryd.isAgg4
  z4 := Tryd.sizeOf4
  v4 := Tryd.zeroValue4
  t9 := Tryd.underlying9
  a9 := Tryd.isAgg9
  z9 := Tryd.sizeOf9
  v9 := Tryd.zeroValue9
  t31 := Tryd.underlying28
  a31 := Tryd.isAgg28
  z31 := Tryd.sizeOf28
  v31 := Tryd.zeroValue28 }
open Go.RowKit Go.Lib Go.Sort in
theorem slices_Compact_string (blk off cap : Nat) (zs : List (List UInt8)) (w : World) (hH : Holds encStr w blk off zs.toArray) (hsz : zs.length ≤ 9223372036854775807) (hcap : zs.length ≤ cap) :
    Calls Tryd.prog 26 #[.slice (some ⟨blk, off, none⟩) zs.length cap] w fun e w' => e = .returned (.slice (some ⟨blk, off, none⟩) (Lib.compact zs).length cap) ∧ ∃ q, w' = putRow encStr (Sort.ahead w q) blk off (Lib.compact zs ++ List.replicate (zs.length - (Lib.compact zs).length) []).toArray := Any.slices_Compact_string lays194 blk off cap zs w hH hsz hcap
open Go.RowKit Go.Lib Go.Sort in
theorem slices_Compact_string_empty (a : Option Addr) (cap : Nat) (w : World) :
    Calls Tryd.prog 26 #[.slice a 0 cap] w fun e w' => e = .returned (.slice a 0 cap) ∧ w' = w := Any.slices_Compact_string_empty lays194 a cap w
def laysSlM6_f25_ren : Go.Shelf.Ren := ⟨fun | 6 => 25 | 8 => 53 | 9 => 52 | 19 => 78 | 20 => 79 | 21 => 69 | 22 => 70 | 23 => 71 | 24 => 72 | 25 => 73 | 26 => 74 | 27 => 75 | 28 => 76 | 29 => 77 | 36 => 93 | 31 => 94 | 32 => 95 | 37 => 96 | 38 => 97 | 39 => 98 | 41 => 110 | n => n, fun | 27 => 28 | 29 => 9 | 3 => 3 | 32 => 73 | 26 => 28 | 0 => 0 | 44 => 88 | 46 => 90 | 4 => 4 | 36 => 82 | 35 => 81 | 41 => 53 | 5 => 5 | 9 => 9 | 53 => 107 | 57 => 111 | 63 => 118 | 64 => 119 | n => n, fun | n => n⟩
theorem laysSlM6_f25 : Go.Proofs.SlLaysM.n6 Tryd.prog laysSlM6_f25_ren := {
  mixed := by kernel_rfl
  f6 := ⟨Tryd.f25.name, by decide, Tryd.func25.trans (congrArg some (by kernel_rfl))⟩
  f8 := Tryd.func53.trans (congrArg some (by kernel_rfl))
  f9 := ⟨Tryd.f52.name, by decide, Tryd.func52.trans (congrArg some (by kernel_rfl))⟩
  f19 := Tryd.func78.trans (congrArg some (by kernel_rfl))
  f20 := Tryd.func79.trans (congrArg some (by kernel_rfl))
  f21 := ⟨Tryd.f69.name, by decide, Tryd.func69.trans (congrArg some (by kernel_rfl))⟩
  f22 := ⟨Tryd.f70.name, by decide, Tryd.func70.trans (congrArg some (by kernel_rfl))⟩
  f23 := ⟨Tryd.f71.name, by decide, Tryd.func71.trans (congrArg some (by kernel_rfl))⟩
  f24 := ⟨Tryd.f72.name, by decide, Tryd.func72.trans (congrArg some (by kernel_rfl))⟩
  f25 := ⟨Tryd.f73.name, by decide, Tryd.func73.trans (congrArg some (by kernel_rfl))⟩
  f26 := ⟨Tryd.f74.name, by decide, Tryd.func74.trans (congrArg some (by kernel_rfl))⟩
  f27 := ⟨Tryd.f75.name, by decide, Tryd.func75.trans (congrArg some (by kernel_rfl))⟩
  f28 := ⟨Tryd.f76.name, by decide, Tryd.func76.trans (congrArg some (by kernel_rfl))⟩
  f29 := ⟨Tryd.f77.name, by decide, Tryd.func77.trans (congrArg some (by kernel_rfl))⟩
  f31 := Tryd.func94.trans (congrArg some (by kernel_rfl))
  f32 := Tryd.func95.trans (congrArg some (by kernel_rfl))
  f36 := ⟨Tryd.f93.name, by decide, Tryd.func93.trans (congrArg some (by kernel_rfl))⟩
  f37 := ⟨Tryd.f96.name, by decide, Tryd.func96.trans (congrArg some (by kernel_rfl))⟩
  f38 := ⟨Tryd.f97.name, by decide, Tryd.func97.trans (congrArg some (by kernel_rfl))⟩
  f39 := ⟨Tryd.f98.name, by decide, Tryd.func98.trans (congrArg some (by kernel_rfl))⟩
  f41 := ⟨Tryd.f110.name, by decide, Tryd.func110.trans (congrArg some (by kernel_rfl))⟩
  t0 := Tryd.underlying0
  a0 := Tryd.isAgg0
  z0 := Tryd.sizeOf0
  v0 := Tryd.zeroValue0
  t3 := Tryd.underlying3
  a3 := Tryd.isAgg3
  z3 := Tryd.sizeOf3
  v3 := Tryd.zeroValue3
  t4 := Tryd.underlying4
  a4 := Tryd.isAgg4
  z4 := Tryd.sizeOf4
  v4 := Tryd.zeroValue4
  t5 := Tryd.underlying5
  a5 := Tryd.isAgg5
  z5 := Tryd.sizeOf5
  v5 := Tryd.zeroValue5
  t9 := Tryd.underlying9
  a9 := Tryd.isAgg9
  z9 := Tryd.sizeOf9
  v9 := Tryd.zeroValue9
  t26 := Tryd.underlying28
  a26 := Tryd.isAgg28
  z26 := Tryd.sizeOf28
  v26 := Tryd.zeroValue28
  t27 := Tryd.underlying28
  a27 := Tryd.isAgg28
  z27 := Tryd.sizeOf28
  v27 := Tryd.zeroValue28
  t29 := Tryd.underlying9
  a29 := Tryd.isAgg9
  z29 := Tryd.sizeOf9
  v29 := Tryd.zeroValue9
  t32 := Tryd.underlying73
  a32 := Tryd.isAgg73
  z32 := Tryd.sizeOf73
  v32 := Tryd.zeroValue73
  t35 := Tryd.underlying81
  a35 := Tryd.isAgg81
  z35 := Tryd.sizeOf81
  v35 := Tryd.zeroValue81
  t36 := Tryd.underlying82
  a36 := Tryd.isAgg82
  z36 := Tryd.sizeOf82
  v36 := Tryd.zeroValue82
  t41 := Tryd.underlying53
  a41 := Tryd.isAgg53
  z41 := Tryd.sizeOf53
  v41 := Tryd.zeroValue53
  t44 := Tryd.underlying88
  a44 := Tryd.isAgg88
  z44 := Tryd.sizeOf88
  v44 := Tryd.zeroValue88
  t46 := Tryd.underlying90
  a46 := Tryd.isAgg90
  z46 := Tryd.sizeOf90
  v46 := Tryd.zeroValue90
  t53 := Tryd.underlying107
  a53 := Tryd.isAgg107
  z53 := Tryd.sizeOf107
  v53 := Tryd.zeroValue107
  t57 := Tryd.underlying111
  a57 := Tryd.isAgg111
  z57 := Tryd.sizeOf111
  v57 := Tryd.zeroValue111
  t63 := Tryd.underlying118
  a63 := Tryd.isAgg118
  z63 := Tryd.sizeOf118
  v63 := Tryd.zeroValue118
  t64 := Tryd.underlying119
  a64 := Tryd.isAgg119
  z64 := Tryd.sizeOf119
  v64 := Tryd.zeroValue119 }
open Go.Sort Go.RowKit in
theorem slices_Sort_string (blk off cap : Nat) (ss : List (List UInt8)) (w : World) (hH : Holds encStr w blk off ss.toArray) (hblk : blk < w.heap.size) (hsz : ss.length < 4611686018427387904) :
    Calls Tryd.prog 25 #[.slice (some ⟨blk, off, none⟩) ss.length cap] w fun e w' =>
      e = .returned (.tuple #[]) ∧ ∃ n os, w' = grow (putRow encStr (Sort.ahead w n) blk off (ss.mergeSort fun x y => decide (x ≤ y)).toArray) os := AnyM.slices_Sort_string laysSlM6_f25 blk off cap ss w hH hblk hsz
end Go.Proofs.YtfojijoekpkheaaDoor
