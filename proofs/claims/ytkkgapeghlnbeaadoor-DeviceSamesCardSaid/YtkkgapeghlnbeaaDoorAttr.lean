/- Attributes as values; a slice of them; a slice of strings. -/
import Derived.Test.YtkkgapeghlnbeaaDoorRows
import Derived.Test.YtkkgapeghlnbeaaDoorOrd
namespace Go.Proofs.YtkkgapeghlnbeaaDoor
open Go.RowKit
set_option linter.unusedVariables false
set_option linter.unusedSimpArgs false

structure At where
  name : ByteArray
  value : ByteArray
  deriving DecidableEq
instance : Inhabited At := ⟨⟨ByteArray.empty, ByteArray.empty⟩⟩
def At.cells (a : At) : List Value := [.string a.name, .string a.value]
theorem At.len (a : At) : a.cells.length = 2 := rfl
theorem At.one (a : At) : ∀ v ∈ a.cells, v.oneCell' = true := by
  intro v hv
  simp only [At.cells, List.mem_cons, List.not_mem_nil, or_false] at hv
  rcases hv with h | h <;> subst h <;> rfl
abbrev AtSl (w : World) (P : Nat → Prop) (v : Value) (l : List At) : Prop := Sl w P 2 At.cells v l
def strCells (s : ByteArray) : List Value := [.string s]
theorem strCells_len (s : ByteArray) : (strCells s).length = 1 := rfl
theorem strCells_one (s : ByteArray) : ∀ v ∈ strCells s, v.oneCell' = true := by
  intro v hv
  simp only [strCells, List.mem_cons, List.not_mem_nil, or_false] at hv
  subst hv; rfl
abbrev StSl (w : World) (P : Nat → Prop) (v : Value) (l : List ByteArray) : Prop := Sl w P 1 strCells v l

theorem infoAt : (Tryd.prog.info? 58).map (fun i => (i.zero, i.size, i.bytes)) = some (some (.agg #[.string ByteArray.empty, .string ByteArray.empty]), 2, 32) := by kernel_rfl
theorem slAt : SlT Tryd.prog 26 58 2 32 := ⟨Tryd.underlying26, by
  obtain ⟨i, hi, hz, hs, hb⟩ := info_parts infoAt
  exact ⟨i, _, hi, hz, hs, hb, rfl⟩, by decide⟩
theorem infoSt : (Tryd.prog.info? 9).map (fun i => (i.zero, i.size, i.bytes)) = some (some (.string ByteArray.empty), 1, 16) := by kernel_rfl
theorem slSt : SlT Tryd.prog 44 9 1 16 := ⟨Tryd.underlying44, by
  obtain ⟨i, hi, hz, hs, hb⟩ := info_parts infoSt
  exact ⟨i, _, hi, hz, hs, hb, rfl⟩, by decide⟩

theorem rd_at {w : World} {P : Nat → Prop} {A : Option Addr} {l : List At} (h : Rd w P 2 A l.length (rows At.cells l)) {k : Nat} (hk : k < l.length) :
    ∃ b o, A = some ⟨b, o, none⟩ ∧ P b ∧ b < w.heap.size ∧ w.cell? ⟨b, o + k * 2, none⟩ = some (.string l[k].name) ∧ w.cell? ⟨b, o + k * 2 + 1, none⟩ = some (.string l[k].value) := by
  obtain ⟨b, o, rfl, hb, hlt, hc⟩ := rd_row At.len (by decide) h hk
  exact ⟨b, o, rfl, hb, hlt, hc 0 _ rfl, hc 1 _ rfl⟩
theorem rd_st {w : World} {P : Nat → Prop} {A : Option Addr} {l : List ByteArray} (h : Rd w P 1 A l.length (rows strCells l)) {k : Nat} (hk : k < l.length) :
    ∃ b o, A = some ⟨b, o, none⟩ ∧ P b ∧ b < w.heap.size ∧ w.cell? ⟨b, o + k, none⟩ = some (.string l[k]) := by
  obtain ⟨b, o, rfl, hb, hlt, hc⟩ := rd_row strCells_len (by decide) h hk
  refine ⟨b, o, rfl, hb, hlt, ?_⟩
  have := hc 0 _ rfl
  simpa using this

theorem run_neq_at (x y : At) (W : World) : (binOp .neq 58 (.agg #[.string x.name, .string x.value]) (.agg #[.string y.name, .string y.value])).run Tryd.prog W = .ok (.bool (!decide (x = y))) W := by
  go_simp
  obtain ⟨x1, x2⟩ := x
  obtain ⟨y1, y2⟩ := y
  simp only [blist_inj, At.mk.injEq]
  (repeat' split) <;> simp_all

theorem sameattrs_walk (P Q : Nat → Prop) (A B : Option Addr) (c d : Nat) (l m : List At) (w : World) (hl : Rd w P 2 A l.length (rows At.cells l)) (hm : Rd w Q 2 B m.length (rows At.cells m)) (hb : l.length ≤ 9223372036854775807) (hb' : m.length ≤ 9223372036854775807) :
    Calls Tryd.prog 14 #[.slice A l.length c, .slice B m.length d] w fun e w' => e = .returned (.bool (decide (l = m))) ∧ ∃ n, w' = w.drewN n := by
  by_cases hlen : l.length = m.length
  · have HL := Lib.hid hlen
    have HA := Lib.hid hl
    have HB := Lib.hid hm
    have hq : ((l.length : Int) == (m.length : Int)) = true := by simp [hlen]
    clear hl hm hlen
    go_enter Tryd.func14, Tryd.ntmps14
    go_wp2
    go_loopw [5] (fun i wr => ∃ k : Nat, k ≤ l.length ∧ i = .int .i64 (k : Int) ∧ (∀ j, j < k → l[j]? = m[j]?) ∧ ∃ n, wr = w.drewN n) (fun i _ => l.length - (intOf i).toNat)
    case atStart => exact ⟨0, Nat.zero_le _, rfl, fun j h => absurd h (by omega), 0, rfl⟩
    case round =>
      obtain ⟨k, hk, rfl, hsame, n, rfl⟩ := hrel
      have HS := Lib.hid hsame
      clear hsame
      by_cases hlt : k < l.length
      · have hlt2 : k < m.length := by rw [← HL.out]; exact hlt
        obtain ⟨b1, o1, rfl, _, _, a0, a1⟩ := rd_at HA.out hlt
        obtain ⟨b2, o2, rfl, _, _, e0, e1⟩ := rd_at HB.out hlt2
        by_cases hxy : l[k] = m[k]
        · have hrun : ∀ W, (binOp .neq 58 (.agg #[.string l[k].name, .string l[k].value]) (.agg #[.string m[k].name, .string m[k].value])).run Tryd.prog W = .ok (.bool false) W := by
            intro W
            exact (run_neq_at l[k] m[k] W).trans (by simp [hxy])
          have HXY := Lib.hid hxy
          clear hxy
          go_wp2
          go_quiet (fail)
          go_wp2
          go_roundw
          case rel =>
            refine ⟨k + 1, by omega, by go_num, fun j hj => ?_, _, rfl⟩
            by_cases e : j = k
            · subst e; rw [List.getElem?_eq_getElem hlt, List.getElem?_eq_getElem hlt2, HXY.out]
            · exact HS.out j (by omega)
          case measure => simp [intOf]; omega
        · have hrun : ∀ W, (binOp .neq 58 (.agg #[.string l[k].name, .string l[k].value]) (.agg #[.string m[k].name, .string m[k].value])).run Tryd.prog W = .ok (.bool true) W := by
            intro W
            exact (run_neq_at l[k] m[k] W).trans (by simp [hxy])
          have hne : decide (l = m) = false := by
            rw [decide_eq_false_iff_not]
            rintro rfl
            exact hxy rfl
          have HNE := Lib.hid hne
          clear hxy hne
          go_wp2
          go_quiet (fail)
          go_wp2
          go_ret
          exact ⟨ret_bool HNE.out.symm, n + nq, by simp only [World.drewN_drewN]⟩
      · have he : decide (l = m) = true := by
          rw [decide_eq_true_iff]
          apply List.ext_getElem?
          intro j
          by_cases hj : j < k
          · exact HS.out j hj
          · rw [List.getElem?_eq_none (by omega), List.getElem?_eq_none (by have := HL.out; omega)]
        have HE := Lib.hid he
        clear he
        go_wp2
        go_ret
        exact ⟨ret_bool HE.out.symm, _, rfl⟩
  · have hq : ((l.length : Int) == (m.length : Int)) = false := by simp; omega
    have hne : decide (l = m) = false := by
      rw [decide_eq_false_iff_not]
      rintro rfl
      exact hlen rfl
    have HNE := Lib.hid hne
    clear hl hm hlen hne
    go_enter Tryd.func14, Tryd.ntmps14
    go_wp2
    go_ret
    exact ⟨ret_bool HNE.out.symm, 0, rfl⟩

/-! ### the lists' plain functions -/
/-- each name stands ahead of the next one -/
def Asc (l : List At) : Prop := ∀ k (h : k + 1 < l.length), bless (l[k]'(by omega)).name l[k + 1].name = true
def ascB : List At → Bool
  | a :: b :: t => bless a.name b.name && ascB (b :: t)
  | _ => true
theorem ascB_iff : ∀ l : List At, ascB l = true ↔ Asc l
  | [] => by simp [ascB, Asc]
  | [a] => by simp [ascB, Asc]
  | a :: b :: t => by
    have ih := ascB_iff (b :: t)
    simp only [ascB, Bool.and_eq_true, ih]
    constructor
    · rintro ⟨h1, h2⟩ k hk
      cases k with
      | zero => exact h1
      | succ k => exact h2 k (by simpa using hk)
    · intro h
      exact ⟨h 0 (by simp), fun k hk => h (k + 1) (by simpa using hk)⟩
def getM (l : List At) (n : ByteArray) : ByteArray × Bool :=
  match l.find? (fun a => decide (a.name = n)) with
  | some a => (a.value, true)
  | none => (⟨#[]⟩, false)
theorem getM_hit {l : List At} {n : ByteArray} {k : Nat} (hk : k < l.length) (hn : l[k].name = n) (hb : ∀ j (h : j < k), (l[j]'(by omega)).name ≠ n) : getM l n = (l[k].value, true) := by
  have h : l.find? (fun a => decide (a.name = n)) = some l[k] := by
    rw [List.find?_eq_some_iff_getElem]
    exact ⟨by simp [hn], k, hk, rfl, fun j hj => by simpa using hb j hj⟩
  simp [getM, h]
theorem getM_miss {l : List At} {n : ByteArray} (hb : ∀ j (h : j < l.length), l[j].name ≠ n) : getM l n = (⟨#[]⟩, false) := by
  have h : l.find? (fun a => decide (a.name = n)) = none := by
    rw [List.find?_eq_none]
    intro a ha
    obtain ⟨j, hj, rfl⟩ := List.mem_iff_getElem.1 ha
    simpa using hb j hj
  simp [getM, h]

/-! ### Sorted, Get -/
theorem sorted_walk (P : Nat → Prop) (A : Option Addr) (c : Nat) (l : List At) (w : World) (hl : Rd w P 2 A l.length (rows At.cells l)) (hb : l.length ≤ 9223372036854775807) :
    Calls Tryd.prog 19 #[.slice A l.length c] w fun e w' => e = .returned (.bool (ascB l)) ∧ ∃ n, w' = w.drewN n := by
  have HA := Lib.hid hl
  clear hl
  go_enter Tryd.func19, Tryd.ntmps19
  go_wp2
  go_loopw [3] (fun i wr => ∃ k : Nat, k ≤ l.length + 1 ∧ 1 ≤ k ∧ i = .int .i64 (k : Int) ∧ (∀ j (h : j + 1 < l.length), j + 1 < k → bless (l[j]'(by omega)).name l[j + 1].name = true) ∧ ∃ n, wr = w.drewN n) (fun i _ => l.length - (intOf i).toNat)
  case atStart => exact ⟨1, by omega, by omega, rfl, fun j h h2 => by omega, 0, rfl⟩
  case round =>
    obtain ⟨k, hk, hk1, rfl, hsofar, n, rfl⟩ := hrel
    have HS := Lib.hid hsofar
    clear hsofar
    by_cases hlt : k < l.length
    · obtain ⟨k', rfl⟩ : ∃ k', k = k' + 1 := ⟨k - 1, by omega⟩
      obtain ⟨b1, o1, rfl, _, _, a0, a1⟩ := rd_at HA.out (k := k') (by omega)
      obtain ⟨b2, o2, hbo, _, _, e0, e1⟩ := rd_at HA.out hlt
      simp at hbo
      obtain ⟨rfl, rfl⟩ := hbo
      by_cases hls : bless l[k'].name l[k' + 1].name = true
      · have hq : Op.bytesLess l[k'].name.toList l[k' + 1].name.toList = true := hls
        have HLS := Lib.hid hls
        clear hls
        go_wp2
        go_quiet (fail)
        go_wp2
        go_roundw
        case rel =>
          refine ⟨k' + 1 + 1, by omega, by omega, by go_num, fun j h h2 => ?_, _, rfl⟩
          by_cases e : j = k'
          · subst e; exact HLS.out
          · exact HS.out j h (by omega)
        case measure => simp [intOf]; omega
      · have hq : Op.bytesLess l[k'].name.toList l[k' + 1].name.toList = false := by simpa [bless] using hls
        have hres : ascB l = false := by
          rw [Bool.eq_false_iff, ne_eq, ascB_iff]
          intro h
          exact hls (h k' hlt)
        have HR := Lib.hid hres
        clear hls hres
        go_wp2
        go_quiet (fail)
        go_wp2
        go_ret
        exact ⟨ret_bool HR.out.symm, n + nq, by simp only [World.drewN_drewN]⟩
    · have hres : ascB l = true := by
        rw [ascB_iff]
        intro j h
        exact HS.out j h (by omega)
      have HR := Lib.hid hres
      clear hres
      go_wp2
      go_ret
      exact ⟨ret_bool HR.out.symm, _, rfl⟩

theorem refsorted_walk (P : Nat → Prop) (A : Option Addr) (c : Nat) (l : List At) (w : World) (hl : Rd w P 2 A l.length (rows At.cells l)) (hb : l.length ≤ 9223372036854775807) :
    Calls Tryd.prog 20 #[.slice A l.length c] w fun e w' => e = .returned (.bool (ascB l)) ∧ ∃ n, w' = w.drewN n := by
  have HA := Lib.hid hl
  clear hl
  go_enter Tryd.func20, Tryd.ntmps20
  go_wp2
  go_loopw [3] (fun i wr => ∃ k : Nat, k ≤ l.length + 1 ∧ 1 ≤ k ∧ i = .int .i64 (k : Int) ∧ (∀ j (h : j + 1 < l.length), j + 1 < k → bless (l[j]'(by omega)).name l[j + 1].name = true) ∧ ∃ n, wr = w.drewN n) (fun i _ => l.length - (intOf i).toNat)
  case atStart => exact ⟨1, by omega, by omega, rfl, fun j h h2 => by omega, 0, rfl⟩
  case round =>
    obtain ⟨k, hk, hk1, rfl, hsofar, n, rfl⟩ := hrel
    have HS := Lib.hid hsofar
    clear hsofar
    by_cases hlt : k < l.length
    · obtain ⟨k', rfl⟩ : ∃ k', k = k' + 1 := ⟨k - 1, by omega⟩
      obtain ⟨b1, o1, rfl, _, _, a0, a1⟩ := rd_at HA.out (k := k') (by omega)
      obtain ⟨b2, o2, hbo, _, _, e0, e1⟩ := rd_at HA.out hlt
      simp at hbo
      obtain ⟨rfl, rfl⟩ := hbo
      by_cases hls : bless l[k'].name l[k' + 1].name = true
      · have hq : Op.bytesLess l[k'].name.toList l[k' + 1].name.toList = true := hls
        have HLS := Lib.hid hls
        clear hls
        go_wp2
        go_quiet (fail)
        go_wp2
        go_roundw
        case rel =>
          refine ⟨k' + 1 + 1, by omega, by omega, by go_num, fun j h h2 => ?_, _, rfl⟩
          by_cases e : j = k'
          · subst e; exact HLS.out
          · exact HS.out j h (by omega)
        case measure => simp [intOf]; omega
      · have hq : Op.bytesLess l[k'].name.toList l[k' + 1].name.toList = false := by simpa [bless] using hls
        have hres : ascB l = false := by
          rw [Bool.eq_false_iff, ne_eq, ascB_iff]
          intro h
          exact hls (h k' hlt)
        have HR := Lib.hid hres
        clear hls hres
        go_wp2
        go_quiet (fail)
        go_wp2
        go_ret
        exact ⟨ret_bool HR.out.symm, n + nq, by simp only [World.drewN_drewN]⟩
    · have hres : ascB l = true := by
        rw [ascB_iff]
        intro j h
        exact HS.out j h (by omega)
      have HR := Lib.hid hres
      clear hres
      go_wp2
      go_ret
      exact ⟨ret_bool HR.out.symm, _, rfl⟩

theorem get_walk (P : Nat → Prop) (A : Option Addr) (c : Nat) (l : List At) (n : ByteArray) (w : World) (hl : Rd w P 2 A l.length (rows At.cells l)) (hb : l.length ≤ 9223372036854775807) :
    Calls Tryd.prog 17 #[.slice A l.length c, .string n] w fun e w' => e = .returned (.tuple #[.string (getM l n).1, .bool (getM l n).2]) ∧ Ext No w w' := by
  have HA := Lib.hid hl
  clear hl
  go_enter Tryd.func17, Tryd.ntmps17
  go_wp2
  go_loopw [10] (fun i wr => ∃ k : Nat, k ≤ l.length ∧ i = .int .i64 (k : Int) ∧ (∀ j (h : j < k) (h' : j < l.length), l[j].name ≠ n) ∧ Ext No w wr) (fun i _ => l.length - (intOf i).toNat)
  case atStart => exact ⟨0, by omega, rfl, fun j h h2 => by omega, Ext.refl _ _⟩
  case round =>
    obtain ⟨k, hk, rfl, hsofar, hE⟩ := hrel
    have HS := Lib.hid hsofar
    have HE := Lib.hid hE
    clear hsofar hE
    by_cases hlt : k < l.length
    · obtain ⟨b1, o1, rfl, _, _, a0, a1⟩ := rd_at (HA.out.ext HE.out (fun _ _ h => h)) hlt
      by_cases hls : l[k].name = n
      · have hq : (l[k].name.toList == n.toList) = true := by rw [hls]; simp
        have hres := getM_hit hlt hls (fun j h => HS.out j h (by omega))
        have HR := Lib.hid hres
        clear hls hres
        go_wp2
        go_ret2
        exact ⟨by rw [HR.out]; rfl, by repeat (first | exact HE.out | apply Ext.alloc)⟩
      · have hq : (l[k].name.toList == n.toList) = false := by
          rw [beq_eq_false_iff_ne, ne_eq, blist_inj]; exact hls
        have HLS := Lib.hid hls
        clear hls
        go_wp2
        go_roundw
        case rel =>
          refine ⟨k + 1, by omega, by go_num, fun j h h2 => ?_, by repeat (first | exact HE.out | apply Ext.alloc)⟩
          by_cases e : j = k
          · subst e; exact HLS.out
          · exact HS.out j (by omega) h2
        case measure => simp [intOf]; omega
    · have hres := getM_miss (l := l) (n := n) (fun j h => HS.out j (by omega) h)
      have HR := Lib.hid hres
      clear hres
      go_wp2
      go_ret2
      exact ⟨by rw [HR.out]; rfl, HE.out⟩

theorem refget_walk (P : Nat → Prop) (A : Option Addr) (c : Nat) (l : List At) (n : ByteArray) (w : World) (hl : Rd w P 2 A l.length (rows At.cells l)) (hb : l.length ≤ 9223372036854775807) :
    Calls Tryd.prog 18 #[.slice A l.length c, .string n] w fun e w' => e = .returned (.tuple #[.string (getM l n).1, .bool (getM l n).2]) ∧ Ext No w w' := by
  have HA := Lib.hid hl
  clear hl
  go_enter Tryd.func18, Tryd.ntmps18
  go_wp2
  go_loopw [6] (fun i wr => ∃ k : Nat, k ≤ l.length ∧ i = .int .i64 (k : Int) ∧ (∀ j (h : j < k) (h' : j < l.length), l[j].name ≠ n) ∧ Ext No w wr) (fun i _ => l.length - (intOf i).toNat)
  case atStart => exact ⟨0, by omega, rfl, fun j h h2 => by omega, Ext.refl _ _⟩
  case round =>
    obtain ⟨k, hk, rfl, hsofar, hE⟩ := hrel
    have HS := Lib.hid hsofar
    have HE := Lib.hid hE
    clear hsofar hE
    by_cases hlt : k < l.length
    · obtain ⟨b1, o1, rfl, _, _, a0, a1⟩ := rd_at (HA.out.ext HE.out (fun _ _ h => h)) hlt
      by_cases hls : l[k].name = n
      · have hq : (l[k].name.toList == n.toList) = true := by rw [hls]; simp
        have hres := getM_hit hlt hls (fun j h => HS.out j h (by omega))
        have HR := Lib.hid hres
        clear hls hres
        go_wp2
        go_ret2
        exact ⟨by rw [HR.out]; rfl, by repeat (first | exact HE.out | apply Ext.alloc)⟩
      · have hq : (l[k].name.toList == n.toList) = false := by
          rw [beq_eq_false_iff_ne, ne_eq, blist_inj]; exact hls
        have HLS := Lib.hid hls
        clear hls
        go_wp2
        go_roundw
        case rel =>
          refine ⟨k + 1, by omega, by go_num, fun j h h2 => ?_, by repeat (first | exact HE.out | apply Ext.alloc)⟩
          by_cases e : j = k
          · subst e; exact HLS.out
          · exact HS.out j (by omega) h2
        case measure => simp [intOf]; omega
    · have hres := getM_miss (l := l) (n := n) (fun j h => HS.out j (by omega) h)
      have HR := Lib.hid hres
      clear hres
      go_wp2
      go_ret2
      exact ⟨by rw [HR.out]; rfl, HE.out⟩
end Go.Proofs.YtkkgapeghlnbeaaDoor
