/- What the program computes, and the plain laws of it, part 19. -/
import Derived.Test.YtcnoopjacilceaaGreatDoorRows
import Derived.Lib.SplitLaws
import Derived.Lib.IndexBytes
import Derived.Lib.ReplaceLaws
import Derived.Test.YtcnoopjacilceaaGreatDoorQ17
import Derived.Test.YtcnoopjacilceaaGreatDoorQ18
namespace Go.Proofs.YtcnoopjacilceaaGreatDoor
open Go.RowKit
open IntWalk renaming iteOmega → iO, toNatUp → tN
set_option linter.unusedVariables false
set_option linter.unusedSimpArgs false
theorem pcalls_split0 {P : Program} {g : FuncId} {l1 l2 : List PV} {sz : Nat} {os : List Ob} {R : PV → List Ob → Prop} (h : ∀ A c, PCalls P g (l1 ++ .c (.v (.slice A 0 c)) :: l2) os R) : PCalls P g (l1 ++ .c (.sl sz []) :: l2) os R := by
  intro Γ w xs hm hx
  obtain ⟨a, b, rfl, h1, h2⟩ := hx.split
  obtain ⟨y, m, rfl, h3, h4⟩ := All2.cons_l.1 h2
  obtain ⟨A, c, xs', hy, _⟩ := rd_sl.1 h3
  exact h A c Γ w _ hm (h1.append ⟨⟨hy, rfl⟩, h4⟩)
theorem pcalls_adopt {P : Program} {g : FuncId} {args : List PV} {os : List Ob} {R R' : PV → List Ob → Prop} (el : TypeId) (sz : Nat) (hsz : 0 < sz) (h : PCalls P g args os R)
    (hR : ∀ r os', R r os' → R' r os' ∨ (r = .c (.v (.slice none 0 0)) ∧ R' (.c (.own os'.length 0)) (os' ++ [.arr el sz []]))) : PCalls P g args os R' := by
  intro Γ w xs hm hx
  refine (h Γ w xs hm hx).mono ?_
  rintro e w' ⟨r, os', Γ', y, rfl, h2, h3, h4, h5, h6⟩
  rcases hR r os' h2 with h7 | ⟨rfl, h7⟩
  · exact ⟨r, os', Γ', y, rfl, h7, h3, h4, h5, h6⟩
  · have hS := Same.refl w'
    have hm2 : MemOk (Γ'.push 0 0) (os' ++ [.arr el sz []]) w' := h5.push hS _ 0 0 ⟨by simp, hsz, fun _ => rfl, fun h => absurd h (by simp [G.push, upd_same])⟩ (fun h => absurd h (by omega))
    have hn := h5.n
    refine ⟨_, _, Γ'.push 0 0, y, rfl, h7, ⟨by simp [G.push, hn], .inl ⟨by rw [← hn]; simp [G.push, upd_same], ⟨none, h3.1⟩, rfl⟩⟩, by simp; omega, hm2, ?_⟩
    exact h6.trans (grow_push h5 (Ext.refl No w') 0 0 (fun h => absurd h (by omega)) (by rw [hn]; exact h4))
theorem weak_trim {N p : Nat} {s : S} (k n : Nat) {el : TypeId} {sz : Nat} {rows : List (List D)} (hk : s.o[k]? = some (.arr el sz rows)) : Weak N p s ⟨s.t, setO s.o k (.arr el sz (rows.take n))⟩ := by
  intro Γ a w hA
  have hm := hA.inv.m
  have hkl : k < s.o.length := (List.getElem?_eq_some_iff.1 hk).1
  refine ⟨Γ, ⟨⟨hA.inv.size, hA.inv.defers, hA.inv.t, ⟨by simp [setO, hm.n], fun j o ho => ?_, hm.sep, hm.off, hm.lt, hm.pin⟩⟩, hA.le⟩, Grow.refl _ _ _⟩
  simp only [setO] at ho
  by_cases e : k = j
  · subst e
    rw [List.getElem?_set_self hkl] at ho
    cases ho
    obtain ⟨g1, g2, g3, g4⟩ := hm.ob k _ hk
    refine ⟨fun r hr => g1 r (List.mem_of_mem_take hr), g2, fun h => by rw [g3 h]; simp, fun hc => ?_⟩
    obtain ⟨cur, b1, b2, b3, b4, b5⟩ := g4 hc
    refine ⟨cur, b1, b2, by rw [List.length_take]; omega, b4, ?_⟩
    rcases Nat.lt_or_ge rows.length n with h | h
    · rw [List.take_of_length_le (by omega)]; exact b5
    · have := b5.take (n * sz)
      rw [take_rows g1 h, List.take_take, Nat.min_eq_left (Nat.mul_le_mul_right _ h)] at this
      rw [List.length_take, Nat.min_eq_left h]
      exact this
  · rw [List.getElem?_set_ne e] at ho
    exact hm.ob j o ho
def inM (s : ByteArray) (l : List ByteArray) : Bool := l.any fun x => decide (x = s)
theorem inM_iff {s : ByteArray} {l : List ByteArray} : inM s l = true ↔ s ∈ l := by
  simp only [inM, List.any_eq_true, decide_eq_true_eq]
  exact ⟨fun ⟨x, h, e⟩ => e ▸ h, fun h => ⟨s, h, rfl⟩⟩
theorem inM_false {s : ByteArray} {l : List ByteArray} : inM s l = false ↔ s ∉ l := by rw [← inM_iff]; simp
theorem inM_cons (s a : ByteArray) (l : List ByteArray) : inM s (a :: l) = (decide (a = s) || inM s l) := rfl
theorem inM_nil (s : ByteArray) : inM s [] = false := rfl
def setE (l : List ByteArray) : List (MK × List D) := l.map fun s => (.s s, [.v (.bool true)])
def addS (l : List ByteArray) (s : ByteArray) : List ByteArray := if inM s l = true then l else l ++ [s]
theorem mget_set (s : ByteArray) : ∀ l : List ByteArray, mget (setE l) (.s s) = if inM s l = true then some [.v (.bool true)] else none
  | [] => rfl
  | a :: l => by
    have ih := mget_set s l
    simp only [setE, List.map_cons, mget, MK.s.injEq, inM_cons] at ih ⊢
    by_cases h : a = s
    · simp [h]
    · rw [if_neg h, ih]
      simp [h]
theorem mput_set (s : ByteArray) : ∀ l : List ByteArray, mput (setE l) (.s s) [.v (.bool true)] = setE (addS l s)
  | [] => rfl
  | a :: l => by
    have ih := mput_set s l
    by_cases h : a = s
    · subst h; simp [setE, mput, addS, inM_cons]
    · cases hm : inM s l
      · simp only [setE, List.map_cons, mput, MK.s.injEq, h, if_false, addS, hm, inM_cons, decide_false, Bool.false_or, Bool.false_eq_true, List.map_append, List.map_nil, List.cons_append] at ih ⊢
        rw [ih]
      · simp only [setE, List.map_cons, mput, MK.s.injEq, h, if_false, addS, hm, inM_cons, decide_false, Bool.false_or, if_true] at ih ⊢
        rw [ih]
theorem lk_set (l : List ByteArray) (s : ByteArray) : lkP false (.c (.v (.bool false))) false (mget (setE l) (.s s)) = some (.c (.v (.bool (inM s l)))) := by
  rw [mget_set]
  cases h : inM s l <;> simp [lkP, rowP, okP, D.e]
theorem mem_addS {l : List ByteArray} {s x : ByteArray} : x ∈ addS l s ↔ x ∈ l ∨ x = s := by
  unfold addS
  split
  · rename_i h
    rw [inM_iff] at h
    constructor
    · exact .inl
    · rintro (h' | rfl)
      · exact h'
      · exact h
  · simp
theorem nodup_addS {l : List ByteArray} {s : ByteArray} (h : l.Nodup) : (addS l s).Nodup := by
  unfold addS
  split
  · exact h
  · rename_i h'
    rw [inM_iff] at h'
    rw [List.nodup_append]
    refine ⟨h, by simp, ?_⟩
    rintro a ha b hb rfl
    simp at hb
    subst hb
    exact h' ha
theorem setE_nil : setE [] = [] := rfl
theorem getD_snoc {α : Type} (l : List α) (a d : α) : (l ++ [a]).getD l.length d = a := by simp [List.getD]
attribute [push_cast] lk_set mput_set setE_nil
end Go.Proofs.YtcnoopjacilceaaGreatDoor
namespace Go.Proofs.YtcnoopjacilceaaGreatDoor
attribute [local irreducible] PL QL PWPr PCalls Weak RetK Kontr
open Go.RowKit
open IntWalk renaming iteOmega → iO, toNatUp → tN
set_option linter.unusedVariables false
set_option linter.unusedSimpArgs false
set_option maxRecDepth 20000
theorem fold_pure (v n : Int) (hv : -9223372036854775808 ≤ v) (hv' : v ≤ 9223372036854775807) (hn : n ≤ 9223372036854775807) :
    PCalls Tryz.prog 97 [.c (.v (.int .i64 v)), .c (.v (.int .i64 n))] [] fun r os => r = .c (.v (.int .i64 (fold v n))) ∧ os = [] := by
  have hlo := Int.lt_tmod_of_pos v (b := n)
  have hhi := Int.tmod_lt_of_pos v (b := n)
  refine pcalls_of Tryz.func97 rfl (by simp [Tryz.ntmps97]) ?_
  rw [Tryz.ntmps97, Tryz.results97]
  push_cast [iO, tN]
  by_cases h1 : n ≤ 1
  · repeat' (first | ((first | refine pG ?_ | refine pQ ?_ | refine pU ?_); push_cast [iO, tN]) | (refine pif (fun h => ?_) (fun h => ?_) <;> first | exact pN h | push_cast [iO, tN]))
    (refine retK_of [] ?_; push_cast [iO, tN])
    simp [fold, h1]
  · by_cases h0 : 0 ≤ v
    · have he := Int.tmod_eq_emod_of_nonneg h0 (b := n)
      have hb := Int.emod_nonneg v (b := n) (by omega)
      repeat' (first | ((first | refine pG ?_ | refine pQ ?_ | refine pU ?_); push_cast [iO, tN]) | (refine pif (fun h => ?_) (fun h => ?_) <;> first | exact pN h | push_cast [iO, tN]))
      (refine retK_of [] ?_; push_cast [iO, tN])
      simp only [fold, if_neg h1, he]
      rw [if_neg (by omega)]
    · by_cases h2 : v.tmod n < 0
      · repeat' (first | ((first | refine pG ?_ | refine pQ ?_ | refine pU ?_); push_cast [iO, tN]) | (refine pif (fun h => ?_) (fun h => ?_) <;> first | exact pN h | push_cast [iO, tN]))
        (refine retK_of [] ?_; push_cast [iO, tN])
        simp [fold, h1, h2]
      · repeat' (first | ((first | refine pG ?_ | refine pQ ?_ | refine pU ?_); push_cast [iO, tN]) | (refine pif (fun h => ?_) (fun h => ?_) <;> first | exact pN h | push_cast [iO, tN]))
        (refine retK_of [] ?_; push_cast [iO, tN])
        simp [fold, h1, h2]
def eInts (L : List Int) : E := .sl 1 (L.map fun x => [D.v (.int .i64 x)])
def tape (L : List Int) (k : Nat) : Ob := .box 59 [.sl 1 (L.map fun x => [D.v (.int .i64 x)]), .v (.int .i64 k)]
attribute [push_cast] tape
theorem next_pure (L : List Int) (k : Nat) (n : Int) (hk : k < 1000000) (hn : n ≤ 9223372036854775807) (hL : ∀ x ∈ L, -9223372036854775808 ≤ x ∧ x ≤ 9223372036854775807) (hl : L.length ≤ 9223372036854775807) :
    PCalls Tryz.prog 53 [.c (.ptr 0 0), .c (.v (.int .i64 n))] [tape L k] fun r os => r = .c (.v (.int .i64 (fold (tapeAt L k) n))) ∧ os = [tape L (k + 1)] := by
  refine pcalls_of Tryz.func53 rfl (by simp [Tryz.ntmps53]) ?_
  rw [Tryz.ntmps53, Tryz.results53]
  push_cast [iO, tN]
  by_cases hlt : k < L.length
  · have hx := hL (L.getD k default) (by rw [getD_lt L hlt]; exact List.getElem_mem _)
    repeat' (first |  (refine plc [] (fold_pure (L.getD k default) n (by omega) (by omega) hn) ?_ ?_; push_cast [iO, tN]; rintro r os ⟨rfl, rfl⟩; push_cast [iO, tN])  | ((first | refine pG ?_ | refine pQ ?_ | refine pU ?_); push_cast [iO, tN]) | (refine pif (fun h => ?_) (fun h => ?_) <;> first | exact pN h | push_cast [iO, tN]))
    (refine retK_of [0] ?_; push_cast [iO, tN])
    simp [tapeAt, hlt]
  · repeat' (first |  (refine plc [] (fold_pure ((k : Int) * 7 % 11) n (by omega) (by omega) hn) ?_ ?_; push_cast [iO, tN]; rintro r os ⟨rfl, rfl⟩; push_cast [iO, tN])  | ((first | refine pG ?_ | refine pQ ?_ | refine pU ?_); push_cast [iO, tN]) | (refine pif (fun h => ?_) (fun h => ?_) <;> first | exact pN h | push_cast [iO, tN]))
    (refine retK_of [0] ?_; push_cast [iO, tN])
    simp [tapeAt, hlt]
def strD (s : ByteArray) : List D := [.v (.string s)]
attribute [push_cast] strD
def pick (L : List Int) (k : Nat) (l : List ByteArray) : ByteArray := l.getD (fold (tapeAt L k) l.length).toNat default
theorem fold_bds (v n : Int) (hn : 0 < n) : 0 ≤ fold v n ∧ fold v n < n := by
  unfold fold
  have := Int.lt_tmod_of_pos v (b := n) hn
  have := Int.tmod_lt_of_pos v (b := n) hn
  split
  · omega
  · split <;> omega
theorem one_pure (L : List Int) (k : Nat) (l : List ByteArray) (hk : k < 1000000) (h0 : 0 < l.length) (hn : l.length ≤ 1000000) (hL : ∀ x ∈ L, -9223372036854775808 ≤ x ∧ x ≤ 9223372036854775807) (hl : L.length ≤ 9223372036854775807) :
    PCalls Tryz.prog 54 [.c (.ptr 0 0), .c (.sl 1 (l.map strD))] [tape L k] fun r os => r = .c (.v (.string (pick L k l))) ∧ os = [tape L (k + 1)] := by
  refine pcalls_of Tryz.func54 rfl (by simp [Tryz.ntmps54]) ?_
  rw [Tryz.ntmps54, Tryz.results54]
  obtain ⟨hb, hb'⟩ := fold_bds (tapeAt L k) l.length (by omega)
  push_cast [iO, tN]
  repeat' (first |  (refine plc [0] (next_pure L k l.length hk (by omega) hL hl) ?_ ?_; push_cast [iO, tN]; rintro r os ⟨rfl, rfl⟩; push_cast [iO, tN])  | ((first | refine pG ?_ | refine pQ ?_ | refine pU ?_); push_cast [iO, tN]) | (refine pif (fun h => ?_) (fun h => ?_) <;> first | exact pN h | push_cast [iO, tN]))
  (refine retK_of [0] ?_; push_cast [iO, tN])
  simp [pick, List.getD]
theorem next_ex (L : List Int) (k : Nat) (n : Int) (hk : k < 1000000) (h0 : 0 < n) (hn : n ≤ 9223372036854775807) (hL : ∀ x ∈ L, -9223372036854775808 ≤ x ∧ x ≤ 9223372036854775807) (hl : L.length ≤ 9223372036854775807) :
    PCalls Tryz.prog 53 [.c (.ptr 0 0), .c (.v (.int .i64 n))] [tape L k] fun r os => ∃ v : Int, (0 ≤ v ∧ v < n) ∧ r = .c (.v (.int .i64 v)) ∧ os = [tape L (k + 1)] :=
  (next_pure L k n hk hn hL hl).mono fun r os h => ⟨_, fold_bds _ _ h0, h.1, h.2⟩
theorem one_ex (L : List Int) (k : Nat) (l : List ByteArray) (hk : k < 1000000) (h0 : 0 < l.length) (hn : l.length ≤ 1000000) (hL : ∀ x ∈ L, -9223372036854775808 ≤ x ∧ x ≤ 9223372036854775807) (hl : L.length ≤ 9223372036854775807) :
    PCalls Tryz.prog 54 [.c (.ptr 0 0), .c (.sl 1 (l.map strD))] [tape L k] fun r os => ∃ s, s ∈ l ∧ r = .c (.v (.string s)) ∧ os = [tape L (k + 1)] :=
  (one_pure L k l hk h0 hn hL hl).mono fun r os h => ⟨_, by
    have := fold_bds (tapeAt L k) l.length (by omega)
    unfold pick
    rw [getD_lt _ (by omega)]
    exact List.getElem_mem _, h.1, h.2⟩
end Go.Proofs.YtcnoopjacilceaaGreatDoor
namespace Go.Proofs.YtcnoopjacilceaaGreatDoor
open Go.RowKit
open IntWalk renaming iteOmega → iO, toNatUp → tN
set_option linter.unusedVariables false
set_option linter.unusedSimpArgs false
structure Atr where
  name : ByteArray
  value : ByteArray
  deriving DecidableEq, Inhabited
def Atr.d (x : Atr) : List D := [.v (.string x.name), .v (.string x.value)]
attribute [push_cast] Atr.d
structure Dev where
  index : Int
  parent : Int
  name : ByteArray
  original : ByteArray
  subsystem : ByteArray
  driver : ByteArray
  alias_ : ByteArray
  kind : Int
  number : Int
  attrs : List Atr
  deriving DecidableEq, Inhabited
def Dev.w (d : Dev) (a : E) : List E := [.v (.int .i64 d.index), .v (.int .i64 d.parent), .v (.string d.name), .v (.string d.original), .v (.string d.subsystem), .v (.string d.driver), .v (.string d.alias_), .v (.int .i64 d.kind), .v (.int .i64 d.number), a]
def Dev.e (d : Dev) : List E := d.w (.sl 2 (d.attrs.map Atr.d))
attribute [push_cast] Dev.e Dev.w
def Dev.d (d : Dev) : List D := [.v (.int .i64 d.index), .v (.int .i64 d.parent), .v (.string d.name), .v (.string d.original), .v (.string d.subsystem), .v (.string d.driver), .v (.string d.alias_), .v (.int .i64 d.kind), .v (.int .i64 d.number), .sl 2 (d.attrs.map Atr.d)]
attribute [push_cast] Dev.d
def trE (l : List Dev) : List E := [.sl 10 (l.map Dev.d)]
attribute [push_cast] trE
abbrev Fit (s : ByteArray) : Prop := s.size ≤ 9223372036854775807
def okA (l : List Atr) : Prop := ∀ a ∈ l, Fit a.name ∧ Fit a.value
structure Dev.ok (d : Dev) : Prop where
  name : Fit d.name
  original : Fit d.original
  subsystem : Fit d.subsystem
  driver : Fit d.driver
  alias_ : Fit d.alias_
  attrs : okA d.attrs
  len : d.attrs.length ≤ 9223372036854775807
  orig : d.original.size ≤ 1048576
theorem mem_fit {l : List ByteArray} {s : ByteArray} (h : l.all (fun s => decide (s.size ≤ 100)) = true) (hm : s ∈ l) : s.size ≤ 100 := by
  have := List.all_eq_true.1 h s hm
  simpa using this
theorem fit_of {s : ByteArray} {n : Nat} (h : s.size ≤ n) (hn : n ≤ 1048576) : Fit s := Nat.le_trans h (Nat.le_trans hn (by decide))
end Go.Proofs.YtcnoopjacilceaaGreatDoor
namespace Go.Proofs.YtcnoopjacilceaaGreatDoor
open Go.RowKit
open IntWalk renaming iteOmega → iO, toNatUp → tN
set_option linter.unusedVariables false
set_option linter.unusedSimpArgs false
def plusL (cs : List Bool) (t : List UInt8) : List Bool := t.foldl (fun cs b => cs.set b.toNat true) cs
theorem plusL_len : ∀ (t : List UInt8) (cs : List Bool), (plusL cs t).length = cs.length
  | [], _ => rfl
  | b :: t, cs => by have := plusL_len t (cs.set b.toNat true); rw [List.length_set] at this; exact this
theorem plusL_get : ∀ (t : List UInt8) (cs : List Bool) (b : UInt8), cs.length = 256 → (plusL cs t).getD b.toNat false = (cs.getD b.toNat false || t.contains b)
  | [], cs, b, _ => by simp [plusL]
  | a :: t, cs, b, h => by
    have hb := b.toNat_lt
    have := plusL_get t (cs.set a.toNat true) b (by rw [List.length_set]; exact h)
    rw [show plusL cs (a :: t) = plusL (cs.set a.toNat true) t from rfl, this, List.contains_cons]
    by_cases e : b = a
    · subst e
      have : (cs.set b.toNat true).getD b.toNat false = true := by rw [List.getD_eq_getElem?_getD, List.getElem?_set_self (by omega)]; rfl
      rw [this]; simp
    · have hne : a.toNat ≠ b.toNat := fun h => e (UInt8.toNat_inj.1 h.symm)
      have : (cs.set a.toNat true).getD b.toNat false = cs.getD b.toNat false := by rw [List.getD_eq_getElem?_getD, List.getElem?_set_ne hne, ← List.getD_eq_getElem?_getD]
      rw [this, show (b == a) = false by simpa using e, Bool.false_or]
theorem plusL_snoc (cs : List Bool) (t : List UInt8) (b : UInt8) : plusL cs (t ++ [b]) = (plusL cs t).set b.toNat true := by simp [plusL]
def upperT : List UInt8 := [65, 66, 67, 68, 69, 70, 71, 72, 73, 74, 75, 76, 77, 78, 79, 80, 81, 82, 83, 84, 85, 86, 87, 88, 89, 90]
def lowerT : List UInt8 := [97, 98, 99, 100, 101, 102, 103, 104, 105, 106, 107, 108, 109, 110, 111, 112, 113, 114, 115, 116, 117, 118, 119, 120, 121, 122]
def digitT : List UInt8 := [48, 49, 50, 51, 52, 53, 54, 55, 56, 57]
def moreT : List UInt8 := [95, 46, 58, 43, 45]
def noneL : List Bool := List.replicate 256 false
def commonL : List Bool := plusL (plusL (plusL (plusL noneL upperT) lowerT) digitT) moreT
theorem noneL_len : noneL.length = 256 := List.length_replicate
theorem commonL_len : commonL.length = 256 := by rw [commonL, plusL_len, plusL_len, plusL_len, plusL_len, noneL_len]
def nameT : List UInt8 := upperT ++ lowerT ++ digitT ++ moreT ++ [33]
def nameB (b : UInt8) : Bool := nameT.contains b
theorem nameL_get (b : UInt8) : (plusL commonL [33]).getD b.toNat false = nameB b := by
  have h0 : noneL.getD b.toNat false = false := by unfold noneL; rw [List.getD_eq_getElem?_getD, List.getElem?_replicate]; split <;> rfl
  rw [plusL_get _ _ _ commonL_len, commonL, plusL_get _ _ _ (by rw [plusL_len, plusL_len, plusL_len, noneL_len]), plusL_get _ _ _ (by rw [plusL_len, plusL_len, noneL_len]), plusL_get _ _ _ (by rw [plusL_len, noneL_len]), plusL_get _ _ _ noneL_len, h0]
  rw [Bool.eq_iff_iff]
  simp only [nameB, nameT, Bool.or_eq_true, List.contains_iff_mem, List.mem_append, Bool.false_eq_true, false_or]
def hasL (cs : List Bool) (s : ByteArray) : Bool := s.data.toList.all fun b => cs.getD b.toNat false
def dotsS (s : ByteArray) : Bool := decide (s = ⟨#[46]⟩) || decide (s = ⟨#[46, 46]⟩)
def validS (s : ByteArray) : Bool := (((decide (s ≠ ⟨#[]⟩) && decide (s.size ≤ 32)) && !dotsS s) && s.data.toList.all nameB)
theorem has_name (s : ByteArray) : hasL (plusL commonL [33]) s = s.data.toList.all nameB := by unfold hasL; simp only [nameL_get]
def spl : List UInt8 → List (List UInt8)
  | [] => [[]]
  | b :: l => if b = 47 then [] :: spl l else match spl l with
    | [] => [[b]]
    | h :: t => (b :: h) :: t
theorem spl_ne (l : List UInt8) : spl l ≠ [] := by
  cases l with
  | nil => simp [spl]
  | cons b l => rw [spl]; split; simp; split <;> simp
theorem spl_none : ∀ {l : List UInt8}, (47 : UInt8) ∉ l → spl l = [l]
  | [], _ => rfl
  | b :: l, h => by
    simp only [List.mem_cons, not_or] at h
    rw [spl, if_neg (fun e => h.1 e.symm), spl_none h.2]
theorem spl_app : ∀ {a : List UInt8} (r : List UInt8), (47 : UInt8) ∉ a → spl (a ++ 47 :: r) = a :: spl r
  | [], r, _ => by rw [List.nil_append, spl, if_pos rfl]
  | b :: a, r, h => by
    simp only [List.mem_cons, not_or] at h
    rw [List.cons_append, spl, if_neg (fun e => h.1 e.symm), spl_app r h.2]
theorem splitK_spl : ∀ (k : Nat) (s : List UInt8), s.count 47 = k → Lib.splitK [47] 0 k s = spl s
  | 0, s, h => by rw [spl_none (List.count_eq_zero.1 h)]; rfl
  | k + 1, s, h => by
    have hmem : (47 : UInt8) ∈ s := List.count_pos_iff.1 (by omega)
    obtain ⟨a, r, rfl, ha⟩ : ∃ a r, s = a ++ 47 :: r ∧ (47 : UInt8) ∉ a := by
      clear h
      induction s with
      | nil => simp at hmem
      | cons b s ih =>
        by_cases e : b = 47
        · subst e; exact ⟨[], s, rfl, by simp⟩
        · obtain ⟨a, r, rfl, ha⟩ := ih (by simpa [Ne.symm e] using hmem)
          exact ⟨b :: a, r, rfl, by simp [ha, Ne.symm e]⟩
    have hi : Lib.index (a ++ 47 :: r) [47] = (a.length : Int) := by
      rw [Lib.index_one]
      clear h
      induction a with
      | nil => simp [Lib.indexByte]
      | cons b a ih =>
        simp only [List.mem_cons, not_or] at ha
        have := ih ha.2 (by simp)
        rw [List.cons_append, Lib.indexByte, if_neg (by simpa using Ne.symm ha.1), this, if_neg (by simp)]
        simp
    have hc : r.count 47 = k := by
      rw [List.count_append, List.count_cons_self, List.count_eq_zero.2 ha] at h
      omega
    rw [Lib.splitK, hi, if_neg (by simp), spl_app r ha]
    simp only [Int.toNat_natCast, Nat.add_zero, List.length_cons, List.length_nil, Nat.zero_add]
    rw [List.take_left, List.drop_append, List.drop_eq_nil_of_le (by omega), List.nil_append, show a.length + 1 - a.length = 1 by omega]
    simp only [List.drop_succ_cons, List.drop_zero]
    rw [splitK_spl k r hc]
def unT (l : List UInt8) : ByteArray := ⟨l.toArray⟩
theorem unT_data (s : ByteArray) : unT s.data.toList = s := rfl
def parts (s : ByteArray) : List ByteArray := (spl s.data.toList).map unT
theorem parts_ne (s : ByteArray) : 0 < (parts s).length := by
  unfold parts; rw [List.length_map]; exact List.length_pos_iff.2 (spl_ne _)
theorem splitB_parts (s : ByteArray) : Lib.splitB ⟨#[47]⟩ 0 (Lib.countB s ⟨#[47]⟩) s = parts s := by
  have h := Lib.splitB_data ⟨#[47]⟩ 0 (Lib.countB s ⟨#[47]⟩) s
  have hc : Lib.countB s ⟨#[47]⟩ = s.data.toList.count 47 := Lib.count_one 47 s.data.toList
  have h2 := splitK_spl _ s.data.toList hc.symm
  have e : (⟨#[47]⟩ : ByteArray).data.toList = [47] := rfl
  rw [e, h2] at h
  unfold parts
  rw [← h, List.map_map]
  conv => lhs; rw [← List.map_id (Lib.splitB _ _ _ _)]
  exact List.map_congr_left fun x _ => rfl
def slashS (s : ByteArray) : Bool := Lib.hasPrefix s.data.toList [47]
def restS (s : ByteArray) : ByteArray := if slashS s = true then s.extract 1 s.size else s
def splitP (s : ByteArray) : Option (List ByteArray) := if slashS s = true ∧ (parts (restS s)).all validS = true then some (parts (restS s)) else none
theorem parts_size : ∀ {s : ByteArray}, (parts s).length ≤ s.size + 1 := by
  intro s
  unfold parts
  rw [List.length_map]
  have : ∀ l : List UInt8, (spl l).length ≤ l.length + 1 := by
    intro l
    induction l with
    | nil => simp [spl]
    | cons b l ih =>
      rw [spl]
      split
      · simp only [List.length_cons]; omega
      · split
        · simp
        · rename_i h t e; rw [e] at ih; simp only [List.length_cons] at ih ⊢; omega
  have h := this s.data.toList
  rwa [show s.data.toList.length = s.size from rfl] at h
def cmpS (a b : ByteArray) : Int := if bless a b = true then -1 else if bless b a = true then 1 else 0
def cmpL : List ByteArray → List ByteArray → Int
  | [], [] => 0
  | [], _ :: _ => -1
  | _ :: _, [] => 1
  | a :: l, b :: m => if a = b then cmpL l m else cmpS a b
theorem cmpS_eq {a b : ByteArray} : cmpS a b = 0 ↔ a = b := by
  unfold cmpS
  constructor
  · intro h
    split at h
    · omega
    · split at h
      · omega
      · rename_i h1 h2; exact bless_total (by simpa using h1) (by simpa using h2)
  · rintro rfl; rw [if_neg (fun h => bless_ne h rfl), if_neg (fun h => bless_ne h rfl)]
theorem cmpS_anti (a b : ByteArray) : cmpS b a = -cmpS a b := by
  unfold cmpS
  by_cases h1 : bless a b = true
  · have := bless_asymm h1; rw [if_pos h1, this]; simp [h1]
  · by_cases h2 : bless b a = true
    · rw [if_pos h2, if_neg h1, if_pos h2]
    · rw [if_neg h2, if_neg h1, if_neg h1, if_neg h2]; rfl
theorem cmpL_eq : ∀ {l m : List ByteArray}, cmpL l m = 0 ↔ l = m
  | [], [] => by simp [cmpL]
  | [], _ :: _ => by simp [cmpL]
  | _ :: _, [] => by simp [cmpL]
  | a :: l, b :: m => by
    rw [cmpL]
    split
    · rename_i e; subst e; rw [cmpL_eq]; simp
    · rename_i e; rw [cmpS_eq]; simp [e]
theorem cmpL_anti : ∀ (l m : List ByteArray), cmpL m l = -cmpL l m
  | [], [] => rfl
  | [], _ :: _ => rfl
  | _ :: _, [] => rfl
  | a :: l, b :: m => by
    rw [cmpL, cmpL]
    by_cases e : a = b
    · subst e; rw [if_pos rfl, if_pos rfl]; exact cmpL_anti l m
    · rw [if_neg e, if_neg (Ne.symm e)]; exact cmpS_anti a b
theorem cmpL_lt : ∀ (l m : List ByteArray), cmpL l m = -1 ∨ cmpL l m = 0 ∨ cmpL l m = 1
  | [], [] => by simp [cmpL]
  | [], _ :: _ => by simp [cmpL]
  | _ :: _, [] => by simp [cmpL]
  | a :: l, b :: m => by
    rw [cmpL]
    split
    · exact cmpL_lt l m
    · unfold cmpS; split; simp; split <;> simp
theorem cmpS_lt {a b : ByteArray} : cmpS a b < 0 ↔ bless a b = true := by
  unfold cmpS
  split
  · rename_i h; simp [h]
  · rename_i h; split <;> simp [h]
theorem cmpL_trans : ∀ {l m n : List ByteArray}, cmpL l m < 0 → cmpL m n < 0 → cmpL l n < 0
  | [], [], _, h, _ => by simp [cmpL] at h
  | _ :: _, [], _, h, _ => by simp [cmpL] at h
  | _, _ :: _, [], _, h => by simp [cmpL] at h
  | [], _ :: _, _ :: _, _, _ => by simp [cmpL]
  | a :: l, b :: m, c :: n, h1, h2 => by
    rw [cmpL] at h1 h2 ⊢
    by_cases e1 : a = b
    · subst e1
      rw [if_pos rfl] at h1
      by_cases e2 : a = c
      · subst e2; rw [if_pos rfl] at h2 ⊢; exact cmpL_trans h1 h2
      · rw [if_neg e2] at h2 ⊢; exact h2
    · rw [if_neg e1] at h1
      by_cases e2 : b = c
      · subst e2; rw [if_neg e1]; exact h1
      · rw [if_neg e2] at h2
        have h3 := bless_trans (cmpS_lt.1 h1) (cmpS_lt.1 h2)
        rw [if_neg (bless_ne h3)]
        exact cmpS_lt.2 h3
end Go.Proofs.YtcnoopjacilceaaGreatDoor
namespace Go.Proofs.YtcnoopjacilceaaGreatDoor
open Go.RowKit
open IntWalk renaming iteOmega → iO, toNatUp → tN
set_option linter.unusedVariables false
set_option linter.unusedSimpArgs false
def nodeS (s : ByteArray) : ByteArray := ⟨(Lib.replaceAll s.data.toList [33] [47]).toArray⟩
def textB (b : UInt8) : Bool := decide (32 ≤ b.toNat) && decide (b.toNat ≤ 126)
def textS (s : ByteArray) : Bool := s.data.toList.all textB && decide (s.size ≤ 256)
theorem getD_byte {s : ByteArray} {k : Nat} (h : k < s.size) : ∃ h' : k < s.data.toList.length, s.data.toList.getD k 0 = s.data.toList[k] := ⟨h, by rw [List.getD_eq_getElem?_getD, List.getElem?_eq_getElem (show k < s.data.toList.length from h)]; rfl⟩
theorem all_next {p : UInt8 → Bool} {s : ByteArray} {k : Nat} (h : k < s.size) (ha : (s.data.toList.take k).all p = true) (hp : p (s.data.toList.getD k 0) = true) : (s.data.toList.take (k + 1)).all p = true := by
  obtain ⟨h', e⟩ := getD_byte h
  rw [List.take_succ_eq_append_getElem h', List.all_append, ha, ← e, List.all_cons, hp]; rfl
theorem all_not {p : UInt8 → Bool} {s : ByteArray} {k : Nat} (h : k < s.size) (hp : p (s.data.toList.getD k 0) = false) : s.data.toList.all p = false := by
  obtain ⟨h', e⟩ := getD_byte h
  exact List.all_eq_false.2 ⟨s.data.toList.getD k 0, by rw [e]; exact List.getElem_mem _, by rw [hp]; decide⟩
def ifaceS (s : ByteArray) : Bool := (validS s && decide (s.size ≤ 15)) && !(s.data.toList.contains 58 || s.data.toList.contains 33)
theorem nameB_ascii (b : UInt8) (h : nameB b = true) : b.toNat < 128 := by
  have : ∀ b ∈ nameT, b.toNat < 128 := by decide
  exact this b (by unfold nameB at h; exact List.contains_iff_mem.1 h)
theorem valid_ascii {s : ByteArray} (h : validS s = true) : ∀ (j : Nat) b, s.data.toList[j]? = some b → b.toNat < 128 := fun j b hb => by
  unfold validS at h
  simp only [Bool.and_eq_true] at h
  exact nameB_ascii b (List.all_eq_true.1 h.2 b (List.mem_of_getElem? hb))
theorem valid_size {s : ByteArray} (h : validS s = true) : s.size ≤ 32 := by
  unfold validS at h
  simp only [Bool.and_eq_true, decide_eq_true_eq] at h
  exact h.1.1.2
def linkL : List Bool := plusL commonL [64, 35, 61, 37]
theorem linkL_len : linkL.length = 256 := by rw [linkL, plusL_len, commonL_len]
def linkP (s : ByteArray) : Bool := (decide (s ≠ ⟨#[]⟩) && !dotsS s) && hasL linkL s
def linkS (s : ByteArray) : Bool := decide (s.size ≤ 256) && (parts s).all linkP
theorem part_size {s x : ByteArray} (h : x ∈ parts s) : x.size ≤ s.size := by
  have spl_mem : ∀ {l x : List UInt8}, x ∈ spl l → x.length ≤ l.length := by
    intro l
    induction l with
    | nil => intro x h; simp [spl] at h; subst h; simp
    | cons b l ih =>
      intro x h
      rw [spl] at h
      split at h
      · rcases List.mem_cons.1 h with rfl | h
        · simp
        · have := ih h; simp only [List.length_cons]; omega
      · split at h
        · rename_i e; simp at h; subst h; simp
        · rename_i y t e
          have hy : y ∈ spl l := by rw [e]; simp
          rcases List.mem_cons.1 h with rfl | h
          · have := ih hy; simp only [List.length_cons]; omega
          · have hx : x ∈ spl l := by rw [e]; simp [h]
            have := ih hx; simp only [List.length_cons]; omega
  unfold parts at h
  obtain ⟨y, hy, rfl⟩ := List.mem_map.1 h
  exact spl_mem hy
end Go.Proofs.YtcnoopjacilceaaGreatDoor
