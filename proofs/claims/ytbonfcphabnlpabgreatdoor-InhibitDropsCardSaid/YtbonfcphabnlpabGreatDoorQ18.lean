/- What the program computes, and the plain laws of it, part 18. -/
import Derived.Test.YtbonfcphabnlpabGreatDoorRows
import Derived.Lib.SplitLaws
import Derived.Lib.IndexBytes
import Derived.Lib.ReplaceLaws
import Derived.Test.YtbonfcphabnlpabGreatDoorQ16
import Derived.Test.YtbonfcphabnlpabGreatDoorQ17
namespace Go.Proofs.YtbonfcphabnlpabGreatDoor
attribute [local irreducible] PL QL PWPr PCalls Weak RetK Kontr
open Go.RowKit
open IntWalk renaming iteOmega → iO, toNatUp → tN
set_option linter.unusedVariables false
set_option linter.unusedSimpArgs false
set_option maxRecDepth 20000
theorem fold_pure (v n : Int) (hv : -9223372036854775808 ≤ v) (hv' : v ≤ 9223372036854775807) (hn : n ≤ 9223372036854775807) :
    PCalls Tryz.prog 7 [.c (.v (.int .i64 v)), .c (.v (.int .i64 n))] [] fun r os => r = .c (.v (.int .i64 (fold v n))) ∧ os = [] := by
  have hlo := Int.lt_tmod_of_pos v (b := n)
  have hhi := Int.tmod_lt_of_pos v (b := n)
  refine pcalls_of Tryz.func7 rfl (by simp [Tryz.ntmps7]) ?_
  rw [Tryz.ntmps7, Tryz.results7]
  push_cast [iO, tN]
  by_cases h1 : n ≤ 1
  · repeat' (first | ((first | refine pG ?_ | refine pQ ?_ | refine pU ?_); push_cast [iO, tN]) | (refine pif (fun h => ?_) (fun h => ?_) <;> first | exact pN h | push_cast [iO, tN]))
    (refine retK_of [] ?_; push_cast [iO, tN])
    simp [fold, h1]
  · by_cases h0 : 0 ≤ v
    · have he := Int.tmod_eq_emod_of_nonneg h0 (b := n)
      have hb := Int.emod_nonneg v (b := n) (by omega)
      repeat' (first | ((first | refine pG ?_ | refine pQ ?_ | refine pU ?_); push_cast [iO, tN]) | (refine pif (fun h => ?_) (fun h => ?_) <;> first | exact pN h | push_cast [iO, tN]))
      (refine retK_of [] ?_; push_cast [iO, tN])
      simp only [fold, if_neg h1, he]
      rw [if_neg (by omega)]
    · by_cases h2 : v.tmod n < 0
      · repeat' (first | ((first | refine pG ?_ | refine pQ ?_ | refine pU ?_); push_cast [iO, tN]) | (refine pif (fun h => ?_) (fun h => ?_) <;> first | exact pN h | push_cast [iO, tN]))
        (refine retK_of [] ?_; push_cast [iO, tN])
        simp [fold, h1, h2]
      · repeat' (first | ((first | refine pG ?_ | refine pQ ?_ | refine pU ?_); push_cast [iO, tN]) | (refine pif (fun h => ?_) (fun h => ?_) <;> first | exact pN h | push_cast [iO, tN]))
        (refine retK_of [] ?_; push_cast [iO, tN])
        simp [fold, h1, h2]
def tape (L : List Int) (k : Nat) : Ob := .box 25 [.sl 1 (L.map fun x => [D.v (.int .i64 x)]), .v (.int .i64 k)]
attribute [push_cast] tape
theorem next_pure (L : List Int) (k : Nat) (n : Int) (hk : k < 1000000) (hn : n ≤ 9223372036854775807) (hL : ∀ x ∈ L, -9223372036854775808 ≤ x ∧ x ≤ 9223372036854775807) (hl : L.length ≤ 9223372036854775807) :
    PCalls Tryz.prog 17 [.c (.ptr 0 0), .c (.v (.int .i64 n))] [tape L k] fun r os => r = .c (.v (.int .i64 (fold (tapeAt L k) n))) ∧ os = [tape L (k + 1)] := by
  refine pcalls_of Tryz.func17 rfl (by simp [Tryz.ntmps17]) ?_
  rw [Tryz.ntmps17, Tryz.results17]
  push_cast [iO, tN]
  by_cases hlt : k < L.length
  · have hx := hL (L.getD k default) (by rw [getD_lt L hlt]; exact List.getElem_mem _)
    repeat' (first |  (refine plc [] (fold_pure (L.getD k default) n (by omega) (by omega) hn) ?_ ?_; push_cast [iO, tN]; rintro r os ⟨rfl, rfl⟩; push_cast [iO, tN])  | ((first | refine pG ?_ | refine pQ ?_ | refine pU ?_); push_cast [iO, tN]) | (refine pif (fun h => ?_) (fun h => ?_) <;> first | exact pN h | push_cast [iO, tN]))
    (refine retK_of [0] ?_; push_cast [iO, tN])
    simp [tapeAt, hlt]
  · repeat' (first |  (refine plc [] (fold_pure ((k : Int) * 7 % 11) n (by omega) (by omega) hn) ?_ ?_; push_cast [iO, tN]; rintro r os ⟨rfl, rfl⟩; push_cast [iO, tN])  | ((first | refine pG ?_ | refine pQ ?_ | refine pU ?_); push_cast [iO, tN]) | (refine pif (fun h => ?_) (fun h => ?_) <;> first | exact pN h | push_cast [iO, tN]))
    (refine retK_of [0] ?_; push_cast [iO, tN])
    simp [tapeAt, hlt]
def strD (s : ByteArray) : List D := [.v (.string s)]
attribute [push_cast] strD
def pick (L : List Int) (k : Nat) (l : List ByteArray) : ByteArray := l.getD (fold (tapeAt L k) l.length).toNat default
theorem fold_bds (v n : Int) (hn : 0 < n) : 0 ≤ fold v n ∧ fold v n < n := by
  unfold fold
  have := Int.lt_tmod_of_pos v (b := n) hn
  have := Int.tmod_lt_of_pos v (b := n) hn
  split
  · omega
  · split <;> omega
theorem one_pure (L : List Int) (k : Nat) (l : List ByteArray) (hk : k < 1000000) (h0 : 0 < l.length) (hn : l.length ≤ 1000000) (hL : ∀ x ∈ L, -9223372036854775808 ≤ x ∧ x ≤ 9223372036854775807) (hl : L.length ≤ 9223372036854775807) :
    PCalls Tryz.prog 42 [.c (.ptr 0 0), .c (.sl 1 (l.map strD))] [tape L k] fun r os => r = .c (.v (.string (pick L k l))) ∧ os = [tape L (k + 1)] := by
  refine pcalls_of Tryz.func42 rfl (by simp [Tryz.ntmps42]) ?_
  rw [Tryz.ntmps42, Tryz.results42]
  obtain ⟨hb, hb'⟩ := fold_bds (tapeAt L k) l.length (by omega)
  push_cast [iO, tN]
  repeat' (first |  (refine plc [0] (next_pure L k l.length hk (by omega) hL hl) ?_ ?_; push_cast [iO, tN]; rintro r os ⟨rfl, rfl⟩; push_cast [iO, tN])  | ((first | refine pG ?_ | refine pQ ?_ | refine pU ?_); push_cast [iO, tN]) | (refine pif (fun h => ?_) (fun h => ?_) <;> first | exact pN h | push_cast [iO, tN]))
  (refine retK_of [0] ?_; push_cast [iO, tN])
  simp [pick, List.getD]
theorem next_ex (L : List Int) (k : Nat) (n : Int) (hk : k < 1000000) (h0 : 0 < n) (hn : n ≤ 9223372036854775807) (hL : ∀ x ∈ L, -9223372036854775808 ≤ x ∧ x ≤ 9223372036854775807) (hl : L.length ≤ 9223372036854775807) :
    PCalls Tryz.prog 17 [.c (.ptr 0 0), .c (.v (.int .i64 n))] [tape L k] fun r os => ∃ v : Int, (0 ≤ v ∧ v < n) ∧ r = .c (.v (.int .i64 v)) ∧ os = [tape L (k + 1)] :=
  (next_pure L k n hk hn hL hl).mono fun r os h => ⟨_, fold_bds _ _ h0, h.1, h.2⟩
theorem one_ex (L : List Int) (k : Nat) (l : List ByteArray) (hk : k < 1000000) (h0 : 0 < l.length) (hn : l.length ≤ 1000000) (hL : ∀ x ∈ L, -9223372036854775808 ≤ x ∧ x ≤ 9223372036854775807) (hl : L.length ≤ 9223372036854775807) :
    PCalls Tryz.prog 42 [.c (.ptr 0 0), .c (.sl 1 (l.map strD))] [tape L k] fun r os => ∃ s, s ∈ l ∧ r = .c (.v (.string s)) ∧ os = [tape L (k + 1)] :=
  (one_pure L k l hk h0 hn hL hl).mono fun r os h => ⟨_, by
    have := fold_bds (tapeAt L k) l.length (by omega)
    unfold pick
    rw [getD_lt _ (by omega)]
    exact List.getElem_mem _, h.1, h.2⟩
end Go.Proofs.YtbonfcphabnlpabGreatDoor
namespace Go.Proofs.YtbonfcphabnlpabGreatDoor
open Go.RowKit
open IntWalk renaming iteOmega → iO, toNatUp → tN
set_option linter.unusedVariables false
set_option linter.unusedSimpArgs false
structure Atr where
  name : ByteArray
  value : ByteArray
  deriving DecidableEq, Inhabited
def Atr.d (x : Atr) : List D := [.v (.string x.name), .v (.string x.value)]
attribute [push_cast] Atr.d
structure Dev where
  index : Int
  parent : Int
  name : ByteArray
  original : ByteArray
  subsystem : ByteArray
  driver : ByteArray
  alias_ : ByteArray
  kind : Int
  number : Int
  attrs : List Atr
  deriving DecidableEq, Inhabited
def Dev.w (d : Dev) (a : E) : List E := [.v (.int .i64 d.index), .v (.int .i64 d.parent), .v (.string d.name), .v (.string d.original), .v (.string d.subsystem), .v (.string d.driver), .v (.string d.alias_), .v (.int .i64 d.kind), .v (.int .i64 d.number), a]
def Dev.e (d : Dev) : List E := d.w (.sl 2 (d.attrs.map Atr.d))
attribute [push_cast] Dev.e Dev.w
def Dev.d (d : Dev) : List D := [.v (.int .i64 d.index), .v (.int .i64 d.parent), .v (.string d.name), .v (.string d.original), .v (.string d.subsystem), .v (.string d.driver), .v (.string d.alias_), .v (.int .i64 d.kind), .v (.int .i64 d.number), .sl 2 (d.attrs.map Atr.d)]
attribute [push_cast] Dev.d
def trE (l : List Dev) : List E := [.sl 10 (l.map Dev.d)]
attribute [push_cast] trE
abbrev Fit (s : ByteArray) : Prop := s.size ≤ 9223372036854775807
def okA (l : List Atr) : Prop := ∀ a ∈ l, Fit a.name ∧ Fit a.value
structure Dev.ok (d : Dev) : Prop where
  name : Fit d.name
  original : Fit d.original
  subsystem : Fit d.subsystem
  driver : Fit d.driver
  alias_ : Fit d.alias_
  attrs : okA d.attrs
  len : d.attrs.length ≤ 9223372036854775807
  orig : d.original.size ≤ 1048576
theorem mem_fit {l : List ByteArray} {s : ByteArray} (h : l.all (fun s => decide (s.size ≤ 100)) = true) (hm : s ∈ l) : s.size ≤ 100 := by
  have := List.all_eq_true.1 h s hm
  simpa using this
end Go.Proofs.YtbonfcphabnlpabGreatDoor
namespace Go.Proofs.YtbonfcphabnlpabGreatDoor
open Go.RowKit
open IntWalk renaming iteOmega → iO, toNatUp → tN
set_option linter.unusedVariables false
set_option linter.unusedSimpArgs false
def plusL (cs : List Bool) (t : List UInt8) : List Bool := t.foldl (fun cs b => cs.set b.toNat true) cs
theorem plusL_len : ∀ (t : List UInt8) (cs : List Bool), (plusL cs t).length = cs.length
  | [], _ => rfl
  | b :: t, cs => by have := plusL_len t (cs.set b.toNat true); rw [List.length_set] at this; exact this
theorem plusL_get : ∀ (t : List UInt8) (cs : List Bool) (b : UInt8), cs.length = 256 → (plusL cs t).getD b.toNat false = (cs.getD b.toNat false || t.contains b)
  | [], cs, b, _ => by simp [plusL]
  | a :: t, cs, b, h => by
    have hb := b.toNat_lt
    have := plusL_get t (cs.set a.toNat true) b (by rw [List.length_set]; exact h)
    rw [show plusL cs (a :: t) = plusL (cs.set a.toNat true) t from rfl, this, List.contains_cons]
    by_cases e : b = a
    · subst e
      have : (cs.set b.toNat true).getD b.toNat false = true := by rw [List.getD_eq_getElem?_getD, List.getElem?_set_self (by omega)]; rfl
      rw [this]; simp
    · have hne : a.toNat ≠ b.toNat := fun h => e (UInt8.toNat_inj.1 h.symm)
      have : (cs.set a.toNat true).getD b.toNat false = cs.getD b.toNat false := by rw [List.getD_eq_getElem?_getD, List.getElem?_set_ne hne, ← List.getD_eq_getElem?_getD]
      rw [this, show (b == a) = false by simpa using e, Bool.false_or]
theorem plusL_snoc (cs : List Bool) (t : List UInt8) (b : UInt8) : plusL cs (t ++ [b]) = (plusL cs t).set b.toNat true := by simp [plusL]
def upperT : List UInt8 := [65, 66, 67, 68, 69, 70, 71, 72, 73, 74, 75, 76, 77, 78, 79, 80, 81, 82, 83, 84, 85, 86, 87, 88, 89, 90]
def lowerT : List UInt8 := [97, 98, 99, 100, 101, 102, 103, 104, 105, 106, 107, 108, 109, 110, 111, 112, 113, 114, 115, 116, 117, 118, 119, 120, 121, 122]
def digitT : List UInt8 := [48, 49, 50, 51, 52, 53, 54, 55, 56, 57]
def moreT : List UInt8 := [95, 46, 58, 43, 45]
def noneL : List Bool := List.replicate 256 false
def commonL : List Bool := plusL (plusL (plusL (plusL noneL upperT) lowerT) digitT) moreT
theorem noneL_len : noneL.length = 256 := List.length_replicate
theorem commonL_len : commonL.length = 256 := by rw [commonL, plusL_len, plusL_len, plusL_len, plusL_len, noneL_len]
def nameT : List UInt8 := upperT ++ lowerT ++ digitT ++ moreT ++ [33]
def nameB (b : UInt8) : Bool := nameT.contains b
theorem nameL_get (b : UInt8) : (plusL commonL [33]).getD b.toNat false = nameB b := by
  have h0 : noneL.getD b.toNat false = false := by unfold noneL; rw [List.getD_eq_getElem?_getD, List.getElem?_replicate]; split <;> rfl
  rw [plusL_get _ _ _ commonL_len, commonL, plusL_get _ _ _ (by rw [plusL_len, plusL_len, plusL_len, noneL_len]), plusL_get _ _ _ (by rw [plusL_len, plusL_len, noneL_len]), plusL_get _ _ _ (by rw [plusL_len, noneL_len]), plusL_get _ _ _ noneL_len, h0]
  rw [Bool.eq_iff_iff]
  simp only [nameB, nameT, Bool.or_eq_true, List.contains_iff_mem, List.mem_append, Bool.false_eq_true, false_or]
def hasL (cs : List Bool) (s : ByteArray) : Bool := s.data.toList.all fun b => cs.getD b.toNat false
def dotsS (s : ByteArray) : Bool := decide (s = ⟨#[46]⟩) || decide (s = ⟨#[46, 46]⟩)
def validS (s : ByteArray) : Bool := (((decide (s ≠ ⟨#[]⟩) && decide (s.size ≤ 32)) && !dotsS s) && s.data.toList.all nameB)
theorem has_name (s : ByteArray) : hasL (plusL commonL [33]) s = s.data.toList.all nameB := by unfold hasL; simp only [nameL_get]
def spl : List UInt8 → List (List UInt8)
  | [] => [[]]
  | b :: l => if b = 47 then [] :: spl l else match spl l with
    | [] => [[b]]
    | h :: t => (b :: h) :: t
theorem spl_ne (l : List UInt8) : spl l ≠ [] := by
  cases l with
  | nil => simp [spl]
  | cons b l => rw [spl]; split; simp; split <;> simp
theorem spl_none : ∀ {l : List UInt8}, (47 : UInt8) ∉ l → spl l = [l]
  | [], _ => rfl
  | b :: l, h => by
    simp only [List.mem_cons, not_or] at h
    rw [spl, if_neg (fun e => h.1 e.symm), spl_none h.2]
theorem spl_app : ∀ {a : List UInt8} (r : List UInt8), (47 : UInt8) ∉ a → spl (a ++ 47 :: r) = a :: spl r
  | [], r, _ => by rw [List.nil_append, spl, if_pos rfl]
  | b :: a, r, h => by
    simp only [List.mem_cons, not_or] at h
    rw [List.cons_append, spl, if_neg (fun e => h.1 e.symm), spl_app r h.2]
theorem splitK_spl : ∀ (k : Nat) (s : List UInt8), s.count 47 = k → Lib.splitK [47] 0 k s = spl s
  | 0, s, h => by rw [spl_none (List.count_eq_zero.1 h)]; rfl
  | k + 1, s, h => by
    have hmem : (47 : UInt8) ∈ s := List.count_pos_iff.1 (by omega)
    obtain ⟨a, r, rfl, ha⟩ : ∃ a r, s = a ++ 47 :: r ∧ (47 : UInt8) ∉ a := by
      clear h
      induction s with
      | nil => simp at hmem
      | cons b s ih =>
        by_cases e : b = 47
        · subst e; exact ⟨[], s, rfl, by simp⟩
        · obtain ⟨a, r, rfl, ha⟩ := ih (by simpa [Ne.symm e] using hmem)
          exact ⟨b :: a, r, rfl, by simp [ha, Ne.symm e]⟩
    have hi : Lib.index (a ++ 47 :: r) [47] = (a.length : Int) := by
      rw [Lib.index_one]
      clear h
      induction a with
      | nil => simp [Lib.indexByte]
      | cons b a ih =>
        simp only [List.mem_cons, not_or] at ha
        have := ih ha.2 (by simp)
        rw [List.cons_append, Lib.indexByte, if_neg (by simpa using Ne.symm ha.1), this, if_neg (by simp)]
        simp
    have hc : r.count 47 = k := by
      rw [List.count_append, List.count_cons_self, List.count_eq_zero.2 ha] at h
      omega
    rw [Lib.splitK, hi, if_neg (by simp), spl_app r ha]
    simp only [Int.toNat_natCast, Nat.add_zero, List.length_cons, List.length_nil, Nat.zero_add]
    rw [List.take_left, List.drop_append, List.drop_eq_nil_of_le (by omega), List.nil_append, show a.length + 1 - a.length = 1 by omega]
    simp only [List.drop_succ_cons, List.drop_zero]
    rw [splitK_spl k r hc]
def unT (l : List UInt8) : ByteArray := ⟨l.toArray⟩
def parts (s : ByteArray) : List ByteArray := (spl s.data.toList).map unT
theorem parts_ne (s : ByteArray) : 0 < (parts s).length := by
  unfold parts; rw [List.length_map]; exact List.length_pos_iff.2 (spl_ne _)
theorem splitB_parts (s : ByteArray) : Lib.splitB ⟨#[47]⟩ 0 (Lib.countB s ⟨#[47]⟩) s = parts s := by
  have h := Lib.splitB_data ⟨#[47]⟩ 0 (Lib.countB s ⟨#[47]⟩) s
  have hc : Lib.countB s ⟨#[47]⟩ = s.data.toList.count 47 := Lib.count_one 47 s.data.toList
  have h2 := splitK_spl _ s.data.toList hc.symm
  have e : (⟨#[47]⟩ : ByteArray).data.toList = [47] := rfl
  rw [e, h2] at h
  unfold parts
  rw [← h, List.map_map]
  conv => lhs; rw [← List.map_id (Lib.splitB _ _ _ _)]
  exact List.map_congr_left fun x _ => rfl
theorem parts_size : ∀ {s : ByteArray}, (parts s).length ≤ s.size + 1 := by
  intro s
  unfold parts
  rw [List.length_map]
  have : ∀ l : List UInt8, (spl l).length ≤ l.length + 1 := by
    intro l
    induction l with
    | nil => simp [spl]
    | cons b l ih =>
      rw [spl]
      split
      · simp only [List.length_cons]; omega
      · split
        · simp
        · rename_i h t e; rw [e] at ih; simp only [List.length_cons] at ih ⊢; omega
  have h := this s.data.toList
  rwa [show s.data.toList.length = s.size from rfl] at h
def cmpS (a b : ByteArray) : Int := if bless a b = true then -1 else if bless b a = true then 1 else 0
def cmpL : List ByteArray → List ByteArray → Int
  | [], [] => 0
  | [], _ :: _ => -1
  | _ :: _, [] => 1
  | a :: l, b :: m => if a = b then cmpL l m else cmpS a b
theorem cmpS_eq {a b : ByteArray} : cmpS a b = 0 ↔ a = b := by
  unfold cmpS
  constructor
  · intro h
    split at h
    · omega
    · split at h
      · omega
      · rename_i h1 h2; exact bless_total (by simpa using h1) (by simpa using h2)
  · rintro rfl; rw [if_neg (fun h => bless_ne h rfl), if_neg (fun h => bless_ne h rfl)]
theorem cmpL_eq : ∀ {l m : List ByteArray}, cmpL l m = 0 ↔ l = m
  | [], [] => by simp [cmpL]
  | [], _ :: _ => by simp [cmpL]
  | _ :: _, [] => by simp [cmpL]
  | a :: l, b :: m => by
    rw [cmpL]
    split
    · rename_i e; subst e; rw [cmpL_eq]; simp
    · rename_i e; rw [cmpS_eq]; simp [e]
end Go.Proofs.YtbonfcphabnlpabGreatDoor
namespace Go.Proofs.YtbonfcphabnlpabGreatDoor
open Go.RowKit
open IntWalk renaming iteOmega → iO, toNatUp → tN
set_option linter.unusedVariables false
set_option linter.unusedSimpArgs false
def nodeS (s : ByteArray) : ByteArray := ⟨(Lib.replaceAll s.data.toList [33] [47]).toArray⟩
def textB (b : UInt8) : Bool := decide (32 ≤ b.toNat) && decide (b.toNat ≤ 126)
def textS (s : ByteArray) : Bool := s.data.toList.all textB && decide (s.size ≤ 256)
theorem getD_byte {s : ByteArray} {k : Nat} (h : k < s.size) : ∃ h' : k < s.data.toList.length, s.data.toList.getD k 0 = s.data.toList[k] := ⟨h, by rw [List.getD_eq_getElem?_getD, List.getElem?_eq_getElem (show k < s.data.toList.length from h)]; rfl⟩
theorem all_next {p : UInt8 → Bool} {s : ByteArray} {k : Nat} (h : k < s.size) (ha : (s.data.toList.take k).all p = true) (hp : p (s.data.toList.getD k 0) = true) : (s.data.toList.take (k + 1)).all p = true := by
  obtain ⟨h', e⟩ := getD_byte h
  rw [List.take_succ_eq_append_getElem h', List.all_append, ha, ← e, List.all_cons, hp]; rfl
theorem all_not {p : UInt8 → Bool} {s : ByteArray} {k : Nat} (h : k < s.size) (hp : p (s.data.toList.getD k 0) = false) : s.data.toList.all p = false := by
  obtain ⟨h', e⟩ := getD_byte h
  exact List.all_eq_false.2 ⟨s.data.toList.getD k 0, by rw [e]; exact List.getElem_mem _, by rw [hp]; decide⟩
def ifaceS (s : ByteArray) : Bool := (validS s && decide (s.size ≤ 15)) && !(s.data.toList.contains 58 || s.data.toList.contains 33)
theorem valid_size {s : ByteArray} (h : validS s = true) : s.size ≤ 32 := by
  unfold validS at h
  simp only [Bool.and_eq_true, decide_eq_true_eq] at h
  exact h.1.1.2
def linkL : List Bool := plusL commonL [64, 35, 61, 37]
def linkP (s : ByteArray) : Bool := (decide (s ≠ ⟨#[]⟩) && !dotsS s) && hasL linkL s
def linkS (s : ByteArray) : Bool := decide (s.size ≤ 256) && (parts s).all linkP
theorem part_size {s x : ByteArray} (h : x ∈ parts s) : x.size ≤ s.size := by
  have spl_mem : ∀ {l x : List UInt8}, x ∈ spl l → x.length ≤ l.length := by
    intro l
    induction l with
    | nil => intro x h; simp [spl] at h; subst h; simp
    | cons b l ih =>
      intro x h
      rw [spl] at h
      split at h
      · rcases List.mem_cons.1 h with rfl | h
        · simp
        · have := ih h; simp only [List.length_cons]; omega
      · split at h
        · rename_i e; simp at h; subst h; simp
        · rename_i y t e
          have hy : y ∈ spl l := by rw [e]; simp
          rcases List.mem_cons.1 h with rfl | h
          · have := ih hy; simp only [List.length_cons]; omega
          · have hx : x ∈ spl l := by rw [e]; simp [h]
            have := ih hx; simp only [List.length_cons]; omega
  unfold parts at h
  obtain ⟨y, hy, rfl⟩ := List.mem_map.1 h
  exact spl_mem hy
end Go.Proofs.YtbonfcphabnlpabGreatDoor
namespace Go.Proofs.YtbonfcphabnlpabGreatDoor
open Go.RowKit
open IntWalk renaming iteOmega → iO, toNatUp → tN
set_option linter.unusedVariables false
set_option linter.unusedSimpArgs false
def hasN (d : Dev) : Bool := decide (d.kind = 2) || decide (d.kind = 3)
def numsM (d : Dev) : Bool := ((decide (1 ≤ d.index) && decide (d.index ≤ 1073741824)) && (decide (0 ≤ d.parent) && decide (d.parent ≤ 1073741824))) && !decide (d.parent = d.index)
def namedM (d : Dev) : Bool := (((validS d.name && validS d.original) && validS d.subsystem) && (decide (d.driver = ⟨#[]⟩) || validS d.driver)) && textS d.alias_
def kindM (d : Dev) : Bool := if d.kind = 4 then ifaceS d.name && ifaceS d.original else (decide (1 ≤ d.kind) && decide (d.kind ≤ 3)) && decide (d.name = d.original)
def numberM (d : Dev) : Bool := if hasN d then decide (1 ≤ d.number) && decide (d.number ≤ 1073741824) else decide (d.number = 0)
def attrB (a : Atr) : Bool := (validS a.name && decide (a.value ≠ ⟨#[]⟩)) && textS a.value
def sortedM (l : List Atr) : Bool := (List.range (l.length - 1)).all fun j => bless (l.getD j default).name (l.getD (j + 1) default).name
def attrsB (l : List Atr) : Bool := sortedM l && l.all attrB
def checkM (d : Dev) : Int := if !numsM d then 32 else if !namedM d then 30 else if !kindM d then 31 else if !numberM d then 32 else if 24 < d.attrs.length then 34 else if !attrsB d.attrs then 33 else if hasN d && !linkS (nodeS d.original) then 30 else 0
def nodeM (d : Dev) : ByteArray := if hasN d then nodeS d.original else ⟨#[]⟩
theorem sorted_next {l : List Atr} {k : Nat} (h : ∀ j, j < k → bless (l.getD j default).name (l.getD (j + 1) default).name = true) (hn : bless (l.getD k default).name (l.getD (k + 1) default).name = true) : ∀ j, j < k + 1 → bless (l.getD j default).name (l.getD (j + 1) default).name = true := fun j hj => by
  by_cases e : j = k
  · rw [e]; exact hn
  · exact h j (by omega)
theorem sorted_t {l : List Atr} {k : Nat} (hk : l.length ≤ k + 1) (h : ∀ j, j < k → bless (l.getD j default).name (l.getD (j + 1) default).name = true) : sortedM l = true := List.all_eq_true.2 fun j hj => h j (by have := List.mem_range.1 hj; omega)
theorem sorted_f {l : List Atr} {k : Nat} (hk : k + 1 < l.length) (h : bless (l.getD k default).name (l.getD (k + 1) default).name = false) : sortedM l = false := List.all_eq_false.2 ⟨k, List.mem_range.2 (by omega), by rw [h]; decide⟩
theorem nodeS_fit {s : ByteArray} : (nodeS s).size = s.size := by
  have key : ∀ (k : Nat) (l : List UInt8), (Lib.replaceK [33] [47] k l).length = l.length := by
    intro k
    induction k with
    | zero => intro l; rfl
    | succ k ih =>
      intro l
      rw [Lib.replaceK]
      split
      · rfl
      · rename_i h
        have hg := Lib.index_ge l [33]
        have hl : (Lib.index l [33]).toNat < l.length := by
          have h' : Lib.index l [33] ≠ -1 := by simpa using h
          have lt : ∀ l : List UInt8, Lib.index l [33] < l.length ∨ Lib.index l [33] = -1 := by
            intro l
            induction l with
            | nil => exact .inr rfl
            | cons b l ih =>
              rw [Lib.index]
              split
              · exact .inl (by simp only [List.length_cons]; omega)
              · split
                · exact .inr rfl
                · rename_i h2
                  rcases ih with ih | ih
                  · exact .inl (by simp only [List.length_cons]; omega)
                  · rw [ih] at h2; simp at h2
          rcases lt l with h2 | h2
          · omega
          · exact absurd h2 h'
        simp only [List.length_append, List.length_take, ih, List.length_drop, List.length_cons, List.length_nil]
        omega
  show (Lib.replaceAll s.data.toList [33] [47]).length = _
  unfold Lib.replaceAll Lib.replace
  rw [if_neg (by decide), key]
  rfl
end Go.Proofs.YtbonfcphabnlpabGreatDoor
