/- What the program computes, and the plain laws of it, part 25. -/
import Derived.Test.YthconflkbeipoaaGreatDoorRows
import Derived.Lib.SplitLaws
import Derived.Lib.IndexBytes
import Derived.Test.YthconflkbeipoaaGreatDoorQ18
import Derived.Test.YthconflkbeipoaaGreatDoorQ24
namespace Go.Proofs.YthconflkbeipoaaGreatDoor
attribute [local irreducible] PL QL PWPr PCalls Weak RetK Kontr
open Go.RowKit
open IntWalk renaming iteOmega → iO, toNatUp → tN
set_option linter.unusedVariables false
set_option linter.unusedSimpArgs false
set_option maxRecDepth 20000
theorem fold_pure (v n : Int) (hv : -9223372036854775808 ≤ v) (hv' : v ≤ 9223372036854775807) (hn : n ≤ 9223372036854775807) :
    PCalls Tryz.prog 36 [.c (.v (.int .i64 v)), .c (.v (.int .i64 n))] [] fun r os => r = .c (.v (.int .i64 (fold v n))) ∧ os = [] := by
  have hlo := Int.lt_tmod_of_pos v (b := n)
  have hhi := Int.tmod_lt_of_pos v (b := n)
  refine pcalls_of Tryz.func36 rfl (by simp [Tryz.ntmps36]) ?_
  rw [Tryz.ntmps36, Tryz.results36]
  push_cast [iO, tN]
  by_cases h1 : n ≤ 1
  · repeat' (first | ((first | refine pG ?_ | refine pQ ?_ | refine pU ?_); push_cast [iO, tN]) | (refine pif (fun h => ?_) (fun h => ?_) <;> first | exact pN h | push_cast [iO, tN]))
    (refine retK_of [] ?_; push_cast [iO, tN])
    simp [fold, h1]
  · by_cases h0 : 0 ≤ v
    · have he := Int.tmod_eq_emod_of_nonneg h0 (b := n)
      have hb := Int.emod_nonneg v (b := n) (by omega)
      repeat' (first | ((first | refine pG ?_ | refine pQ ?_ | refine pU ?_); push_cast [iO, tN]) | (refine pif (fun h => ?_) (fun h => ?_) <;> first | exact pN h | push_cast [iO, tN]))
      (refine retK_of [] ?_; push_cast [iO, tN])
      simp only [fold, if_neg h1, he]
      rw [if_neg (by omega)]
    · by_cases h2 : v.tmod n < 0
      · repeat' (first | ((first | refine pG ?_ | refine pQ ?_ | refine pU ?_); push_cast [iO, tN]) | (refine pif (fun h => ?_) (fun h => ?_) <;> first | exact pN h | push_cast [iO, tN]))
        (refine retK_of [] ?_; push_cast [iO, tN])
        simp [fold, h1, h2]
      · repeat' (first | ((first | refine pG ?_ | refine pQ ?_ | refine pU ?_); push_cast [iO, tN]) | (refine pif (fun h => ?_) (fun h => ?_) <;> first | exact pN h | push_cast [iO, tN]))
        (refine retK_of [] ?_; push_cast [iO, tN])
        simp [fold, h1, h2]
def eInts (L : List Int) : E := .sl 1 (L.map fun x => [D.v (.int .i64 x)])
def tape (L : List Int) (k : Nat) : Ob := .box 25 [.sl 1 (L.map fun x => [D.v (.int .i64 x)]), .v (.int .i64 k)]
attribute [push_cast] tape
theorem next_pure (L : List Int) (k : Nat) (n : Int) (hk : k < 1000000) (hn : n ≤ 9223372036854775807) (hL : ∀ x ∈ L, -9223372036854775808 ≤ x ∧ x ≤ 9223372036854775807) (hl : L.length ≤ 9223372036854775807) :
    PCalls Tryz.prog 13 [.c (.ptr 0 0), .c (.v (.int .i64 n))] [tape L k] fun r os => r = .c (.v (.int .i64 (fold (tapeAt L k) n))) ∧ os = [tape L (k + 1)] := by
  refine pcalls_of Tryz.func13 rfl (by simp [Tryz.ntmps13]) ?_
  rw [Tryz.ntmps13, Tryz.results13]
  push_cast [iO, tN]
  by_cases hlt : k < L.length
  · have hx := hL (L.getD k default) (by rw [getD_lt L hlt]; exact List.getElem_mem _)
    repeat' (first |  (refine plc [] (fold_pure (L.getD k default) n (by omega) (by omega) hn) ?_ ?_; push_cast [iO, tN]; rintro r os ⟨rfl, rfl⟩; push_cast [iO, tN])  | ((first | refine pG ?_ | refine pQ ?_ | refine pU ?_); push_cast [iO, tN]) | (refine pif (fun h => ?_) (fun h => ?_) <;> first | exact pN h | push_cast [iO, tN]))
    (refine retK_of [0] ?_; push_cast [iO, tN])
    simp [tapeAt, hlt]
  · repeat' (first |  (refine plc [] (fold_pure ((k : Int) * 7 % 11) n (by omega) (by omega) hn) ?_ ?_; push_cast [iO, tN]; rintro r os ⟨rfl, rfl⟩; push_cast [iO, tN])  | ((first | refine pG ?_ | refine pQ ?_ | refine pU ?_); push_cast [iO, tN]) | (refine pif (fun h => ?_) (fun h => ?_) <;> first | exact pN h | push_cast [iO, tN]))
    (refine retK_of [0] ?_; push_cast [iO, tN])
    simp [tapeAt, hlt]
def strD (s : ByteArray) : List D := [.v (.string s)]
attribute [push_cast] strD
def pick (L : List Int) (k : Nat) (l : List ByteArray) : ByteArray := l.getD (fold (tapeAt L k) l.length).toNat default
theorem fold_bds (v n : Int) (hn : 0 < n) : 0 ≤ fold v n ∧ fold v n < n := by
  unfold fold
  have := Int.lt_tmod_of_pos v (b := n) hn
  have := Int.tmod_lt_of_pos v (b := n) hn
  split
  · omega
  · split <;> omega
theorem one_pure (L : List Int) (k : Nat) (l : List ByteArray) (hk : k < 1000000) (h0 : 0 < l.length) (hn : l.length ≤ 1000000) (hL : ∀ x ∈ L, -9223372036854775808 ≤ x ∧ x ≤ 9223372036854775807) (hl : L.length ≤ 9223372036854775807) :
    PCalls Tryz.prog 14 [.c (.ptr 0 0), .c (.sl 1 (l.map strD))] [tape L k] fun r os => r = .c (.v (.string (pick L k l))) ∧ os = [tape L (k + 1)] := by
  refine pcalls_of Tryz.func14 rfl (by simp [Tryz.ntmps14]) ?_
  rw [Tryz.ntmps14, Tryz.results14]
  obtain ⟨hb, hb'⟩ := fold_bds (tapeAt L k) l.length (by omega)
  push_cast [iO, tN]
  repeat' (first |  (refine plc [0] (next_pure L k l.length hk (by omega) hL hl) ?_ ?_; push_cast [iO, tN]; rintro r os ⟨rfl, rfl⟩; push_cast [iO, tN])  | ((first | refine pG ?_ | refine pQ ?_ | refine pU ?_); push_cast [iO, tN]) | (refine pif (fun h => ?_) (fun h => ?_) <;> first | exact pN h | push_cast [iO, tN]))
  (refine retK_of [0] ?_; push_cast [iO, tN])
  simp [pick, List.getD]
theorem next_ex (L : List Int) (k : Nat) (n : Int) (hk : k < 1000000) (h0 : 0 < n) (hn : n ≤ 9223372036854775807) (hL : ∀ x ∈ L, -9223372036854775808 ≤ x ∧ x ≤ 9223372036854775807) (hl : L.length ≤ 9223372036854775807) :
    PCalls Tryz.prog 13 [.c (.ptr 0 0), .c (.v (.int .i64 n))] [tape L k] fun r os => ∃ v : Int, (0 ≤ v ∧ v < n) ∧ r = .c (.v (.int .i64 v)) ∧ os = [tape L (k + 1)] :=
  (next_pure L k n hk hn hL hl).mono fun r os h => ⟨_, fold_bds _ _ h0, h.1, h.2⟩
theorem one_ex (L : List Int) (k : Nat) (l : List ByteArray) (hk : k < 1000000) (h0 : 0 < l.length) (hn : l.length ≤ 1000000) (hL : ∀ x ∈ L, -9223372036854775808 ≤ x ∧ x ≤ 9223372036854775807) (hl : L.length ≤ 9223372036854775807) :
    PCalls Tryz.prog 14 [.c (.ptr 0 0), .c (.sl 1 (l.map strD))] [tape L k] fun r os => ∃ s, s ∈ l ∧ r = .c (.v (.string s)) ∧ os = [tape L (k + 1)] :=
  (one_pure L k l hk h0 hn hL hl).mono fun r os h => ⟨_, by
    have := fold_bds (tapeAt L k) l.length (by omega)
    unfold pick
    rw [getD_lt _ (by omega)]
    exact List.getElem_mem _, h.1, h.2⟩
end Go.Proofs.YthconflkbeipoaaGreatDoor
namespace Go.Proofs.YthconflkbeipoaaGreatDoor
open Go.RowKit
open IntWalk renaming iteOmega → iO, toNatUp → tN
set_option linter.unusedVariables false
set_option linter.unusedSimpArgs false
def plusL (cs : List Bool) (t : List UInt8) : List Bool := t.foldl (fun cs b => cs.set b.toNat true) cs
theorem plusL_len : ∀ (t : List UInt8) (cs : List Bool), (plusL cs t).length = cs.length
  | [], _ => rfl
  | b :: t, cs => by have := plusL_len t (cs.set b.toNat true); rw [List.length_set] at this; exact this
theorem plusL_get : ∀ (t : List UInt8) (cs : List Bool) (b : UInt8), cs.length = 256 → (plusL cs t).getD b.toNat false = (cs.getD b.toNat false || t.contains b)
  | [], cs, b, _ => by simp [plusL]
  | a :: t, cs, b, h => by
    have hb := b.toNat_lt
    have := plusL_get t (cs.set a.toNat true) b (by rw [List.length_set]; exact h)
    rw [show plusL cs (a :: t) = plusL (cs.set a.toNat true) t from rfl, this, List.contains_cons]
    by_cases e : b = a
    · subst e
      have : (cs.set b.toNat true).getD b.toNat false = true := by rw [List.getD_eq_getElem?_getD, List.getElem?_set_self (by omega)]; rfl
      rw [this]; simp
    · have hne : a.toNat ≠ b.toNat := fun h => e (UInt8.toNat_inj.1 h.symm)
      have : (cs.set a.toNat true).getD b.toNat false = cs.getD b.toNat false := by rw [List.getD_eq_getElem?_getD, List.getElem?_set_ne hne, ← List.getD_eq_getElem?_getD]
      rw [this, show (b == a) = false by simpa using e, Bool.false_or]
theorem plusL_snoc (cs : List Bool) (t : List UInt8) (b : UInt8) : plusL cs (t ++ [b]) = (plusL cs t).set b.toNat true := by simp [plusL]
def upperT : List UInt8 := [65, 66, 67, 68, 69, 70, 71, 72, 73, 74, 75, 76, 77, 78, 79, 80, 81, 82, 83, 84, 85, 86, 87, 88, 89, 90]
def lowerT : List UInt8 := [97, 98, 99, 100, 101, 102, 103, 104, 105, 106, 107, 108, 109, 110, 111, 112, 113, 114, 115, 116, 117, 118, 119, 120, 121, 122]
def digitT : List UInt8 := [48, 49, 50, 51, 52, 53, 54, 55, 56, 57]
def moreT : List UInt8 := [95, 46, 58, 43, 45]
def noneL : List Bool := List.replicate 256 false
def commonL : List Bool := plusL (plusL (plusL (plusL noneL upperT) lowerT) digitT) moreT
theorem noneL_len : noneL.length = 256 := List.length_replicate
theorem commonL_len : commonL.length = 256 := by rw [commonL, plusL_len, plusL_len, plusL_len, plusL_len, noneL_len]
def nameT : List UInt8 := upperT ++ lowerT ++ digitT ++ moreT ++ [33]
def nameB (b : UInt8) : Bool := nameT.contains b
theorem nameL_get (b : UInt8) : (plusL commonL [33]).getD b.toNat false = nameB b := by
  have h0 : noneL.getD b.toNat false = false := by unfold noneL; rw [List.getD_eq_getElem?_getD, List.getElem?_replicate]; split <;> rfl
  rw [plusL_get _ _ _ commonL_len, commonL, plusL_get _ _ _ (by rw [plusL_len, plusL_len, plusL_len, noneL_len]), plusL_get _ _ _ (by rw [plusL_len, plusL_len, noneL_len]), plusL_get _ _ _ (by rw [plusL_len, noneL_len]), plusL_get _ _ _ noneL_len, h0]
  rw [Bool.eq_iff_iff]
  simp only [nameB, nameT, Bool.or_eq_true, List.contains_iff_mem, List.mem_append, Bool.false_eq_true, false_or]
def hasL (cs : List Bool) (s : ByteArray) : Bool := s.data.toList.all fun b => cs.getD b.toNat false
def dotsS (s : ByteArray) : Bool := decide (s = ⟨#[46]⟩) || decide (s = ⟨#[46, 46]⟩)
def validS (s : ByteArray) : Bool := (((decide (s ≠ ⟨#[]⟩) && decide (s.size ≤ 32)) && !dotsS s) && s.data.toList.all nameB)
theorem has_name (s : ByteArray) : hasL (plusL commonL [33]) s = s.data.toList.all nameB := by unfold hasL; simp only [nameL_get]
def spl : List UInt8 → List (List UInt8)
  | [] => [[]]
  | b :: l => if b = 47 then [] :: spl l else match spl l with
    | [] => [[b]]
    | h :: t => (b :: h) :: t
theorem spl_ne (l : List UInt8) : spl l ≠ [] := by
  cases l with
  | nil => simp [spl]
  | cons b l => rw [spl]; split; simp; split <;> simp
theorem spl_none : ∀ {l : List UInt8}, (47 : UInt8) ∉ l → spl l = [l]
  | [], _ => rfl
  | b :: l, h => by
    simp only [List.mem_cons, not_or] at h
    rw [spl, if_neg (fun e => h.1 e.symm), spl_none h.2]
theorem spl_app : ∀ {a : List UInt8} (r : List UInt8), (47 : UInt8) ∉ a → spl (a ++ 47 :: r) = a :: spl r
  | [], r, _ => by rw [List.nil_append, spl, if_pos rfl]
  | b :: a, r, h => by
    simp only [List.mem_cons, not_or] at h
    rw [List.cons_append, spl, if_neg (fun e => h.1 e.symm), spl_app r h.2]
theorem splitK_spl : ∀ (k : Nat) (s : List UInt8), s.count 47 = k → Lib.splitK [47] 0 k s = spl s
  | 0, s, h => by rw [spl_none (List.count_eq_zero.1 h)]; rfl
  | k + 1, s, h => by
    have hmem : (47 : UInt8) ∈ s := List.count_pos_iff.1 (by omega)
    obtain ⟨a, r, rfl, ha⟩ : ∃ a r, s = a ++ 47 :: r ∧ (47 : UInt8) ∉ a := by
      clear h
      induction s with
      | nil => simp at hmem
      | cons b s ih =>
        by_cases e : b = 47
        · subst e; exact ⟨[], s, rfl, by simp⟩
        · obtain ⟨a, r, rfl, ha⟩ := ih (by simpa [Ne.symm e] using hmem)
          exact ⟨b :: a, r, rfl, by simp [ha, Ne.symm e]⟩
    have hi : Lib.index (a ++ 47 :: r) [47] = (a.length : Int) := by
      rw [Lib.index_one]
      clear h
      induction a with
      | nil => simp [Lib.indexByte]
      | cons b a ih =>
        simp only [List.mem_cons, not_or] at ha
        have := ih ha.2 (by simp)
        rw [List.cons_append, Lib.indexByte, if_neg (by simpa using Ne.symm ha.1), this, if_neg (by simp)]
        simp
    have hc : r.count 47 = k := by
      rw [List.count_append, List.count_cons_self, List.count_eq_zero.2 ha] at h
      omega
    rw [Lib.splitK, hi, if_neg (by simp), spl_app r ha]
    simp only [Int.toNat_natCast, Nat.add_zero, List.length_cons, List.length_nil, Nat.zero_add]
    rw [List.take_left, List.drop_append, List.drop_eq_nil_of_le (by omega), List.nil_append, show a.length + 1 - a.length = 1 by omega]
    simp only [List.drop_succ_cons, List.drop_zero]
    rw [splitK_spl k r hc]
def unT (l : List UInt8) : ByteArray := ⟨l.toArray⟩
theorem unT_data (s : ByteArray) : unT s.data.toList = s := rfl
def parts (s : ByteArray) : List ByteArray := (spl s.data.toList).map unT
theorem parts_ne (s : ByteArray) : 0 < (parts s).length := by
  unfold parts; rw [List.length_map]; exact List.length_pos_iff.2 (spl_ne _)
theorem splitB_parts (s : ByteArray) : Lib.splitB ⟨#[47]⟩ 0 (Lib.countB s ⟨#[47]⟩) s = parts s := by
  have h := Lib.splitB_data ⟨#[47]⟩ 0 (Lib.countB s ⟨#[47]⟩) s
  have hc : Lib.countB s ⟨#[47]⟩ = s.data.toList.count 47 := Lib.count_one 47 s.data.toList
  have h2 := splitK_spl _ s.data.toList hc.symm
  have e : (⟨#[47]⟩ : ByteArray).data.toList = [47] := rfl
  rw [e, h2] at h
  unfold parts
  rw [← h, List.map_map]
  conv => lhs; rw [← List.map_id (Lib.splitB _ _ _ _)]
  exact List.map_congr_left fun x _ => rfl
def slashS (s : ByteArray) : Bool := Lib.hasPrefix s.data.toList [47]
def restS (s : ByteArray) : ByteArray := if slashS s = true then s.extract 1 s.size else s
def splitP (s : ByteArray) : Option (List ByteArray) := if slashS s = true ∧ (parts (restS s)).all validS = true then some (parts (restS s)) else none
theorem parts_size : ∀ {s : ByteArray}, (parts s).length ≤ s.size + 1 := by
  intro s
  unfold parts
  rw [List.length_map]
  have : ∀ l : List UInt8, (spl l).length ≤ l.length + 1 := by
    intro l
    induction l with
    | nil => simp [spl]
    | cons b l ih =>
      rw [spl]
      split
      · simp only [List.length_cons]; omega
      · split
        · simp
        · rename_i h t e; rw [e] at ih; simp only [List.length_cons] at ih ⊢; omega
  have h := this s.data.toList
  rwa [show s.data.toList.length = s.size from rfl] at h
def cmpS (a b : ByteArray) : Int := if bless a b = true then -1 else if bless b a = true then 1 else 0
def cmpL : List ByteArray → List ByteArray → Int
  | [], [] => 0
  | [], _ :: _ => -1
  | _ :: _, [] => 1
  | a :: l, b :: m => if a = b then cmpL l m else cmpS a b
theorem cmpS_eq {a b : ByteArray} : cmpS a b = 0 ↔ a = b := by
  unfold cmpS
  constructor
  · intro h
    split at h
    · omega
    · split at h
      · omega
      · rename_i h1 h2; exact bless_total (by simpa using h1) (by simpa using h2)
  · rintro rfl; rw [if_neg (fun h => bless_ne h rfl), if_neg (fun h => bless_ne h rfl)]
theorem cmpS_anti (a b : ByteArray) : cmpS b a = -cmpS a b := by
  unfold cmpS
  by_cases h1 : bless a b = true
  · have := bless_asymm h1; rw [if_pos h1, this]; simp [h1]
  · by_cases h2 : bless b a = true
    · rw [if_pos h2, if_neg h1, if_pos h2]
    · rw [if_neg h2, if_neg h1, if_neg h1, if_neg h2]; rfl
theorem cmpL_eq : ∀ {l m : List ByteArray}, cmpL l m = 0 ↔ l = m
  | [], [] => by simp [cmpL]
  | [], _ :: _ => by simp [cmpL]
  | _ :: _, [] => by simp [cmpL]
  | a :: l, b :: m => by
    rw [cmpL]
    split
    · rename_i e; subst e; rw [cmpL_eq]; simp
    · rename_i e; rw [cmpS_eq]; simp [e]
theorem cmpL_anti : ∀ (l m : List ByteArray), cmpL m l = -cmpL l m
  | [], [] => rfl
  | [], _ :: _ => rfl
  | _ :: _, [] => rfl
  | a :: l, b :: m => by
    rw [cmpL, cmpL]
    by_cases e : a = b
    · subst e; rw [if_pos rfl, if_pos rfl]; exact cmpL_anti l m
    · rw [if_neg e, if_neg (Ne.symm e)]; exact cmpS_anti a b
theorem cmpL_lt : ∀ (l m : List ByteArray), cmpL l m = -1 ∨ cmpL l m = 0 ∨ cmpL l m = 1
  | [], [] => by simp [cmpL]
  | [], _ :: _ => by simp [cmpL]
  | _ :: _, [] => by simp [cmpL]
  | a :: l, b :: m => by
    rw [cmpL]
    split
    · exact cmpL_lt l m
    · unfold cmpS; split; simp; split <;> simp
theorem cmpS_lt {a b : ByteArray} : cmpS a b < 0 ↔ bless a b = true := by
  unfold cmpS
  split
  · rename_i h; simp [h]
  · rename_i h; split <;> simp [h]
theorem cmpL_trans : ∀ {l m n : List ByteArray}, cmpL l m < 0 → cmpL m n < 0 → cmpL l n < 0
  | [], [], _, h, _ => by simp [cmpL] at h
  | _ :: _, [], _, h, _ => by simp [cmpL] at h
  | _, _ :: _, [], _, h => by simp [cmpL] at h
  | [], _ :: _, _ :: _, _, _ => by simp [cmpL]
  | a :: l, b :: m, c :: n, h1, h2 => by
    rw [cmpL] at h1 h2 ⊢
    by_cases e1 : a = b
    · subst e1
      rw [if_pos rfl] at h1
      by_cases e2 : a = c
      · subst e2; rw [if_pos rfl] at h2 ⊢; exact cmpL_trans h1 h2
      · rw [if_neg e2] at h2 ⊢; exact h2
    · rw [if_neg e1] at h1
      by_cases e2 : b = c
      · subst e2; rw [if_neg e1]; exact h1
      · rw [if_neg e2] at h2
        have h3 := bless_trans (cmpS_lt.1 h1) (cmpS_lt.1 h2)
        rw [if_neg (bless_ne h3)]
        exact cmpS_lt.2 h3
end Go.Proofs.YthconflkbeipoaaGreatDoor
namespace Go.Proofs.YthconflkbeipoaaGreatDoor
open Go.RowKit
open IntWalk renaming iteOmega → iO, toNatUp → tN
set_option linter.unusedVariables false
set_option linter.unusedSimpArgs false
structure Acc where
  path : ByteArray
  node : ByteArray
  user : ByteArray
  deriving DecidableEq
instance : Inhabited Acc := ⟨⟨⟨#[]⟩, ⟨#[]⟩, ⟨#[]⟩⟩⟩
def Acc.d (a : Acc) : List D := [.v (.string a.path), .v (.string a.node), .v (.string a.user)]
def Acc.e (a : Acc) : List E := a.d.map D.e
structure Chg where
  kind : Int
  acc : Acc
instance : Inhabited Chg := ⟨⟨0, default⟩⟩
def Chg.d (c : Chg) : List D := .v (.int .i64 c.kind) :: c.acc.d
def Chg.e (c : Chg) : List E := c.d.map D.e
attribute [push_cast] Acc.d Acc.e Chg.d Chg.e
def cmpP (a b : ByteArray) : Int := match splitP a, splitP b with
  | some l, some m => cmpL l m
  | _, _ => 0
def okP1 (a : ByteArray) : Prop := ∃ l, splitP a = some l
theorem cmpP_anti (a b : ByteArray) : cmpP b a = -cmpP a b := by
  unfold cmpP
  cases splitP a <;> cases splitP b <;> simp
  exact cmpL_anti _ _
theorem cmpP_lt (a b : ByteArray) : cmpP a b = -1 ∨ cmpP a b = 0 ∨ cmpP a b = 1 := by
  unfold cmpP
  cases splitP a <;> cases splitP b <;> simp
  exact cmpL_lt _ _
theorem cmpP_trans {a b c : ByteArray} (h1 : cmpP a b < 0) (h2 : cmpP b c < 0) : cmpP a c < 0 := by
  unfold cmpP at *
  cases ha : splitP a <;> cases hb : splitP b <;> cases hc : splitP c <;> simp_all
  exact cmpL_trans h1 h2
theorem cmpP_irr (a : ByteArray) : ¬ cmpP a a < 0 := by have := cmpP_anti a a; omega
theorem spl_inj : ∀ {l m : List UInt8}, spl l = spl m → l = m
  | [], [], _ => rfl
  | [], b :: m, h => by
    rw [spl, spl] at h
    split at h
    · injection h with _ h; exact absurd h.symm (spl_ne m)
    · split at h <;> simp at h
  | b :: l, [], h => by
    rw [spl, spl] at h
    split at h
    · injection h with _ h; exact absurd h (spl_ne l)
    · split at h <;> simp at h
  | b :: l, c :: m, h => by
    have key : ∀ (b : UInt8) (l : List UInt8), b ≠ 47 → ∃ h t, spl l = h :: t ∧ spl (b :: l) = (b :: h) :: t := by
      intro b l hb
      cases hs : spl l with
      | nil => exact absurd hs (spl_ne l)
      | cons h t => exact ⟨h, t, rfl, by rw [spl, if_neg hb, hs]⟩
    by_cases e1 : b = 47 <;> by_cases e2 : c = 47
    · subst e1; subst e2
      rw [spl, spl, if_pos rfl, if_pos rfl] at h
      injection h with _ h
      rw [spl_inj h]
    · obtain ⟨h1, t1, _, i2⟩ := key c m e2
      subst e1
      rw [i2, spl, if_pos rfl] at h
      injection h with h _; cases h
    · obtain ⟨h1, t1, _, i2⟩ := key b l e1
      subst e2
      rw [i2, spl, if_pos rfl] at h
      injection h with h _; cases h
    · obtain ⟨h1, t1, i1, i2⟩ := key b l e1
      obtain ⟨h2, t2, j1, j2⟩ := key c m e2
      rw [i2, j2] at h
      injection h with h h'
      injection h with h h''
      subst h; subst h'; subst h''
      rw [spl_inj (i1.trans j1.symm)]
theorem parts_inj {s t : ByteArray} (h : parts s = parts t) : s = t := by
  unfold parts at h
  have h2 : spl s.data.toList = spl t.data.toList := by
    have : ∀ {a b : List (List UInt8)}, a.map unT = b.map unT → a = b := by
      intro a
      induction a with
      | nil => intro b h; cases b <;> simp at h ⊢
      | cons x a ih =>
        intro b h
        cases b with
        | nil => simp at h
        | cons y b =>
          simp only [List.map_cons, List.cons.injEq] at h
          obtain ⟨h1, h2⟩ := h
          have hx : x = y := by have := congrArg (fun z : ByteArray => z.data.toList) h1; simpa [unT] using this
          rw [hx, ih h2]
    exact this h
  have h3 := spl_inj h2
  cases s; cases t
  simp only at h3
  congr
  exact Array.toList_inj.1 h3
theorem slash_rest {s : ByteArray} (h : slashS s = true) : s.data.toList = 47 :: (restS s).data.toList := by
  unfold restS
  rw [if_pos h]
  unfold slashS Lib.hasPrefix at h
  rw [Lib.extract_to_end]
  cases e : s.data.toList with
  | nil => rw [e] at h; simp [List.isPrefixOf] at h
  | cons b l => rw [e] at h; simp [List.isPrefixOf] at h; subst h; rfl
theorem splitP_inj {a b : ByteArray} {l : List ByteArray} (ha : splitP a = some l) (hb : splitP b = some l) : a = b := by
  unfold splitP at ha hb
  split at ha
  · rename_i h1
    split at hb
    · rename_i h2
      cases ha
      injection hb with hb
      have hr := parts_inj hb
      have e1 := slash_rest h1.1
      have e2 := slash_rest h2.1
      rw [hr, ← e1] at e2
      cases a; cases b
      simp only at e2
      congr
      exact (Array.toList_inj.1 e2).symm
    · cases hb
  · cases ha
theorem cmpP_eq {a b : ByteArray} (ha : okP1 a) (hb : okP1 b) : cmpP a b = 0 ↔ a = b := by
  obtain ⟨l, hl⟩ := ha
  obtain ⟨m, hm⟩ := hb
  unfold cmpP
  rw [hl, hm]
  simp only
  rw [cmpL_eq]
  exact ⟨fun h => splitP_inj hl (by rw [hm, h]), fun h => by subst h; rw [hl] at hm; injection hm⟩
def ltA (a b : Acc) : Prop := cmpP a.path b.path < 0
structure Right (l : List Acc) : Prop where
  ok : ∀ a ∈ l, okP1 a.path
  asc : l.Pairwise ltA
  nodes : (l.map Acc.node).Nodup
theorem ltA_asymm {a b : Acc} (h : ltA a b) : ¬ ltA b a := by unfold ltA at *; rw [cmpP_anti a.path b.path]; omega
theorem pw_ext {α : Type} {r : α → α → Prop} (hr : ∀ a b, r a b → ¬ r b a) : ∀ {l m : List α}, l.Pairwise r → m.Pairwise r → (∀ x, x ∈ l ↔ x ∈ m) → l = m
  | [], [], _, _, _ => rfl
  | [], b :: m, _, _, h => by have := (h b).2 (by simp); simp at this
  | a :: l, [], _, _, h => by have := (h a).1 (by simp); simp at this
  | a :: l, b :: m, hl, hm, h => by
    obtain ⟨l1, l2⟩ := List.pairwise_cons.1 hl
    obtain ⟨m1, m2⟩ := List.pairwise_cons.1 hm
    have e : a = b := by
      rcases List.mem_cons.1 ((h a).1 (by simp)) with e | ha
      · exact e
      · rcases List.mem_cons.1 ((h b).2 (by simp)) with e | hb
        · exact e.symm
        · exact absurd (m1 a ha) (hr _ _ (l1 b hb))
    subst e
    congr 1
    refine pw_ext hr l2 m2 fun x => ⟨fun hx => ?_, fun hx => ?_⟩
    · rcases List.mem_cons.1 ((h x).1 (by simp [hx])) with e | h'
      · subst e; exact absurd (l1 x hx) (fun h => hr _ _ h h)
      · exact h'
    · rcases List.mem_cons.1 ((h x).2 (by simp [hx])) with e | h'
      · subst e; exact absurd (m1 x hx) (fun h => hr _ _ h h)
      · exact h'
theorem Right.nodup {l : List Acc} (h : Right l) : l.Nodup := h.asc.imp fun {a b} h e => by subst e; exact cmpP_irr _ h
theorem Right.sublist {l m : List Acc} (h : Right l) (hs : m.Sublist l) : Right m := ⟨fun a ha => h.ok a (hs.subset ha), h.asc.sublist hs, h.nodes.sublist (hs.map _)⟩
def minusL (a b : List Acc) : List Acc := a.filter fun x => decide (x ∉ b)
def planA (a b : List Acc) : List Chg := (minusL a b).map (Chg.mk 1) ++ (minusL b a).map (Chg.mk 2)
instance (a b : Acc) : Decidable (ltA a b) := inferInstanceAs (Decidable (cmpP a.path b.path < 0))
def insA (x : Acc) (l : List Acc) : List Acc := (l.takeWhile fun y => decide (ltA y x)) ++ x :: l.dropWhile fun y => decide (ltA y x)
theorem tw_pre {l : List Acc} (h : l.Pairwise ltA) (x : Acc) : (∀ y ∈ l.takeWhile fun y => decide (ltA y x), ltA y x) ∧ ∀ y ∈ l.dropWhile fun y => decide (ltA y x), ¬ ltA y x := by
  induction l with
  | nil => simp
  | cons a l ih =>
    obtain ⟨h1, h2⟩ := List.pairwise_cons.1 h
    obtain ⟨i1, i2⟩ := ih h2
    by_cases hx : ltA a x
    · rw [List.takeWhile_cons_of_pos (by simpa using hx), List.dropWhile_cons_of_pos (by simpa using hx)]
      exact ⟨fun y hy => by rcases List.mem_cons.1 hy with rfl | hy; exact hx; exact i1 y hy, i2⟩
    · rw [List.takeWhile_cons_of_neg (by simpa using hx), List.dropWhile_cons_of_neg (by simpa using hx)]
      refine ⟨by simp, fun y hy => ?_⟩
      rcases List.mem_cons.1 hy with rfl | hy
      · exact hx
      · exact fun hc => hx (cmpP_trans (h1 y hy) hc)
theorem mem_ins {x : Acc} {l : List Acc} {y : Acc} : y ∈ insA x l ↔ y = x ∨ y ∈ l := by
  have e : l = (l.takeWhile fun y => decide (ltA y x)) ++ l.dropWhile fun y => decide (ltA y x) := List.takeWhile_append_dropWhile.symm
  constructor
  · intro h
    rcases List.mem_append.1 h with h | h
    · right; rw [e]; exact List.mem_append.2 (.inl h)
    · rcases List.mem_cons.1 h with h | h
      · exact .inl h
      · right; rw [e]; exact List.mem_append.2 (.inr h)
  · rintro (h | h)
    · subst h; simp [insA]
    · rw [e] at h
      rcases List.mem_append.1 h with h | h
      · exact List.mem_append.2 (.inl h)
      · exact List.mem_append.2 (.inr (List.mem_cons_of_mem _ h))
theorem Right.ins {l : List Acc} {x : Acc} (h : Right l) (hx : okP1 x.path) (hp : ∀ y ∈ l, y.path ≠ x.path) (hn : ∀ y ∈ l, y.node ≠ x.node) : Right (insA x l) := by
  obtain ⟨t1, t2⟩ := tw_pre h.asc x
  have e : l = (l.takeWhile fun y => decide (ltA y x)) ++ l.dropWhile fun y => decide (ltA y x) := List.takeWhile_append_dropWhile.symm
  have hasc := h.asc
  have hnd := h.nodes
  refine ⟨fun a ha => ?_, ?_, ?_⟩
  · rcases mem_ins.1 ha with rfl | ha
    · exact hx
    · exact h.ok a ha
  · have hgt : ∀ y ∈ l.dropWhile fun y => decide (ltA y x), ltA x y := by
      intro y hy
      have hyl : y ∈ l := by rw [e]; exact List.mem_append.2 (.inr hy)
      have h1 := t2 y hy
      have h2 : cmpP y.path x.path ≠ 0 := fun hc => hp y hyl ((cmpP_eq (h.ok y hyl) hx).1 hc)
      have h3 := cmpP_anti y.path x.path
      unfold ltA at *
      omega
    rw [e] at hasc
    obtain ⟨p1, p2, p3⟩ := List.pairwise_append.1 hasc
    refine List.pairwise_append.2 ⟨p1, List.pairwise_cons.2 ⟨hgt, p2⟩, fun a ha b hb => ?_⟩
    rcases List.mem_cons.1 hb with rfl | hb
    · exact t1 a ha
    · exact p3 a ha b hb
  · have hperm : (insA x l).Perm (x :: l) := by
      conv => rhs; rw [e]
      exact List.perm_middle
    refine (hperm.map Acc.node).nodup_iff.2 ?_
    rw [List.map_cons, List.nodup_cons]
    refine ⟨fun hc => ?_, h.nodes⟩
    obtain ⟨y, hy, he⟩ := List.mem_map.1 hc
    exact hn y hy he
def posA (x : Acc) (l : List Acc) : Nat := (l.takeWhile fun y => decide (ltA y x)).length
theorem posA_le (x : Acc) (l : List Acc) : posA x l ≤ l.length := by
  have := congrArg List.length (List.takeWhile_append_dropWhile (p := fun y => decide (ltA y x)) (l := l))
  rw [List.length_append] at this
  unfold posA
  omega
theorem take_pos (x : Acc) (l : List Acc) : l.take (posA x l) = (l.takeWhile fun y => decide (ltA y x)) ∧ l.drop (posA x l) = l.dropWhile fun y => decide (ltA y x) := by
  have e : (l.takeWhile fun y => decide (ltA y x)) ++ (l.dropWhile fun y => decide (ltA y x)) = l := List.takeWhile_append_dropWhile
  have h1 : ((l.takeWhile fun y => decide (ltA y x)) ++ (l.dropWhile fun y => decide (ltA y x))).take (posA x l) = l.takeWhile fun y => decide (ltA y x) := List.take_left' rfl
  have h2 : ((l.takeWhile fun y => decide (ltA y x)) ++ (l.dropWhile fun y => decide (ltA y x))).drop (posA x l) = l.dropWhile fun y => decide (ltA y x) := List.drop_left' rfl
  rw [e] at h1 h2
  exact ⟨h1, h2⟩
theorem insA_pos (x : Acc) (l : List Acc) : insA x l = l.take (posA x l) ++ x :: l.drop (posA x l) := by
  rw [(take_pos x l).1, (take_pos x l).2]; rfl
theorem posA_spec {l : List Acc} (h : l.Pairwise ltA) (x : Acc) : (∀ y ∈ l.take (posA x l), ltA y x) ∧ ∀ y ∈ l.drop (posA x l), ¬ ltA y x := by
  rw [(take_pos x l).1, (take_pos x l).2]
  exact tw_pre h x
def applyA (l : List Acc) (c : Chg) : Option (List Acc) × Int :=
  if c.kind = 1 then (if c.acc ∈ l then (some (l.filter fun x => decide (x ≠ c.acc)), 0) else (none, 381))
  else if c.kind = 2 then (if ∃ y ∈ l, y.path = c.acc.path ∨ y.node = c.acc.node then (none, 382) else match splitP c.acc.path with
    | none => (none, 383)
    | some _ => (some (insA c.acc l), 0))
  else (none, 380)
theorem Right.apply {l m : List Acc} {c : Chg} {n : Int} (h : Right l) (ha : applyA l c = (some m, n)) : Right m := by
  unfold applyA at ha
  split at ha
  · split at ha
    · cases ha; exact h.sublist List.filter_sublist
    · cases ha
  · split at ha
    · split at ha
      · cases ha
      · rename_i hno
        split at ha
        · cases ha
        · rename_i l0 hs
          cases ha
          exact h.ins ⟨_, hs⟩ (fun y hy e => hno ⟨y, hy, .inl e⟩) (fun y hy e => hno ⟨y, hy, .inr e⟩)
    · cases ha
end Go.Proofs.YthconflkbeipoaaGreatDoor
