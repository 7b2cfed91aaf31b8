/- Names and paths, without the program. -/
import Derived.Test.YtfojijoekpkheaaDoorOrd
import Derived.Lib.SplitLaws
import Derived.Lib.IndexBytes
namespace Go.Proofs.YtfojijoekpkheaaDoor
open Go.RowKit
set_option linter.unusedVariables false
set_option linter.unusedSimpArgs false
/-! ### sets of bytes -/
def plusL (cs : List Bool) (t : List UInt8) : List Bool := t.foldl (fun cs b => cs.set b.toNat true) cs
theorem plusL_len : ∀ (t : List UInt8) (cs : List Bool), (plusL cs t).length = cs.length
  | [], _ => rfl
  | b :: t, cs => by have := plusL_len t (cs.set b.toNat true); rw [List.length_set] at this; exact this
theorem plusL_get : ∀ (t : List UInt8) (cs : List Bool) (b : UInt8), cs.length = 256 → (plusL cs t).getD b.toNat false = (cs.getD b.toNat false || t.contains b)
  | [], cs, b, _ => by simp [plusL]
  | a :: t, cs, b, h => by
    have hb := b.toNat_lt
    have := plusL_get t (cs.set a.toNat true) b (by rw [List.length_set]; exact h)
    rw [show plusL cs (a :: t) = plusL (cs.set a.toNat true) t from rfl, this, List.contains_cons]
    by_cases e : b = a
    · subst e
      have : (cs.set b.toNat true).getD b.toNat false = true := by rw [List.getD_eq_getElem?_getD, List.getElem?_set_self (by omega)]; rfl
      rw [this]; simp
    · have hne : a.toNat ≠ b.toNat := fun h => e (UInt8.toNat_inj.1 h.symm)
      have : (cs.set a.toNat true).getD b.toNat false = cs.getD b.toNat false := by rw [List.getD_eq_getElem?_getD, List.getElem?_set_ne hne, ← List.getD_eq_getElem?_getD]
      rw [this, show (b == a) = false by simpa using e, Bool.false_or]
theorem plusL_snoc (cs : List Bool) (t : List UInt8) (b : UInt8) : plusL cs (t ++ [b]) = (plusL cs t).set b.toNat true := by simp [plusL]
def upperT : List UInt8 := [65, 66, 67, 68, 69, 70, 71, 72, 73, 74, 75, 76, 77, 78, 79, 80, 81, 82, 83, 84, 85, 86, 87, 88, 89, 90]
def lowerT : List UInt8 := [97, 98, 99, 100, 101, 102, 103, 104, 105, 106, 107, 108, 109, 110, 111, 112, 113, 114, 115, 116, 117, 118, 119, 120, 121, 122]
def digitT : List UInt8 := [48, 49, 50, 51, 52, 53, 54, 55, 56, 57]
def moreT : List UInt8 := [95, 46, 58, 43, 45]
def noneL : List Bool := List.replicate 256 false
def commonL : List Bool := plusL (plusL (plusL (plusL noneL upperT) lowerT) digitT) moreT
theorem noneL_len : noneL.length = 256 := List.length_replicate
theorem commonL_len : commonL.length = 256 := by rw [commonL, plusL_len, plusL_len, plusL_len, plusL_len, noneL_len]
/-- the bytes of names -/
def nameT : List UInt8 := upperT ++ lowerT ++ digitT ++ moreT ++ [33]
def nameB (b : UInt8) : Bool := nameT.contains b
theorem nameL_get (b : UInt8) : (plusL commonL [33]).getD b.toNat false = nameB b := by
  have h0 : noneL.getD b.toNat false = false := by unfold noneL; rw [List.getD_eq_getElem?_getD, List.getElem?_replicate]; split <;> rfl
  rw [plusL_get _ _ _ commonL_len, commonL, plusL_get _ _ _ (by rw [plusL_len, plusL_len, plusL_len, noneL_len]), plusL_get _ _ _ (by rw [plusL_len, plusL_len, noneL_len]), plusL_get _ _ _ (by rw [plusL_len, noneL_len]), plusL_get _ _ _ noneL_len, h0]
  rw [Bool.eq_iff_iff]
  simp only [nameB, nameT, Bool.or_eq_true, List.contains_iff_mem, List.mem_append, Bool.false_eq_true, false_or]
/-- all bytes of a text are in a set -/
def hasL (cs : List Bool) (s : ByteArray) : Bool := s.data.toList.all fun b => cs.getD b.toNat false
def dotsS (s : ByteArray) : Bool := decide (s = ⟨#[46]⟩) || decide (s = ⟨#[46, 46]⟩)
/-- a name -/
def validS (s : ByteArray) : Bool := (((decide (s ≠ ⟨#[]⟩) && decide (s.size ≤ 32)) && !dotsS s) && s.data.toList.all nameB)
theorem has_name (s : ByteArray) : hasL (plusL commonL [33]) s = s.data.toList.all nameB := by unfold hasL; simp only [nameL_get]
/-! ### the parts of a path -/
def spl : List UInt8 → List (List UInt8)
  | [] => [[]]
  | b :: l => if b = 47 then [] :: spl l else match spl l with
    | [] => [[b]]
    | h :: t => (b :: h) :: t
theorem spl_ne (l : List UInt8) : spl l ≠ [] := by
  cases l with
  | nil => simp [spl]
  | cons b l => rw [spl]; split; simp; split <;> simp
theorem spl_none : ∀ {l : List UInt8}, (47 : UInt8) ∉ l → spl l = [l]
  | [], _ => rfl
  | b :: l, h => by
    simp only [List.mem_cons, not_or] at h
    rw [spl, if_neg (fun e => h.1 e.symm), spl_none h.2]
theorem spl_app : ∀ {a : List UInt8} (r : List UInt8), (47 : UInt8) ∉ a → spl (a ++ 47 :: r) = a :: spl r
  | [], r, _ => by rw [List.nil_append, spl, if_pos rfl]
  | b :: a, r, h => by
    simp only [List.mem_cons, not_or] at h
    rw [List.cons_append, spl, if_neg (fun e => h.1 e.symm), spl_app r h.2]
theorem splitK_spl : ∀ (k : Nat) (s : List UInt8), s.count 47 = k → Lib.splitK [47] 0 k s = spl s
  | 0, s, h => by rw [spl_none (List.count_eq_zero.1 h)]; rfl
  | k + 1, s, h => by
    have hmem : (47 : UInt8) ∈ s := List.count_pos_iff.1 (by omega)
    obtain ⟨a, r, rfl, ha⟩ : ∃ a r, s = a ++ 47 :: r ∧ (47 : UInt8) ∉ a := by
      clear h
      induction s with
      | nil => simp at hmem
      | cons b s ih =>
        by_cases e : b = 47
        · subst e; exact ⟨[], s, rfl, by simp⟩
        · obtain ⟨a, r, rfl, ha⟩ := ih (by simpa [Ne.symm e] using hmem)
          exact ⟨b :: a, r, rfl, by simp [ha, Ne.symm e]⟩
    have hi : Lib.index (a ++ 47 :: r) [47] = (a.length : Int) := by
      rw [Lib.index_one]
      clear h
      induction a with
      | nil => simp [Lib.indexByte]
      | cons b a ih =>
        simp only [List.mem_cons, not_or] at ha
        have := ih ha.2 (by simp)
        rw [List.cons_append, Lib.indexByte, if_neg (by simpa using Ne.symm ha.1), this, if_neg (by simp)]
        simp
    have hc : r.count 47 = k := by
      rw [List.count_append, List.count_cons_self, List.count_eq_zero.2 ha] at h
      omega
    rw [Lib.splitK, hi, if_neg (by simp), spl_app r ha]
    simp only [Int.toNat_natCast, Nat.add_zero, List.length_cons, List.length_nil, Nat.zero_add]
    rw [List.take_left, List.drop_append, List.drop_eq_nil_of_le (by omega), List.nil_append, show a.length + 1 - a.length = 1 by omega]
    simp only [List.drop_succ_cons, List.drop_zero]
    rw [splitK_spl k r hc]
def unT (l : List UInt8) : ByteArray := ⟨l.toArray⟩
theorem unT_data (s : ByteArray) : unT s.data.toList = s := rfl
/-- the parts of a text between its slashes -/
def parts (s : ByteArray) : List ByteArray := (spl s.data.toList).map unT
theorem parts_ne (s : ByteArray) : 0 < (parts s).length := by
  unfold parts; rw [List.length_map]; exact List.length_pos_iff.2 (spl_ne _)
theorem splitB_parts (s : ByteArray) : Lib.splitB ⟨#[47]⟩ 0 (Lib.countB s ⟨#[47]⟩) s = parts s := by
  have h := Lib.splitB_data ⟨#[47]⟩ 0 (Lib.countB s ⟨#[47]⟩) s
  have hc : Lib.countB s ⟨#[47]⟩ = s.data.toList.count 47 := Lib.count_one 47 s.data.toList
  have h2 := splitK_spl _ s.data.toList hc.symm
  have e : (⟨#[47]⟩ : ByteArray).data.toList = [47] := rfl
  rw [e, h2] at h
  unfold parts
  rw [← h, List.map_map]
  conv => lhs; rw [← List.map_id (Lib.splitB _ _ _ _)]
  exact List.map_congr_left fun x _ => rfl
def slashS (s : ByteArray) : Bool := Lib.hasPrefix s.data.toList [47]
/-- the rest of a path behind its slash -/
def restS (s : ByteArray) : ByteArray := if slashS s = true then s.extract 1 s.size else s
/-- the names of a path -/
def splitP (s : ByteArray) : Option (List ByteArray) := if slashS s = true ∧ (parts (restS s)).all validS = true then some (parts (restS s)) else none
theorem parts_size : ∀ {s : ByteArray}, (parts s).length ≤ s.size + 1 := by
  intro s
  unfold parts
  rw [List.length_map]
  have : ∀ l : List UInt8, (spl l).length ≤ l.length + 1 := by
    intro l
    induction l with
    | nil => simp [spl]
    | cons b l ih =>
      rw [spl]
      split
      · simp only [List.length_cons]; omega
      · split
        · simp
        · rename_i h t e; rw [e] at ih; simp only [List.length_cons] at ih ⊢; omega
  have h := this s.data.toList
  rwa [show s.data.toList.length = s.size from rfl] at h
/-! ### the order of lists of texts -/
def cmpS (a b : ByteArray) : Int := if bless a b = true then -1 else if bless b a = true then 1 else 0
def cmpL : List ByteArray → List ByteArray → Int
  | [], [] => 0
  | [], _ :: _ => -1
  | _ :: _, [] => 1
  | a :: l, b :: m => if a = b then cmpL l m else cmpS a b
theorem cmpS_eq {a b : ByteArray} : cmpS a b = 0 ↔ a = b := by
  unfold cmpS
  constructor
  · intro h
    split at h
    · omega
    · split at h
      · omega
      · rename_i h1 h2; exact bless_total (by simpa using h1) (by simpa using h2)
  · rintro rfl; rw [if_neg (fun h => bless_ne h rfl), if_neg (fun h => bless_ne h rfl)]
theorem cmpS_anti (a b : ByteArray) : cmpS b a = -cmpS a b := by
  unfold cmpS
  by_cases h1 : bless a b = true
  · have := bless_asymm h1; rw [if_pos h1, this]; simp [h1]
  · by_cases h2 : bless b a = true
    · rw [if_pos h2, if_neg h1, if_pos h2]
    · rw [if_neg h2, if_neg h1, if_neg h1, if_neg h2]; rfl
theorem cmpL_eq : ∀ {l m : List ByteArray}, cmpL l m = 0 ↔ l = m
  | [], [] => by simp [cmpL]
  | [], _ :: _ => by simp [cmpL]
  | _ :: _, [] => by simp [cmpL]
  | a :: l, b :: m => by
    rw [cmpL]
    split
    · rename_i e; subst e; rw [cmpL_eq]; simp
    · rename_i e; rw [cmpS_eq]; simp [e]
theorem cmpL_anti : ∀ (l m : List ByteArray), cmpL m l = -cmpL l m
  | [], [] => rfl
  | [], _ :: _ => rfl
  | _ :: _, [] => rfl
  | a :: l, b :: m => by
    rw [cmpL, cmpL]
    by_cases e : a = b
    · subst e; rw [if_pos rfl, if_pos rfl]; exact cmpL_anti l m
    · rw [if_neg e, if_neg (Ne.symm e)]; exact cmpS_anti a b
theorem cmpL_lt : ∀ (l m : List ByteArray), cmpL l m = -1 ∨ cmpL l m = 0 ∨ cmpL l m = 1
  | [], [] => by simp [cmpL]
  | [], _ :: _ => by simp [cmpL]
  | _ :: _, [] => by simp [cmpL]
  | a :: l, b :: m => by
    rw [cmpL]
    split
    · exact cmpL_lt l m
    · unfold cmpS; split; simp; split <;> simp
theorem cmpS_lt {a b : ByteArray} : cmpS a b < 0 ↔ bless a b = true := by
  unfold cmpS
  split
  · rename_i h; simp [h]
  · rename_i h; split <;> simp [h]
theorem cmpL_trans : ∀ {l m n : List ByteArray}, cmpL l m < 0 → cmpL m n < 0 → cmpL l n < 0
  | [], [], _, h, _ => by simp [cmpL] at h
  | _ :: _, [], _, h, _ => by simp [cmpL] at h
  | _, _ :: _, [], _, h => by simp [cmpL] at h
  | [], _ :: _, _ :: _, _, _ => by simp [cmpL]
  | a :: l, b :: m, c :: n, h1, h2 => by
    rw [cmpL] at h1 h2 ⊢
    by_cases e1 : a = b
    · subst e1
      rw [if_pos rfl] at h1
      by_cases e2 : a = c
      · subst e2; rw [if_pos rfl] at h2 ⊢; exact cmpL_trans h1 h2
      · rw [if_neg e2] at h2 ⊢; exact h2
    · rw [if_neg e1] at h1
      by_cases e2 : b = c
      · subst e2; rw [if_neg e1]; exact h1
      · rw [if_neg e2] at h2
        have h3 := bless_trans (cmpS_lt.1 h1) (cmpS_lt.1 h2)
        rw [if_neg (bless_ne h3)]
        exact cmpS_lt.2 h3
end Go.Proofs.YtfojijoekpkheaaDoor
