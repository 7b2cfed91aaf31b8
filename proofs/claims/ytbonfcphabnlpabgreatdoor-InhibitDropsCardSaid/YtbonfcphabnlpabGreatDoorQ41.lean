/- What the program computes, and the plain laws of it, part 41. -/
import Derived.Test.YtbonfcphabnlpabGreatDoorQ28
import Derived.Test.YtbonfcphabnlpabGreatDoorQ31
namespace Go.Proofs.YtbonfcphabnlpabGreatDoor
open Go.RowKit
open IntWalk renaming iteOmega → iO, toNatUp → tN
set_option linter.unusedVariables false
set_option linter.unusedSimpArgs false
def starAt (l : List El) (i : Nat) : Bool := decide (i < l.length) && (l.getD i default).star
def plN (l : List El) (a : List Bool) : Nat → List Bool
  | 0 => a
  | i + 1 => if (plN l a i).getD i false && (l.getD i default).star then (plN l a i).set (i + 1) true else plN l a i
def placesL (l : List El) (a : List Bool) : List Bool := plN l a l.length
theorem plN_len (l : List El) (a : List Bool) : ∀ i, (plN l a i).length = a.length
  | 0 => rfl
  | i + 1 => by rw [plN]; split <;> simp [plN_len l a i]
theorem getD_set {l : List Bool} {i j : Nat} (h : i < l.length) : (l.set i true).getD j false = if j = i then true else l.getD j false := by
  rw [List.getD_eq_getElem?_getD]
  by_cases e : j = i
  · subst e; rw [List.getElem?_set_self h, if_pos rfl]; rfl
  · rw [List.getElem?_set_ne (Ne.symm e), if_neg e, ← List.getD_eq_getElem?_getD]
theorem plN_get (l : List El) (a : List Bool) (ha : a.length = l.length + 1) : ∀ i, i ≤ l.length → ∀ j, (plN l a i).getD j false = if 0 < j ∧ j ≤ i then a.getD j false || ((plN l a (j - 1)).getD (j - 1) false && (l.getD (j - 1) default).star) else a.getD j false
  | 0, _, j => by rw [if_neg (by omega), plN]
  | i + 1, h, j => by
    have ih := plN_get l a ha i (by omega)
    rw [plN]
    by_cases hj : j = i + 1
    · subst hj
      have h0 := ih (i + 1)
      rw [if_neg (by omega)] at h0
      have hpp : (0 < i + 1 ∧ i + 1 ≤ i + 1) = True := eq_true ⟨by omega, Nat.le_refl _⟩
      simp only [hpp, if_true, Nat.add_sub_cancel]
      cases hc : ((plN l a i).getD i false && (l.getD i default).star)
      · rw [Bool.or_false]; simp only [Bool.false_eq_true, if_false]; exact h0
      · rw [if_pos rfl, getD_set (by rw [plN_len]; omega), if_pos rfl, Bool.or_true]
    · have h1 : (if ((plN l a i).getD i false && (l.getD i default).star) = true then (plN l a i).set (i + 1) true else plN l a i).getD j false = (plN l a i).getD j false := by
        split
        · rw [getD_set (by rw [plN_len]; omega), if_neg hj]
        · rfl
      rw [h1, ih j]
      by_cases h2 : 0 < j ∧ j ≤ i
      · rw [if_pos h2, if_pos (by omega)]
      · rw [if_neg h2, if_neg (by omega)]
theorem plN_stay (l : List El) (a : List Bool) (ha : a.length = l.length + 1) {i j : Nat} (hi : i ≤ l.length) (hj : j ≤ i) : (plN l a i).getD j false = (plN l a j).getD j false := by
  rw [plN_get l a ha i hi j, plN_get l a ha j (by omega) j]
  by_cases h : 0 < j
  · rw [if_pos ⟨h, hj⟩, if_pos ⟨h, Nat.le_refl _⟩]
  · rw [if_neg (by omega), if_neg (by omega)]
theorem placesL_zero (l : List El) (a : List Bool) (ha : a.length = l.length + 1) : (placesL l a).getD 0 false = a.getD 0 false := by
  unfold placesL
  rw [plN_get l a ha _ (Nat.le_refl _) 0, if_neg (by omega)]
theorem placesL_succ (l : List El) (a : List Bool) (ha : a.length = l.length + 1) {j : Nat} (hj : j < l.length) : (placesL l a).getD (j + 1) false = (a.getD (j + 1) false || ((placesL l a).getD j false && (l.getD j default).star)) := by
  unfold placesL
  rw [plN_get l a ha _ (Nat.le_refl _) (j + 1), if_pos (by omega), Nat.add_sub_cancel, plN_stay l a ha (Nat.le_refl _) (by omega : j ≤ l.length)]
theorem placesL_len (l : List El) (a : List Bool) : (placesL l a).length = a.length := plN_len _ _ _
def nxN (l : List El) (a : List Bool) (b : UInt8) : Nat → List Bool
  | 0 => List.replicate (l.length + 1) false
  | i + 1 =>
    let u := if a.getD i false && (l.getD i default).star then (nxN l a b i).set i true else nxN l a b i
    if (a.getD i false && !(l.getD i default).star) && (l.getD i default).has b then u.set (i + 1) true else u
theorem nxN_len (l : List El) (a : List Bool) (b : UInt8) : ∀ i, (nxN l a b i).length = l.length + 1
  | 0 => by simp [nxN]
  | i + 1 => by
    have ih := nxN_len l a b i
    rw [nxN]
    split <;> split <;> simp [ih]
theorem nxN_get (l : List El) (a : List Bool) (b : UInt8) : ∀ i, i ≤ l.length → ∀ j, (nxN l a b i).getD j false = ((decide (j < i) && (a.getD j false && (l.getD j default).star)) || (decide (0 < j ∧ j ≤ i) && ((a.getD (j - 1) false && !(l.getD (j - 1) default).star) && (l.getD (j - 1) default).has b)))
  | 0, _, j => by
    rw [nxN, decide_eq_false (by omega), decide_eq_false (by omega), List.getD_eq_getElem?_getD, List.getElem?_replicate]
    simp only [Bool.false_and, Bool.or_self]
    split <;> rfl
  | i + 1, h, j => by
    have ih := nxN_get l a b i (by omega) j
    have hl := nxN_len l a b i
    rw [nxN]
    obtain ⟨c1, hc1⟩ : ∃ c, (a.getD i false && (l.getD i default).star) = c := ⟨_, rfl⟩
    obtain ⟨c2, hc2⟩ : ∃ c, ((a.getD i false && !(l.getD i default).star) && (l.getD i default).has b) = c := ⟨_, rfl⟩
    rw [hc1, hc2]
    have hu : (if c1 = true then (nxN l a b i).set i true else nxN l a b i).getD j false = ((decide (j = i) && c1) || (nxN l a b i).getD j false) := by
      cases c1
      · simp
      · rw [if_pos rfl, getD_set (by omega)]
        by_cases e : j = i <;> simp [e]
    have hul : (if c1 = true then (nxN l a b i).set i true else nxN l a b i).length = l.length + 1 := by split <;> simp [hl]
    have hv : (if c2 = true then (if c1 = true then (nxN l a b i).set i true else nxN l a b i).set (i + 1) true else (if c1 = true then (nxN l a b i).set i true else nxN l a b i)).getD j false = ((decide (j = i + 1) && c2) || ((decide (j = i) && c1) || (nxN l a b i).getD j false)) := by
      cases c2
      · rw [if_neg (by simp), hu]; simp
      · rw [if_pos rfl, getD_set (by omega), hu]
        by_cases e : j = i + 1 <;> simp [e]
    rw [hv, ih]
    by_cases e1 : j = i
    · subst e1
      rw [hc1, decide_eq_true (by omega : j < j + 1), decide_eq_false (by omega : ¬ j < j), decide_eq_false (by omega : ¬ j = j + 1)]
      by_cases h0 : 0 < j
      · rw [decide_eq_true (by omega : 0 < j ∧ j ≤ j), decide_eq_true (by omega : 0 < j ∧ j ≤ j + 1)]; simp
      · rw [decide_eq_false (by omega : ¬ (0 < j ∧ j ≤ j)), decide_eq_false (by omega : ¬ (0 < j ∧ j ≤ j + 1))]; simp
    · by_cases e2 : j = i + 1
      · subst e2
        rw [Nat.add_sub_cancel, hc2, decide_eq_false (by omega : ¬ i + 1 < i), decide_eq_false (by omega : ¬ i + 1 < i + 1), decide_eq_true (by omega : 0 < i + 1 ∧ i + 1 ≤ i + 1), decide_eq_false (by omega : ¬ (0 < i + 1 ∧ i + 1 ≤ i)), decide_eq_false (by omega : ¬ i + 1 = i)]
        simp
      · have d1 : decide (j < i + 1) = decide (j < i) := decide_eq_decide.2 (by omega)
        have d2 : decide (0 < j ∧ j ≤ i + 1) = decide (0 < j ∧ j ≤ i) := decide_eq_decide.2 (by omega)
        rw [d1, d2, decide_eq_false e1, decide_eq_false e2]; simp
def aM (l : List El) (i : Nat) (t : List UInt8) : Bool := if starAt l i then mat (l.take (i + 1)) t else mat (l.take i) t
theorem take_snoc {l : List El} {i : Nat} (h : i < l.length) : l.take (i + 1) = l.take i ++ [l.getD i default] := by
  rw [List.take_succ_eq_append_getElem h]
  congr 2
  simp [List.getD, h]
theorem starAt_lt {l : List El} {i : Nat} (h : i < l.length) : starAt l i = (l.getD i default).star := by unfold starAt; rw [decide_eq_true h, Bool.true_and]
def AtOk (l : List El) (a : List Bool) (t : List UInt8) : Prop := a.length = l.length + 1 ∧ ∀ i, i ≤ l.length → a.getD i false = aM l i t
theorem aM_nil (l : List El) : ∀ i, i ≤ l.length → aM l i [] = mat (l.take i) [] := fun i hi => by
  unfold aM
  by_cases hs : starAt l i = true
  · rw [if_pos hs]
    have hlt : i < l.length := by unfold starAt at hs; simp only [Bool.and_eq_true, decide_eq_true_eq] at hs; exact hs.1
    rw [take_snoc hlt, mat_snoc_nil, ← starAt_lt hlt, hs, Bool.and_true]
  · rw [if_neg hs]
theorem AtOk.start (l : List El) : AtOk l (placesL l ((List.replicate (l.length + 1) false).set 0 true)) [] := by
  have hl : ((List.replicate (l.length + 1) false).set 0 true).length = l.length + 1 := by simp
  refine ⟨by rw [placesL_len, hl], fun i => ?_⟩
  induction i with
  | zero =>
    intro _
    rw [placesL_zero l _ hl, aM_nil l 0 (Nat.zero_le _), List.replicate_succ]
    rfl
  | succ i ih =>
    intro hi
    rw [placesL_succ l _ hl (by omega), ih (by omega), aM_nil l i (by omega), aM_nil l (i + 1) hi, take_snoc (by omega), mat_snoc_nil]
    rw [List.getD_eq_getElem?_getD, List.getElem?_set_ne (by omega), List.getElem?_replicate]
    split <;> simp
theorem AtOk.step {l : List El} {a : List Bool} {t : List UInt8} (h : AtOk l a t) (b : UInt8) : AtOk l (placesL l (nxN l a b l.length)) (t ++ [b]) := by
  have hl := nxN_len l a b l.length
  refine ⟨by rw [placesL_len, hl], fun i => ?_⟩
  induction i with
  | zero =>
    intro _
    rw [placesL_zero l _ hl, nxN_get l a b _ (Nat.le_refl _) 0, decide_eq_false (by omega : ¬ (0 < 0 ∧ 0 ≤ l.length)), Bool.false_and, Bool.or_false]
    have h0 := h.2 0 (Nat.zero_le _)
    unfold aM at h0 ⊢
    by_cases hlt : 0 < l.length
    · rw [starAt_lt hlt] at *
      rw [decide_eq_true hlt, Bool.true_and, h0]
      cases hs : (l.getD 0 default).star
      · simp [mat]
      · simp only [if_true, Bool.and_true]
        have h1 : l.take (0 + 1) = [l.getD 0 default] := by rw [take_snoc hlt]; simp
        rw [h1]
        have hm : ∀ u : List UInt8, mat [l.getD 0 default] u = true := fun u => (mat_star hs).2 ⟨u.length, Nat.le_refl _, by simp [mat]⟩
        rw [hm, hm]
    · rw [decide_eq_false hlt, Bool.false_and]
      have hn : starAt l 0 = false := by unfold starAt; rw [decide_eq_false hlt]; rfl
      rw [hn]
      simp [mat]
  | succ i ih =>
    intro hi
    have hlt : i < l.length := by omega
    have hi1 := h.2 i (by omega)
    have hi2 := h.2 (i + 1) hi
    rw [placesL_succ l _ hl hlt, ih (by omega), nxN_get l a b _ (Nat.le_refl _) (i + 1), decide_eq_true (by omega : 0 < i + 1 ∧ i + 1 ≤ l.length), Bool.true_and, Nat.add_sub_cancel, hi1]
    have hX : mat (l.take (i + 1)) (t ++ [b]) = if (l.getD i default).star then (mat (l.take i) (t ++ [b]) || mat (l.take (i + 1)) t) else (mat (l.take i) t && (l.getD i default).has b) := by
      rw [take_snoc hlt]
      cases hs : (l.getD i default).star
      · rw [mat_snoc_one hs]; rfl
      · rw [mat_snoc_star hs]; rfl
    have hprev : (((aM l i t && !(l.getD i default).star) && (l.getD i default).has b) || (aM l i (t ++ [b]) && (l.getD i default).star)) = mat (l.take (i + 1)) (t ++ [b]) := by
      unfold aM
      rw [starAt_lt hlt]
      cases hs : (l.getD i default).star
      · rw [hX, hs]; simp
      · simp
    have hgo : (decide (i + 1 < l.length) && (a.getD (i + 1) false && (l.getD (i + 1) default).star)) = (starAt l (i + 1) && mat (l.take (i + 1 + 1)) t) := by
      rw [hi2]
      unfold aM
      cases hs : starAt l (i + 1)
      · unfold starAt at hs
        cases hd : decide (i + 1 < l.length)
        · simp
        · rw [hd, Bool.true_and] at hs; rw [hs]; simp
      · have hs2 := hs
        unfold starAt at hs2
        simp only [Bool.and_eq_true] at hs2
        rw [hs2.1, hs2.2]; simp
    rw [Bool.or_assoc, hprev, hgo]
    show _ = aM l (i + 1) (t ++ [b])
    unfold aM
    cases hs : starAt l (i + 1)
    · simp
    · have hlt2 : i + 1 < l.length := by unfold starAt at hs; simp only [Bool.and_eq_true, decide_eq_true_eq] at hs; exact hs.1
      have hs' : (l.getD (i + 1) default).star = true := by rw [← starAt_lt hlt2]; exact hs
      simp only [Bool.true_and, if_true]
      rw [take_snoc hlt2, mat_snoc_star hs']
      cases mat (List.take (i + 1) l) (t ++ [b]) <;> simp
theorem AtOk.fin {l : List El} {a : List Bool} {t : List UInt8} (h : AtOk l a t) : a.getD l.length false = mat l t := by
  rw [h.2 _ (Nat.le_refl _)]
  unfold aM starAt
  rw [decide_eq_false (by omega), Bool.false_and, List.take_length]
  rfl
end Go.Proofs.YtbonfcphabnlpabGreatDoor
namespace Go.Proofs.YtbonfcphabnlpabGreatDoor
attribute [local irreducible] PL QL PWPr PCalls Weak RetK Kontr PA
open Go.RowKit
open IntWalk renaming iteOmega → iO, toNatUp → tN
set_option linter.unusedVariables false
set_option linter.unusedSimpArgs false
set_option maxRecDepth 20000
theorem gbyte_pure (b : UInt8) : PCalls Tryz.prog 131 [.c (.v (.int .u8 b.toNat))] [] fun r os => r = .c (.v (.bool (textB b))) ∧ os = [] := by
  have hb := b.toNat_lt
  refine pcalls_of Tryz.func131 rfl (by simp [Tryz.ntmps131]) ?_
  rw [Tryz.ntmps131, Tryz.results131]
  push_cast [iO, tN]
  by_cases h1 : (32 : Int) ≤ (b.toNat : Int)
  · by_cases h2 : (b.toNat : Int) ≤ 126
    · have e : textB b = true := by unfold textB; rw [decide_eq_true (by omega), decide_eq_true (by omega)]; rfl
      rw [e]
      repeat' (first | ((first | refine pG ?_ | refine pQ ?_ | refine pU ?_); push_cast [iO, tN, h1, h2]) | (refine pif (fun h => ?_) (fun h => ?_) <;> first | exact pN h | push_cast [iO, tN, h1, h2]))
      (refine retK_of [] ?_; push_cast [iO, tN])
    · have e : textB b = false := by unfold textB; rw [decide_eq_false (p := b.toNat ≤ 126) (by omega), Bool.and_false]
      rw [e]
      repeat' (first | ((first | refine pG ?_ | refine pQ ?_ | refine pU ?_); push_cast [iO, tN, h1, h2]) | (refine pif (fun h => ?_) (fun h => ?_) <;> first | exact pN h | push_cast [iO, tN, h1, h2]))
      (refine retK_of [] ?_; push_cast [iO, tN])
  · have e : textB b = false := by unfold textB; rw [decide_eq_false (by omega)]; rfl
    rw [e]
    repeat' (first | ((first | refine pG ?_ | refine pQ ?_ | refine pU ?_); push_cast [iO, tN, h1]) | (refine pif (fun h => ?_) (fun h => ?_) <;> first | exact pN h | push_cast [iO, tN, h1]))
    (refine retK_of [] ?_; push_cast [iO, tN])
theorem gprint_pure (s : ByteArray) (hs : s.size ≤ 9223372036854775807) : PCalls Tryz.prog 112 [.c (.v (.string s))] [] fun r os => r = .c (.v (.bool (s.data.toList.all textB))) ∧ os = [] := by
  refine pcalls_of Tryz.func112 rfl (by simp [Tryz.ntmps112]) ?_
  rw [Tryz.ntmps112, Tryz.results112]
  push_cast [iO, tN]
  have cB : CutB 4 [] := trivial
  repeat' (first | ((first | refine pC ?_ | refine pQC ?_ | refine pU ?_); push_cast [iO, tN]) | (refine pif (fun h => ?_) (fun h => ?_) <;> first | exact pN h | push_cast [iO, tN]))
  (apply pwp_loop3 (α := Nat) 4 [] (fun k => [(3, .c (.v (.int .i64 k)))]) (fun k => []) (fun k => k ≤ s.size ∧ (s.data.toList.take k).all textB = true) (fun k => s.size - k) (0); (focus ((try push_cast [iO, tN]); rfl)); (focus exact ⟨by omega, rfl⟩); (focus ((refine weak_fg ?_; try push_cast [iO, tN]))))
  rintro k ⟨hk, ha⟩
  push_cast [iO, tN]
  have hb := gbyte_pure (s.data.toList.getD k 0)
  by_cases hlt : k < s.size
  · cases hx : textB (s.data.toList.getD k 0)
    · have e := all_not hlt hx
      rw [hx] at hb
      repeat' (first |  (refine plc [] (hb) ?_ ?_; push_cast [iO, tN]; rintro r os ⟨rfl, rfl⟩; push_cast [iO, tN])  | ((first | refine pC ?_ | refine pQC ?_ | refine pU ?_); push_cast [iO, tN]) | (refine pif (fun h => ?_) (fun h => ?_) <;> first | exact pN h | push_cast [iO, tN]))
      (refine retK_of [] ?_; push_cast [iO, tN])
      rw [e]
    · have e := all_next hlt ha hx
      rw [hx] at hb
      repeat' (first |  (refine plc [] (hb) ?_ ?_; push_cast [iO, tN]; rintro r os ⟨rfl, rfl⟩; push_cast [iO, tN])  | ((first | refine pC ?_ | refine pQC ?_ | refine pU ?_); push_cast [iO, tN]) | (refine pif (fun h => ?_) (fun h => ?_) <;> first | exact pN h | push_cast [iO, tN]))
      exact ⟨k + 1, ⟨by omega, e⟩, by (refine weak_fg ?_; push_cast [iO, tN]), by omega⟩
  · have hk2 : k = s.size := by omega
    subst hk2
    have he : s.data.toList.take s.size = s.data.toList := List.take_of_length_le (Nat.le_refl _)
    rw [he] at ha
    repeat' (first | ((first | refine pC ?_ | refine pQC ?_ | refine pU ?_); push_cast [iO, tN]) | (refine pif (fun h => ?_) (fun h => ?_) <;> first | exact pN h | push_cast [iO, tN]))
    (refine retK_of [] ?_; push_cast [iO, tN])
    rw [ha]
end Go.Proofs.YtbonfcphabnlpabGreatDoor
namespace Go.Proofs.YtbonfcphabnlpabGreatDoor
open Go.RowKit
open IntWalk renaming iteOmega → iO, toNatUp → tN
set_option linter.unusedVariables false
set_option linter.unusedSimpArgs false
def outN (cs : List Bool) (nq : Bool) : Nat → List Bool
  | 0 => List.replicate 128 false
  | k + 1 => (outN cs nq k).set (32 + k) (cs.getD (32 + k) false != nq)
theorem outN_len (cs : List Bool) (nq : Bool) : ∀ n, (outN cs nq n).length = 128
  | 0 => rfl
  | n + 1 => by rw [outN, List.length_set, outN_len cs nq n]
theorem outN_get (cs : List Bool) (nq : Bool) (c : Nat) : ∀ n, n ≤ 95 → (outN cs nq n).getD c false = (decide (32 ≤ c ∧ c < 32 + n) && (cs.getD c false != nq))
  | 0, _ => by
    rw [decide_eq_false (by omega), Bool.false_and, outN, List.getD_eq_getElem?_getD, List.getElem?_replicate]
    split <;> rfl
  | n + 1, h => by
    rw [outN, List.getD_eq_getElem?_getD]
    by_cases e : 32 + n = c
    · subst e
      rw [List.getElem?_set_self (by rw [outN_len]; omega), decide_eq_true (by omega)]; simp
    · rw [List.getElem?_set_ne e, ← List.getD_eq_getElem?_getD, outN_get cs nq c n (by omega)]
      by_cases h2 : 32 ≤ c ∧ c < 32 + n
      · rw [decide_eq_true h2, decide_eq_true (by omega)]
      · rw [decide_eq_false h2, decide_eq_false (by omega)]
theorem outN_not {cs : List Bool} (hc : cs.length = 127) (hl : lowF cs) (nq : Bool) {n : Nat} (h95 : n = 95) : outN (cs ++ [false]) nq n = (if nq then notN cs n else cs) ++ [false] := by
  have h127 : ∀ c, 127 ≤ c → (cs ++ [false]).getD c false = false := fun c h => by
    rw [List.getD_eq_getElem?_getD]
    by_cases e : c = 127
    · subst e; rw [List.getElem?_append_right (by omega), hc]; rfl
    · rw [List.getElem?_eq_none (by rw [List.length_append, hc]; show 127 + 1 ≤ c; omega)]; rfl
  apply List.ext_getElem
  · rw [outN_len, List.length_append]; cases nq
    · show 128 = cs.length + 1; omega
    · show 128 = (notN cs n).length + 1; rw [notN_len]; omega
  intro c h1 h2
  have h1' : c < 128 := by rw [outN_len] at h1; exact h1
  have e1 : (outN (cs ++ [false]) nq n)[c] = (outN (cs ++ [false]) nq n).getD c false := by rw [List.getD_eq_getElem?_getD, List.getElem?_eq_getElem h1]; rfl
  have e2 : ((if nq then notN cs n else cs) ++ [false])[c] = ((if nq then notN cs n else cs) ++ [false]).getD c false := by rw [List.getD_eq_getElem?_getD, List.getElem?_eq_getElem h2]; rfl
  rw [e1, e2, outN_get _ _ _ _ (by omega)]
  have hn := notN_get cs hc c n (by omega)
  have hln : (notN cs n).length = 127 := by rw [notN_len, hc]
  by_cases h3 : c < 127
  · have e3 : ∀ l : List Bool, l.length = 127 → (l ++ [false]).getD c false = l.getD c false := fun l hl => by
      rw [List.getD_eq_getElem?_getD, List.getElem?_append_left (by omega), ← List.getD_eq_getElem?_getD]
    rw [e3 cs hc]
    cases nq
    · show _ = (cs ++ [false]).getD c false
      rw [e3 cs hc]
      by_cases h4 : 32 ≤ c
      · rw [decide_eq_true (by omega)]; simp
      · rw [hl c (by omega)]; simp
    · show _ = (notN cs n ++ [false]).getD c false
      rw [e3 _ hln]
      rw [hn]
      by_cases h4 : 32 ≤ c
      · rw [decide_eq_true (by omega), if_pos (by omega)]; simp
      · rw [decide_eq_false (by omega), if_neg (by omega), hl c (by omega)]; rfl
  · have e5 : c = 127 := by omega
    subst e5
    rw [decide_eq_false (by omega)]
    cases nq
    · show _ = (cs ++ [false]).getD 127 false
      rw [h127 127 (Nat.le_refl _)]; rfl
    · show _ = (notN cs n ++ [false]).getD 127 false
      have e6 : (notN cs n ++ [false]).getD 127 false = false := by rw [List.getD_eq_getElem?_getD, List.getElem?_append_right (by omega), hln]; rfl
      rw [e6]; rfl
end Go.Proofs.YtbonfcphabnlpabGreatDoor
