/- What the program computes, and the plain laws of it, part 30. -/
import Derived.Lib.IndexAny
import Derived.Test.YthconflkbeipoaaGreatDoorQ28
import Derived.Test.YthconflkbeipoaaGreatDoorQ29
namespace Go.Proofs.YthconflkbeipoaaGreatDoor
open Go.RowKit
open IntWalk renaming iteOmega → iO, toNatUp → tN
set_option linter.unusedVariables false
set_option linter.unusedSimpArgs false
theorem lower_pure : PCalls Tryz.prog 172 [.c (.v (.string ⟨upperT.toArray⟩))] [] fun r os => r = .c (.v (.string ⟨lowerT.toArray⟩)) ∧ os = [] :=
  pcalls_plain [.string ⟨upperT.toArray⟩] _ rfl fun w _ => (strings_ToLower_ascii ⟨upperT.toArray⟩ w (by decide) (fun j b hb => by
    have : ∀ b ∈ upperT, b.toNat < 128 := by decide
    exact this b (List.mem_of_getElem? hb))).mono fun e w' ⟨he, hw⟩ => by
    rw [he]
    exact ⟨by congr, hw⟩
theorem idxb_pure (s : ByteArray) (c : Int) : PCalls Tryz.prog 165 [.c (.v (.string s)), .c (.v (.int .u8 c))] [] fun r os => r = .c (.v (.int .i64 (Lib.indexByte s.data.toList c.toNat.toUInt8))) ∧ os = [] :=
  pcalls_plain [.string s, .int .u8 c] _ rfl fun w _ => (strings_IndexByte s c w).mono fun e w' ⟨he, hw⟩ => by rw [he, hw]; exact ⟨rfl, Below.refl _ _⟩
theorem cmpB_eq (a b : ByteArray) : Lib.compareBytes a.data.toList b.data.toList = cmpS a b := by
  have h1 := compare_lt a.data.toList b.data.toList
  have h2 := compare_eq a.data.toList b.data.toList
  have h3 : ∀ x y : List UInt8, Lib.compareBytes x y = -1 ∨ Lib.compareBytes x y = 0 ∨ Lib.compareBytes x y = 1 := by
    intro x
    induction x with
    | nil => intro y; cases y <;> simp [Lib.compareBytes]
    | cons a x ih =>
      intro y
      cases y with
      | nil => simp [Lib.compareBytes]
      | cons b y => rw [Lib.compareBytes]; split; simp; split; simp; exact ih y
  have h4 := h3 a.data.toList b.data.toList
  have hb : Op.bytesLess a.data.toList b.data.toList = bless a b := by unfold bless; rw [Lib.toList_data, Lib.toList_data]
  rw [hb] at h1
  unfold cmpS
  by_cases e1 : bless a b = true
  · rw [if_pos e1]; have := h1.2 e1; omega
  · rw [if_neg e1]
    by_cases e2 : bless b a = true
    · rw [if_pos e2]
      have hn : ¬ Lib.compareBytes a.data.toList b.data.toList = 0 := fun h => by
        have he := h2.1 h
        have : a = b := by cases a; cases b; simp only at he; congr; exact Array.toList_inj.1 he
        exact bless_ne e2 this.symm
      have : ¬ Lib.compareBytes a.data.toList b.data.toList < 0 := fun h => e1 (h1.1 h)
      omega
    · rw [if_neg e2]
      have : a = b := bless_total (by simpa using e1) (by simpa using e2)
      rw [h2, this]
theorem scmp_pure (a b : ByteArray) : PCalls Tryz.prog 122 [.c (.v (.string a)), .c (.v (.string b))] [] fun r os => r = .c (.v (.int .i64 (cmpS a b))) ∧ os = [] :=
  pcalls_plain [.string a, .string b] _ rfl fun w _ => (strings_Compare a b w).mono fun e w' ⟨he, hw⟩ => by rw [he, hw, cmpB_eq]; exact ⟨rfl, Below.refl _ _⟩
theorem repl_pure (s : ByteArray) (hs : s.size < 4294967281) : PCalls Tryz.prog 134 [.c (.v (.string s)), .c (.v (.string ⟨#[33]⟩)), .c (.v (.string ⟨#[47]⟩))] [] fun r os => r = .c (.v (.string (nodeS s))) ∧ os = [] :=
  pcalls_plain [.string s, .string ⟨#[33]⟩, .string ⟨#[47]⟩] _ rfl fun w hp => by
    obtain ⟨m, hm⟩ := hp
    refine (strings_ReplaceAll s ⟨#[33]⟩ ⟨#[47]⟩ m w hs hm (by decide) (by
      have h := Lib.countB_le ⟨#[33]⟩ (by decide) _ s (Nat.le_refl _)
      show _ + _ * 1 ≤ _
      omega)).mono fun e w' ⟨he, hw⟩ => ?_
    exact ⟨he, hw⟩
theorem lcontains_one (c : UInt8) : ∀ l : List UInt8, Lib.contains l [c] = l.contains c := by
  have key : ∀ l : List UInt8, Lib.index l [c] = Lib.indexByte l c := by
    intro l
    induction l with
    | nil => rfl
    | cons b l ih =>
      rw [Lib.index, Lib.indexByte, ih]
      by_cases h : b = c
      · subst h; simp
      · simp [h, Ne.symm h]
  intro l
  rw [Lib.contains, key, Lib.contains_iff_indexByte]
theorem contains_pure (s : ByteArray) (c : UInt8) (hs : s.size < 4294967281) : PCalls Tryz.prog 96 [.c (.v (.string s)), .c (.v (.string ⟨#[c]⟩))] [] fun r os => r = .c (.v (.bool (s.data.toList.contains c))) ∧ os = [] :=
  pcalls_plain [.string s, .string ⟨#[c]⟩] _ rfl fun w hp => by
    obtain ⟨m, hm⟩ := hp
    refine (strings_Contains s ⟨#[c]⟩ m w hs hm).mono fun e w' ⟨he, hw⟩ => ?_
    rw [he, hw]
    exact ⟨by rw [show (⟨#[c]⟩ : ByteArray).data.toList = [c] from rfl, lcontains_one], Below.refl _ _⟩
theorem texts_rows (w : World) (I : Nat → Prop) : ∀ l : List ByteArray, All2 (RD w I) (l.map strD).flatten (l.map Value.string)
  | [] => trivial
  | a :: l => ⟨by rw [RD]; exact ⟨rfl, rfl⟩, texts_rows w I l⟩
theorem split_pure (s : ByteArray) (hs : s.size < 4294967281) : PCalls Tryz.prog 115 [.c (.v (.string s)), .c (.v (.string ⟨#[47]⟩))] [] fun r os => r = .c (.own 0 (parts s).length) ∧ os = [.arr 9 1 ((parts s).map strD)] := by
  have h := pcalls_row (P := Tryz.prog) (g := 115) [.string s, .string ⟨#[47]⟩] 9 ((parts s).map strD) ((parts s).map Value.string) 1 (by omega) (fun r hr => by obtain ⟨z, _, rfl⟩ := List.mem_map.1 hr; rfl) (by rw [List.length_map]; exact parts_ne s) (fun w I => texts_rows w I _)
    (fun w hp => by
      obtain ⟨m, hm⟩ := hp
      refine (strings_Split s ⟨#[47]⟩ m w hs hm (by decide)).mono fun e w' ⟨he, hw⟩ => ?_
      have hlen : Lib.countB s ⟨#[47]⟩ + 1 = (parts s).length := by rw [← splitB_parts, Lib.splitB_all _ (by decide) 0 _ s rfl]
      rw [splitB_parts] at hw
      rw [hlen] at he
      refine ⟨_, he, ?_, by rw [hw]; exact (Below.refl _ _).alloc (Nat.le_refl _) _⟩
      rw [hw, List.length_map]
      have := own_blk (base := w.heap.size) (n := (parts s).length) (cap := (parts s).length) (size := 1) (Blk.new w 9 ((parts s).map Value.string).toArray) (Nat.le_refl _) (by simp) (Nat.le_refl _) (by have := parts_size (s := s); unfold maxLen; omega)
      rwa [List.toList_toArray, List.take_of_length_le (by simp)] at this)
  simpa using h
end Go.Proofs.YthconflkbeipoaaGreatDoor
namespace Go.Proofs.YthconflkbeipoaaGreatDoor
attribute [local irreducible] PL QL PWPr PCalls Weak RetK Kontr PA
open Go.RowKit
open IntWalk renaming iteOmega → iO, toNatUp → tN
set_option linter.unusedVariables false
set_option linter.unusedSimpArgs false
set_option maxRecDepth 20000
abbrev boolE (b : Bool) : E := .v (.bool b)
theorem all_repl (m n : Nat) (x : Value) : (List.replicate m (E.v x)).all (keyOk n) = true := List.all_eq_true.2 fun e he => by rw [List.eq_of_mem_replicate he]; rfl
theorem all_bools (cs : List Bool) (n : Nat) : (cs.map boolE).all (keyOk n) = true := List.all_eq_true.2 fun e he => by obtain ⟨b, _, rfl⟩ := List.mem_map.1 he; rfl
theorem plusL_nil (cs : List Bool) : plusL cs [] = cs := rfl
theorem seeEs_repl (v : Bool) (os : List Ob) (ks : List Nat) (m : Nat) (x : Value) : seeEs v os ks (List.replicate m (E.v x)) = some (List.replicate m (E.v x)) := by
  have := seeEs_mapv v os ks (fun _ : Unit => x) (List.replicate m ())
  simpa only [List.map_replicate] using this
attribute [push_cast] seeEs_repl all_repl all_bools plusL_nil List.drop_replicate Nat.sub_self List.replicate_zero List.append_nil
theorem drop_bools (cs : List Bool) (i : Nat) (hi : i < cs.length) : (cs.map boolE).drop i = .v (.bool (cs.getD i false)) :: (cs.map boolE).drop (i + 1) := by
  have h : i < (cs.map boolE).length := by rw [List.length_map]; exact hi
  rw [List.drop_eq_getElem_cons h, List.getElem_map, List.getD_eq_getElem?_getD, List.getElem?_eq_getElem hi]; rfl
theorem plusL_take {cs : List Bool} {t : List UInt8} {k : Nat} (hk : k < t.length) : plusL cs (t.take (k + 1)) = (plusL cs (t.take k)).set (t.getD k 0).toNat true := by
  rw [List.take_succ_eq_append_getElem hk, plusL_snoc, List.getD_eq_getElem?_getD, List.getElem?_eq_getElem hk]; rfl
set_option maxRecDepth 20000 in
set_option maxHeartbeats 1000000 in
theorem plus_pure (cs : List Bool) (t : ByteArray) (hc : cs.length = 256) (ht : t.size ≤ 1000000) :
    PCalls Tryz.prog 149 [.agg (cs.map boolE), .c (.v (.string t))] [] fun r os => r = .agg ((plusL cs t.data.toList).map boolE) ∧ os = [] := by
  refine pcalls_of Tryz.func149 rfl (by simp [Tryz.ntmps149]) ?_
  rw [Tryz.ntmps149, Tryz.results149]
  push_cast [iO, tN]
  have cB : CutB 9 [] := trivial
  repeat' (first | ((first | refine pC ?_ | refine pQC ?_ | refine pU ?_); push_cast [iO, tN]) | (refine pif (fun h => ?_) (fun h => ?_) <;> first | exact pN h | push_cast [iO, tN]))
  (apply pwp_loop3 (α := Nat) 9 [] (fun k => [(8, .c (.v (.int .i64 k)))]) (fun k => [(0, .box 167 ((plusL cs (t.data.toList.take k)).map boolE))]) (fun k => k ≤ t.size) (fun k => t.size - k) (0); (focus ((try push_cast [iO, tN]); rfl)); (focus exact (by omega)); (focus ((refine weak_fg ?_; try push_cast [iO, tN]))))
  intro k hk
  push_cast [iO, tN]
  have hlen : (plusL cs (t.data.toList.take k)).length = 256 := by rw [plusL_len, hc]
  by_cases hlt : k < t.size
  · have hs := plusL_take (cs := cs) (t := t.data.toList) (k := k) hlt
    have hb := (t.data.toList.getD k 0).toNat_lt
    repeat' (first | ((first | refine pC ?_ | refine pQC ?_ | refine pU ?_); push_cast [iO, tN, hlen]) | (refine pif (fun h => ?_) (fun h => ?_) <;> first | exact pN h | push_cast [iO, tN, hlen]))
    have hs2 : (List.map boolE (plusL cs (t.data.toList.take k))).set (t.data.toList.getD k 0).toNat (.v (.bool true)) = (plusL cs (t.data.toList.take (k + 1))).map boolE := by rw [hs, List.map_set]
    exact ⟨k + 1, by omega, by (refine weak_fg ?_; push_cast [iO, tN, hs2]), by omega⟩
  · have hk2 : k = t.size := by omega
    subst hk2
    have he : t.data.toList.take t.size = t.data.toList := List.take_of_length_le (Nat.le_refl _)
    rw [he] at hlen ⊢
    repeat' (first | ((first | refine pC ?_ | refine pQC ?_ | refine pU ?_); push_cast [iO, tN, hlen]) | (refine pif (fun h => ?_) (fun h => ?_) <;> first | exact pN h | push_cast [iO, tN, hlen]))
    (refine retK_of [] ?_; push_cast [iO, tN, hlen])
set_option maxRecDepth 20000 in
set_option maxHeartbeats 1000000 in
theorem has_pure (cs : List Bool) (t : ByteArray) (hc : cs.length = 256) (ht : t.size ≤ 1000000) :
    PCalls Tryz.prog 142 [.agg (cs.map boolE), .c (.v (.string t))] [] fun r os => r = .c (.v (.bool (hasL cs t))) ∧ os = [] := by
  refine pcalls_of Tryz.func142 rfl (by simp [Tryz.ntmps142]) ?_
  rw [Tryz.ntmps142, Tryz.results142]
  push_cast [iO, tN]
  have cB : CutB 9 [] := trivial
  repeat' (first | ((first | refine pC ?_ | refine pQC ?_ | refine pU ?_); push_cast [iO, tN]) | (refine pif (fun h => ?_) (fun h => ?_) <;> first | exact pN h | push_cast [iO, tN]))
  (apply pwp_loop3 (α := Nat) 9 [] (fun k => [(8, .c (.v (.int .i64 k)))]) (fun k => []) (fun k => k ≤ t.size ∧ (t.data.toList.take k).all (fun b => cs.getD b.toNat false) = true) (fun k => t.size - k) (0); (focus ((try push_cast [iO, tN]); rfl)); (focus exact ⟨by omega, rfl⟩); (focus ((refine weak_fg ?_; try push_cast [iO, tN]))))
  rintro k ⟨hk, ha⟩
  push_cast [iO, tN]
  by_cases hlt : k < t.size
  · have hb := (t.data.toList.getD k 0).toNat_lt
    have hst : (t.data.toList.take (k + 1)).all (fun b => cs.getD b.toNat false) = cs.getD (t.data.toList.getD k 0).toNat false := by
      have hk2 : k < t.data.toList.length := hlt
      rw [List.take_succ_eq_append_getElem hk2, List.all_append, ha, List.getD_eq_getElem?_getD, List.getD_eq_getElem?_getD (l := t.data.toList), List.getElem?_eq_getElem hk2]; simp
    have hd := drop_bools cs (t.data.toList.getD k 0).toNat (by omega)
    cases hv : cs.getD (t.data.toList.getD k 0).toNat false
    · rw [hv] at hd
      repeat' (first | ((first | refine pC ?_ | refine pQC ?_ | refine pU ?_); push_cast [iO, tN, hc, hd]) | (refine pif (fun h => ?_) (fun h => ?_) <;> first | exact pN h | push_cast [iO, tN, hc, hd]))
      (refine retK_of [] ?_; push_cast [iO, tN])
      rw [hasL, List.all_eq_false.2]
      refine ⟨t.data.toList.getD k 0, ?_, by rw [hv]; decide⟩
      have hk2 : k < t.data.toList.length := hlt
      rw [List.getD_eq_getElem?_getD, List.getElem?_eq_getElem hk2]
      exact List.getElem_mem _
    · rw [hv] at hd
      repeat' (first | ((first | refine pC ?_ | refine pQC ?_ | refine pU ?_); push_cast [iO, tN, hc, hd]) | (refine pif (fun h => ?_) (fun h => ?_) <;> first | exact pN h | push_cast [iO, tN, hc, hd]))
      exact ⟨k + 1, ⟨by omega, by rw [hst, hv]⟩, by (refine weak_fg ?_; push_cast [iO, tN]), by omega⟩
  · have hk2 : k = t.size := by omega
    subst hk2
    have he : t.data.toList.take t.size = t.data.toList := List.take_of_length_le (Nat.le_refl _)
    rw [he] at ha
    repeat' (first | ((first | refine pC ?_ | refine pQC ?_ | refine pU ?_); push_cast [iO, tN]) | (refine pif (fun h => ?_) (fun h => ?_) <;> first | exact pN h | push_cast [iO, tN]))
    (refine retK_of [] ?_; push_cast [iO, tN])
    rw [hasL, ha]
theorem none_rep : noneL.map boolE = List.replicate 256 (E.v (.bool false)) := List.map_replicate
set_option maxRecDepth 20000 in
set_option maxHeartbeats 1000000 in
theorem common_pure : PCalls Tryz.prog 148 [] [] fun r os => r = .agg (commonL.map boolE) ∧ os = [] := by
  have h1 := plus_pure noneL ⟨#[65, 66, 67, 68, 69, 70, 71, 72, 73, 74, 75, 76, 77, 78, 79, 80, 81, 82, 83, 84, 85, 86, 87, 88, 89, 90]⟩ noneL_len (by decide)
  have h2 := plus_pure (plusL noneL upperT) ⟨#[97, 98, 99, 100, 101, 102, 103, 104, 105, 106, 107, 108, 109, 110, 111, 112, 113, 114, 115, 116, 117, 118, 119, 120, 121, 122]⟩ (by rw [plusL_len, noneL_len]) (by decide)
  have h3 := plus_pure (plusL (plusL noneL upperT) lowerT) ⟨#[48, 49, 50, 51, 52, 53, 54, 55, 56, 57]⟩ (by rw [plusL_len, plusL_len, noneL_len]) (by decide)
  have h4 := plus_pure (plusL (plusL (plusL noneL upperT) lowerT) digitT) ⟨#[95, 46, 58, 43, 45]⟩ (by rw [plusL_len, plusL_len, plusL_len, noneL_len]) (by decide)
  have hl := lower_pure
  rw [none_rep] at h1
  simp only [List.toList_toArray] at h1 h2 h3 h4
  change PCalls _ _ _ _ fun r os => r = .agg ((plusL noneL upperT).map boolE) ∧ os = [] at h1
  change PCalls _ _ _ _ fun r os => r = .agg ((plusL (plusL noneL upperT) lowerT).map boolE) ∧ os = [] at h2
  change PCalls _ _ _ _ fun r os => r = .agg ((plusL (plusL (plusL noneL upperT) lowerT) digitT).map boolE) ∧ os = [] at h3
  change PCalls _ _ _ _ fun r os => r = .agg (commonL.map boolE) ∧ os = [] at h4
  change PCalls Tryz.prog 172 [.c (.v (.string (⟨#[65, 66, 67, 68, 69, 70, 71, 72, 73, 74, 75, 76, 77, 78, 79, 80, 81, 82, 83, 84, 85, 86, 87, 88, 89, 90]⟩)))] [] fun r os => r = .c (.v (.string (⟨#[97, 98, 99, 100, 101, 102, 103, 104, 105, 106, 107, 108, 109, 110, 111, 112, 113, 114, 115, 116, 117, 118, 119, 120, 121, 122]⟩))) ∧ os = [] at hl
  have hcl := commonL_len
  generalize plusL noneL upperT = s1 at h1 h2 h3 h4
  generalize plusL s1 lowerT = s2 at h2 h3 h4
  generalize plusL s2 digitT = s3 at h3 h4
  refine pcalls_of Tryz.func148 rfl (by simp [Tryz.ntmps148]) ?_
  rw [Tryz.ntmps148, Tryz.results148]
  push_cast [iO, tN]
  have cB : CutB 1 [] := trivial
  repeat' (first |  (refine plc [] (h1) ?_ ?_; push_cast [iO, tN]; rintro r os ⟨rfl, rfl⟩; push_cast [iO, tN]) | (refine plc [] (hl) ?_ ?_; push_cast [iO, tN]; rintro r os ⟨rfl, rfl⟩; push_cast [iO, tN]) | (refine plc [] (h2) ?_ ?_; push_cast [iO, tN]; rintro r os ⟨rfl, rfl⟩; push_cast [iO, tN]) | (refine plc [] (h3) ?_ ?_; push_cast [iO, tN]; rintro r os ⟨rfl, rfl⟩; push_cast [iO, tN]) | (refine plc [] (h4) ?_ ?_; push_cast [iO, tN]; rintro r os ⟨rfl, rfl⟩; push_cast [iO, tN])  | ((first | refine pC ?_ | refine pQC ?_ | refine pU ?_); push_cast [iO, tN]) | (refine pif (fun h => ?_) (fun h => ?_) <;> first | exact pN h | push_cast [iO, tN]))
  (refine retK_of [] ?_; push_cast [iO, tN, hcl])
theorem dots_pure (s : ByteArray) : PCalls Tryz.prog 141 [.c (.v (.string s))] [] fun r os => r = .c (.v (.bool (dotsS s))) ∧ os = [] := by
  refine pcalls_of Tryz.func141 rfl (by simp [Tryz.ntmps141]) ?_
  rw [Tryz.ntmps141, Tryz.results141]
  unfold dotsS
  by_cases h1 : s = ⟨#[46]⟩
  · have e1 := eq_true h1
    push_cast [iO, tN]
    repeat' (first | ((first | refine pG ?_ | refine pQ ?_ | refine pU ?_); push_cast [iO, tN, e1]) | (refine pif (fun h => ?_) (fun h => ?_) <;> first | exact pN h | push_cast [iO, tN, e1]))
    (refine retK_of [] ?_; push_cast [iO, tN])
  · by_cases h2 : s = ⟨#[46, 46]⟩
    · have e2 := eq_true h2
      push_cast [iO, tN]
      repeat' (first | ((first | refine pG ?_ | refine pQ ?_ | refine pU ?_); push_cast [iO, tN, h1, e2]) | (refine pif (fun h => ?_) (fun h => ?_) <;> first | exact pN h | push_cast [iO, tN, h1, e2]))
      (refine retK_of [] ?_; push_cast [iO, tN])
    · push_cast [iO, tN]
      repeat' (first | ((first | refine pG ?_ | refine pQ ?_ | refine pU ?_); push_cast [iO, tN, h1, h2]) | (refine pif (fun h => ?_) (fun h => ?_) <;> first | exact pN h | push_cast [iO, tN, h1, h2]))
      (refine retK_of [] ?_; push_cast [iO, tN])
set_option maxRecDepth 20000 in
set_option maxHeartbeats 1000000 in
theorem valid_pure (s : ByteArray) (hs : s.size ≤ 9223372036854775807) : PCalls Tryz.prog 117 [.c (.v (.string s))] [] fun r os => r = .c (.v (.bool (validS s))) ∧ os = [] := by
  have hp := plus_pure commonL ⟨#[33]⟩ commonL_len (by decide)
  simp only [List.toList_toArray] at hp
  have hd := dots_pure s
  have hv : validS s = (((decide (s ≠ ⟨#[]⟩) && decide (s.size ≤ 32)) && !dotsS s) && hasL (plusL commonL [33]) s) := by rw [has_name, validS]
  have hl : (plusL commonL [33]).length = 256 := by rw [plusL_len, commonL_len]
  rw [hv]
  generalize plusL commonL [33] = cs at hp hl ⊢
  refine pcalls_of Tryz.func117 rfl (by simp [Tryz.ntmps117]) ?_
  rw [Tryz.ntmps117, Tryz.results117]
  by_cases h1 : s = ⟨#[]⟩
  · have e1 := eq_true h1
    push_cast [iO, tN]
    repeat' (first | ((first | refine pG ?_ | refine pQ ?_ | refine pU ?_); push_cast [iO, tN, e1, ne_eq, not_true_eq_false]) | (refine pif (fun h => ?_) (fun h => ?_) <;> first | exact pN h | push_cast [iO, tN, e1, ne_eq, not_true_eq_false]))
    (refine retK_of [] ?_; push_cast [iO, tN])
  · by_cases h2 : s.size ≤ 32
    · have h2' : (s.size : Int) ≤ 32 := by omega
      obtain ⟨b, hb⟩ : ∃ b, dotsS s = b := ⟨_, rfl⟩
      rw [hb] at hd ⊢
      have hh := has_pure cs s hl (by omega)
      obtain ⟨c, hc⟩ : ∃ c, hasL cs s = c := ⟨_, rfl⟩
      rw [hc] at hh ⊢
      cases b
      all_goals push_cast [iO, tN]
      all_goals repeat' (first | (refine plc [] (hd) ?_ ?_; push_cast [iO, tN, h1, h2', ne_eq, not_false_eq_true]; rintro r os ⟨rfl, rfl⟩; push_cast [iO, tN, h1, h2', ne_eq, not_false_eq_true]) | (refine plc [] (common_pure) ?_ ?_; push_cast [iO, tN, h1, h2', ne_eq, not_false_eq_true]; rintro r os ⟨rfl, rfl⟩; push_cast [iO, tN, h1, h2', ne_eq, not_false_eq_true]) | (refine plc [] (hp) ?_ ?_; push_cast [iO, tN, h1, h2', ne_eq, not_false_eq_true]; rintro r os ⟨rfl, rfl⟩; push_cast [iO, tN, h1, h2', ne_eq, not_false_eq_true]) | (refine plc [] (hh) ?_ ?_; push_cast [iO, tN, h1, h2', ne_eq, not_false_eq_true]; rintro r os ⟨rfl, rfl⟩; push_cast [iO, tN, h1, h2', ne_eq, not_false_eq_true]) | ((first | refine pG ?_ | refine pQ ?_ | refine pU ?_); push_cast [iO, tN, h1, h2', ne_eq, not_false_eq_true]) | (refine pif (fun h => ?_) (fun h => ?_) <;> first | exact pN h | push_cast [iO, tN, h1, h2', ne_eq, not_false_eq_true]))
      all_goals (refine retK_of [] ?_; push_cast [iO, tN])
      all_goals simp [h1, h2]
    · have h2' : ¬ (s.size : Int) ≤ 32 := by omega
      push_cast [iO, tN]
      repeat' (first | ((first | refine pG ?_ | refine pQ ?_ | refine pU ?_); push_cast [iO, tN, h1, h2', ne_eq, not_false_eq_true]) | (refine pif (fun h => ?_) (fun h => ?_) <;> first | exact pN h | push_cast [iO, tN, h1, h2', ne_eq, not_false_eq_true]))
      (refine retK_of [] ?_; push_cast [iO, tN])
      simp [h2]
end Go.Proofs.YthconflkbeipoaaGreatDoor
namespace Go.Proofs.YthconflkbeipoaaGreatDoor
open Go.RowKit
open IntWalk renaming iteOmega → iO, toNatUp → tN
set_option linter.unusedVariables false
set_option linter.unusedSimpArgs false
theorem rest_trim (s : ByteArray) : (⟨(Lib.trimPrefix s.data.toList [47]).toArray⟩ : ByteArray) = restS s := by
  unfold restS slashS Lib.trimPrefix
  split
  · have e := Lib.extract_to_end s 1
    generalize s.extract 1 s.size = t at e
    cases t
    simp only at e
    congr
    rw [show ([47] : List UInt8).length = 1 from rfl, ← e]
  · rfl
theorem cutp_pure (s : ByteArray) : PCalls Tryz.prog 114 [.c (.v (.string s)), .c (.v (.string ⟨#[47]⟩))] [] fun r os => r = .two (.c (.v (.string (restS s)))) (.c (.v (.bool (slashS s)))) ∧ os = [] :=
  pcalls_plain2 [.string s, .string ⟨#[47]⟩] _ _ rfl rfl fun w _ => (strings_CutPrefix s ⟨#[47]⟩ w).mono fun e w' ⟨he, hw⟩ => by
    rw [he, hw]
    refine ⟨?_, Below.refl _ _⟩
    show Ending.returned (.tuple #[.string ⟨(Lib.trimPrefix s.data.toList [47]).toArray⟩, .bool (Lib.hasPrefix s.data.toList [47])]) = _
    rw [rest_trim]; rfl
end Go.Proofs.YthconflkbeipoaaGreatDoor
namespace Go.Proofs.YthconflkbeipoaaGreatDoor
attribute [local irreducible] PL QL PWPr PCalls Weak RetK Kontr PA
open Go.RowKit
open IntWalk renaming iteOmega → iO, toNatUp → tN
set_option linter.unusedVariables false
set_option linter.unusedSimpArgs false
set_option maxRecDepth 20000
def PredS (P : Program) (g : FuncId) (ks : List Nat) (os : List Ob) (l : List ByteArray) (q : ByteArray → Bool) : Prop := bodyOk P g = true ∧ ∀ x ∈ l, PCalls P g (.c (.v (.string x)) :: ks.map fun k => .c (.ptr k 0)) os fun r os' => r = .c (.v (.bool (q x))) ∧ os' = os
def idxS (q : ByteArray → Bool) (l : List ByteArray) (k : Int) : Prop := (k = -1 ∧ ∀ x ∈ l, q x = false) ∨ ∃ i : Nat, k = i ∧ i < l.length ∧ q (l.getD i default) = true ∧ ∀ x ∈ l.take i, q x = false
theorem allSomeS : ∀ ks : List Nat, allSome (ks.map fun k => some (PV.c (.ptr k 0))) (ks.map fun k => PV.c (.ptr k 0))
  | [] => trivial
  | k :: ks => ⟨leP_refl _, allSomeS ks⟩
theorem indexFuncS_pure (l : List ByteArray) (hl : l.length ≤ 1000000000) (g : FuncId) (ks : List Nat) (os : List Ob) (q : ByteArray → Bool) (hp : PredS Tryz.prog g ks os l q) :
    PCalls Tryz.prog 171 [.c (.sl 1 (l.map strD)), .c (.fn (.func g) [] ks)] os fun r os' => ∃ k, idxS q l k ∧ r = .c (.v (.int .i64 k)) ∧ os' = os := by
  refine pcalls_of_all Tryz.func171 rfl (by simp [Tryz.ntmps171]) ?_
  rw [Tryz.ntmps171, Tryz.results171]
  push_cast [iO, tN]
  repeat' (first | ((first | refine pG ?_ | refine pQ ?_ | refine pU ?_); push_cast [iO, tN]) | (refine pif (fun h => ?_) (fun h => ?_) <;> first | exact pN h | push_cast [iO, tN]))
  refine pwp_loop2 (α := Nat) (fun k => k ≤ l.length ∧ ∀ x ∈ l.take k, q x = false) (fun k => ⟨[(8, .c (.v (.int .i64 k))), (7, .c (.v (.int .i64 l.length))), (6, .c (.sl 1 (l.map strD))), (0, .c (.sl 1 (l.map strD))), (1, .c (.fn (.func g) [] ks))], os⟩) (fun k => l.length - k) 0 ⟨by omega, by simp⟩ (weak_slots (by push_cast [iO, tN]) rfl) ?_
  rintro k ⟨hk, hpre⟩
  by_cases hlt : k < l.length
  · have hm : l.getD k default ∈ l := by rw [getD_lt l hlt]; exact List.getElem_mem _
    have hc := hp.2 _ hm
    have hpre2 : q (l.getD k default) = false → ∀ x ∈ l.take (k + 1), q x = false := fun h x hx => by
      rw [List.take_succ_eq_append_getElem hlt] at hx
      rcases List.mem_append.1 hx with hx | hx
      · exact hpre x hx
      · simp at hx; subst hx; rw [← getD_lt l hlt]; exact h
    cases hq : q (l.getD k default)
    all_goals rw [hq] at hc
    all_goals repeat' (first |  (refine pl_call_all rfl (by push_cast [iO, tN]) rfl hp.1 (by push_cast [iO, tN]) ?_ hc ?_; (focus (unfold callArgs; push_cast [iO, tN]; exact allSomeS ks)); rintro r os ⟨rfl, rfl⟩; refine pl_of_pops ?_; push_cast [iO, tN])  | ((first | refine pG ?_ | refine pQ ?_ | refine pU ?_); push_cast [iO, tN]) | (refine pif (fun h => ?_) (fun h => ?_) <;> first | exact pN h | push_cast [iO, tN]))
    · exact ⟨k + 1, ⟨by omega, hpre2 hq⟩, weak_slots (by push_cast [iO, tN]) rfl, by omega⟩
    · exact ⟨_, rfl, by push_cast [iO, tN], k, .inr ⟨k, rfl, hlt, hq, hpre⟩, rfl, rfl⟩
  · rw [List.take_of_length_le (by omega)] at hpre
    repeat' (first | ((first | refine pG ?_ | refine pQ ?_ | refine pU ?_); push_cast [iO, tN]) | (refine pif (fun h => ?_) (fun h => ?_) <;> first | exact pN h | push_cast [iO, tN]))
    exact ⟨_, rfl, by push_cast [iO, tN], -1, .inl ⟨rfl, hpre⟩, rfl, rfl⟩
theorem containsFuncS_pure (l : List ByteArray) (hl : l.length ≤ 1000000000) (g : FuncId) (ks : List Nat) (os : List Ob) (q : ByteArray → Bool) (hp : PredS Tryz.prog g ks os l q) :
    PCalls Tryz.prog 146 [.c (.sl 1 (l.map strD)), .c (.fn (.func g) [] ks)] os fun r os' => r = .c (.v (.bool (l.any q))) ∧ os' = os := by
  refine pcalls_of_all Tryz.func146 rfl (by simp [Tryz.ntmps146]) ?_
  rw [Tryz.ntmps146, Tryz.results146]
  push_cast [iO, tN]
  repeat' (first |  (refine pl_call_all rfl (by push_cast [iO, tN]) rfl (by kernel_rfl) (by push_cast [iO, tN]) ?_ (indexFuncS_pure l hl g ks os q hp) ?_; (focus (unfold callArgs; push_cast [iO, tN])); rintro r os ⟨k, hk, rfl, rfl⟩; refine pl_of_pops ?_; push_cast [iO, tN])  | ((first | refine pG ?_ | refine pQ ?_ | refine pU ?_); push_cast [iO, tN]) | (refine pif (fun h => ?_) (fun h => ?_) <;> first | exact pN h | push_cast [iO, tN]))
  refine ⟨_, rfl, by push_cast [iO, tN], ?_, rfl⟩
  rcases hk with ⟨rfl, h⟩ | ⟨i, rfl, hi, hq, _⟩
  · have : l.any q = false := by rw [List.any_eq_false]; intro x hx; simp [h x hx]
    rw [this]; rfl
  · have : l.any q = true := List.any_eq_true.2 ⟨l.getD i default, by rw [getD_lt l hi]; exact List.getElem_mem _, hq⟩
    rw [this]; simp
end Go.Proofs.YthconflkbeipoaaGreatDoor
