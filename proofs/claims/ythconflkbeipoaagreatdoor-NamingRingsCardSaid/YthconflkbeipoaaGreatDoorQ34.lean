/- What the program computes, and the plain laws of it, part 34. -/
import Derived.Test.YthconflkbeipoaaGreatDoorQ21
import Derived.Test.YthconflkbeipoaaGreatDoorQ28
namespace Go.Proofs.YthconflkbeipoaaGreatDoor
attribute [local irreducible] PL QL PWPr PCalls Weak RetK Kontr PA
open Go.RowKit
open IntWalk renaming iteOmega → iO, toNatUp → tN
set_option linter.unusedVariables false
set_option linter.unusedSimpArgs false
set_option maxRecDepth 20000
theorem valOf_at {l : List Atr} {k : Nat} {n : ByteArray} (hk : k < l.length) (hp : ∀ x ∈ l.take k, x.name ≠ n) (hn : (l.getD k default).name = n) : valOf l n = some (l.getD k default).value := by
  unfold valOf
  have h : l.find? (fun a => decide (a.name = n)) = some (l.getD k default) := by
    rw [List.find?_eq_some_iff_append]
    refine ⟨by simpa using hn, l.take k, l.drop (k + 1), ?_, fun a ha => by simpa using hp a ha⟩
    rw [getD_lt l hk, ← List.drop_eq_getElem_cons hk, List.take_append_drop]
  rw [h]
  rfl
theorem valOf_no {l : List Atr} {n : ByteArray} (h : ∀ x ∈ l, x.name ≠ n) : valOf l n = none := by
  unfold valOf
  rw [Option.map_eq_none_iff, List.find?_eq_none]
  intro x hx
  simpa using h x hx
theorem name_nx {l : List Atr} {k : Nat} {n : ByteArray} (hk : k < l.length) (hp : ∀ x ∈ l.take k, x.name ≠ n) (hn : (l.getD k default).name ≠ n) : ∀ x ∈ l.take (k + 1), x.name ≠ n := fun x hx => by
  rw [List.take_succ_eq_append_getElem hk, List.mem_append, List.mem_singleton] at hx
  rcases hx with hx | hx
  · exact hp x hx
  · rw [hx, ← getD_lt l hk]; exact hn
theorem atr_eq {a b : Atr} (h1 : a.name = b.name) (h2 : a.value = b.value) : a = b := by
  cases a; cases b
  simp only at h1 h2
  rw [h1, h2]
set_option maxHeartbeats 2000000 in
theorem sameattrs_pure (a b : List Atr) (ha : a.length ≤ 9223372036854775807) (hb : b.length ≤ 9223372036854775807) :
    PCalls Tryz.prog 16 [.c (.sl 2 (a.map Atr.d)), .c (.sl 2 (b.map Atr.d))] [] fun r os => r = .c (.v (.bool (decide (a = b)))) ∧ os = [] := by
  refine pcalls_of Tryz.func16 rfl (by simp [Tryz.ntmps16]) ?_
  rw [Tryz.ntmps16, Tryz.results16]
  push_cast [iO, tN]
  have cB : CutB 6 [] := trivial
  by_cases hl : a.length = b.length
  case neg =>
    have hn : decide (a = b) = false := decide_eq_false fun e => hl (by rw [e])
    have hl2 : ¬ (a.length : Int) = (b.length : Int) := by omega
    repeat' (first | ((first | refine pC ?_ | refine pQC ?_ | refine pU ?_); push_cast [iO, tN, hl, hl2]) | (refine pif (fun h => ?_) (fun h => ?_) <;> first | exact pN h | push_cast [iO, tN, hl, hl2]))
    (refine retK_of [] ?_; push_cast [iO, tN, hn])
  have hl2 : (a.length : Int) = (b.length : Int) := by omega
  repeat' (first | ((first | refine pC ?_ | refine pQC ?_ | refine pU ?_); push_cast [iO, tN, hl, hl2]) | (refine pif (fun h => ?_) (fun h => ?_) <;> first | exact pN h | push_cast [iO, tN, hl, hl2]))
  (apply pwp_loop3 (α := Nat) 6 [] (fun k => [(5, .c (.v (.int .i64 k)))]) (fun k => []) (fun k => k ≤ a.length ∧ a.take k = b.take k) (fun k => a.length - k) (0); (focus ((try push_cast [iO, tN]); rfl)); (focus exact ⟨Nat.zero_le _, rfl⟩); (focus ((refine weak_fg ?_; try push_cast [iO, tN]))))
  rintro k ⟨hk, hpre⟩
  push_cast [iO, tN]
  by_cases hlt : k < a.length
  · have hlt' : k < b.length := by omega
    by_cases h1 : (a.getD k default).name = (b.getD k default).name
    · by_cases h2 : (a.getD k default).value = (b.getD k default).value
      · have he := atr_eq h1 h2
        repeat' (first | ((first | refine pC ?_ | refine pQC ?_ | refine pU ?_); push_cast [iO, tN, h1, h2]) | (refine pif (fun h => ?_) (fun h => ?_) <;> first | exact pN h | push_cast [iO, tN, h1, h2]))
        refine ⟨k + 1, ⟨by omega, ?_⟩, by (refine weak_fg ?_; push_cast [iO, tN]), by omega⟩
        rw [List.take_succ_eq_append_getElem hlt, List.take_succ_eq_append_getElem hlt', hpre, ← getD_lt a hlt, ← getD_lt b hlt', he]
      · have hn : decide (a = b) = false := decide_eq_false fun e => h2 (by rw [e])
        repeat' (first | ((first | refine pC ?_ | refine pQC ?_ | refine pU ?_); push_cast [iO, tN, h1, h2]) | (refine pif (fun h => ?_) (fun h => ?_) <;> first | exact pN h | push_cast [iO, tN, h1, h2]))
        (refine retK_of [] ?_; push_cast [iO, tN, hn])
    · have hn : decide (a = b) = false := decide_eq_false fun e => h1 (by rw [e])
      repeat' (first | ((first | refine pC ?_ | refine pQC ?_ | refine pU ?_); push_cast [iO, tN, h1]) | (refine pif (fun h => ?_) (fun h => ?_) <;> first | exact pN h | push_cast [iO, tN, h1]))
      (refine retK_of [] ?_; push_cast [iO, tN, hn])
  · have hn : decide (a = b) = true := decide_eq_true (by
      have := hpre
      rwa [List.take_of_length_le (by omega), List.take_of_length_le (by omega)] at this)
    repeat' (first | ((first | refine pC ?_ | refine pQC ?_ | refine pU ?_); push_cast [iO, tN]) | (refine pif (fun h => ?_) (fun h => ?_) <;> first | exact pN h | push_cast [iO, tN]))
    (refine retK_of [] ?_; push_cast [iO, tN, hn])
set_option maxHeartbeats 1000000 in
theorem dget_pure (l : List Atr) (n : ByteArray) (hl : l.length ≤ 9223372036854775807) :
    PCalls Tryz.prog 77 [.c (.sl 2 (l.map Atr.d)), .c (.v (.string n))] [] fun r os => r = .two (.c (.v (.string ((valOf l n).getD ⟨#[]⟩)))) (.c (.v (.bool ((valOf l n).isSome)))) ∧ os = [] := by
  refine pcalls_of Tryz.func77 rfl (by simp [Tryz.ntmps77]) ?_
  rw [Tryz.ntmps77, Tryz.results77]
  push_cast [iO, tN]
  have cB : CutB 8 [8, 9, 10] := trivial
  repeat' (first | ((first | refine pC ?_ | refine pQC ?_ | refine pU ?_); push_cast [iO, tN]) | (refine pif (fun h => ?_) (fun h => ?_) <;> first | exact pN h | push_cast [iO, tN]))
  (apply pwp_loop3 (α := Nat) 8 [8, 9, 10] (fun k => [(10, .c (.v (.int .i64 k)))]) (fun k => []) (fun k => k ≤ l.length ∧ ∀ y ∈ l.take k, y.name ≠ n) (fun k => l.length - k) (0); (focus ((try push_cast [iO, tN]); rfl)); (focus exact ⟨Nat.zero_le _, by simp⟩); (focus ((refine weak_fg ?_; try push_cast [iO, tN]))))
  rintro k ⟨hk, h0⟩
  push_cast [iO, tN]
  by_cases hlt : k < l.length
  · by_cases hn : (l.getD k default).name = n
    · have hg := valOf_at hlt h0 hn
      have hn' := eq_true hn
      repeat' (first | ((first | refine pC ?_ | refine pQC ?_ | refine pU ?_); push_cast [iO, tN, hn']) | (refine pif (fun h => ?_) (fun h => ?_) <;> first | exact pN h | push_cast [iO, tN, hn']))
      (refine retK_of [] ?_; push_cast [iO, tN, hg, Option.getD_some, Option.isSome_some])
    · have h1 := name_nx hlt h0 hn
      repeat' (first | ((first | refine pC ?_ | refine pQC ?_ | refine pU ?_); push_cast [iO, tN, hn]) | (refine pif (fun h => ?_) (fun h => ?_) <;> first | exact pN h | push_cast [iO, tN, hn]))
      exact ⟨k + 1, ⟨by omega, h1⟩, by (refine weak_fg ?_; push_cast [iO, tN]), by omega⟩
  · rw [List.take_of_length_le (by omega)] at h0
    have hg := valOf_no h0
    repeat' (first | ((first | refine pC ?_ | refine pQC ?_ | refine pU ?_); push_cast [iO, tN]) | (refine pif (fun h => ?_) (fun h => ?_) <;> first | exact pN h | push_cast [iO, tN]))
    (refine retK_of [] ?_; push_cast [iO, tN, hg, Option.getD_none, Option.isSome_none])
set_option maxHeartbeats 1000000 in
theorem rget03a_pure (l : List Atr) (n : ByteArray) (hl : l.length ≤ 9223372036854775807) :
    PCalls Tryz.prog 47 [.c (.sl 2 (l.map Atr.d)), .c (.v (.string n))] [] fun r os => r = .two (.c (.v (.string ((valOf l n).getD ⟨#[]⟩)))) (.c (.v (.bool ((valOf l n).isSome)))) ∧ os = [] := by
  refine pcalls_of Tryz.func47 rfl (by simp [Tryz.ntmps47]) ?_
  rw [Tryz.ntmps47, Tryz.results47]
  push_cast [iO, tN]
  have cB : CutB 7 [] := trivial
  repeat' (first | ((first | refine pC ?_ | refine pQC ?_ | refine pU ?_); push_cast [iO, tN]) | (refine pif (fun h => ?_) (fun h => ?_) <;> first | exact pN h | push_cast [iO, tN]))
  (apply pwp_loop3 (α := Nat) 7 [] (fun k => [(6, .c (.v (.int .i64 k)))]) (fun k => []) (fun k => k ≤ l.length ∧ ∀ y ∈ l.take k, y.name ≠ n) (fun k => l.length - k) (0); (focus ((try push_cast [iO, tN]); rfl)); (focus exact ⟨Nat.zero_le _, by simp⟩); (focus ((refine weak_fg ?_; try push_cast [iO, tN]))))
  rintro k ⟨hk, h0⟩
  push_cast [iO, tN]
  by_cases hlt : k < l.length
  · by_cases hn : (l.getD k default).name = n
    · have hg := valOf_at hlt h0 hn
      have hn' := eq_true hn
      repeat' (first | ((first | refine pC ?_ | refine pQC ?_ | refine pU ?_); push_cast [iO, tN, hn']) | (refine pif (fun h => ?_) (fun h => ?_) <;> first | exact pN h | push_cast [iO, tN, hn']))
      (refine retK_of [] ?_; push_cast [iO, tN, hg, Option.getD_some, Option.isSome_some])
    · have h1 := name_nx hlt h0 hn
      repeat' (first | ((first | refine pC ?_ | refine pQC ?_ | refine pU ?_); push_cast [iO, tN, hn]) | (refine pif (fun h => ?_) (fun h => ?_) <;> first | exact pN h | push_cast [iO, tN, hn]))
      exact ⟨k + 1, ⟨by omega, h1⟩, by (refine weak_fg ?_; push_cast [iO, tN]), by omega⟩
  · rw [List.take_of_length_le (by omega)] at h0
    have hg := valOf_no h0
    repeat' (first | ((first | refine pC ?_ | refine pQC ?_ | refine pU ?_); push_cast [iO, tN]) | (refine pif (fun h => ?_) (fun h => ?_) <;> first | exact pN h | push_cast [iO, tN]))
    (refine retK_of [] ?_; push_cast [iO, tN, hg, Option.getD_none, Option.isSome_none])
set_option maxHeartbeats 1000000 in
theorem rvalue_pure (l : List Atr) (n : ByteArray) (hl : l.length ≤ 9223372036854775807) :
    PCalls Tryz.prog 51 [.c (.sl 2 (l.map Atr.d)), .c (.v (.string n))] [] fun r os => r = .two (.c (.v (.string ((valOf l n).getD ⟨#[]⟩)))) (.c (.v (.bool ((valOf l n).isSome)))) ∧ os = [] := by
  refine pcalls_of Tryz.func51 rfl (by simp [Tryz.ntmps51]) ?_
  rw [Tryz.ntmps51, Tryz.results51]
  push_cast [iO, tN]
  have cB : CutB 7 [] := trivial
  repeat' (first | ((first | refine pC ?_ | refine pQC ?_ | refine pU ?_); push_cast [iO, tN]) | (refine pif (fun h => ?_) (fun h => ?_) <;> first | exact pN h | push_cast [iO, tN]))
  (apply pwp_loop3 (α := Nat) 7 [] (fun k => [(6, .c (.v (.int .i64 k)))]) (fun k => []) (fun k => k ≤ l.length ∧ ∀ y ∈ l.take k, y.name ≠ n) (fun k => l.length - k) (0); (focus ((try push_cast [iO, tN]); rfl)); (focus exact ⟨Nat.zero_le _, by simp⟩); (focus ((refine weak_fg ?_; try push_cast [iO, tN]))))
  rintro k ⟨hk, h0⟩
  push_cast [iO, tN]
  by_cases hlt : k < l.length
  · by_cases hn : (l.getD k default).name = n
    · have hg := valOf_at hlt h0 hn
      have hn' := eq_true hn
      repeat' (first | ((first | refine pC ?_ | refine pQC ?_ | refine pU ?_); push_cast [iO, tN, hn']) | (refine pif (fun h => ?_) (fun h => ?_) <;> first | exact pN h | push_cast [iO, tN, hn']))
      (refine retK_of [] ?_; push_cast [iO, tN, hg, Option.getD_some, Option.isSome_some])
    · have h1 := name_nx hlt h0 hn
      repeat' (first | ((first | refine pC ?_ | refine pQC ?_ | refine pU ?_); push_cast [iO, tN, hn]) | (refine pif (fun h => ?_) (fun h => ?_) <;> first | exact pN h | push_cast [iO, tN, hn]))
      exact ⟨k + 1, ⟨by omega, h1⟩, by (refine weak_fg ?_; push_cast [iO, tN]), by omega⟩
  · rw [List.take_of_length_le (by omega)] at h0
    have hg := valOf_no h0
    repeat' (first | ((first | refine pC ?_ | refine pQC ?_ | refine pU ?_); push_cast [iO, tN]) | (refine pif (fun h => ?_) (fun h => ?_) <;> first | exact pN h | push_cast [iO, tN]))
    (refine retK_of [] ?_; push_cast [iO, tN, hg, Option.getD_none, Option.isSome_none])
theorem rhas_pure (l : List Atr) (s : ByteArray) (hl : l.length ≤ 9223372036854775807) :
    PCalls Tryz.prog 52 [.c (.sl 2 (l.map Atr.d)), .c (.v (.string s))] [] fun r os => r = .c (.v (.bool (inM s (vals l)))) ∧ os = [] := by
  refine pcalls_of Tryz.func52 rfl (by simp [Tryz.ntmps52]) ?_
  rw [Tryz.ntmps52, Tryz.results52]
  push_cast [iO, tN]
  have cB : CutB 6 [] := trivial
  repeat' (first | ((first | refine pC ?_ | refine pQC ?_ | refine pU ?_); push_cast [iO, tN]) | (refine pif (fun h => ?_) (fun h => ?_) <;> first | exact pN h | push_cast [iO, tN]))
  (apply pwp_loop3 (α := Nat) 6 [] (fun k => [(5, .c (.v (.int .i64 k)))]) (fun k => []) (fun k => k ≤ l.length ∧ ∀ y ∈ l.take k, y.value ≠ s) (fun k => l.length - k) (0); (focus ((try push_cast [iO, tN]); rfl)); (focus exact ⟨Nat.zero_le _, by simp⟩); (focus ((refine weak_fg ?_; try push_cast [iO, tN]))))
  rintro k ⟨hk, hpre⟩
  push_cast [iO, tN]
  by_cases hlt : k < l.length
  · by_cases hq : (l.getD k default).value = s
    · have hm : inM s (vals l) = true := inM_iff.2 (List.mem_map.2 ⟨_, by rw [getD_lt l hlt]; exact List.getElem_mem _, hq⟩)
      repeat' (first | ((first | refine pC ?_ | refine pQC ?_ | refine pU ?_); push_cast [iO, tN, hq]) | (refine pif (fun h => ?_) (fun h => ?_) <;> first | exact pN h | push_cast [iO, tN, hq]))
      (refine retK_of [] ?_; push_cast [iO, tN, hm])
    · repeat' (first | ((first | refine pC ?_ | refine pQC ?_ | refine pU ?_); push_cast [iO, tN, hq]) | (refine pif (fun h => ?_) (fun h => ?_) <;> first | exact pN h | push_cast [iO, tN, hq]))
      refine ⟨k + 1, ⟨by omega, fun x hx => ?_⟩, by (refine weak_fg ?_; push_cast [iO, tN]), by omega⟩
      rw [List.take_succ_eq_append_getElem hlt, List.mem_append, List.mem_singleton] at hx
      rcases hx with hx | hx
      · exact hpre x hx
      · rw [hx, ← getD_lt l hlt]; exact hq
  · rw [List.take_of_length_le (by omega)] at hpre
    have hm : inM s (vals l) = false := inM_false.2 fun h => by
      obtain ⟨x, hx, he⟩ := List.mem_map.1 h
      exact hpre x hx he
    repeat' (first | ((first | refine pC ?_ | refine pQC ?_ | refine pU ?_); push_cast [iO, tN]) | (refine pif (fun h => ?_) (fun h => ?_) <;> first | exact pN h | push_cast [iO, tN]))
    (refine retK_of [] ?_; push_cast [iO, tN, hm])
end Go.Proofs.YthconflkbeipoaaGreatDoor
namespace Go.Proofs.YthconflkbeipoaaGreatDoor
open Go.RowKit
open IntWalk renaming iteOmega → iO, toNatUp → tN
set_option linter.unusedVariables false
set_option linter.unusedSimpArgs false
def hasN (d : Dev) : Bool := decide (d.kind = 2) || decide (d.kind = 3)
def numsM (d : Dev) : Bool := ((decide (1 ≤ d.index) && decide (d.index ≤ 1073741824)) && (decide (0 ≤ d.parent) && decide (d.parent ≤ 1073741824))) && !decide (d.parent = d.index)
def namedM (d : Dev) : Bool := (((validS d.name && validS d.original) && validS d.subsystem) && (decide (d.driver = ⟨#[]⟩) || validS d.driver)) && textS d.alias_
def kindM (d : Dev) : Bool := if d.kind = 4 then ifaceS d.name && ifaceS d.original else (decide (1 ≤ d.kind) && decide (d.kind ≤ 3)) && decide (d.name = d.original)
def numberM (d : Dev) : Bool := if hasN d then decide (1 ≤ d.number) && decide (d.number ≤ 1073741824) else decide (d.number = 0)
def attrB (a : Atr) : Bool := (validS a.name && decide (a.value ≠ ⟨#[]⟩)) && textS a.value
def sortedM (l : List Atr) : Bool := (List.range (l.length - 1)).all fun j => bless (l.getD j default).name (l.getD (j + 1) default).name
def attrsB (l : List Atr) : Bool := sortedM l && l.all attrB
def checkM (d : Dev) : Int := if !numsM d then 32 else if !namedM d then 30 else if !kindM d then 31 else if !numberM d then 32 else if 24 < d.attrs.length then 34 else if !attrsB d.attrs then 33 else if hasN d && !linkS (nodeS d.original) then 30 else 0
def nodeM (d : Dev) : ByteArray := if hasN d then nodeS d.original else ⟨#[]⟩
theorem sorted_next {l : List Atr} {k : Nat} (h : ∀ j, j < k → bless (l.getD j default).name (l.getD (j + 1) default).name = true) (hn : bless (l.getD k default).name (l.getD (k + 1) default).name = true) : ∀ j, j < k + 1 → bless (l.getD j default).name (l.getD (j + 1) default).name = true := fun j hj => by
  by_cases e : j = k
  · rw [e]; exact hn
  · exact h j (by omega)
theorem sorted_t {l : List Atr} {k : Nat} (hk : l.length ≤ k + 1) (h : ∀ j, j < k → bless (l.getD j default).name (l.getD (j + 1) default).name = true) : sortedM l = true := List.all_eq_true.2 fun j hj => h j (by have := List.mem_range.1 hj; omega)
theorem sorted_f {l : List Atr} {k : Nat} (hk : k + 1 < l.length) (h : bless (l.getD k default).name (l.getD (k + 1) default).name = false) : sortedM l = false := List.all_eq_false.2 ⟨k, List.mem_range.2 (by omega), by rw [h]; decide⟩
theorem nodeS_fit {s : ByteArray} : (nodeS s).size = s.size := by
  have key : ∀ (k : Nat) (l : List UInt8), (Lib.replaceK [33] [47] k l).length = l.length := by
    intro k
    induction k with
    | zero => intro l; rfl
    | succ k ih =>
      intro l
      rw [Lib.replaceK]
      split
      · rfl
      · rename_i h
        have hg := Lib.index_ge l [33]
        have hl : (Lib.index l [33]).toNat < l.length := by
          have h' : Lib.index l [33] ≠ -1 := by simpa using h
          have lt : ∀ l : List UInt8, Lib.index l [33] < l.length ∨ Lib.index l [33] = -1 := by
            intro l
            induction l with
            | nil => exact .inr rfl
            | cons b l ih =>
              rw [Lib.index]
              split
              · exact .inl (by simp only [List.length_cons]; omega)
              · split
                · exact .inr rfl
                · rename_i h2
                  rcases ih with ih | ih
                  · exact .inl (by simp only [List.length_cons]; omega)
                  · rw [ih] at h2; simp at h2
          rcases lt l with h2 | h2
          · omega
          · exact absurd h2 h'
        simp only [List.length_append, List.length_take, ih, List.length_drop, List.length_cons, List.length_nil]
        omega
  show (Lib.replaceAll s.data.toList [33] [47]).length = _
  unfold Lib.replaceAll Lib.replace
  rw [if_neg (by decide), key]
  rfl
end Go.Proofs.YthconflkbeipoaaGreatDoor
