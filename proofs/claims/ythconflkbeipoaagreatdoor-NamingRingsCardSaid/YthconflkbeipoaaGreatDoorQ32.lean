/- What the program computes, and the plain laws of it, part 32. -/
import Derived.Test.YthconflkbeipoaaGreatDoorQ21
import Derived.Test.YthconflkbeipoaaGreatDoorQ31
namespace Go.Proofs.YthconflkbeipoaaGreatDoor
attribute [local irreducible] PL QL PWPr PCalls Weak RetK Kontr PA
open Go.RowKit
open IntWalk renaming iteOmega → iO, toNatUp → tN
set_option linter.unusedVariables false
set_option linter.unusedSimpArgs false
set_option maxRecDepth 20000
set_option maxHeartbeats 1000000 in
theorem iface_pure (s : ByteArray) (hs : s.size ≤ 9223372036854775807) : PCalls Tryz.prog 67 [.c (.v (.string s))] [] fun r os => r = .c (.v (.bool (ifaceS s))) ∧ os = [] := by
  have hv := valid_pure s hs
  have hz := valid_size (s := s)
  have ha := valid_ascii (s := s)
  unfold ifaceS
  obtain ⟨b, hb⟩ : ∃ b, validS s = b := ⟨_, rfl⟩
  rw [hb] at hv hz ha ⊢
  refine pcalls_of Tryz.func67 rfl (by simp [Tryz.ntmps67]) ?_
  rw [Tryz.ntmps67, Tryz.results67]
  cases b
  · push_cast [iO, tN]
    repeat' (first |  (refine plc [] (hv) ?_ ?_; push_cast [iO, tN]; rintro r os ⟨rfl, rfl⟩; push_cast [iO, tN])  | ((first | refine pG ?_ | refine pQ ?_ | refine pU ?_); push_cast [iO, tN]) | (refine pif (fun h => ?_) (fun h => ?_) <;> first | exact pN h | push_cast [iO, tN]))
    (refine retK_of [] ?_; push_cast [iO, tN])
    all_goals rfl
  · by_cases h1 : s.size ≤ 15
    · have h1' : (s.size : Int) ≤ 15 := by omega
      have hc := containsAny_pure s (by omega) (ha rfl)
      push_cast [iO, tN]
      repeat' (first | (refine plc [] (hv) ?_ ?_; push_cast [iO, tN, h1']; rintro r os ⟨rfl, rfl⟩; push_cast [iO, tN, h1']) | (refine plc [] (hc) ?_ ?_; push_cast [iO, tN, h1']; rintro r os ⟨rfl, rfl⟩; push_cast [iO, tN, h1']) | ((first | refine pG ?_ | refine pQ ?_ | refine pU ?_); push_cast [iO, tN, h1']) | (refine pif (fun h => ?_) (fun h => ?_) <;> first | exact pN h | push_cast [iO, tN, h1']))
      (refine retK_of [] ?_; push_cast [iO, tN])
      all_goals simp [h1]
    · have h1' : ¬ (s.size : Int) ≤ 15 := by omega
      push_cast [iO, tN]
      repeat' (first | (refine plc [] (hv) ?_ ?_; push_cast [iO, tN, h1']; rintro r os ⟨rfl, rfl⟩; push_cast [iO, tN, h1']) | ((first | refine pG ?_ | refine pQ ?_ | refine pU ?_); push_cast [iO, tN, h1']) | (refine pif (fun h => ?_) (fun h => ?_) <;> first | exact pN h | push_cast [iO, tN, h1']))
      (refine retK_of [] ?_; push_cast [iO, tN])
      all_goals simp [h1]
set_option maxRecDepth 20000 in
set_option maxHeartbeats 1000000 in
theorem lparts_pure : PCalls Tryz.prog 139 [] [] fun r os => r = .agg (linkL.map boolE) ∧ os = [] := by
  have hp := plus_pure commonL ⟨#[64, 35, 61, 37]⟩ commonL_len (by decide)
  simp only [List.toList_toArray] at hp
  have hl := linkL_len
  change PCalls _ _ _ _ fun r os => r = .agg (linkL.map boolE) ∧ os = [] at hp
  generalize linkL = cs at hp hl ⊢
  refine pcalls_of Tryz.func139 rfl (by simp [Tryz.ntmps139]) ?_
  rw [Tryz.ntmps139, Tryz.results139]
  push_cast [iO, tN]
  repeat' (first |  (refine plc [] (common_pure) ?_ ?_; push_cast [iO, tN]; rintro r os ⟨rfl, rfl⟩; push_cast [iO, tN]) | (refine plc [] (hp) ?_ ?_; push_cast [iO, tN]; rintro r os ⟨rfl, rfl⟩; push_cast [iO, tN])  | ((first | refine pG ?_ | refine pQ ?_ | refine pU ?_); push_cast [iO, tN]) | (refine pif (fun h => ?_) (fun h => ?_) <;> first | exact pN h | push_cast [iO, tN]))
  (refine retK_of [] ?_; push_cast [iO, tN, hl])
def lbox : Ob := .box 167 (linkL.map boolE)
set_option maxRecDepth 20000 in
set_option maxHeartbeats 1000000 in
theorem linkF_pure (cs : List Bool) (hcs : cs.length = 256) (x : ByteArray) (hx : x.size ≤ 1000000) :
    PCalls Tryz.prog 140 [.c (.v (.string x)), .c (.ptr 0 0)] [.box 167 (cs.map boolE)] fun r os => r = .c (.v (.bool ((decide (x ≠ ⟨#[]⟩) && !dotsS x) && hasL cs x))) ∧ os = [.box 167 (cs.map boolE)] := by
  have hd := dots_pure x
  have hh := has_pure cs x hcs (by omega)
  obtain ⟨b, hb⟩ : ∃ b, dotsS x = b := ⟨_, rfl⟩
  obtain ⟨c, hc⟩ : ∃ c, hasL cs x = c := ⟨_, rfl⟩
  rw [hb] at hd ⊢
  rw [hc] at hh ⊢
  refine pcalls_of Tryz.func140 rfl (by simp [Tryz.ntmps140]) ?_
  rw [Tryz.ntmps140, Tryz.results140]
  by_cases h1 : x = ⟨#[]⟩
  · have e1 := eq_true h1
    push_cast [iO, tN]
    repeat' (first | ((first | refine pG ?_ | refine pQ ?_ | refine pU ?_); push_cast [iO, tN, e1, ne_eq, not_true_eq_false]) | (refine pif (fun h => ?_) (fun h => ?_) <;> first | exact pN h | push_cast [iO, tN, e1, ne_eq, not_true_eq_false]))
    (refine retK_of [0] ?_; push_cast [iO, tN])
    all_goals simp [h1]
  · cases b
    · push_cast [iO, tN]
      repeat' (first | (refine plc [] (hd) ?_ ?_; push_cast [iO, tN, h1, ne_eq, not_false_eq_true, hcs]; rintro r os ⟨rfl, rfl⟩; push_cast [iO, tN, h1, ne_eq, not_false_eq_true, hcs]) | (refine plc [] (hh) ?_ ?_; push_cast [iO, tN, h1, ne_eq, not_false_eq_true, hcs]; rintro r os ⟨rfl, rfl⟩; push_cast [iO, tN, h1, ne_eq, not_false_eq_true, hcs]) | ((first | refine pG ?_ | refine pQ ?_ | refine pU ?_); push_cast [iO, tN, h1, ne_eq, not_false_eq_true, hcs]) | (refine pif (fun h => ?_) (fun h => ?_) <;> first | exact pN h | push_cast [iO, tN, h1, ne_eq, not_false_eq_true, hcs]))
      (refine retK_of [0] ?_; push_cast [iO, tN])
      all_goals simp [h1]
    · push_cast [iO, tN]
      repeat' (first | (refine plc [] (hd) ?_ ?_; push_cast [iO, tN, h1, ne_eq, not_false_eq_true, hcs]; rintro r os ⟨rfl, rfl⟩; push_cast [iO, tN, h1, ne_eq, not_false_eq_true, hcs]) | ((first | refine pG ?_ | refine pQ ?_ | refine pU ?_); push_cast [iO, tN, h1, ne_eq, not_false_eq_true, hcs]) | (refine pif (fun h => ?_) (fun h => ?_) <;> first | exact pN h | push_cast [iO, tN, h1, ne_eq, not_false_eq_true, hcs]))
      (refine retK_of [0] ?_; push_cast [iO, tN])
      all_goals simp
set_option maxHeartbeats 1000000 in
theorem allL_pure (cs : List Bool) (hcs : cs.length = 256) (x : ByteArray) (hx : x.size ≤ 1000000) :
    PCalls Tryz.prog 147 [.c (.v (.string x)), .c (.ptr 1 0)] [.box 167 (cs.map boolE), .box 97 [.fn (.func 140) [] [0]]] fun r os => r = .c (.v (.bool (!((decide (x ≠ ⟨#[]⟩) && !dotsS x) && hasL cs x)))) ∧ os = [.box 167 (cs.map boolE), .box 97 [.fn (.func 140) [] [0]]] := by
  have hf := linkF_pure cs hcs x hx
  obtain ⟨b, hb⟩ : ∃ b, ((decide (x ≠ ⟨#[]⟩) && !dotsS x) && hasL cs x) = b := ⟨_, rfl⟩
  rw [hb] at hf ⊢
  refine pcalls_of Tryz.func147 rfl (by simp [Tryz.ntmps147]) ?_
  rw [Tryz.ntmps147, Tryz.results147]
  push_cast [iO, tN]
  repeat' (first |  (refine plc [0] (hf) ?_ ?_; push_cast [iO, tN]; rintro r os ⟨rfl, rfl⟩; push_cast [iO, tN])  | ((first | refine pG ?_ | refine pQ ?_ | refine pU ?_); push_cast [iO, tN]) | (refine pif (fun h => ?_) (fun h => ?_) <;> first | exact pN h | push_cast [iO, tN]))
  (refine retK_of [0, 1] ?_; push_cast [iO, tN])
set_option maxHeartbeats 1000000 in
theorem all2_pure (cs : List Bool) (hcs : cs.length = 256) (l : List ByteArray) (hl : l.length ≤ 1000000000) (hz : ∀ x ∈ l, x.size ≤ 1000000) :
    PCalls Tryz.prog 116 [.c (.sl 1 (l.map strD)), .c (.fn (.func 140) [] [0])] [.box 167 (cs.map boolE)] fun r os => r = .c (.v (.bool (l.all fun x => (decide (x ≠ ⟨#[]⟩) && !dotsS x) && hasL cs x))) ∧ os = [.box 167 (cs.map boolE)] := by
  have hc := containsFuncS_pure l hl 147 [1] [.box 167 (cs.map boolE), .box 97 [.fn (.func 140) [] [0]]] (fun x => !((decide (x ≠ ⟨#[]⟩) && !dotsS x) && hasL cs x)) ⟨by kernel_rfl, fun x hx => allL_pure cs hcs x (hz x hx)⟩
  have e : (!(l.any fun x => !((decide (x ≠ ⟨#[]⟩) && !dotsS x) && hasL cs x))) = l.all fun x => (decide (x ≠ ⟨#[]⟩) && !dotsS x) && hasL cs x := by rw [List.all_eq_not_any_not]
  obtain ⟨b, hb⟩ : ∃ b, (l.any fun x => !((decide (x ≠ ⟨#[]⟩) && !dotsS x) && hasL cs x)) = b := ⟨_, rfl⟩
  rw [hb] at hc e
  rw [← e]
  refine pcalls_of Tryz.func116 rfl (by simp [Tryz.ntmps116]) ?_
  rw [Tryz.ntmps116, Tryz.results116]
  push_cast [iO, tN]
  repeat' (first |  (refine plc [0, 1] (hc) ?_ ?_; push_cast [iO, tN]; rintro r os ⟨rfl, rfl⟩; push_cast [iO, tN])  | ((first | refine pG ?_ | refine pQ ?_ | refine pU ?_); push_cast [iO, tN]) | (refine pif (fun h => ?_) (fun h => ?_) <;> first | exact pN h | push_cast [iO, tN]))
  (refine retK_of [0] ?_; push_cast [iO, tN])
set_option maxRecDepth 20000 in
set_option maxHeartbeats 1000000 in
theorem link_pure (s : ByteArray) : PCalls Tryz.prog 109 [.c (.v (.string s))] [] fun r os => r = .c (.v (.bool (linkS s))) ∧ os = [] := by
  have hps := parts_size (s := s)
  have hpm := fun x hx => part_size (s := s) (x := x) hx
  have hlp := lparts_pure
  have hlen := linkL_len
  have e : linkS s = (decide (s.size ≤ 256) && (parts s).all fun x => (decide (x ≠ ⟨#[]⟩) && !dotsS x) && hasL linkL x) := rfl
  rw [e]
  generalize linkL = cs at hlp hlen ⊢
  refine pcalls_of Tryz.func109 rfl (by simp [Tryz.ntmps109]) ?_
  rw [Tryz.ntmps109, Tryz.results109]
  by_cases h1 : s.size ≤ 256
  · have h1' : (s.size : Int) ≤ 256 := by omega
    have hsp := split_pure s (by omega)
    obtain ⟨l, hl⟩ : ∃ l, parts s = l := ⟨_, rfl⟩
    rw [hl] at hps hsp ⊢
    simp only [hl] at hpm
    have hal := all2_pure cs hlen l (by omega) (fun x hx => by have := hpm x hx; omega)
    push_cast [iO, tN]
    repeat' (first | (refine plc [] (hlp) ?_ ?_; push_cast [iO, tN, h1', hlen]; rintro r os ⟨rfl, rfl⟩; push_cast [iO, tN, h1', hlen]) | (refine plc [] (hsp) ?_ ?_; push_cast [iO, tN, h1', hlen]; rintro r os ⟨rfl, rfl⟩; push_cast [iO, tN, h1', hlen]) | (refine pl_call2 true [0] rfl rfl (by kernel_rfl) (hal) ?_ ?_ ?_; push_cast [iO, tN, h1', hlen]; (intro _ r os; rintro ⟨rfl, rfl⟩; push_cast [iO, tN, h1', hlen]); rintro r os ⟨rfl, rfl⟩; refine pl_of_pops ?_; push_cast [iO, tN, h1', hlen]) | ((first | refine pG ?_ | refine pQ ?_ | refine pU ?_); push_cast [iO, tN, h1', hlen]) | (refine pif (fun h => ?_) (fun h => ?_) <;> first | exact pN h | push_cast [iO, tN, h1', hlen]))
    (refine retK_of [] ?_; push_cast [iO, tN])
    all_goals simp [h1]
  · have h1' : ¬ (s.size : Int) ≤ 256 := by omega
    push_cast [iO, tN]
    repeat' (first | (refine plc [] (hlp) ?_ ?_; push_cast [iO, tN, h1', hlen]; rintro r os ⟨rfl, rfl⟩; push_cast [iO, tN, h1', hlen]) | ((first | refine pG ?_ | refine pQ ?_ | refine pU ?_); push_cast [iO, tN, h1', hlen]) | (refine pif (fun h => ?_) (fun h => ?_) <;> first | exact pN h | push_cast [iO, tN, h1', hlen]))
    (refine retK_of [] ?_; push_cast [iO, tN])
    all_goals simp [h1]
end Go.Proofs.YthconflkbeipoaaGreatDoor
namespace Go.Proofs.YthconflkbeipoaaGreatDoor
attribute [local irreducible] PL QL PWPr PCalls Weak RetK Kontr PA
open Go.RowKit
open IntWalk renaming iteOmega → iO, toNatUp → tN
set_option linter.unusedVariables false
set_option linter.unusedSimpArgs false
set_option maxRecDepth 20000
theorem sindex_pure (l : List ByteArray) (s : ByteArray) (hl : l.length ≤ 1000000000) :
    PCalls Tryz.prog 120 [.c (.sl 1 (l.map strD)), .c (.v (.string s))] [] fun r os => ∃ k : Int, ((k = -1 ∧ s ∉ l) ∨ ∃ i : Nat, k = i ∧ s ∈ l) ∧ r = .c (.v (.int .i64 k)) ∧ os = [] := by
  refine pcalls_of Tryz.func120 rfl (by simp [Tryz.ntmps120]) ?_
  rw [Tryz.ntmps120, Tryz.results120]
  push_cast [iO, tN]
  have cB : CutB 6 [7, 8] := trivial
  repeat' (first | ((first | refine pC ?_ | refine pQC ?_ | refine pU ?_); push_cast [iO, tN]) | (refine pif (fun h => ?_) (fun h => ?_) <;> first | exact pN h | push_cast [iO, tN]))
  (apply pwp_loop3 (α := Nat) 6 [7, 8] (fun k => [(8, .c (.v (.int .i64 k)))]) (fun k => []) (fun k => k ≤ l.length ∧ s ∉ l.take k) (fun k => l.length - k) (0); (focus ((try push_cast [iO, tN]); rfl)); (focus exact ⟨Nat.zero_le _, by simp⟩); (focus ((refine weak_fg ?_; try push_cast [iO, tN]))))
  rintro k ⟨hk, hpre⟩
  push_cast [iO, tN]
  by_cases hlt : k < l.length
  · by_cases hq : s = l.getD k default
    · repeat' (first | ((first | refine pC ?_ | refine pQC ?_ | refine pU ?_); push_cast [iO, tN, hq]) | (refine pif (fun h => ?_) (fun h => ?_) <;> first | exact pN h | push_cast [iO, tN, hq]))
      (refine retK_of [] ?_; push_cast [iO, tN])
      exact ⟨_, _, leP_refl _, leOs_refl _, _, .inr ⟨k, rfl, by first | (rw [getD_lt l hlt]; exact List.getElem_mem _) | (rw [hq, getD_lt l hlt]; exact List.getElem_mem _)⟩, rfl, rfl⟩
    · repeat' (first | ((first | refine pC ?_ | refine pQC ?_ | refine pU ?_); push_cast [iO, tN, hq]) | (refine pif (fun h => ?_) (fun h => ?_) <;> first | exact pN h | push_cast [iO, tN, hq]))
      refine ⟨k + 1, ⟨by omega, ?_⟩, by (refine weak_fg ?_; push_cast [iO, tN]), by omega⟩
      rw [List.take_succ_eq_append_getElem hlt, List.mem_append, List.mem_singleton]
      rintro (h | h)
      · exact hpre h
      · exact hq (by rw [getD_lt l hlt]; exact h)
  · rw [List.take_of_length_le (by omega)] at hpre
    repeat' (first | ((first | refine pC ?_ | refine pQC ?_ | refine pU ?_); push_cast [iO, tN]) | (refine pif (fun h => ?_) (fun h => ?_) <;> first | exact pN h | push_cast [iO, tN]))
    (refine retK_of [] ?_; push_cast [iO, tN])
    exact ⟨_, _, leP_refl _, leOs_refl _, _, .inl ⟨rfl, hpre⟩, rfl, rfl⟩
theorem scontains_pure (l : List ByteArray) (s : ByteArray) (hl : l.length ≤ 1000000000) :
    PCalls Tryz.prog 68 [.c (.sl 1 (l.map strD)), .c (.v (.string s))] [] fun r os => r = .c (.v (.bool (inM s l))) ∧ os = [] := by
  have hi := sindex_pure l s hl
  refine pcalls_of Tryz.func68 rfl (by simp [Tryz.ntmps68]) ?_
  rw [Tryz.ntmps68, Tryz.results68]
  push_cast [iO, tN]
  repeat' (first | ((first | refine pG ?_ | refine pQ ?_ | refine pU ?_); push_cast [iO, tN]) | (refine pif (fun h => ?_) (fun h => ?_) <;> first | exact pN h | push_cast [iO, tN]))
  (refine plc [] (hi) ?_ ?_; push_cast [iO, tN]; rintro r os ⟨k, hk, rfl, rfl⟩; push_cast [iO, tN])
  rcases hk with ⟨rfl, h⟩ | ⟨i, rfl, h⟩
  · have h := inM_false.2 h
    repeat' (first | ((first | refine pG ?_ | refine pQ ?_ | refine pU ?_); push_cast [iO, tN]) | (refine pif (fun h => ?_) (fun h => ?_) <;> first | exact pN h | push_cast [iO, tN]))
    (refine retK_of [] ?_; push_cast [iO, tN, h])
  · have h := inM_iff.2 h
    repeat' (first | ((first | refine pG ?_ | refine pQ ?_ | refine pU ?_); push_cast [iO, tN]) | (refine pif (fun h => ?_) (fun h => ?_) <;> first | exact pN h | push_cast [iO, tN]))
    (refine retK_of [] ?_; push_cast [iO, tN, h])
    all_goals exact decide_eq_true (Int.natCast_nonneg _)
theorem rin5_pure (l : List ByteArray) (s : ByteArray) (hl : l.length ≤ 9223372036854775807) :
    PCalls Tryz.prog 38 [.c (.sl 1 (l.map strD)), .c (.v (.string s))] [] fun r os => r = .c (.v (.bool (inM s l))) ∧ os = [] := by
  refine pcalls_of Tryz.func38 rfl (by simp [Tryz.ntmps38]) ?_
  rw [Tryz.ntmps38, Tryz.results38]
  push_cast [iO, tN]
  have cB : CutB 6 [] := trivial
  repeat' (first | ((first | refine pC ?_ | refine pQC ?_ | refine pU ?_); push_cast [iO, tN]) | (refine pif (fun h => ?_) (fun h => ?_) <;> first | exact pN h | push_cast [iO, tN]))
  (apply pwp_loop3 (α := Nat) 6 [] (fun k => [(5, .c (.v (.int .i64 k)))]) (fun k => []) (fun k => k ≤ l.length ∧ s ∉ l.take k) (fun k => l.length - k) (0); (focus ((try push_cast [iO, tN]); rfl)); (focus exact ⟨Nat.zero_le _, by simp⟩); (focus ((refine weak_fg ?_; try push_cast [iO, tN]))))
  rintro k ⟨hk, hpre⟩
  push_cast [iO, tN]
  by_cases hlt : k < l.length
  · by_cases hq : l.getD k default = s
    · have hm : inM s l = true := inM_iff.2 (by rw [← hq, getD_lt l hlt]; exact List.getElem_mem _)
      repeat' (first | ((first | refine pC ?_ | refine pQC ?_ | refine pU ?_); push_cast [iO, tN, hq]) | (refine pif (fun h => ?_) (fun h => ?_) <;> first | exact pN h | push_cast [iO, tN, hq]))
      (refine retK_of [] ?_; push_cast [iO, tN, hm])
    · repeat' (first | ((first | refine pC ?_ | refine pQC ?_ | refine pU ?_); push_cast [iO, tN, hq]) | (refine pif (fun h => ?_) (fun h => ?_) <;> first | exact pN h | push_cast [iO, tN, hq]))
      refine ⟨k + 1, ⟨by omega, ?_⟩, by (refine weak_fg ?_; push_cast [iO, tN]), by omega⟩
      rw [List.take_succ_eq_append_getElem hlt, List.mem_append, List.mem_singleton]
      rintro (h | h)
      · exact hpre h
      · exact hq (by rw [getD_lt l hlt]; exact h.symm)
  · rw [List.take_of_length_le (by omega)] at hpre
    have hpre := inM_false.2 hpre
    repeat' (first | ((first | refine pC ?_ | refine pQC ?_ | refine pU ?_); push_cast [iO, tN]) | (refine pif (fun h => ?_) (fun h => ?_) <;> first | exact pN h | push_cast [iO, tN]))
    (refine retK_of [] ?_; push_cast [iO, tN, hpre])
theorem itoaN_pure (i : Nat) (hi : i < 100) : PCalls Tryz.prog 35 [.c (.v (.int .i64 i))] [] fun r os => r = .c (.v (.string (digN i))) ∧ os = [] :=
  pcalls_plain [.int .i64 i] _ rfl fun w _ => (strconv_Itoa_small i hi w).mono fun e w' ⟨he, hw⟩ => by rw [he, hw]; exact ⟨rfl, Below.refl _ _⟩
end Go.Proofs.YthconflkbeipoaaGreatDoor
namespace Go.Proofs.YthconflkbeipoaaGreatDoor
attribute [local irreducible] PL QL PWPr PCalls Weak RetK Kontr PA
open Go.RowKit
open IntWalk renaming iteOmega → iO, toNatUp → tN
set_option linter.unusedVariables false
set_option linter.unusedSimpArgs false
set_option maxRecDepth 20000
theorem idxb_lt : ∀ (l : List UInt8) (c : UInt8), Lib.indexByte l c < 0 ↔ l.contains c = false
  | [], c => by simp [Lib.indexByte]
  | b :: l, c => by
    have ih := idxb_lt l c
    have hg := Lib.indexByte_ge l c
    rw [Lib.indexByte, List.contains_cons]
    by_cases h : b = c
    · subst h; simp
    · rw [if_neg (by simpa using h), show (c == b) = false by simpa using Ne.symm h, Bool.false_or, ← ih]
      split
      · rename_i h1; simp at h1; omega
      · rename_i h1; simp at h1; omega
theorem byte_back (b : UInt8) : ((b.toNat : Int)).toNat.toUInt8 = b := by simp
def inT (s t : ByteArray) : Bool := s.data.toList.all fun b => t.data.toList.contains b
set_option maxHeartbeats 1000000 in
theorem rin_pure (s t : ByteArray) (hs : s.size ≤ 1000000000) :
    PCalls Tryz.prog 132 [.c (.v (.string s)), .c (.v (.string t))] [] fun r os => r = .c (.v (.bool (inT s t))) ∧ os = [] := by
  refine pcalls_of Tryz.func132 rfl (by simp [Tryz.ntmps132]) ?_
  rw [Tryz.ntmps132, Tryz.results132]
  push_cast [iO, tN]
  have cB : CutB 6 [] := trivial
  repeat' (first | ((first | refine pC ?_ | refine pQC ?_ | refine pU ?_); push_cast [iO, tN]) | (refine pif (fun h => ?_) (fun h => ?_) <;> first | exact pN h | push_cast [iO, tN]))
  (apply pwp_loop3 (α := Nat) 6 [] (fun k => [(5, .c (.v (.int .i64 k)))]) (fun k => []) (fun k => k ≤ s.size ∧ (s.data.toList.take k).all (fun b => t.data.toList.contains b) = true) (fun k => s.size - k) (0); (focus ((try push_cast [iO, tN]); rfl)); (focus exact ⟨by omega, rfl⟩); (focus ((refine weak_fg ?_; try push_cast [iO, tN]))))
  rintro k ⟨hk, ha⟩
  push_cast [iO, tN]
  by_cases hlt : k < s.size
  · have hk2 : k < s.data.toList.length := hlt
    have eg : s.data.toList.getD k 0 = s.data.toList[k] := by rw [List.getD_eq_getElem?_getD, List.getElem?_eq_getElem hk2]; rfl
    have hix := idxb_lt t.data.toList (s.data.toList.getD k 0)
    have hc := idxb_pure t ((s.data.toList.getD k 0).toNat : Int)
    rw [byte_back] at hc
    cases hv : t.data.toList.contains (s.data.toList.getD k 0)
    · have hl := hix.2 hv
      repeat' (first | (refine plc [] (hc) ?_ ?_; push_cast [iO, tN, hl]; rintro r os ⟨rfl, rfl⟩; push_cast [iO, tN, hl]) | ((first | refine pC ?_ | refine pQC ?_ | refine pU ?_); push_cast [iO, tN, hl]) | (refine pif (fun h => ?_) (fun h => ?_) <;> first | exact pN h | push_cast [iO, tN, hl]))
      (refine retK_of [] ?_; push_cast [iO, tN])
      rw [inT, List.all_eq_false.2]
      exact ⟨s.data.toList.getD k 0, by rw [eg]; exact List.getElem_mem _, by rw [hv]; decide⟩
    · have hl : ¬ Lib.indexByte t.data.toList (s.data.toList.getD k 0) < 0 := fun h => by rw [hix.1 h] at hv; cases hv
      repeat' (first | (refine plc [] (hc) ?_ ?_; push_cast [iO, tN, hl]; rintro r os ⟨rfl, rfl⟩; push_cast [iO, tN, hl]) | ((first | refine pC ?_ | refine pQC ?_ | refine pU ?_); push_cast [iO, tN, hl]) | (refine pif (fun h => ?_) (fun h => ?_) <;> first | exact pN h | push_cast [iO, tN, hl]))
      refine ⟨k + 1, ⟨by omega, ?_⟩, by (refine weak_fg ?_; push_cast [iO, tN]), by omega⟩
      rw [List.take_succ_eq_append_getElem hk2, List.all_append, ha, ← eg, List.all_cons, hv]; rfl
  · have hk2 : k = s.size := by omega
    subst hk2
    have he : s.data.toList.take s.size = s.data.toList := List.take_of_length_le (Nat.le_refl _)
    rw [he] at ha
    repeat' (first | ((first | refine pC ?_ | refine pQC ?_ | refine pU ?_); push_cast [iO, tN]) | (refine pif (fun h => ?_) (fun h => ?_) <;> first | exact pN h | push_cast [iO, tN]))
    (refine retK_of [] ?_; push_cast [iO, tN])
    rw [inT, ha]
def refSet : ByteArray := ⟨#[65, 66, 67, 68, 69, 70, 71, 72, 73, 74, 75, 76, 77, 78, 79, 80, 81, 82, 83, 84, 85, 86, 87, 88, 89, 90, 97, 98, 99, 100, 101, 102, 103, 104, 105, 106, 107, 108, 109, 110, 111, 112, 113, 114, 115, 116, 117, 118, 119, 120, 121, 122, 48, 49, 50, 51, 52, 53, 54, 55, 56, 57, 95, 46, 58, 43, 45, 33]⟩
theorem in_name (s : ByteArray) : inT s refSet = s.data.toList.all nameB := by
  unfold inT
  congr
set_option maxHeartbeats 1000000 in
theorem rvalid_pure (s : ByteArray) (hs : s.size ≤ 9223372036854775807) : PCalls Tryz.prog 95 [.c (.v (.string s))] [] fun r os => r = .c (.v (.bool (validS s))) ∧ os = [] := by
  have hv : validS s = (((decide (s ≠ ⟨#[]⟩) && decide (s.size ≤ 32)) && !dotsS s) && inT s refSet) := by rw [in_name, validS]
  rw [hv]
  unfold dotsS
  refine pcalls_of Tryz.func95 rfl (by simp [Tryz.ntmps95]) ?_
  rw [Tryz.ntmps95, Tryz.results95]
  by_cases h1 : s = ⟨#[]⟩
  · have e1 := eq_true h1
    push_cast [iO, tN]
    repeat' (first | ((first | refine pG ?_ | refine pQ ?_ | refine pU ?_); push_cast [iO, tN, e1, ne_eq, not_true_eq_false]) | (refine pif (fun h => ?_) (fun h => ?_) <;> first | exact pN h | push_cast [iO, tN, e1, ne_eq, not_true_eq_false]))
    (refine retK_of [] ?_; push_cast [iO, tN])
  · by_cases h2 : s.size ≤ 32
    · have h2' : (s.size : Int) ≤ 32 := by omega
      have hh := rin_pure s refSet (by omega)
      obtain ⟨c, hc⟩ : ∃ c, inT s refSet = c := ⟨_, rfl⟩
      rw [hc] at hh ⊢
      unfold refSet at hh
      obtain ⟨d1, hd1⟩ : ∃ d1, (s = ⟨#[46]⟩) = d1 := ⟨_, rfl⟩
      obtain ⟨d2, hd2⟩ : ∃ d2, (s = ⟨#[46, 46]⟩) = d2 := ⟨_, rfl⟩
      by_cases e3 : s = ⟨#[46]⟩
      · have e4 := eq_true e3
        cases c
        all_goals push_cast [iO, tN]
        all_goals repeat' (first | (refine plc [] (hh) ?_ ?_; push_cast [iO, tN, h1, h2', e4, ne_eq, not_false_eq_true, not_true_eq_false]; rintro r os ⟨rfl, rfl⟩; push_cast [iO, tN, h1, h2', e4, ne_eq, not_false_eq_true, not_true_eq_false]) | ((first | refine pG ?_ | refine pQ ?_ | refine pU ?_); push_cast [iO, tN, h1, h2', e4, ne_eq, not_false_eq_true, not_true_eq_false]) | (refine pif (fun h => ?_) (fun h => ?_) <;> first | exact pN h | push_cast [iO, tN, h1, h2', e4, ne_eq, not_false_eq_true, not_true_eq_false]))
        all_goals (refine retK_of [] ?_; push_cast [iO, tN])
        all_goals simp [e3]
      · by_cases e5 : s = ⟨#[46, 46]⟩
        · have e6 := eq_true e5
          cases c
          all_goals push_cast [iO, tN]
          all_goals repeat' (first | (refine plc [] (hh) ?_ ?_; push_cast [iO, tN, h1, h2', e3, e6, ne_eq, not_false_eq_true, not_true_eq_false]; rintro r os ⟨rfl, rfl⟩; push_cast [iO, tN, h1, h2', e3, e6, ne_eq, not_false_eq_true, not_true_eq_false]) | ((first | refine pG ?_ | refine pQ ?_ | refine pU ?_); push_cast [iO, tN, h1, h2', e3, e6, ne_eq, not_false_eq_true, not_true_eq_false]) | (refine pif (fun h => ?_) (fun h => ?_) <;> first | exact pN h | push_cast [iO, tN, h1, h2', e3, e6, ne_eq, not_false_eq_true, not_true_eq_false]))
          all_goals (refine retK_of [] ?_; push_cast [iO, tN])
          all_goals simp [e5]
        · cases c
          all_goals push_cast [iO, tN]
          all_goals repeat' (first | (refine plc [] (hh) ?_ ?_; push_cast [iO, tN, h1, h2', e3, e5, ne_eq, not_false_eq_true, not_true_eq_false]; rintro r os ⟨rfl, rfl⟩; push_cast [iO, tN, h1, h2', e3, e5, ne_eq, not_false_eq_true, not_true_eq_false]) | ((first | refine pG ?_ | refine pQ ?_ | refine pU ?_); push_cast [iO, tN, h1, h2', e3, e5, ne_eq, not_false_eq_true, not_true_eq_false]) | (refine pif (fun h => ?_) (fun h => ?_) <;> first | exact pN h | push_cast [iO, tN, h1, h2', e3, e5, ne_eq, not_false_eq_true, not_true_eq_false]))
          all_goals (refine retK_of [] ?_; push_cast [iO, tN])
          all_goals simp [h1, h2, e3, e5]
    · have h2' : ¬ (s.size : Int) ≤ 32 := by omega
      push_cast [iO, tN]
      repeat' (first | ((first | refine pG ?_ | refine pQ ?_ | refine pU ?_); push_cast [iO, tN, h1, h2', ne_eq, not_false_eq_true]) | (refine pif (fun h => ?_) (fun h => ?_) <;> first | exact pN h | push_cast [iO, tN, h1, h2', ne_eq, not_false_eq_true]))
      (refine retK_of [] ?_; push_cast [iO, tN])
      simp [h2]
end Go.Proofs.YthconflkbeipoaaGreatDoor
