/- What the program computes, and the plain laws of it, part 39. -/
import Derived.Test.YtbonfcphabnlpaaGreatDoorQ31
namespace Go.Proofs.YtbonfcphabnlpaaGreatDoor
attribute [local irreducible] PL QL PWPr PCalls Weak RetK Kontr PA
open Go.RowKit
open IntWalk renaming iteOmega → iO, toNatUp → tN
set_option linter.unusedVariables false
set_option linter.unusedSimpArgs false
set_option maxRecDepth 20000
theorem cmpL_at : ∀ {l m : List ByteArray} {k : Nat}, k ≤ l.length → k ≤ m.length → l.take k = m.take k → cmpL l m = cmpL (l.drop k) (m.drop k)
  | l, m, 0, _, _, _ => by simp
  | [], m, k + 1, h, _, _ => by simp at h
  | a :: l, [], k + 1, _, h, _ => by simp at h
  | a :: l, b :: m, k + 1, h1, h2, h3 => by
    simp only [List.take_succ_cons, List.cons.injEq] at h3
    obtain ⟨rfl, h3⟩ := h3
    rw [cmpL, if_pos rfl]
    simp only [List.drop_succ_cons]
    exact cmpL_at (by simpa using h1) (by simpa using h2) h3
theorem cmpL_step {l m : List ByteArray} {k : Nat} (h1 : k < l.length) (h2 : k < m.length) (h3 : l.take k = m.take k) : cmpL l m = if l.getD k default = m.getD k default then cmpL (l.drop (k + 1)) (m.drop (k + 1)) else cmpS (l.getD k default) (m.getD k default) := by
  rw [cmpL_at (by omega) (by omega) h3, List.drop_eq_getElem_cons h1, List.drop_eq_getElem_cons h2, cmpL, getD_lt l h1, getD_lt m h2]
set_option maxHeartbeats 1000000 in
theorem rcompare_pure (l m : List ByteArray) (hl : l.length ≤ 1000000000) (hm : m.length ≤ 1000000000) :
    PCalls Tryz.prog 35 [.c (.sl 1 (l.map strD)), .c (.sl 1 (m.map strD))] [] fun r os => r = .c (.v (.int .i64 (cmpL l m))) ∧ os = [] := by
  refine pcalls_of Tryz.func35 rfl (by simp [Tryz.ntmps35]) ?_
  rw [Tryz.ntmps35, Tryz.results35]
  push_cast [iO, tN]
  have cB : CutB 6 [] := trivial
  repeat' (first | ((first | refine pC ?_ | refine pQC ?_ | refine pU ?_); push_cast [iO, tN]) | (refine pif (fun h => ?_) (fun h => ?_) <;> first | exact pN h | push_cast [iO, tN]))
  (apply pwp_loop3 (α := Nat) 6 [] (fun k => [(5, .c (.v (.int .i64 k)))]) (fun k => []) (fun k => k ≤ l.length ∧ k ≤ m.length ∧ l.take k = m.take k) (fun k => l.length - k) (0); (focus ((try push_cast [iO, tN]); rfl)); (focus exact ⟨by omega, by omega, rfl⟩); (focus ((refine weak_fg ?_; try push_cast [iO, tN]))))
  rintro k ⟨hk, hk2, he⟩
  push_cast [iO, tN]
  by_cases h1 : k < l.length
  · by_cases h2 : k < m.length
    · have hst := cmpL_step h1 h2 he
      by_cases e : l.getD k default = m.getD k default
      · have e2 := eq_true e
        repeat' (first | ((first | refine pC ?_ | refine pQC ?_ | refine pU ?_); push_cast [iO, tN, e2, ne_eq, not_true_eq_false]) | (refine pif (fun h => ?_) (fun h => ?_) <;> first | exact pN h | push_cast [iO, tN, e2, ne_eq, not_true_eq_false]))
        refine ⟨k + 1, ⟨by omega, by omega, ?_⟩, by (refine weak_fg ?_; push_cast [iO, tN]), by omega⟩
        rw [List.take_succ_eq_append_getElem h1, List.take_succ_eq_append_getElem h2, he, ← getD_lt l h1, ← getD_lt m h2, e]
      · rw [if_neg e] at hst
        repeat' (first | ((refine ql_call2 false rfl rfl (by kernel_rfl) (scmp_pure (l.getD k default) (m.getD k default)) (fun r os h => h.1) rfl ?_ ?_; push_cast [iO, tN, e, ne_eq, not_false_eq_true]; refine ql_of_qops ?_; push_cast [iO, tN, e, ne_eq, not_false_eq_true])) | ((first | refine pC ?_ | refine pQC ?_ | refine pU ?_); push_cast [iO, tN, e, ne_eq, not_false_eq_true]) | (refine pif (fun h => ?_) (fun h => ?_) <;> first | exact pN h | push_cast [iO, tN, e, ne_eq, not_false_eq_true]))
        (refine retK_of [] ?_; push_cast [iO, tN])
        rw [hst]
    · have hke : k = m.length := by omega
      have hcl : cmpL l m = 1 := by
        have hz : m.drop k = [] := List.drop_eq_nil_of_le (by omega)
        rw [cmpL_at (by omega) (by omega) he, hz, List.drop_eq_getElem_cons h1]; rfl
      repeat' (first | ((first | refine pC ?_ | refine pQC ?_ | refine pU ?_); push_cast [iO, tN]) | (refine pif (fun h => ?_) (fun h => ?_) <;> first | exact pN h | push_cast [iO, tN]))
      (refine retK_of [] ?_; push_cast [iO, tN])
      rw [hcl]
  · have hke : k = l.length := by omega
    by_cases h2 : k < m.length
    · have hcl : cmpL l m = -1 := by
        have hz : l.drop k = [] := List.drop_eq_nil_of_le (by omega)
        rw [cmpL_at (by omega) (by omega) he, hz, List.drop_eq_getElem_cons h2]; rfl
      repeat' (first | ((first | refine pC ?_ | refine pQC ?_ | refine pU ?_); push_cast [iO, tN]) | (refine pif (fun h => ?_) (fun h => ?_) <;> first | exact pN h | push_cast [iO, tN]))
      (refine retK_of [] ?_; push_cast [iO, tN])
      rw [hcl]
    · have hcl : cmpL l m = 0 := by
        rw [cmpL_at (by omega) (by omega) he, List.drop_eq_nil_of_le (by omega), List.drop_eq_nil_of_le (by omega)]; rfl
      repeat' (first | ((first | refine pC ?_ | refine pQC ?_ | refine pU ?_); push_cast [iO, tN]) | (refine pif (fun h => ?_) (fun h => ?_) <;> first | exact pN h | push_cast [iO, tN]))
      (refine retK_of [] ?_; push_cast [iO, tN])
      rw [hcl]
end Go.Proofs.YtbonfcphabnlpaaGreatDoor
