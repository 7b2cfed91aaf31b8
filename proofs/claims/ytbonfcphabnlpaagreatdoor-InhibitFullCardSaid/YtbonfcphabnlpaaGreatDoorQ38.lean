/- What the program computes, and the plain laws of it, part 38. -/
import Derived.Test.YtbonfcphabnlpaaGreatDoorQ33
namespace Go.Proofs.YtbonfcphabnlpaaGreatDoor
attribute [local irreducible] PL QL PWPr PCalls Weak RetK Kontr PA
open Go.RowKit
open IntWalk renaming iteOmega → iO, toNatUp → tN
set_option linter.unusedVariables false
set_option linter.unusedSimpArgs false
set_option maxRecDepth 20000
set_option maxHeartbeats 4000000 in
theorem rclash_pure (a b : Dev) (ha : a.original.size ≤ 100000) (hb : b.original.size ≤ 100000) :
    PCalls Tryz.prog 36 [.agg a.e, .agg b.e] [] fun r os => r = .c (.v (.bool (clashM a b))) ∧ os = [] := by
  have n1 := rnode_pure a (by omega)
  have n2 := rnode_pure b (by omega)
  have ns : ∀ d : Dev, d.original.size ≤ 100000 → (nodeM d).size ≤ 1000000 := fun d hd => by
    unfold nodeM
    split
    · rw [nodeS_fit]; omega
    · decide
  have b1 := rbeneath_pure (nodeM a) (nodeM b) (ns a ha)
  have b2 := rbeneath_pure (nodeM b) (nodeM a) (ns b hb)
  unfold clashM
  obtain ⟨c1, h1⟩ : ∃ c, hasN a = c := ⟨_, rfl⟩
  obtain ⟨c2, h2⟩ : ∃ c, hasN b = c := ⟨_, rfl⟩
  obtain ⟨c3, h3⟩ : ∃ c, beneath (nodeM a) (nodeM b) = c := ⟨_, rfl⟩
  obtain ⟨c4, h4⟩ : ∃ c, beneath (nodeM b) (nodeM a) = c := ⟨_, rfl⟩
  rw [h1] at n1 ⊢
  rw [h2] at n2 ⊢
  rw [h3] at b1
  rw [h4] at b2
  refine pcalls_of Tryz.func36 rfl (by simp [Tryz.ntmps36]) ?_
  rw [Tryz.ntmps36, Tryz.results36]
  push_cast [iO, tN]
  have cB : CutB 9 [] := trivial
  by_cases k1 : a.kind = 4
  case neg =>
    have e0 : ((decide (a.kind = 4) && decide (b.kind = 4)) && decide (a.name = b.name)) = false := by rw [decide_eq_false k1]; rfl
    repeat' (first | ((first | refine pC ?_ | refine pQC ?_ | refine pU ?_); push_cast [iO, tN, k1]) | (refine pif (fun h => ?_) (fun h => ?_) <;> first | exact pN h | push_cast [iO, tN, k1]))
    cases c1
    case false =>
      repeat' (first |  (refine plc [] (n1) ?_ ?_; push_cast [iO, tN]; rintro r os ⟨rfl, rfl⟩; push_cast [iO, tN]) | (refine plc [] (n2) ?_ ?_; push_cast [iO, tN]; rintro r os ⟨rfl, rfl⟩; push_cast [iO, tN])  | ((first | refine pC ?_ | refine pQC ?_ | refine pU ?_); push_cast [iO, tN]) | (refine pif (fun h => ?_) (fun h => ?_) <;> first | exact pN h | push_cast [iO, tN]))
      (refine retK_of [] ?_; push_cast [iO, tN])
      all_goals simp [e0]
    cases c2
    case false =>
      repeat' (first |  (refine plc [] (n1) ?_ ?_; push_cast [iO, tN]; rintro r os ⟨rfl, rfl⟩; push_cast [iO, tN]) | (refine plc [] (n2) ?_ ?_; push_cast [iO, tN]; rintro r os ⟨rfl, rfl⟩; push_cast [iO, tN])  | ((first | refine pC ?_ | refine pQC ?_ | refine pU ?_); push_cast [iO, tN]) | (refine pif (fun h => ?_) (fun h => ?_) <;> first | exact pN h | push_cast [iO, tN]))
      (refine retK_of [] ?_; push_cast [iO, tN])
      all_goals simp [e0]
    by_cases q1 : a.kind = b.kind
    case pos =>
      have q1' := eq_true q1
      by_cases q2 : a.number = b.number
      case pos =>
        have q2' := eq_true q2
        repeat' (first | (refine plc [] (n1) ?_ ?_; push_cast [iO, tN, q1', q2']; rintro r os ⟨rfl, rfl⟩; push_cast [iO, tN, q1', q2']) | (refine plc [] (n2) ?_ ?_; push_cast [iO, tN, q1', q2']; rintro r os ⟨rfl, rfl⟩; push_cast [iO, tN, q1', q2']) | ((first | refine pC ?_ | refine pQC ?_ | refine pU ?_); push_cast [iO, tN, q1', q2']) | (refine pif (fun h => ?_) (fun h => ?_) <;> first | exact pN h | push_cast [iO, tN, q1', q2']))
        (refine retK_of [] ?_; push_cast [iO, tN])
        all_goals simp [q1, q2]
      by_cases q3 : nodeM a = nodeM b
      case pos =>
        have q3' := eq_true q3
        repeat' (first | (refine plc [] (n1) ?_ ?_; push_cast [iO, tN, q1', q2, q3']; rintro r os ⟨rfl, rfl⟩; push_cast [iO, tN, q1', q2, q3']) | (refine plc [] (n2) ?_ ?_; push_cast [iO, tN, q1', q2, q3']; rintro r os ⟨rfl, rfl⟩; push_cast [iO, tN, q1', q2, q3']) | ((first | refine pC ?_ | refine pQC ?_ | refine pU ?_); push_cast [iO, tN, q1', q2, q3']) | (refine pif (fun h => ?_) (fun h => ?_) <;> first | exact pN h | push_cast [iO, tN, q1', q2, q3']))
        (refine retK_of [] ?_; push_cast [iO, tN])
        all_goals simp [q3]
      cases c3
      case true =>
        repeat' (first | (refine plc [] (n1) ?_ ?_; push_cast [iO, tN, q1', q2, q3]; rintro r os ⟨rfl, rfl⟩; push_cast [iO, tN, q1', q2, q3]) | (refine plc [] (n2) ?_ ?_; push_cast [iO, tN, q1', q2, q3]; rintro r os ⟨rfl, rfl⟩; push_cast [iO, tN, q1', q2, q3]) | (refine plc [] (b1) ?_ ?_; push_cast [iO, tN, q1', q2, q3]; rintro r os ⟨rfl, rfl⟩; push_cast [iO, tN, q1', q2, q3]) | ((first | refine pC ?_ | refine pQC ?_ | refine pU ?_); push_cast [iO, tN, q1', q2, q3]) | (refine pif (fun h => ?_) (fun h => ?_) <;> first | exact pN h | push_cast [iO, tN, q1', q2, q3]))
        (refine retK_of [] ?_; push_cast [iO, tN])
        all_goals simp [h3]
      repeat' (first | (refine plc [] (n1) ?_ ?_; push_cast [iO, tN, q1', q2, q3]; rintro r os ⟨rfl, rfl⟩; push_cast [iO, tN, q1', q2, q3]) | (refine plc [] (n2) ?_ ?_; push_cast [iO, tN, q1', q2, q3]; rintro r os ⟨rfl, rfl⟩; push_cast [iO, tN, q1', q2, q3]) | (refine plc [] (b1) ?_ ?_; push_cast [iO, tN, q1', q2, q3]; rintro r os ⟨rfl, rfl⟩; push_cast [iO, tN, q1', q2, q3]) | (refine plc [] (b2) ?_ ?_; push_cast [iO, tN, q1', q2, q3]; rintro r os ⟨rfl, rfl⟩; push_cast [iO, tN, q1', q2, q3]) | ((first | refine pC ?_ | refine pQC ?_ | refine pU ?_); push_cast [iO, tN, q1', q2, q3]) | (refine pif (fun h => ?_) (fun h => ?_) <;> first | exact pN h | push_cast [iO, tN, q1', q2, q3]))
      (refine retK_of [] ?_; push_cast [iO, tN])
      all_goals simp [e0, h3, h4, q2, q3]
    by_cases q3 : nodeM a = nodeM b
    case pos =>
      have q3' := eq_true q3
      repeat' (first | (refine plc [] (n1) ?_ ?_; push_cast [iO, tN, q1, q3']; rintro r os ⟨rfl, rfl⟩; push_cast [iO, tN, q1, q3']) | (refine plc [] (n2) ?_ ?_; push_cast [iO, tN, q1, q3']; rintro r os ⟨rfl, rfl⟩; push_cast [iO, tN, q1, q3']) | ((first | refine pC ?_ | refine pQC ?_ | refine pU ?_); push_cast [iO, tN, q1, q3']) | (refine pif (fun h => ?_) (fun h => ?_) <;> first | exact pN h | push_cast [iO, tN, q1, q3']))
      (refine retK_of [] ?_; push_cast [iO, tN])
      all_goals simp [q3]
    cases c3
    case true =>
      repeat' (first | (refine plc [] (n1) ?_ ?_; push_cast [iO, tN, q1, q3]; rintro r os ⟨rfl, rfl⟩; push_cast [iO, tN, q1, q3]) | (refine plc [] (n2) ?_ ?_; push_cast [iO, tN, q1, q3]; rintro r os ⟨rfl, rfl⟩; push_cast [iO, tN, q1, q3]) | (refine plc [] (b1) ?_ ?_; push_cast [iO, tN, q1, q3]; rintro r os ⟨rfl, rfl⟩; push_cast [iO, tN, q1, q3]) | ((first | refine pC ?_ | refine pQC ?_ | refine pU ?_); push_cast [iO, tN, q1, q3]) | (refine pif (fun h => ?_) (fun h => ?_) <;> first | exact pN h | push_cast [iO, tN, q1, q3]))
      (refine retK_of [] ?_; push_cast [iO, tN])
      all_goals simp [h3]
    repeat' (first | (refine plc [] (n1) ?_ ?_; push_cast [iO, tN, q1, q3]; rintro r os ⟨rfl, rfl⟩; push_cast [iO, tN, q1, q3]) | (refine plc [] (n2) ?_ ?_; push_cast [iO, tN, q1, q3]; rintro r os ⟨rfl, rfl⟩; push_cast [iO, tN, q1, q3]) | (refine plc [] (b1) ?_ ?_; push_cast [iO, tN, q1, q3]; rintro r os ⟨rfl, rfl⟩; push_cast [iO, tN, q1, q3]) | (refine plc [] (b2) ?_ ?_; push_cast [iO, tN, q1, q3]; rintro r os ⟨rfl, rfl⟩; push_cast [iO, tN, q1, q3]) | ((first | refine pC ?_ | refine pQC ?_ | refine pU ?_); push_cast [iO, tN, q1, q3]) | (refine pif (fun h => ?_) (fun h => ?_) <;> first | exact pN h | push_cast [iO, tN, q1, q3]))
    (refine retK_of [] ?_; push_cast [iO, tN])
    all_goals simp [e0, h3, h4, q1, q3]
  have k1' := eq_true k1
  by_cases k2 : b.kind = 4
  case neg =>
    have e0 : ((decide (a.kind = 4) && decide (b.kind = 4)) && decide (a.name = b.name)) = false := by rw [decide_eq_false k2, Bool.and_false]; rfl
    repeat' (first | ((first | refine pC ?_ | refine pQC ?_ | refine pU ?_); push_cast [iO, tN, k1', k2]) | (refine pif (fun h => ?_) (fun h => ?_) <;> first | exact pN h | push_cast [iO, tN, k1', k2]))
    cases c1
    case false =>
      repeat' (first |  (refine plc [] (n1) ?_ ?_; push_cast [iO, tN]; rintro r os ⟨rfl, rfl⟩; push_cast [iO, tN]) | (refine plc [] (n2) ?_ ?_; push_cast [iO, tN]; rintro r os ⟨rfl, rfl⟩; push_cast [iO, tN])  | ((first | refine pC ?_ | refine pQC ?_ | refine pU ?_); push_cast [iO, tN]) | (refine pif (fun h => ?_) (fun h => ?_) <;> first | exact pN h | push_cast [iO, tN]))
      (refine retK_of [] ?_; push_cast [iO, tN])
      all_goals simp [e0]
    cases c2
    case false =>
      repeat' (first |  (refine plc [] (n1) ?_ ?_; push_cast [iO, tN]; rintro r os ⟨rfl, rfl⟩; push_cast [iO, tN]) | (refine plc [] (n2) ?_ ?_; push_cast [iO, tN]; rintro r os ⟨rfl, rfl⟩; push_cast [iO, tN])  | ((first | refine pC ?_ | refine pQC ?_ | refine pU ?_); push_cast [iO, tN]) | (refine pif (fun h => ?_) (fun h => ?_) <;> first | exact pN h | push_cast [iO, tN]))
      (refine retK_of [] ?_; push_cast [iO, tN])
      all_goals simp [e0]
    by_cases q1 : a.kind = b.kind
    case pos =>
      have q1' := eq_true q1
      by_cases q2 : a.number = b.number
      case pos =>
        have q2' := eq_true q2
        repeat' (first | (refine plc [] (n1) ?_ ?_; push_cast [iO, tN, q1', q2']; rintro r os ⟨rfl, rfl⟩; push_cast [iO, tN, q1', q2']) | (refine plc [] (n2) ?_ ?_; push_cast [iO, tN, q1', q2']; rintro r os ⟨rfl, rfl⟩; push_cast [iO, tN, q1', q2']) | ((first | refine pC ?_ | refine pQC ?_ | refine pU ?_); push_cast [iO, tN, q1', q2']) | (refine pif (fun h => ?_) (fun h => ?_) <;> first | exact pN h | push_cast [iO, tN, q1', q2']))
        (refine retK_of [] ?_; push_cast [iO, tN])
        all_goals simp [q1, q2]
      by_cases q3 : nodeM a = nodeM b
      case pos =>
        have q3' := eq_true q3
        repeat' (first | (refine plc [] (n1) ?_ ?_; push_cast [iO, tN, q1', q2, q3']; rintro r os ⟨rfl, rfl⟩; push_cast [iO, tN, q1', q2, q3']) | (refine plc [] (n2) ?_ ?_; push_cast [iO, tN, q1', q2, q3']; rintro r os ⟨rfl, rfl⟩; push_cast [iO, tN, q1', q2, q3']) | ((first | refine pC ?_ | refine pQC ?_ | refine pU ?_); push_cast [iO, tN, q1', q2, q3']) | (refine pif (fun h => ?_) (fun h => ?_) <;> first | exact pN h | push_cast [iO, tN, q1', q2, q3']))
        (refine retK_of [] ?_; push_cast [iO, tN])
        all_goals simp [q3]
      cases c3
      case true =>
        repeat' (first | (refine plc [] (n1) ?_ ?_; push_cast [iO, tN, q1', q2, q3]; rintro r os ⟨rfl, rfl⟩; push_cast [iO, tN, q1', q2, q3]) | (refine plc [] (n2) ?_ ?_; push_cast [iO, tN, q1', q2, q3]; rintro r os ⟨rfl, rfl⟩; push_cast [iO, tN, q1', q2, q3]) | (refine plc [] (b1) ?_ ?_; push_cast [iO, tN, q1', q2, q3]; rintro r os ⟨rfl, rfl⟩; push_cast [iO, tN, q1', q2, q3]) | ((first | refine pC ?_ | refine pQC ?_ | refine pU ?_); push_cast [iO, tN, q1', q2, q3]) | (refine pif (fun h => ?_) (fun h => ?_) <;> first | exact pN h | push_cast [iO, tN, q1', q2, q3]))
        (refine retK_of [] ?_; push_cast [iO, tN])
        all_goals simp [h3]
      repeat' (first | (refine plc [] (n1) ?_ ?_; push_cast [iO, tN, q1', q2, q3]; rintro r os ⟨rfl, rfl⟩; push_cast [iO, tN, q1', q2, q3]) | (refine plc [] (n2) ?_ ?_; push_cast [iO, tN, q1', q2, q3]; rintro r os ⟨rfl, rfl⟩; push_cast [iO, tN, q1', q2, q3]) | (refine plc [] (b1) ?_ ?_; push_cast [iO, tN, q1', q2, q3]; rintro r os ⟨rfl, rfl⟩; push_cast [iO, tN, q1', q2, q3]) | (refine plc [] (b2) ?_ ?_; push_cast [iO, tN, q1', q2, q3]; rintro r os ⟨rfl, rfl⟩; push_cast [iO, tN, q1', q2, q3]) | ((first | refine pC ?_ | refine pQC ?_ | refine pU ?_); push_cast [iO, tN, q1', q2, q3]) | (refine pif (fun h => ?_) (fun h => ?_) <;> first | exact pN h | push_cast [iO, tN, q1', q2, q3]))
      (refine retK_of [] ?_; push_cast [iO, tN])
      all_goals simp [e0, h3, h4, q2, q3]
    by_cases q3 : nodeM a = nodeM b
    case pos =>
      have q3' := eq_true q3
      repeat' (first | (refine plc [] (n1) ?_ ?_; push_cast [iO, tN, q1, q3']; rintro r os ⟨rfl, rfl⟩; push_cast [iO, tN, q1, q3']) | (refine plc [] (n2) ?_ ?_; push_cast [iO, tN, q1, q3']; rintro r os ⟨rfl, rfl⟩; push_cast [iO, tN, q1, q3']) | ((first | refine pC ?_ | refine pQC ?_ | refine pU ?_); push_cast [iO, tN, q1, q3']) | (refine pif (fun h => ?_) (fun h => ?_) <;> first | exact pN h | push_cast [iO, tN, q1, q3']))
      (refine retK_of [] ?_; push_cast [iO, tN])
      all_goals simp [q3]
    cases c3
    case true =>
      repeat' (first | (refine plc [] (n1) ?_ ?_; push_cast [iO, tN, q1, q3]; rintro r os ⟨rfl, rfl⟩; push_cast [iO, tN, q1, q3]) | (refine plc [] (n2) ?_ ?_; push_cast [iO, tN, q1, q3]; rintro r os ⟨rfl, rfl⟩; push_cast [iO, tN, q1, q3]) | (refine plc [] (b1) ?_ ?_; push_cast [iO, tN, q1, q3]; rintro r os ⟨rfl, rfl⟩; push_cast [iO, tN, q1, q3]) | ((first | refine pC ?_ | refine pQC ?_ | refine pU ?_); push_cast [iO, tN, q1, q3]) | (refine pif (fun h => ?_) (fun h => ?_) <;> first | exact pN h | push_cast [iO, tN, q1, q3]))
      (refine retK_of [] ?_; push_cast [iO, tN])
      all_goals simp [h3]
    repeat' (first | (refine plc [] (n1) ?_ ?_; push_cast [iO, tN, q1, q3]; rintro r os ⟨rfl, rfl⟩; push_cast [iO, tN, q1, q3]) | (refine plc [] (n2) ?_ ?_; push_cast [iO, tN, q1, q3]; rintro r os ⟨rfl, rfl⟩; push_cast [iO, tN, q1, q3]) | (refine plc [] (b1) ?_ ?_; push_cast [iO, tN, q1, q3]; rintro r os ⟨rfl, rfl⟩; push_cast [iO, tN, q1, q3]) | (refine plc [] (b2) ?_ ?_; push_cast [iO, tN, q1, q3]; rintro r os ⟨rfl, rfl⟩; push_cast [iO, tN, q1, q3]) | ((first | refine pC ?_ | refine pQC ?_ | refine pU ?_); push_cast [iO, tN, q1, q3]) | (refine pif (fun h => ?_) (fun h => ?_) <;> first | exact pN h | push_cast [iO, tN, q1, q3]))
    (refine retK_of [] ?_; push_cast [iO, tN])
    all_goals simp [e0, h3, h4, q1, q3]
  have k2' := eq_true k2
  by_cases k3 : a.name = b.name
  case neg =>
    have e0 : ((decide (a.kind = 4) && decide (b.kind = 4)) && decide (a.name = b.name)) = false := by rw [decide_eq_false k3, Bool.and_false]
    repeat' (first | ((first | refine pC ?_ | refine pQC ?_ | refine pU ?_); push_cast [iO, tN, k1', k2', k3]) | (refine pif (fun h => ?_) (fun h => ?_) <;> first | exact pN h | push_cast [iO, tN, k1', k2', k3]))
    cases c1
    case false =>
      repeat' (first |  (refine plc [] (n1) ?_ ?_; push_cast [iO, tN]; rintro r os ⟨rfl, rfl⟩; push_cast [iO, tN]) | (refine plc [] (n2) ?_ ?_; push_cast [iO, tN]; rintro r os ⟨rfl, rfl⟩; push_cast [iO, tN])  | ((first | refine pC ?_ | refine pQC ?_ | refine pU ?_); push_cast [iO, tN]) | (refine pif (fun h => ?_) (fun h => ?_) <;> first | exact pN h | push_cast [iO, tN]))
      (refine retK_of [] ?_; push_cast [iO, tN])
      all_goals simp [e0]
    cases c2
    case false =>
      repeat' (first |  (refine plc [] (n1) ?_ ?_; push_cast [iO, tN]; rintro r os ⟨rfl, rfl⟩; push_cast [iO, tN]) | (refine plc [] (n2) ?_ ?_; push_cast [iO, tN]; rintro r os ⟨rfl, rfl⟩; push_cast [iO, tN])  | ((first | refine pC ?_ | refine pQC ?_ | refine pU ?_); push_cast [iO, tN]) | (refine pif (fun h => ?_) (fun h => ?_) <;> first | exact pN h | push_cast [iO, tN]))
      (refine retK_of [] ?_; push_cast [iO, tN])
      all_goals simp [e0]
    by_cases q1 : a.kind = b.kind
    case pos =>
      have q1' := eq_true q1
      by_cases q2 : a.number = b.number
      case pos =>
        have q2' := eq_true q2
        repeat' (first | (refine plc [] (n1) ?_ ?_; push_cast [iO, tN, q1', q2']; rintro r os ⟨rfl, rfl⟩; push_cast [iO, tN, q1', q2']) | (refine plc [] (n2) ?_ ?_; push_cast [iO, tN, q1', q2']; rintro r os ⟨rfl, rfl⟩; push_cast [iO, tN, q1', q2']) | ((first | refine pC ?_ | refine pQC ?_ | refine pU ?_); push_cast [iO, tN, q1', q2']) | (refine pif (fun h => ?_) (fun h => ?_) <;> first | exact pN h | push_cast [iO, tN, q1', q2']))
        (refine retK_of [] ?_; push_cast [iO, tN])
        all_goals simp [q1, q2]
      by_cases q3 : nodeM a = nodeM b
      case pos =>
        have q3' := eq_true q3
        repeat' (first | (refine plc [] (n1) ?_ ?_; push_cast [iO, tN, q1', q2, q3']; rintro r os ⟨rfl, rfl⟩; push_cast [iO, tN, q1', q2, q3']) | (refine plc [] (n2) ?_ ?_; push_cast [iO, tN, q1', q2, q3']; rintro r os ⟨rfl, rfl⟩; push_cast [iO, tN, q1', q2, q3']) | ((first | refine pC ?_ | refine pQC ?_ | refine pU ?_); push_cast [iO, tN, q1', q2, q3']) | (refine pif (fun h => ?_) (fun h => ?_) <;> first | exact pN h | push_cast [iO, tN, q1', q2, q3']))
        (refine retK_of [] ?_; push_cast [iO, tN])
        all_goals simp [q3]
      cases c3
      case true =>
        repeat' (first | (refine plc [] (n1) ?_ ?_; push_cast [iO, tN, q1', q2, q3]; rintro r os ⟨rfl, rfl⟩; push_cast [iO, tN, q1', q2, q3]) | (refine plc [] (n2) ?_ ?_; push_cast [iO, tN, q1', q2, q3]; rintro r os ⟨rfl, rfl⟩; push_cast [iO, tN, q1', q2, q3]) | (refine plc [] (b1) ?_ ?_; push_cast [iO, tN, q1', q2, q3]; rintro r os ⟨rfl, rfl⟩; push_cast [iO, tN, q1', q2, q3]) | ((first | refine pC ?_ | refine pQC ?_ | refine pU ?_); push_cast [iO, tN, q1', q2, q3]) | (refine pif (fun h => ?_) (fun h => ?_) <;> first | exact pN h | push_cast [iO, tN, q1', q2, q3]))
        (refine retK_of [] ?_; push_cast [iO, tN])
        all_goals simp [h3]
      repeat' (first | (refine plc [] (n1) ?_ ?_; push_cast [iO, tN, q1', q2, q3]; rintro r os ⟨rfl, rfl⟩; push_cast [iO, tN, q1', q2, q3]) | (refine plc [] (n2) ?_ ?_; push_cast [iO, tN, q1', q2, q3]; rintro r os ⟨rfl, rfl⟩; push_cast [iO, tN, q1', q2, q3]) | (refine plc [] (b1) ?_ ?_; push_cast [iO, tN, q1', q2, q3]; rintro r os ⟨rfl, rfl⟩; push_cast [iO, tN, q1', q2, q3]) | (refine plc [] (b2) ?_ ?_; push_cast [iO, tN, q1', q2, q3]; rintro r os ⟨rfl, rfl⟩; push_cast [iO, tN, q1', q2, q3]) | ((first | refine pC ?_ | refine pQC ?_ | refine pU ?_); push_cast [iO, tN, q1', q2, q3]) | (refine pif (fun h => ?_) (fun h => ?_) <;> first | exact pN h | push_cast [iO, tN, q1', q2, q3]))
      (refine retK_of [] ?_; push_cast [iO, tN])
      all_goals simp [e0, h3, h4, q2, q3]
    by_cases q3 : nodeM a = nodeM b
    case pos =>
      have q3' := eq_true q3
      repeat' (first | (refine plc [] (n1) ?_ ?_; push_cast [iO, tN, q1, q3']; rintro r os ⟨rfl, rfl⟩; push_cast [iO, tN, q1, q3']) | (refine plc [] (n2) ?_ ?_; push_cast [iO, tN, q1, q3']; rintro r os ⟨rfl, rfl⟩; push_cast [iO, tN, q1, q3']) | ((first | refine pC ?_ | refine pQC ?_ | refine pU ?_); push_cast [iO, tN, q1, q3']) | (refine pif (fun h => ?_) (fun h => ?_) <;> first | exact pN h | push_cast [iO, tN, q1, q3']))
      (refine retK_of [] ?_; push_cast [iO, tN])
      all_goals simp [q3]
    cases c3
    case true =>
      repeat' (first | (refine plc [] (n1) ?_ ?_; push_cast [iO, tN, q1, q3]; rintro r os ⟨rfl, rfl⟩; push_cast [iO, tN, q1, q3]) | (refine plc [] (n2) ?_ ?_; push_cast [iO, tN, q1, q3]; rintro r os ⟨rfl, rfl⟩; push_cast [iO, tN, q1, q3]) | (refine plc [] (b1) ?_ ?_; push_cast [iO, tN, q1, q3]; rintro r os ⟨rfl, rfl⟩; push_cast [iO, tN, q1, q3]) | ((first | refine pC ?_ | refine pQC ?_ | refine pU ?_); push_cast [iO, tN, q1, q3]) | (refine pif (fun h => ?_) (fun h => ?_) <;> first | exact pN h | push_cast [iO, tN, q1, q3]))
      (refine retK_of [] ?_; push_cast [iO, tN])
      all_goals simp [h3]
    repeat' (first | (refine plc [] (n1) ?_ ?_; push_cast [iO, tN, q1, q3]; rintro r os ⟨rfl, rfl⟩; push_cast [iO, tN, q1, q3]) | (refine plc [] (n2) ?_ ?_; push_cast [iO, tN, q1, q3]; rintro r os ⟨rfl, rfl⟩; push_cast [iO, tN, q1, q3]) | (refine plc [] (b1) ?_ ?_; push_cast [iO, tN, q1, q3]; rintro r os ⟨rfl, rfl⟩; push_cast [iO, tN, q1, q3]) | (refine plc [] (b2) ?_ ?_; push_cast [iO, tN, q1, q3]; rintro r os ⟨rfl, rfl⟩; push_cast [iO, tN, q1, q3]) | ((first | refine pC ?_ | refine pQC ?_ | refine pU ?_); push_cast [iO, tN, q1, q3]) | (refine pif (fun h => ?_) (fun h => ?_) <;> first | exact pN h | push_cast [iO, tN, q1, q3]))
    (refine retK_of [] ?_; push_cast [iO, tN])
    all_goals simp [e0, h3, h4, q1, q3]
  have k3' := eq_true k3
  repeat' (first | ((first | refine pC ?_ | refine pQC ?_ | refine pU ?_); push_cast [iO, tN, k1', k2', k3']) | (refine pif (fun h => ?_) (fun h => ?_) <;> first | exact pN h | push_cast [iO, tN, k1', k2', k3']))
  (refine retK_of [] ?_; push_cast [iO, tN])
  all_goals simp [k1, k2, k3]
def remL (l : List Dev) (n : Int) (k : Nat) : List Dev := (l.take k).filter fun d => !belowM l d.index n
theorem remL_t {l : List Dev} {n : Int} {k : Nat} (hk : k < l.length) (h : belowM l (l.getD k default).index n = false) : remL l n (k + 1) = remL l n k ++ [l.getD k default] := by
  rw [getD_lt l hk] at *
  unfold remL
  rw [List.take_succ_eq_append_getElem hk, List.filter_append, List.filter_cons_of_pos (by simp [h])]; rfl
theorem remL_f {l : List Dev} {n : Int} {k : Nat} (hk : k < l.length) (h : belowM l (l.getD k default).index n = true) : remL l n (k + 1) = remL l n k := by
  rw [getD_lt l hk] at h
  unfold remL
  rw [List.take_succ_eq_append_getElem hk, List.filter_append, List.filter_cons_of_neg (by simp [h]), List.filter_nil, List.append_nil]
theorem remL_len (l : List Dev) (n : Int) (k : Nat) : (remL l n k).length ≤ k := Nat.le_trans (List.length_filter_le _ _) (List.length_take_le _ _)
set_option maxHeartbeats 4000000 in
theorem rrem_pure (l : List Dev) (n : Int) (hl : l.length ≤ 1000000) :
    PCalls Tryz.prog 25 [.agg (trE l), .c (.v (.int .i64 n))] [] fun r os => r = .two (.agg (trE (if (findD l n).isSome then remT l n else []))) (.c (.v (.int .i64 (if (findD l n).isSome then 0 else 45)))) ∧ os = [] := by
  have hi := rindex_pure l n (by omega)
  refine pcalls_of Tryz.func25 rfl (by simp [Tryz.ntmps25]) ?_
  rw [Tryz.ntmps25, Tryz.results25]
  rcases idxI_find n l with ⟨h1, h2⟩ | ⟨i, h1, h2, h3⟩
  · rw [h1] at hi
    rw [h2]
    push_cast [iO, tN]
    repeat' (first |  (refine plc [] (hi) ?_ ?_; push_cast [iO, tN]; rintro r os ⟨rfl, rfl⟩; push_cast [iO, tN])  | ((first | refine pG ?_ | refine pQ ?_ | refine pU ?_); push_cast [iO, tN]) | (refine pif (fun h => ?_) (fun h => ?_) <;> first | exact pN h | push_cast [iO, tN]))
    (refine retK_of [] ?_; push_cast [iO, tN])
    all_goals exact ⟨rfl, rfl⟩
  · rw [h1] at hi
    rw [h3]
    simp only [Option.isSome_some, if_true]
    push_cast [iO, tN]
    have cB : CutB 8 [] := trivial
    repeat' (first |  (refine plc [] (hi) ?_ ?_; push_cast [iO, tN]; rintro r os ⟨rfl, rfl⟩; push_cast [iO, tN])  | ((first | refine pC ?_ | refine pQC ?_ | refine pU ?_); push_cast [iO, tN]) | (refine pif (fun h => ?_) (fun h => ?_) <;> first | exact pN h | push_cast [iO, tN]))
    refine pwp_weak (weak_adopt_box 2 0 38 10 (by omega) 29 [.v (.slice none 0 0)] rfl rfl) ?_
    push_cast [iO, tN]
    (apply pwp_loop3 (α := Nat) 8 [] (fun k => [(7, .c (.v (.int .i64 k)))]) (fun k => [(2, .box 29 [.own 3 (remL l n k).length]), (3, .arr 38 10 ((remL l n k).map Dev.d))]) (fun k => k ≤ l.length) (fun k => l.length - k) (0); (focus ((try push_cast [iO, tN]); rfl)); (focus exact (by omega)); (focus ((refine weak_fg ?_; try push_cast [iO, tN]); (try (exact ⟨rfl, rfl⟩)))))
    intro k hk
    push_cast [iO, tN]
    by_cases hlt : k < l.length
    · have hb := rbelow_pure l (l.getD k default).index n hl
      have hrl := remL_len l n k
      cases hbm : belowM l (l.getD k default).index n
      · rw [hbm] at hb
        have he := remL_t hlt hbm
        repeat' (first |  ((refine ql_call2 false rfl rfl (by kernel_rfl) (hb) (fun r os h => h.1) rfl ?_ ?_; push_cast [iO, tN]; refine ql_of_qops ?_; push_cast [iO, tN])) | ((refine pwp_cut 8 [] ?_; apply pwp_drawn_to; (focus kernel_rfl); (focus (simp only [List.length_cons, List.length_nil, Nat.reduceAdd]; (repeat' first | ((first | refine pah 0 ?_ | refine pah 2 ?_ | refine pah 4 ?_ | refine pah 5 ?_ | refine pah 9 ?_); push_cast [iO, tN]) | (refine pad ?_; first | with_reducible exact weak_cutS 8 [] _ | (refine weak_fg ?_; push_cast [iO, tN])) | ((first | refine pas [1] ?_ | refine pas [3] ?_ | refine pas [6] ?_ | refine pas [7] ?_ | refine pas [8] ?_ | refine pas [10] ?_); push_cast [iO, tN]) | ((first | refine pas [1, 3] ?_ | refine pas [1, 6] ?_ | refine pas [1, 7] ?_); push_cast [iO, tN]; refine ⟨?_, ?_⟩)); done)); push_cast [iO, tN]))  | ((first | refine pC ?_ | refine pQC ?_ | refine pU ?_); push_cast [iO, tN]) | (refine pif (fun h => ?_) (fun h => ?_) <;> first | exact pN h | push_cast [iO, tN]))
        exact ⟨k + 1, by omega, by (refine weak_fg ?_; push_cast [iO, tN, he]), by omega⟩
      · rw [hbm] at hb
        have he := remL_f hlt hbm
        repeat' (first |  ((refine ql_call2 false rfl rfl (by kernel_rfl) (hb) (fun r os h => h.1) rfl ?_ ?_; push_cast [iO, tN]; refine ql_of_qops ?_; push_cast [iO, tN]))  | ((first | refine pC ?_ | refine pQC ?_ | refine pU ?_); push_cast [iO, tN]) | (refine pif (fun h => ?_) (fun h => ?_) <;> first | exact pN h | push_cast [iO, tN]))
        exact ⟨k + 1, by omega, by (refine weak_fg ?_; push_cast [iO, tN, he]), by omega⟩
    · have he : remL l n k = remT l n := by unfold remL remT; rw [List.take_of_length_le (by omega)]
      rw [he]
      repeat' (first | ((first | refine pC ?_ | refine pQC ?_ | refine pU ?_); push_cast [iO, tN]) | (refine pif (fun h => ?_) (fun h => ?_) <;> first | exact pN h | push_cast [iO, tN]))
      (refine retK_of [] ?_; push_cast [iO, tN])
end Go.Proofs.YtbonfcphabnlpaaGreatDoor
