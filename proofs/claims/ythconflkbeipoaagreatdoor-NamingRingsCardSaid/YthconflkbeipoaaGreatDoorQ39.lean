/- What the program computes, and the plain laws of it, part 39. -/
import Derived.Test.YthconflkbeipoaaGreatDoorQ26
namespace Go.Proofs.YthconflkbeipoaaGreatDoor
attribute [local irreducible] PL QL PWPr PCalls Weak RetK Kontr PA
open Go.RowKit
open IntWalk renaming iteOmega → iO, toNatUp → tN
set_option linter.unusedVariables false
set_option linter.unusedSimpArgs false
set_option maxRecDepth 20000
def PredB (P : Program) (g : FuncId) (ks : List Nat) (os : List Ob) (l : List Atr) (q : Atr → Bool) : Prop := bodyOk P g = true ∧ ∀ x ∈ l, PCalls P g (.agg (x.d.map D.e) :: ks.map fun k => .c (.ptr k 0)) os fun r os' => r = .c (.v (.bool (q x))) ∧ os' = os
def idxB (q : Atr → Bool) (l : List Atr) (k : Int) : Prop := (k = -1 ∧ ∀ x ∈ l, q x = false) ∨ ∃ i : Nat, k = i ∧ i < l.length ∧ q (l.getD i default) = true ∧ ∀ x ∈ l.take i, q x = false
theorem allSomeB : ∀ ks : List Nat, allSome (ks.map fun k => some (PV.c (.ptr k 0))) (ks.map fun k => PV.c (.ptr k 0))
  | [] => trivial
  | k :: ks => ⟨leP_refl _, allSomeB ks⟩
theorem indexFuncB_pure (l : List Atr) (hl : l.length ≤ 1000000000) (g : FuncId) (ks : List Nat) (os : List Ob) (q : Atr → Bool) (hp : PredB Tryz.prog g ks os l q) :
    PCalls Tryz.prog 80 [.c (.sl 2 (l.map Atr.d)), .c (.fn (.func g) [] ks)] os fun r os' => ∃ k, idxB q l k ∧ r = .c (.v (.int .i64 k)) ∧ os' = os := by
  refine pcalls_of_all Tryz.func80 rfl (by simp [Tryz.ntmps80]) ?_
  rw [Tryz.ntmps80, Tryz.results80]
  push_cast [iO, tN]
  repeat' (first | ((first | refine pG ?_ | refine pQ ?_ | refine pU ?_); push_cast [iO, tN]) | (refine pif (fun h => ?_) (fun h => ?_) <;> first | exact pN h | push_cast [iO, tN]))
  refine pwp_loop2 (α := Nat) (fun k => k ≤ l.length ∧ ∀ x ∈ l.take k, q x = false) (fun k => ⟨[(8, .c (.v (.int .i64 k))), (7, .c (.v (.int .i64 l.length))), (6, .c (.sl 2 (l.map Atr.d))), (0, .c (.sl 2 (l.map Atr.d))), (1, .c (.fn (.func g) [] ks))], os⟩) (fun k => l.length - k) 0 ⟨by omega, by simp⟩ (weak_slots (by push_cast [iO, tN]) rfl) ?_
  rintro k ⟨hk, hpre⟩
  by_cases hlt : k < l.length
  · have hm : l.getD k default ∈ l := by rw [getD_lt l hlt]; exact List.getElem_mem _
    have hc := hp.2 _ hm
    have hpre2 : q (l.getD k default) = false → ∀ x ∈ l.take (k + 1), q x = false := fun h x hx => by
      rw [List.take_succ_eq_append_getElem hlt] at hx
      rcases List.mem_append.1 hx with hx | hx
      · exact hpre x hx
      · simp at hx; subst hx; rw [← getD_lt l hlt]; exact h
    cases hq : q (l.getD k default)
    all_goals rw [hq] at hc
    all_goals repeat' (first |  (refine pl_call_all rfl (by push_cast [iO, tN]) rfl hp.1 (by push_cast [iO, tN]) ?_ hc ?_; (focus (unfold callArgs; push_cast [iO, tN]; exact allSomeB ks)); rintro r os ⟨rfl, rfl⟩; refine pl_of_pops ?_; push_cast [iO, tN])  | ((first | refine pG ?_ | refine pQ ?_ | refine pU ?_); push_cast [iO, tN]) | (refine pif (fun h => ?_) (fun h => ?_) <;> first | exact pN h | push_cast [iO, tN]))
    · exact ⟨k + 1, ⟨by omega, hpre2 hq⟩, weak_slots (by push_cast [iO, tN]) rfl, by omega⟩
    · exact ⟨_, rfl, by push_cast [iO, tN], k, .inr ⟨k, rfl, hlt, hq, hpre⟩, rfl, rfl⟩
  · rw [List.take_of_length_le (by omega)] at hpre
    repeat' (first | ((first | refine pG ?_ | refine pQ ?_ | refine pU ?_); push_cast [iO, tN]) | (refine pif (fun h => ?_) (fun h => ?_) <;> first | exact pN h | push_cast [iO, tN]))
    exact ⟨_, rfl, by push_cast [iO, tN], -1, .inl ⟨rfl, hpre⟩, rfl, rfl⟩
theorem containsFuncB_pure (l : List Atr) (hl : l.length ≤ 1000000000) (g : FuncId) (ks : List Nat) (os : List Ob) (q : Atr → Bool) (hp : PredB Tryz.prog g ks os l q) :
    PCalls Tryz.prog 78 [.c (.sl 2 (l.map Atr.d)), .c (.fn (.func g) [] ks)] os fun r os' => r = .c (.v (.bool (l.any q))) ∧ os' = os := by
  refine pcalls_of_all Tryz.func78 rfl (by simp [Tryz.ntmps78]) ?_
  rw [Tryz.ntmps78, Tryz.results78]
  push_cast [iO, tN]
  repeat' (first |  (refine pl_call_all rfl (by push_cast [iO, tN]) rfl (by kernel_rfl) (by push_cast [iO, tN]) ?_ (indexFuncB_pure l hl g ks os q hp) ?_; (focus (unfold callArgs; push_cast [iO, tN])); rintro r os ⟨k, hk, rfl, rfl⟩; refine pl_of_pops ?_; push_cast [iO, tN])  | ((first | refine pG ?_ | refine pQ ?_ | refine pU ?_); push_cast [iO, tN]) | (refine pif (fun h => ?_) (fun h => ?_) <;> first | exact pN h | push_cast [iO, tN]))
  refine ⟨_, rfl, by push_cast [iO, tN], ?_, rfl⟩
  rcases hk with ⟨rfl, h⟩ | ⟨i, rfl, hi, hq, _⟩
  · have : l.any q = false := by rw [List.any_eq_false]; intro x hx; simp [h x hx]
    rw [this]; rfl
  · have : l.any q = true := List.any_eq_true.2 ⟨l.getD i default, by rw [getD_lt l hi]; exact List.getElem_mem _, hq⟩
    rw [this]; simp
end Go.Proofs.YthconflkbeipoaaGreatDoor
