/- slices.IndexFunc, slices.ContainsFunc. -/
import Derived.Test.YtfojijoekpkheaaDoorPSet
import Derived.Test.YtfojijoekpkheaaDoorPureR
import Derived.Test.YtfojijoekpkheaaDoorPureU
namespace Go.Proofs.YtfojijoekpkheaaDoor
attribute [local irreducible] PL QL PWP PCalls Weak RetK Kont PA
open Go.RowKit
set_option linter.unusedVariables false
set_option linter.unusedSimpArgs false
def PredB (P : Program) (g : FuncId) (ks : List Nat) (os : List Ob) (l : List Atr) (q : Atr → Bool) : Prop := bodyOk P g = true ∧ ∀ x ∈ l, PCalls P g (.agg (x.d.map D.e) :: ks.map fun k => .c (.ptr k 0)) os fun r os' => r = .c (.v (.bool (q x))) ∧ os' = os
/-- the first place where q is true; -1 if there is none -/
def idxB (q : Atr → Bool) (l : List Atr) (k : Int) : Prop := (k = -1 ∧ ∀ x ∈ l, q x = false) ∨ ∃ i : Nat, k = i ∧ i < l.length ∧ q (l.getD i default) = true ∧ ∀ x ∈ l.take i, q x = false
theorem allSomeB : ∀ ks : List Nat, allSome (ks.map fun k => some (PV.c (.ptr k 0))) (ks.map fun k => PV.c (.ptr k 0))
  | [] => trivial
  | k :: ks => ⟨leP_refl _, allSomeB ks⟩
theorem indexFuncB_pure (l : List Atr) (hl : l.length ≤ 1000000000) (g : FuncId) (ks : List Nat) (os : List Ob) (q : Atr → Bool) (hp : PredB Tryd.prog g ks os l q) :
    PCalls Tryd.prog 88 [.c (.sl 2 (l.map Atr.d)), .c (.fn (.func g) [] ks)] os fun r os' => ∃ k, idxB q l k ∧ r = .c (.v (.int .i64 k)) ∧ os' = os := by
  refine pcalls_of_all Tryd.func88 rfl (by simp [Tryd.ntmps88]) ?_
  rw [Tryd.ntmps88, Tryd.results88]
  push_cast [eq_self, iff_self, IntWalk.iteOmega, IntWalk.toNatUp]
  repeat' (first | (refine Kont.use (by assumption) ?_) | (refine pwp_seq fun K hK => ?_) | (refine pwp_block ?_) | (refine pwp_scope ?_) | ((first | refine pwp_region ?_ | refine pwp_quiet (by kernel_rfl) (by kernel_rfl) ?_ | refine pwp_exit ?_ | refine pwp_ret ?_ | refine pwp_skip ?_); push_cast [eq_self, iff_self, IntWalk.iteOmega, IntWalk.toNatUp]) | (refine pwp_cond ?_; push_cast [eq_self, iff_self, IntWalk.iteOmega, IntWalk.toNatUp]; try (refine ⟨fun h => ?_, fun h => ?_⟩ <;> (try simp only [decide_eq_true_eq, decide_eq_false_iff_not, Bool.not_eq_true', Bool.not_eq_false', Int.not_lt, Int.not_le, Nat.not_lt, Nat.not_le] at h) <;> (try (first | contradiction | (exfalso; omega) | exact nomatch (Eq.trans (Eq.symm h) (by assumption) : true = false) | exact nomatch (Eq.trans (Eq.symm h) (by assumption) : false = true))))))
  refine pwp_loop2 (α := Nat) (fun k => k ≤ l.length ∧ ∀ x ∈ l.take k, q x = false) (fun k => ⟨[(8, .c (.v (.int .i64 k))), (7, .c (.v (.int .i64 l.length))), (6, .c (.sl 2 (l.map Atr.d))), (0, .c (.sl 2 (l.map Atr.d))), (1, .c (.fn (.func g) [] ks))], os⟩) (fun k => l.length - k) 0 ⟨by omega, by simp⟩ (weak_slots (by push_cast [eq_self, iff_self, IntWalk.iteOmega, IntWalk.toNatUp]) rfl) ?_
  rintro k ⟨hk, hpre⟩
  by_cases hlt : k < l.length
  · have hm : l.getD k default ∈ l := by rw [getD_lt l hlt]; exact List.getElem_mem _
    have hc := hp.2 _ hm
    have hpre2 : q (l.getD k default) = false → ∀ x ∈ l.take (k + 1), q x = false := fun h x hx => by
      rw [List.take_succ_eq_append_getElem hlt] at hx
      rcases List.mem_append.1 hx with hx | hx
      · exact hpre x hx
      · simp at hx; subst hx; rw [← getD_lt l hlt]; exact h
    cases hq : q (l.getD k default)
    all_goals rw [hq] at hc
    all_goals repeat' (first |  (refine pl_call_all rfl (by push_cast [eq_self, iff_self, IntWalk.iteOmega, IntWalk.toNatUp]) rfl hp.1 (by push_cast [eq_self, iff_self, IntWalk.iteOmega, IntWalk.toNatUp]) ?_ hc ?_; (focus (unfold callArgs; push_cast [eq_self, iff_self, IntWalk.iteOmega, IntWalk.toNatUp]; exact allSomeB ks)); rintro r os ⟨rfl, rfl⟩; refine pl_of_pops ?_; push_cast [eq_self, iff_self, IntWalk.iteOmega, IntWalk.toNatUp])  | (refine Kont.use (by assumption) ?_) | (refine pwp_seq fun K hK => ?_) | (refine pwp_block ?_) | (refine pwp_scope ?_) | ((first | refine pwp_region ?_ | refine pwp_quiet (by kernel_rfl) (by kernel_rfl) ?_ | refine pwp_exit ?_ | refine pwp_ret ?_ | refine pwp_skip ?_); push_cast [eq_self, iff_self, IntWalk.iteOmega, IntWalk.toNatUp]) | (refine pwp_cond ?_; push_cast [eq_self, iff_self, IntWalk.iteOmega, IntWalk.toNatUp]; try (refine ⟨fun h => ?_, fun h => ?_⟩ <;> (try simp only [decide_eq_true_eq, decide_eq_false_iff_not, Bool.not_eq_true', Bool.not_eq_false', Int.not_lt, Int.not_le, Nat.not_lt, Nat.not_le] at h) <;> (try (first | contradiction | (exfalso; omega) | exact nomatch (Eq.trans (Eq.symm h) (by assumption) : true = false) | exact nomatch (Eq.trans (Eq.symm h) (by assumption) : false = true))))))
    · exact ⟨k + 1, ⟨by omega, hpre2 hq⟩, weak_slots (by push_cast [eq_self, iff_self, IntWalk.iteOmega, IntWalk.toNatUp]) rfl, by omega⟩
    · exact ⟨_, rfl, by push_cast [eq_self, iff_self, IntWalk.iteOmega, IntWalk.toNatUp], k, .inr ⟨k, rfl, hlt, hq, hpre⟩, rfl, rfl⟩
  · rw [List.take_of_length_le (by omega)] at hpre
    repeat' (first | (refine Kont.use (by assumption) ?_) | (refine pwp_seq fun K hK => ?_) | (refine pwp_block ?_) | (refine pwp_scope ?_) | ((first | refine pwp_region ?_ | refine pwp_quiet (by kernel_rfl) (by kernel_rfl) ?_ | refine pwp_exit ?_ | refine pwp_ret ?_ | refine pwp_skip ?_); push_cast [eq_self, iff_self, IntWalk.iteOmega, IntWalk.toNatUp]) | (refine pwp_cond ?_; push_cast [eq_self, iff_self, IntWalk.iteOmega, IntWalk.toNatUp]; try (refine ⟨fun h => ?_, fun h => ?_⟩ <;> (try simp only [decide_eq_true_eq, decide_eq_false_iff_not, Bool.not_eq_true', Bool.not_eq_false', Int.not_lt, Int.not_le, Nat.not_lt, Nat.not_le] at h) <;> (try (first | contradiction | (exfalso; omega) | exact nomatch (Eq.trans (Eq.symm h) (by assumption) : true = false) | exact nomatch (Eq.trans (Eq.symm h) (by assumption) : false = true))))))
    exact ⟨_, rfl, by push_cast [eq_self, iff_self, IntWalk.iteOmega, IntWalk.toNatUp], -1, .inl ⟨rfl, hpre⟩, rfl, rfl⟩
theorem containsFuncB_pure (l : List Atr) (hl : l.length ≤ 1000000000) (g : FuncId) (ks : List Nat) (os : List Ob) (q : Atr → Bool) (hp : PredB Tryd.prog g ks os l q) :
    PCalls Tryd.prog 59 [.c (.sl 2 (l.map Atr.d)), .c (.fn (.func g) [] ks)] os fun r os' => r = .c (.v (.bool (l.any q))) ∧ os' = os := by
  refine pcalls_of_all Tryd.func59 rfl (by simp [Tryd.ntmps59]) ?_
  rw [Tryd.ntmps59, Tryd.results59]
  push_cast [eq_self, iff_self, IntWalk.iteOmega, IntWalk.toNatUp]
  repeat' (first |  (refine pl_call_all rfl (by push_cast [eq_self, iff_self, IntWalk.iteOmega, IntWalk.toNatUp]) rfl (by kernel_rfl) (by push_cast [eq_self, iff_self, IntWalk.iteOmega, IntWalk.toNatUp]) ?_ (indexFuncB_pure l hl g ks os q hp) ?_; (focus (unfold callArgs; push_cast [eq_self, iff_self, IntWalk.iteOmega, IntWalk.toNatUp])); rintro r os ⟨k, hk, rfl, rfl⟩; refine pl_of_pops ?_; push_cast [eq_self, iff_self, IntWalk.iteOmega, IntWalk.toNatUp])  | (refine Kont.use (by assumption) ?_) | (refine pwp_seq fun K hK => ?_) | (refine pwp_block ?_) | (refine pwp_scope ?_) | ((first | refine pwp_region ?_ | refine pwp_quiet (by kernel_rfl) (by kernel_rfl) ?_ | refine pwp_exit ?_ | refine pwp_ret ?_ | refine pwp_skip ?_); push_cast [eq_self, iff_self, IntWalk.iteOmega, IntWalk.toNatUp]) | (refine pwp_cond ?_; push_cast [eq_self, iff_self, IntWalk.iteOmega, IntWalk.toNatUp]; try (refine ⟨fun h => ?_, fun h => ?_⟩ <;> (try simp only [decide_eq_true_eq, decide_eq_false_iff_not, Bool.not_eq_true', Bool.not_eq_false', Int.not_lt, Int.not_le, Nat.not_lt, Nat.not_le] at h) <;> (try (first | contradiction | (exfalso; omega) | exact nomatch (Eq.trans (Eq.symm h) (by assumption) : true = false) | exact nomatch (Eq.trans (Eq.symm h) (by assumption) : false = true))))))
  refine ⟨_, rfl, by push_cast [eq_self, iff_self, IntWalk.iteOmega, IntWalk.toNatUp], ?_, rfl⟩
  rcases hk with ⟨rfl, h⟩ | ⟨i, rfl, hi, hq, _⟩
  · have : l.any q = false := by rw [List.any_eq_false]; intro x hx; simp [h x hx]
    rw [this]; rfl
  · have : l.any q = true := List.any_eq_true.2 ⟨l.getD i default, by rw [getD_lt l hi]; exact List.getElem_mem _, hq⟩
    rw [this]; simp
end Go.Proofs.YtfojijoekpkheaaDoor
