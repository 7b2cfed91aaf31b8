/- Accesses: Plan. -/
import Derived.Test.YtipgjpcbmnlbhaaDoorPAccQ
namespace Go.Proofs.YtipgjpcbmnlbhaaDoor
attribute [local irreducible] PL QL PWP PCalls Weak RetK Kont PA
open Go.RowKit
set_option linter.unusedVariables false
set_option linter.unusedSimpArgs false
set_option maxHeartbeats 1000000 in
theorem plan_pure (a b : List Acc) (ha : Right a) (hb : Right b) (hal : a.length ≤ 1000000) (hbl : b.length ≤ 1000000) (haz : ∀ y ∈ a, y.path.size ≤ 100000000) (hbz : ∀ y ∈ b, y.path.size ≤ 100000000) :
    PCalls Tryd.prog 14 [.c (.sl 3 (a.map Acc.d)), .c (.sl 3 (b.map Acc.d))] [] fun y os => y = .c (.own 0 ((planA a b).length)) ∧ os = [.arr 39 4 ((planA a b).map Chg.d)] := by
  have hA : ((minusL a b).map (Chg.mk 1)).length ≤ 1000000 := by rw [List.length_map]; exact Nat.le_trans (minus_sub a b).length_le hal
  have hB : ((minusL b a).map (Chg.mk 2)).length ≤ 1000000 := by rw [List.length_map]; exact Nat.le_trans (minus_sub b a).length_le hbl
  have hw := walk_pure a b ha hb hal hbl haz hbz
  have hc := concat_pure _ _ hA hB
  unfold planA
  generalize minusL a b = r at *
  generalize minusL b a = g at *
  unfold planNil planOs at hw
  push_cast [eq_self, iff_self, IntWalk.iteOmega, IntWalk.toNatUp] at hw
  push_cast [eq_self, iff_self, IntWalk.iteOmega, IntWalk.toNatUp] at hc
  refine pcalls_of Tryd.func14 rfl (by simp [Tryd.ntmps14]) ?_
  rw [Tryd.ntmps14, Tryd.results14]
  push_cast [eq_self, iff_self, IntWalk.iteOmega, IntWalk.toNatUp]
  repeat' (first |  (refine pl_call2 false [1, 0] rfl rfl (by kernel_rfl) (hw) ?_ nofun ?_; push_cast [eq_self, iff_self, IntWalk.iteOmega, IntWalk.toNatUp]; rintro r os ⟨rfl, rfl⟩; refine pl_of_pops ?_; push_cast [eq_self, iff_self, IntWalk.iteOmega, IntWalk.toNatUp])  | (refine Kont.use (by assumption) ?_) | (refine pwp_seq fun K hK => ?_) | (refine pwp_block ?_) | (refine pwp_scope ?_) | ((first | (refine pwp_cut 7 [] ?_; first | refine pwp_region ?_ | refine pwp_quiet (by kernel_rfl) (by kernel_rfl) ?_) | refine pwp_exit ?_ | refine pwp_ret ?_ | refine pwp_skip ?_); push_cast [eq_self, iff_self, IntWalk.iteOmega, IntWalk.toNatUp]) | (refine pwp_cond ?_; push_cast [eq_self, iff_self, IntWalk.iteOmega, IntWalk.toNatUp]; try (refine ⟨fun h => ?_, fun h => ?_⟩ <;> (try simp only [decide_eq_true_eq, decide_eq_false_iff_not, Bool.not_eq_true', Bool.not_eq_false', Int.not_lt, Int.not_le, Nat.not_lt, Nat.not_le] at h) <;> (try (first | contradiction | (exfalso; omega) | exact nomatch (Eq.trans (Eq.symm h) (by assumption) : true = false) | exact nomatch (Eq.trans (Eq.symm h) (by assumption) : false = true))))))
  refine pl_weak (weak_frz 2 (by omega)) ?_
  push_cast [eq_self, iff_self, IntWalk.iteOmega, IntWalk.toNatUp]
  refine pl_weak (weak_frz 3 (by omega)) ?_
  push_cast [eq_self, iff_self, IntWalk.iteOmega, IntWalk.toNatUp]
  refine pl_of_pops ?_
  push_cast [eq_self, iff_self, IntWalk.iteOmega, IntWalk.toNatUp]
  repeat' (first |  (refine pl_call2 false [] rfl rfl (by kernel_rfl) (hc) ?_ nofun ?_; push_cast [eq_self, iff_self, IntWalk.iteOmega, IntWalk.toNatUp]; rintro r os ⟨rfl, rfl⟩; refine pl_of_pops ?_; push_cast [eq_self, iff_self, IntWalk.iteOmega, IntWalk.toNatUp])  | (refine Kont.use (by assumption) ?_) | (refine pwp_seq fun K hK => ?_) | (refine pwp_block ?_) | (refine pwp_scope ?_) | ((first | (refine pwp_cut 7 [] ?_; first | refine pwp_region ?_ | refine pwp_quiet (by kernel_rfl) (by kernel_rfl) ?_) | refine pwp_exit ?_ | refine pwp_ret ?_ | refine pwp_skip ?_); push_cast [eq_self, iff_self, IntWalk.iteOmega, IntWalk.toNatUp]) | (refine pwp_cond ?_; push_cast [eq_self, iff_self, IntWalk.iteOmega, IntWalk.toNatUp]; try (refine ⟨fun h => ?_, fun h => ?_⟩ <;> (try simp only [decide_eq_true_eq, decide_eq_false_iff_not, Bool.not_eq_true', Bool.not_eq_false', Int.not_lt, Int.not_le, Nat.not_lt, Nat.not_le] at h) <;> (try (first | contradiction | (exfalso; omega) | exact nomatch (Eq.trans (Eq.symm h) (by assumption) : true = false) | exact nomatch (Eq.trans (Eq.symm h) (by assumption) : false = true))))))
  (refine retK_of [4] ?_; push_cast [eq_self, iff_self, IntWalk.iteOmega, IntWalk.toNatUp])
end Go.Proofs.YtipgjpcbmnlbhaaDoor
