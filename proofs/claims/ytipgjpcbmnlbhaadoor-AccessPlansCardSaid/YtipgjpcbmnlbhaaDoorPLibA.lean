/- slices.Clone, slices.Delete. -/
import Derived.Test.YtipgjpcbmnlbhaaDoorAccA
import Derived.Test.YtipgjpcbmnlbhaaDoorPureR
import Derived.Test.YtipgjpcbmnlbhaaDoorPureU
namespace Go.Proofs.YtipgjpcbmnlbhaaDoor
attribute [local irreducible] PL QL PWP PCalls Weak RetK Kont PA
open Go.RowKit
set_option linter.unusedVariables false
set_option linter.unusedSimpArgs false
theorem clone_pure (l : List Acc) (hl : l.length ≤ 1000000000) :
    PCalls Tryd.prog 23 [.c (.sl 3 (l.map Acc.d))] [] fun r os => r = .c (.own 0 l.length) ∧ os = [.arr 31 3 (l.map Acc.d)] := by
  refine pcalls_adopt (R := fun r os => (r = .c (.own 0 l.length) ∧ os = [.arr 31 3 (l.map Acc.d)]) ∨ (r = .c (.v (.slice none 0 0)) ∧ os = [] ∧ l = [])) 31 3 (by omega) ?_ (by
    rintro r os (h | ⟨rfl, rfl, rfl⟩)
    · exact .inl h
    · exact .inr ⟨rfl, rfl, rfl⟩)
  by_cases h0 : l = []
  · subst h0
    refine pcalls_split0 (l1 := []) (l2 := []) fun A c => ?_
    cases A with
    | none =>
      refine PCalls.mono (R := fun r os => r = .c (.v (.slice none 0 0)) ∧ os = []) ?_ (fun r os h => .inr ⟨h.1, h.2, rfl⟩)
      refine pcalls_of Tryd.func23 rfl (by simp [Tryd.ntmps23]) ?_
      rw [Tryd.ntmps23, Tryd.results23]
      push_cast [eq_self, iff_self, IntWalk.iteOmega, IntWalk.toNatUp]
      repeat' (first | (refine Kont.use (by assumption) ?_) | (refine pwp_seq fun K hK => ?_) | (refine pwp_block ?_) | (refine pwp_scope ?_) | ((first | refine pwp_region ?_ | refine pwp_quiet (by kernel_rfl) (by kernel_rfl) ?_ | refine pwp_exit ?_ | refine pwp_ret ?_ | refine pwp_skip ?_); push_cast [eq_self, iff_self, IntWalk.iteOmega, IntWalk.toNatUp]) | (refine pwp_cond ?_; push_cast [eq_self, iff_self, IntWalk.iteOmega, IntWalk.toNatUp]; try (refine ⟨fun h => ?_, fun h => ?_⟩ <;> (try simp only [decide_eq_true_eq, decide_eq_false_iff_not, Bool.not_eq_true', Bool.not_eq_false', Int.not_lt, Int.not_le, Nat.not_lt, Nat.not_le] at h) <;> (try (first | contradiction | (exfalso; omega) | exact nomatch (Eq.trans (Eq.symm h) (by assumption) : true = false) | exact nomatch (Eq.trans (Eq.symm h) (by assumption) : false = true))))))
      (refine retK_of [] ?_; push_cast [eq_self, iff_self, IntWalk.iteOmega, IntWalk.toNatUp])
    | some a =>
      refine PCalls.mono (R := fun r os => r = .c (.own 0 0) ∧ os = [.arr 31 3 []]) ?_ (fun r os h => .inl h)
      refine pcalls_of Tryd.func23 rfl (by simp [Tryd.ntmps23]) ?_
      rw [Tryd.ntmps23, Tryd.results23]
      push_cast [eq_self, iff_self, IntWalk.iteOmega, IntWalk.toNatUp]
      repeat' (first | (refine Kont.use (by assumption) ?_) | (refine pwp_seq fun K hK => ?_) | (refine pwp_block ?_) | (refine pwp_scope ?_) | ((first | refine pwp_region ?_ | refine pwp_quiet (by kernel_rfl) (by kernel_rfl) ?_ | refine pwp_exit ?_ | refine pwp_ret ?_ | refine pwp_skip ?_); push_cast [eq_self, iff_self, IntWalk.iteOmega, IntWalk.toNatUp]) | (refine pwp_cond ?_; push_cast [eq_self, iff_self, IntWalk.iteOmega, IntWalk.toNatUp]; try (refine ⟨fun h => ?_, fun h => ?_⟩ <;> (try simp only [decide_eq_true_eq, decide_eq_false_iff_not, Bool.not_eq_true', Bool.not_eq_false', Int.not_lt, Int.not_le, Nat.not_lt, Nat.not_le] at h) <;> (try (first | contradiction | (exfalso; omega) | exact nomatch (Eq.trans (Eq.symm h) (by assumption) : true = false) | exact nomatch (Eq.trans (Eq.symm h) (by assumption) : false = true))))))
      (refine retK_of [0] ?_; push_cast [eq_self, iff_self, IntWalk.iteOmega, IntWalk.toNatUp])
  · have h1 : 0 < l.length := List.length_pos_iff.2 h0
    refine PCalls.mono (R := fun r os => r = .c (.own 0 l.length) ∧ os = [.arr 31 3 (l.map Acc.d)]) ?_ (fun r os h => .inl h)
    refine pcalls_of Tryd.func23 rfl (by simp [Tryd.ntmps23]) ?_
    rw [Tryd.ntmps23, Tryd.results23]
    push_cast [eq_self, iff_self, IntWalk.iteOmega, IntWalk.toNatUp]
    repeat' (first | (refine Kont.use (by assumption) ?_) | (refine pwp_seq fun K hK => ?_) | (refine pwp_block ?_) | (refine pwp_scope ?_) | ((first | refine pwp_region ?_ | refine pwp_quiet (by kernel_rfl) (by kernel_rfl) ?_ | refine pwp_exit ?_ | refine pwp_ret ?_ | refine pwp_skip ?_); push_cast [eq_self, iff_self, IntWalk.iteOmega, IntWalk.toNatUp]) | (refine pwp_cond ?_; push_cast [eq_self, iff_self, IntWalk.iteOmega, IntWalk.toNatUp]; try (refine ⟨fun h => ?_, fun h => ?_⟩ <;> (try simp only [decide_eq_true_eq, decide_eq_false_iff_not, Bool.not_eq_true', Bool.not_eq_false', Int.not_lt, Int.not_le, Nat.not_lt, Nat.not_le] at h) <;> (try (first | contradiction | (exfalso; omega) | exact nomatch (Eq.trans (Eq.symm h) (by assumption) : true = false) | exact nomatch (Eq.trans (Eq.symm h) (by assumption) : false = true))))))
    (refine retK_of [0] ?_; push_cast [eq_self, iff_self, IntWalk.iteOmega, IntWalk.toNatUp])
theorem delete_pure (l : List Acc) (i : Nat) (hi : i < l.length) (hl : l.length ≤ 1000000000) :
    PCalls Tryd.prog 22 [.c (.own 0 l.length), .c (.v (.int .i64 i)), .c (.v (.int .i64 (i + 1)))] [.arr 31 3 (l.map Acc.d)] fun r os => r = .c (.own 0 (l.length - 1)) ∧ os = [.arr 31 3 ((l.take i ++ (l.drop (i + 1) ++ [(default : Acc)])).map Acc.d)] := by
  refine pcalls_of Tryd.func22 rfl (by simp [Tryd.ntmps22]) ?_
  rw [Tryd.ntmps22, Tryd.results22]
  have e1 : i + (l.length - (i + 1)) = l.length - 1 := by omega
  push_cast [eq_self, iff_self, IntWalk.iteOmega, IntWalk.toNatUp]
  repeat' (first | ((refine pwp_drawn_to ⟨[(7, .c (.v (.int .i64 l.length))), (0, .c (.own 0 (l.length - 1)))], [.arr 31 3 ((l.map Acc.d).take i ++ ((l.map Acc.d).drop (i + 1) ++ (l.map Acc.d).drop (l.length - 1)))]⟩ (by kernel_rfl) ?_ ?_; (focus (simp only [List.length_cons, List.length_nil, Nat.reduceAdd]; (repeat' first | ((first | (refine pa_hoist 0 ?_ ?_; (focus decide +kernel)) | (refine pa_hoist 1 ?_ ?_; (focus decide +kernel)) | (refine pa_hoist 2 ?_ ?_; (focus decide +kernel)) | (refine pa_hoist 3 ?_ ?_; (focus decide +kernel)) | (refine pa_hoist 4 ?_ ?_; (focus decide +kernel)) | (refine pa_hoist 5 ?_ ?_; (focus decide +kernel)) | (refine pa_hoist 7 ?_ ?_; (focus decide +kernel))); push_cast [eq_self, iff_self, IntWalk.iteOmega, IntWalk.toNatUp,  e1 ]) | (refine pa_done ?_ ?_; (focus decide +kernel); refine weak_fg ?_; push_cast [eq_self, iff_self, IntWalk.iteOmega, IntWalk.toNatUp,  e1 ]) | ((first | (refine pa_step [6] ?_ rfl ?_; (focus decide +kernel))); push_cast [eq_self, iff_self, IntWalk.iteOmega, IntWalk.toNatUp,  e1 ])); done)); push_cast [eq_self, iff_self, IntWalk.iteOmega, IntWalk.toNatUp,  e1 ])) | (refine Kont.use (by assumption) ?_) | (refine pwp_seq fun K hK => ?_) | (refine pwp_block ?_) | (refine pwp_scope ?_) | ((first | refine pwp_region ?_ | refine pwp_quiet (by kernel_rfl) (by kernel_rfl) ?_ | refine pwp_exit ?_ | refine pwp_ret ?_ | refine pwp_skip ?_); push_cast [eq_self, iff_self, IntWalk.iteOmega, IntWalk.toNatUp, e1]) | (refine pwp_cond ?_; push_cast [eq_self, iff_self, IntWalk.iteOmega, IntWalk.toNatUp, e1]; try (refine ⟨fun h => ?_, fun h => ?_⟩ <;> (try simp only [decide_eq_true_eq, decide_eq_false_iff_not, Bool.not_eq_true', Bool.not_eq_false', Int.not_lt, Int.not_le, Nat.not_lt, Nat.not_le] at h) <;> (try (first | contradiction | (exfalso; omega) | exact nomatch (Eq.trans (Eq.symm h) (by assumption) : true = false) | exact nomatch (Eq.trans (Eq.symm h) (by assumption) : false = true))))))
  (refine retK_of [0] ?_; push_cast [eq_self, iff_self, IntWalk.iteOmega, IntWalk.toNatUp])
  have h1 : l.length - (l.length - 1) = 1 := by omega
  have h2 : ((l.map Acc.d).take i ++ (l.map Acc.d).drop (i + 1)).length = l.length - 1 := by simp; omega
  have h3 : ((l.map Acc.d).take i ++ ((l.map Acc.d).drop (i + 1) ++ (l.map Acc.d).drop (l.length - 1))) = ((l.map Acc.d).take i ++ (l.map Acc.d).drop (i + 1)) ++ (l.map Acc.d).drop (l.length - 1) := by rw [List.append_assoc]
  have h4 : (((l.map Acc.d).take i ++ (l.map Acc.d).drop (i + 1)) ++ (l.map Acc.d).drop (l.length - 1)).drop (l.length - 1 + 1) = [] := List.drop_eq_nil_of_le (by simp only [List.length_append, List.length_take, List.length_drop, List.length_map]; omega)
  rw [h1, h3, List.take_left' h2, h4]
  simp [List.map_take, List.map_drop, List.append_assoc, Acc.d]
  all_goals (first | done | exact ⟨rfl, rfl, rfl⟩)
end Go.Proofs.YtipgjpcbmnlbhaaDoor
