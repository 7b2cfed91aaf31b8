/- Accesses: Apply, the branches that put nothing in. -/
import Derived.Test.YtipgjpcbmnlbhaaDoorPAccX
import Derived.Test.YtipgjpcbmnlbhaaDoorAccB
namespace Go.Proofs.YtipgjpcbmnlbhaaDoor
attribute [local irreducible] PL QL PWP PCalls Weak RetK Kont PA
open Go.RowKit
set_option linter.unusedVariables false
set_option linter.unusedSimpArgs false
theorem idx_none {l : List Acc} {x : Acc} {k : Int} (h : idxA (fun y => decide (y = x)) l k) (hx : x ∉ l) : k = -1 := by
  rcases h with ⟨h, _⟩ | ⟨i, _, hi, hq, _⟩
  · exact h
  · rw [getD_lt l hi] at hq
    exact absurd (by rw [← of_decide_eq_true hq]; exact List.getElem_mem _) hx
theorem idx_some {l : List Acc} {x : Acc} {k : Int} (h : idxA (fun y => decide (y = x)) l k) (hx : x ∈ l) (hn : l.Nodup) : ∃ i : Nat, k = i ∧ i < l.length ∧ l.take i ++ l.drop (i + 1) = l.filter fun y => decide (y ≠ x) := by
  rcases h with ⟨_, h⟩ | ⟨i, h, hi, hq, _⟩
  · exact absurd (h x hx) (by simp)
  · refine ⟨i, h, hi, ?_⟩
    rw [getD_lt l hi] at hq
    have hq := of_decide_eq_true hq
    have e := take_drop hi
    rw [hq] at e
    have hn2 := hn
    rw [e, List.nodup_append] at hn2
    obtain ⟨_, n2, n3⟩ := hn2
    obtain ⟨n4, _⟩ := List.nodup_cons.1 n2
    conv => rhs; rw [e]
    rw [List.filter_append, List.filter_cons_of_neg (by simp)]
    congr 1
    · exact (List.filter_eq_self.2 fun y hy => by simp only [ne_eq, decide_not, Bool.not_eq_true', decide_eq_false_iff_not]; intro he; exact n3 _ hy _ List.mem_cons_self he).symm
    · exact (List.filter_eq_self.2 fun y hy => by simp only [ne_eq, decide_not, Bool.not_eq_true', decide_eq_false_iff_not]; intro he; subst he; exact n4 hy).symm
theorem clash_any (x : Acc) (l : List Acc) : (l.any fun y => clashA x y) = decide (∃ y ∈ l, y.path = x.path ∨ y.node = x.node) := by
  rw [Bool.eq_iff_iff]
  simp [clashA]
set_option maxHeartbeats 1000000 in
theorem apply_taken (l : List Acc) (x : Acc) (hl : l.length ≤ 1000000) (h : ∃ y ∈ l, y.path = x.path ∨ y.node = x.node) :
    PCalls Tryd.prog 11 [.c (.sl 3 (l.map Acc.d)), .agg (Chg.mk 2 x).e] [] fun r os => r = (.two (.c (.v (.slice none 0 0))) (.c (.v (.int .i64 382)))) ∧ os = [] := by
  have hp : PredA Tryd.prog 25 [0] [.box 31 x.e] l (clashA x) := ⟨by kernel_rfl, fun y _ => applyF_pure x y⟩
  have hc := containsFuncA_pure l (by omega) 25 [0] _ (clashA x) hp
  rw [clash_any, decide_eq_true h] at hc
  refine pcalls_of Tryd.func11 rfl (by simp [Tryd.ntmps11]) ?_
  rw [Tryd.ntmps11, Tryd.results11]
  push_cast [eq_self, iff_self, IntWalk.iteOmega, IntWalk.toNatUp]
  repeat' (first |  (refine pl_call2 false [1] rfl rfl (by kernel_rfl) (hc) ?_ nofun ?_; push_cast [eq_self, iff_self, IntWalk.iteOmega, IntWalk.toNatUp]; rintro r os ⟨rfl, rfl⟩; refine pl_of_pops ?_; push_cast [eq_self, iff_self, IntWalk.iteOmega, IntWalk.toNatUp])  | (refine Kont.use (by assumption) ?_) | (refine pwp_seq fun K hK => ?_) | (refine pwp_block ?_) | (refine pwp_scope ?_) | ((first | (refine pwp_cut 12 [] ?_; first | refine pwp_region ?_ | refine pwp_quiet (by kernel_rfl) (by kernel_rfl) ?_) | refine pwp_exit ?_ | refine pwp_ret ?_ | refine pwp_skip ?_); push_cast [eq_self, iff_self, IntWalk.iteOmega, IntWalk.toNatUp]) | (refine pwp_cond ?_; push_cast [eq_self, iff_self, IntWalk.iteOmega, IntWalk.toNatUp]; try (refine ⟨fun h => ?_, fun h => ?_⟩ <;> (try simp only [decide_eq_true_eq, decide_eq_false_iff_not, Bool.not_eq_true', Bool.not_eq_false', Int.not_lt, Int.not_le, Nat.not_lt, Nat.not_le] at h) <;> (try (first | contradiction | (exfalso; omega) | exact nomatch (Eq.trans (Eq.symm h) (by assumption) : true = false) | exact nomatch (Eq.trans (Eq.symm h) (by assumption) : false = true))))))
  (refine retK_of [] ?_; push_cast [eq_self, iff_self, IntWalk.iteOmega, IntWalk.toNatUp])
set_option maxHeartbeats 1000000 in
theorem apply_rev_pure (l : List Acc) (x : Acc) (hl : l.length ≤ 1000000) (h : x ∈ l) (hn : l.Nodup) :
    PCalls Tryd.prog 11 [.c (.sl 3 (l.map Acc.d)), .agg (Chg.mk 1 x).e] [] fun r os => r = (.two (.c (.own 0 ((l.filter fun y => decide (y ≠ x)).length))) (.c (.v (.int .i64 0)))) ∧ os = [.arr 31 3 ((l.filter fun y => decide (y ≠ x)).map Acc.d)] := by
  have hx := (aindex_pure l x (by omega)).mono (R' := fun r os => ∃ i : Nat, (i < l.length ∧ l.take i ++ l.drop (i + 1) = l.filter fun y => decide (y ≠ x)) ∧ r = .c (.v (.int .i64 ((i : Int)))) ∧ os = []) (by
    rintro r os ⟨k, hk, rfl, rfl⟩
    obtain ⟨i, rfl, h1, h2⟩ := idx_some hk h hn
    exact ⟨i, ⟨h1, h2⟩, rfl, rfl⟩)
  have hc := clone_pure l (by omega)
  generalize l.filter (fun y => decide (y ≠ x)) = m at *
  refine pcalls_of Tryd.func11 rfl (by simp [Tryd.ntmps11]) ?_
  rw [Tryd.ntmps11, Tryd.results11]
  push_cast [eq_self, iff_self, IntWalk.iteOmega, IntWalk.toNatUp]
  repeat' (first |  (refine pl_call2 false [] rfl rfl (by kernel_rfl) (hx) ?_ nofun ?_; push_cast [eq_self, iff_self, IntWalk.iteOmega, IntWalk.toNatUp]; rintro r os ⟨i, ⟨hi, he⟩, rfl, rfl⟩; refine pl_of_pops ?_; push_cast [eq_self, iff_self, IntWalk.iteOmega, IntWalk.toNatUp]) | (refine pl_call2 false [] rfl rfl (by kernel_rfl) (hc) ?_ nofun ?_; push_cast [eq_self, iff_self, IntWalk.iteOmega, IntWalk.toNatUp]; rintro r os ⟨rfl, rfl⟩; refine pl_of_pops ?_; push_cast [eq_self, iff_self, IntWalk.iteOmega, IntWalk.toNatUp]) | (refine pl_call2 false [2] rfl rfl (by kernel_rfl) (delete_pure l i hi (by omega)) ?_ nofun ?_; push_cast [eq_self, iff_self, IntWalk.iteOmega, IntWalk.toNatUp]; rintro r os ⟨rfl, rfl⟩; refine pl_weak (weak_cutS 12 [33, 37] _) ?_; push_cast [eq_self, iff_self, IntWalk.iteOmega, IntWalk.toNatUp]; refine pl_weak (weak_trim 2 (l.length - 1) rfl) ?_; push_cast [eq_self, iff_self, IntWalk.iteOmega, IntWalk.toNatUp]; refine pl_of_pops ?_; push_cast [eq_self, iff_self, IntWalk.iteOmega, IntWalk.toNatUp])  | (refine Kont.use (by assumption) ?_) | (refine pwp_seq fun K hK => ?_) | (refine pwp_block ?_) | (refine pwp_scope ?_) | ((first | (refine pwp_cut 12 [] ?_; first | refine pwp_region ?_ | refine pwp_quiet (by kernel_rfl) (by kernel_rfl) ?_) | refine pwp_exit ?_ | refine pwp_ret ?_ | refine pwp_skip ?_); push_cast [eq_self, iff_self, IntWalk.iteOmega, IntWalk.toNatUp]) | (refine pwp_cond ?_; push_cast [eq_self, iff_self, IntWalk.iteOmega, IntWalk.toNatUp]; try (refine ⟨fun h => ?_, fun h => ?_⟩ <;> (try simp only [decide_eq_true_eq, decide_eq_false_iff_not, Bool.not_eq_true', Bool.not_eq_false', Int.not_lt, Int.not_le, Nat.not_lt, Nat.not_le] at h) <;> (try (first | contradiction | (exfalso; omega) | exact nomatch (Eq.trans (Eq.symm h) (by assumption) : true = false) | exact nomatch (Eq.trans (Eq.symm h) (by assumption) : false = true))))))
  have hml : l.length - 1 = m.length := by rw [← he, List.length_append, List.length_take, List.length_drop]; omega
  have ht : ∀ z, List.take m.length (List.map Acc.d (List.take i l) ++ (List.map Acc.d (List.drop (i + 1) l) ++ z)) = m.map Acc.d := fun z => by
    rw [← List.append_assoc, ← List.map_append, he]
    exact List.take_left' (by rw [List.length_map])
  rw [hml, ht]
  (refine retK_of [2] ?_; push_cast [eq_self, iff_self, IntWalk.iteOmega, IntWalk.toNatUp])
end Go.Proofs.YtipgjpcbmnlbhaaDoor
