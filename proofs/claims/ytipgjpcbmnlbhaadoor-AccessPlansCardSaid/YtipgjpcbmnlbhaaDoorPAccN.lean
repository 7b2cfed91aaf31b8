/- Accesses: Apply whole, the reference's; AccessPlans. -/
import Derived.Test.YtipgjpcbmnlbhaaDoorPAccW
import Derived.Test.YtipgjpcbmnlbhaaDoorAccB
import Derived.Test.YtipgjpcbmnlbhaaDoorPInsA
import Derived.Test.YtipgjpcbmnlbhaaDoorPureW
import Derived.Test.YtipgjpcbmnlbhaaDoorPAccJ
namespace Go.Proofs.YtipgjpcbmnlbhaaDoor
attribute [local irreducible] PL QL PWP PCalls Weak RetK Kont PA
open Go.RowKit
set_option linter.unusedVariables false
set_option linter.unusedSimpArgs false
theorem minus_in {a b : List Acc} {k : Nat} (hk : k < a.length) (h : a.getD k default ∈ b) : minusL (a.take (k + 1)) b = minusL (a.take k) b := by
  rw [getD_lt a hk] at h
  rw [minus_step hk, if_pos h, List.append_nil]
theorem minus_out {a b : List Acc} {k : Nat} (hk : k < a.length) (h : a.getD k default ∉ b) : minusL (a.take (k + 1)) b = minusL (a.take k) b ++ [a.getD k default] := by
  rw [getD_lt a hk] at *
  rw [minus_step hk, if_neg h]
theorem minus_len (a b : List Acc) (k : Nat) : (minusL (a.take k) b).length ≤ k := Nat.le_trans (List.length_filter_le _ _) (List.length_take_le _ _)
theorem minus_end {a b : List Acc} {k : Nat} (hk : ¬ k < a.length) : minusL (a.take k) b = minusL a b := by rw [List.take_of_length_le (by omega)]
theorem minus_zero (a b : List Acc) : minusL (a.take 0) b = [] := rfl
set_option maxHeartbeats 1000000 in
theorem rplan_pure (a b : List Acc) (hal : a.length ≤ 1000000) (hbl : b.length ≤ 1000000) :
    PCalls Tryd.prog 15 [.c (.sl 3 (a.map Acc.d)), .c (.sl 3 (b.map Acc.d))] [] fun y os => y = .c (.sl 4 ((planA a b).map Chg.d)) ∧ os = [] := by
  refine pcalls_of Tryd.func15 rfl (by simp [Tryd.ntmps15]) ?_
  rw [Tryd.ntmps15, Tryd.results15]
  push_cast [eq_self, iff_self, IntWalk.iteOmega, IntWalk.toNatUp]
  repeat' (first | (refine Kont.use (by assumption) ?_) | (refine pwp_seq fun K hK => ?_) | (refine pwp_block ?_) | (refine pwp_scope ?_) | ((first | (refine pwp_cut 8 [] ?_; first | refine pwp_region ?_ | refine pwp_quiet (by kernel_rfl) (by kernel_rfl) ?_) | refine pwp_exit ?_ | refine pwp_ret ?_ | refine pwp_skip ?_); push_cast [eq_self, iff_self, IntWalk.iteOmega, IntWalk.toNatUp]) | (refine pwp_cond ?_; push_cast [eq_self, iff_self, IntWalk.iteOmega, IntWalk.toNatUp]; try (refine ⟨fun h => ?_, fun h => ?_⟩ <;> (try simp only [decide_eq_true_eq, decide_eq_false_iff_not, Bool.not_eq_true', Bool.not_eq_false', Int.not_lt, Int.not_le, Nat.not_lt, Nat.not_le] at h) <;> (try (first | contradiction | (exfalso; omega) | exact nomatch (Eq.trans (Eq.symm h) (by assumption) : true = false) | exact nomatch (Eq.trans (Eq.symm h) (by assumption) : false = true))))))
  refine pwp_weak (weak_adopt 5 39 4 (by omega) (by push_cast [eq_self, iff_self, IntWalk.iteOmega, IntWalk.toNatUp])) ?_
  push_cast [eq_self, iff_self, IntWalk.iteOmega, IntWalk.toNatUp]
  (apply pwp_loop3 (α := Nat) 8 [] (fun k => [(6, .c (.v (.int .i64 k))), (5, .c (.own 0 ((minusL (a.take k) b).length)))]) (fun k => [(0, .arr 39 4 (((minusL (a.take k) b).map (Chg.mk 1)).map Chg.d))]) (fun k => k ≤ a.length) (fun k => a.length - k) (0); (focus ((try push_cast [eq_self, iff_self, IntWalk.iteOmega, IntWalk.toNatUp]); rfl)); (focus exact (by omega)); (focus ((refine weak_fg ?_; try push_cast [eq_self, iff_self, IntWalk.iteOmega, IntWalk.toNatUp]); exact ⟨rfl, rfl⟩)))
  · intro k hk
    push_cast [eq_self, iff_self, IntWalk.iteOmega, IntWalk.toNatUp]
    have hml := minus_len a b k
    by_cases hlt : k < a.length
    · have hin := rin38_pure b (a.getD k default) (by omega)
      by_cases hm : a.getD k default ∈ b
      · rw [decide_eq_true hm] at hin
        have hs := minus_in hlt hm
        repeat' (first |  (refine pl_call2 false [] rfl rfl (by kernel_rfl) (hin) ?_ nofun ?_; push_cast [eq_self, iff_self, IntWalk.iteOmega, IntWalk.toNatUp]; rintro r os ⟨rfl, rfl⟩; refine pl_of_pops ?_; push_cast [eq_self, iff_self, IntWalk.iteOmega, IntWalk.toNatUp])  | (refine Kont.use (by assumption) ?_) | (refine pwp_seq fun K hK => ?_) | (refine pwp_block ?_) | (refine pwp_scope ?_) | ((first | (refine pwp_cut 8 [] ?_; first | refine pwp_region ?_ | refine pwp_quiet (by kernel_rfl) (by kernel_rfl) ?_) | refine pwp_exit ?_ | refine pwp_ret ?_ | refine pwp_skip ?_); push_cast [eq_self, iff_self, IntWalk.iteOmega, IntWalk.toNatUp]) | (refine pwp_cond ?_; push_cast [eq_self, iff_self, IntWalk.iteOmega, IntWalk.toNatUp]; try (refine ⟨fun h => ?_, fun h => ?_⟩ <;> (try simp only [decide_eq_true_eq, decide_eq_false_iff_not, Bool.not_eq_true', Bool.not_eq_false', Int.not_lt, Int.not_le, Nat.not_lt, Nat.not_le] at h) <;> (try (first | contradiction | (exfalso; omega) | exact nomatch (Eq.trans (Eq.symm h) (by assumption) : true = false) | exact nomatch (Eq.trans (Eq.symm h) (by assumption) : false = true))))))
        exact ⟨k + 1, by omega, by (refine weak_fg ?_; push_cast [eq_self, iff_self, IntWalk.iteOmega, IntWalk.toNatUp, hs]), by omega⟩
      · rw [decide_eq_false hm] at hin
        have hs := minus_out hlt hm
        repeat' (first |  (refine pl_call2 false [] rfl rfl (by kernel_rfl) (hin) ?_ nofun ?_; push_cast [eq_self, iff_self, IntWalk.iteOmega, IntWalk.toNatUp]; rintro r os ⟨rfl, rfl⟩; refine pl_of_pops ?_; push_cast [eq_self, iff_self, IntWalk.iteOmega, IntWalk.toNatUp])  | (refine Kont.use (by assumption) ?_) | (refine pwp_seq fun K hK => ?_) | (refine pwp_block ?_) | (refine pwp_scope ?_) | ((first | (refine pwp_cut 8 [] ?_; first | refine pwp_region ?_ | refine pwp_quiet (by kernel_rfl) (by kernel_rfl) ?_) | refine pwp_exit ?_ | refine pwp_ret ?_ | refine pwp_skip ?_); push_cast [eq_self, iff_self, IntWalk.iteOmega, IntWalk.toNatUp]) | (refine pwp_cond ?_; push_cast [eq_self, iff_self, IntWalk.iteOmega, IntWalk.toNatUp]; try (refine ⟨fun h => ?_, fun h => ?_⟩ <;> (try simp only [decide_eq_true_eq, decide_eq_false_iff_not, Bool.not_eq_true', Bool.not_eq_false', Int.not_lt, Int.not_le, Nat.not_lt, Nat.not_le] at h) <;> (try (first | contradiction | (exfalso; omega) | exact nomatch (Eq.trans (Eq.symm h) (by assumption) : true = false) | exact nomatch (Eq.trans (Eq.symm h) (by assumption) : false = true))))))
        exact ⟨k + 1, by omega, by (refine weak_fg ?_; push_cast [eq_self, iff_self, IntWalk.iteOmega, IntWalk.toNatUp, hs]), by omega⟩
    · rw [minus_end hlt]
      have hra := (minus_sub a b).length_le
      generalize hr : minusL a b = r at *
      repeat' (first | (refine Kont.use (by assumption) ?_) | (refine pwp_seq fun K hK => ?_) | (refine pwp_block ?_) | (refine pwp_scope ?_) | ((first | (refine pwp_cut 8 [] ?_; first | refine pwp_region ?_ | refine pwp_quiet (by kernel_rfl) (by kernel_rfl) ?_) | refine pwp_exit ?_ | refine pwp_ret ?_ | refine pwp_skip ?_); push_cast [eq_self, iff_self, IntWalk.iteOmega, IntWalk.toNatUp]) | (refine pwp_cond ?_; push_cast [eq_self, iff_self, IntWalk.iteOmega, IntWalk.toNatUp]; try (refine ⟨fun h => ?_, fun h => ?_⟩ <;> (try simp only [decide_eq_true_eq, decide_eq_false_iff_not, Bool.not_eq_true', Bool.not_eq_false', Int.not_lt, Int.not_le, Nat.not_lt, Nat.not_le] at h) <;> (try (first | contradiction | (exfalso; omega) | exact nomatch (Eq.trans (Eq.symm h) (by assumption) : true = false) | exact nomatch (Eq.trans (Eq.symm h) (by assumption) : false = true))))))
      (apply pwp_loop3 (α := Nat) 8 [] (fun j => [(7, .c (.v (.int .i64 j))), (5, .c (.own 0 (r.length + (minusL (b.take j) a).length)))]) (fun j => [(0, .arr 39 4 ((r.map (Chg.mk 1) ++ (minusL (b.take j) a).map (Chg.mk 2)).map Chg.d))]) (fun j => j ≤ b.length) (fun j => b.length - j) (0); (focus ((try push_cast [eq_self, iff_self, IntWalk.iteOmega, IntWalk.toNatUp]); rfl)); (focus exact (by omega)); (focus ((refine weak_fg ?_; try push_cast [eq_self, iff_self, IntWalk.iteOmega, IntWalk.toNatUp]); simp [minusL])))
      intro j hj
      push_cast [eq_self, iff_self, IntWalk.iteOmega, IntWalk.toNatUp]
      have hml := minus_len b a j
      by_cases hlt : j < b.length
      · have hin := rin38_pure a (b.getD j default) (by omega)
        by_cases hm : b.getD j default ∈ a
        · rw [decide_eq_true hm] at hin
          have hs := minus_in hlt hm
          repeat' (first |  (refine pl_call2 false [] rfl rfl (by kernel_rfl) (hin) ?_ nofun ?_; push_cast [eq_self, iff_self, IntWalk.iteOmega, IntWalk.toNatUp]; rintro r os ⟨rfl, rfl⟩; refine pl_of_pops ?_; push_cast [eq_self, iff_self, IntWalk.iteOmega, IntWalk.toNatUp])  | (refine Kont.use (by assumption) ?_) | (refine pwp_seq fun K hK => ?_) | (refine pwp_block ?_) | (refine pwp_scope ?_) | ((first | (refine pwp_cut 8 [] ?_; first | refine pwp_region ?_ | refine pwp_quiet (by kernel_rfl) (by kernel_rfl) ?_) | refine pwp_exit ?_ | refine pwp_ret ?_ | refine pwp_skip ?_); push_cast [eq_self, iff_self, IntWalk.iteOmega, IntWalk.toNatUp]) | (refine pwp_cond ?_; push_cast [eq_self, iff_self, IntWalk.iteOmega, IntWalk.toNatUp]; try (refine ⟨fun h => ?_, fun h => ?_⟩ <;> (try simp only [decide_eq_true_eq, decide_eq_false_iff_not, Bool.not_eq_true', Bool.not_eq_false', Int.not_lt, Int.not_le, Nat.not_lt, Nat.not_le] at h) <;> (try (first | contradiction | (exfalso; omega) | exact nomatch (Eq.trans (Eq.symm h) (by assumption) : true = false) | exact nomatch (Eq.trans (Eq.symm h) (by assumption) : false = true))))))
          exact ⟨j + 1, by omega, by (refine weak_fg ?_; push_cast [eq_self, iff_self, IntWalk.iteOmega, IntWalk.toNatUp, hs]), by omega⟩
        · rw [decide_eq_false hm] at hin
          have hs := minus_out hlt hm
          repeat' (first |  (refine pl_call2 false [] rfl rfl (by kernel_rfl) (hin) ?_ nofun ?_; push_cast [eq_self, iff_self, IntWalk.iteOmega, IntWalk.toNatUp]; rintro r os ⟨rfl, rfl⟩; refine pl_of_pops ?_; push_cast [eq_self, iff_self, IntWalk.iteOmega, IntWalk.toNatUp])  | (refine Kont.use (by assumption) ?_) | (refine pwp_seq fun K hK => ?_) | (refine pwp_block ?_) | (refine pwp_scope ?_) | ((first | (refine pwp_cut 8 [] ?_; first | refine pwp_region ?_ | refine pwp_quiet (by kernel_rfl) (by kernel_rfl) ?_) | refine pwp_exit ?_ | refine pwp_ret ?_ | refine pwp_skip ?_); push_cast [eq_self, iff_self, IntWalk.iteOmega, IntWalk.toNatUp]) | (refine pwp_cond ?_; push_cast [eq_self, iff_self, IntWalk.iteOmega, IntWalk.toNatUp]; try (refine ⟨fun h => ?_, fun h => ?_⟩ <;> (try simp only [decide_eq_true_eq, decide_eq_false_iff_not, Bool.not_eq_true', Bool.not_eq_false', Int.not_lt, Int.not_le, Nat.not_lt, Nat.not_le] at h) <;> (try (first | contradiction | (exfalso; omega) | exact nomatch (Eq.trans (Eq.symm h) (by assumption) : true = false) | exact nomatch (Eq.trans (Eq.symm h) (by assumption) : false = true))))))
          exact ⟨j + 1, by omega, by ((refine weak_fg ?_; push_cast [eq_self, iff_self, IntWalk.iteOmega, IntWalk.toNatUp, hs]); omega), by omega⟩
      · rw [minus_end hlt]
        repeat' (first | (refine Kont.use (by assumption) ?_) | (refine pwp_seq fun K hK => ?_) | (refine pwp_block ?_) | (refine pwp_scope ?_) | ((first | (refine pwp_cut 8 [] ?_; first | refine pwp_region ?_ | refine pwp_quiet (by kernel_rfl) (by kernel_rfl) ?_) | refine pwp_exit ?_ | refine pwp_ret ?_ | refine pwp_skip ?_); push_cast [eq_self, iff_self, IntWalk.iteOmega, IntWalk.toNatUp]) | (refine pwp_cond ?_; push_cast [eq_self, iff_self, IntWalk.iteOmega, IntWalk.toNatUp]; try (refine ⟨fun h => ?_, fun h => ?_⟩ <;> (try simp only [decide_eq_true_eq, decide_eq_false_iff_not, Bool.not_eq_true', Bool.not_eq_false', Int.not_lt, Int.not_le, Nat.not_lt, Nat.not_le] at h) <;> (try (first | contradiction | (exfalso; omega) | exact nomatch (Eq.trans (Eq.symm h) (by assumption) : true = false) | exact nomatch (Eq.trans (Eq.symm h) (by assumption) : false = true))))))
        (refine retK_of [] ?_; push_cast [eq_self, iff_self, IntWalk.iteOmega, IntWalk.toNatUp, planA, hr])
theorem chg_eq {a b : Chg} : a = b ↔ a.kind = b.kind ∧ a.acc = b.acc := by
  constructor
  · rintro rfl; exact ⟨rfl, rfl⟩
  · obtain ⟨k, c⟩ := a
    obtain ⟨k', c'⟩ := b
    rintro ⟨rfl, rfl⟩
    rfl
instance chgDec : DecidableEq Chg := fun a b => decidable_of_iff _ chg_eq.symm
theorem chg_beq (a b : Chg) : (decide (a.kind = b.kind) && (decide (a.acc.path = b.acc.path) && (decide (a.acc.node = b.acc.node) && decide (a.acc.user = b.acc.user)))) = decide (a = b) := by
  rw [acc_beq, Bool.eq_iff_iff]
  simp [chg_eq]
set_option maxHeartbeats 1000000 in
theorem samec_pure (l m : List Chg) (hl : l.length ≤ 1000000000) (hm : m.length ≤ 1000000000) :
    PCalls Tryd.prog 13 [.c (.sl 4 (l.map Chg.d)), .c (.sl 4 (m.map Chg.d))] [] fun r os => r = .c (.v (.bool (decide (l = m)))) ∧ os = [] := by
  refine pcalls_of Tryd.func13 rfl (by simp [Tryd.ntmps13]) ?_
  rw [Tryd.ntmps13, Tryd.results13]
  push_cast [eq_self, iff_self, IntWalk.iteOmega, IntWalk.toNatUp]
  by_cases hlm : l.length = m.length
  · have hlm' : ((l.length : Int) = m.length) = True := eq_true (by omega)
    repeat' (first | (refine Kont.use (by assumption) ?_) | (refine pwp_seq fun K hK => ?_) | (refine pwp_block ?_) | (refine pwp_scope ?_) | ((first | (refine pwp_cut 6 [] ?_; first | refine pwp_region ?_ | refine pwp_quiet (by kernel_rfl) (by kernel_rfl) ?_) | refine pwp_exit ?_ | refine pwp_ret ?_ | refine pwp_skip ?_); push_cast [eq_self, iff_self, IntWalk.iteOmega, IntWalk.toNatUp, hlm', ne_eq, not_true_eq_false]) | (refine pwp_cond ?_; push_cast [eq_self, iff_self, IntWalk.iteOmega, IntWalk.toNatUp, hlm', ne_eq, not_true_eq_false]; try (refine ⟨fun h => ?_, fun h => ?_⟩ <;> (try simp only [decide_eq_true_eq, decide_eq_false_iff_not, Bool.not_eq_true', Bool.not_eq_false', Int.not_lt, Int.not_le, Nat.not_lt, Nat.not_le] at h) <;> (try (first | contradiction | (exfalso; omega) | exact nomatch (Eq.trans (Eq.symm h) (by assumption) : true = false) | exact nomatch (Eq.trans (Eq.symm h) (by assumption) : false = true))))))
    (apply pwp_loop3 (α := Nat) 6 [] (fun k => [(5, .c (.v (.int .i64 k)))]) (fun k => []) (fun k => k ≤ l.length ∧ l.take k = m.take k) (fun k => l.length - k) (0); (focus ((try push_cast [eq_self, iff_self, IntWalk.iteOmega, IntWalk.toNatUp]); rfl)); (focus exact ⟨by omega, rfl⟩); (focus ((refine weak_fg ?_; try push_cast [eq_self, iff_self, IntWalk.iteOmega, IntWalk.toNatUp]))))
    rintro k ⟨hk, hn⟩
    push_cast [eq_self, iff_self, IntWalk.iteOmega, IntWalk.toNatUp]
    by_cases hlt : k < l.length
    · have hlt2 : k < m.length := by omega
      have hb := chg_beq (l.getD k default) (m.getD k default)
      by_cases he : l.getD k default = m.getD k default
      · rw [decide_eq_true he] at hb
        repeat' (first | (refine Kont.use (by assumption) ?_) | (refine pwp_seq fun K hK => ?_) | (refine pwp_block ?_) | (refine pwp_scope ?_) | ((first | (refine pwp_cut 6 [] ?_; first | refine pwp_region ?_ | refine pwp_quiet (by kernel_rfl) (by kernel_rfl) ?_) | refine pwp_exit ?_ | refine pwp_ret ?_ | refine pwp_skip ?_); push_cast [eq_self, iff_self, IntWalk.iteOmega, IntWalk.toNatUp, hb]) | (refine pwp_cond ?_; push_cast [eq_self, iff_self, IntWalk.iteOmega, IntWalk.toNatUp, hb]; try (refine ⟨fun h => ?_, fun h => ?_⟩ <;> (try simp only [decide_eq_true_eq, decide_eq_false_iff_not, Bool.not_eq_true', Bool.not_eq_false', Int.not_lt, Int.not_le, Nat.not_lt, Nat.not_le] at h) <;> (try (first | contradiction | (exfalso; omega) | exact nomatch (Eq.trans (Eq.symm h) (by assumption) : true = false) | exact nomatch (Eq.trans (Eq.symm h) (by assumption) : false = true))))))
        refine ⟨k + 1, ⟨by omega, ?_⟩, by (refine weak_fg ?_; push_cast [eq_self, iff_self, IntWalk.iteOmega, IntWalk.toNatUp]), by omega⟩
        rw [List.take_succ_eq_append_getElem hlt, List.take_succ_eq_append_getElem hlt2, hn, ← getD_lt l hlt, ← getD_lt m hlt2, he]
      · rw [decide_eq_false he] at hb
        repeat' (first | (refine Kont.use (by assumption) ?_) | (refine pwp_seq fun K hK => ?_) | (refine pwp_block ?_) | (refine pwp_scope ?_) | ((first | (refine pwp_cut 6 [] ?_; first | refine pwp_region ?_ | refine pwp_quiet (by kernel_rfl) (by kernel_rfl) ?_) | refine pwp_exit ?_ | refine pwp_ret ?_ | refine pwp_skip ?_); push_cast [eq_self, iff_self, IntWalk.iteOmega, IntWalk.toNatUp, hb]) | (refine pwp_cond ?_; push_cast [eq_self, iff_self, IntWalk.iteOmega, IntWalk.toNatUp, hb]; try (refine ⟨fun h => ?_, fun h => ?_⟩ <;> (try simp only [decide_eq_true_eq, decide_eq_false_iff_not, Bool.not_eq_true', Bool.not_eq_false', Int.not_lt, Int.not_le, Nat.not_lt, Nat.not_le] at h) <;> (try (first | contradiction | (exfalso; omega) | exact nomatch (Eq.trans (Eq.symm h) (by assumption) : true = false) | exact nomatch (Eq.trans (Eq.symm h) (by assumption) : false = true))))))
        (refine retK_of [] ?_; push_cast [eq_self, iff_self, IntWalk.iteOmega, IntWalk.toNatUp])
        rw [decide_eq_false]
        rintro rfl
        exact he rfl
    · rw [List.take_of_length_le (by omega), List.take_of_length_le (by omega)] at hn
      repeat' (first | (refine Kont.use (by assumption) ?_) | (refine pwp_seq fun K hK => ?_) | (refine pwp_block ?_) | (refine pwp_scope ?_) | ((first | (refine pwp_cut 6 [] ?_; first | refine pwp_region ?_ | refine pwp_quiet (by kernel_rfl) (by kernel_rfl) ?_) | refine pwp_exit ?_ | refine pwp_ret ?_ | refine pwp_skip ?_); push_cast [eq_self, iff_self, IntWalk.iteOmega, IntWalk.toNatUp]) | (refine pwp_cond ?_; push_cast [eq_self, iff_self, IntWalk.iteOmega, IntWalk.toNatUp]; try (refine ⟨fun h => ?_, fun h => ?_⟩ <;> (try simp only [decide_eq_true_eq, decide_eq_false_iff_not, Bool.not_eq_true', Bool.not_eq_false', Int.not_lt, Int.not_le, Nat.not_lt, Nat.not_le] at h) <;> (try (first | contradiction | (exfalso; omega) | exact nomatch (Eq.trans (Eq.symm h) (by assumption) : true = false) | exact nomatch (Eq.trans (Eq.symm h) (by assumption) : false = true))))))
      (refine retK_of [] ?_; push_cast [eq_self, iff_self, IntWalk.iteOmega, IntWalk.toNatUp])
      rw [decide_eq_true hn]
  · have hlm' : ¬ ((l.length : Int) = m.length) := by omega
    repeat' (first | (refine Kont.use (by assumption) ?_) | (refine pwp_seq fun K hK => ?_) | (refine pwp_block ?_) | (refine pwp_scope ?_) | ((first | (refine pwp_cut 6 [] ?_; first | refine pwp_region ?_ | refine pwp_quiet (by kernel_rfl) (by kernel_rfl) ?_) | refine pwp_exit ?_ | refine pwp_ret ?_ | refine pwp_skip ?_); push_cast [eq_self, iff_self, IntWalk.iteOmega, IntWalk.toNatUp, hlm', ne_eq, not_false_eq_true]) | (refine pwp_cond ?_; push_cast [eq_self, iff_self, IntWalk.iteOmega, IntWalk.toNatUp, hlm', ne_eq, not_false_eq_true]; try (refine ⟨fun h => ?_, fun h => ?_⟩ <;> (try simp only [decide_eq_true_eq, decide_eq_false_iff_not, Bool.not_eq_true', Bool.not_eq_false', Int.not_lt, Int.not_le, Nat.not_lt, Nat.not_le] at h) <;> (try (first | contradiction | (exfalso; omega) | exact nomatch (Eq.trans (Eq.symm h) (by assumption) : true = false) | exact nomatch (Eq.trans (Eq.symm h) (by assumption) : false = true))))))
    (refine retK_of [] ?_; push_cast [eq_self, iff_self, IntWalk.iteOmega, IntWalk.toNatUp])
    rw [decide_eq_false]
    rintro rfl
    exact hlm rfl
/-! ### Right -/
theorem parts_rest {a : ByteArray} (h : slashS a = true) : parts a = ⟨#[]⟩ :: parts (restS a) := by
  unfold parts
  rw [slash_rest h, spl, if_pos rfl]
  rfl
theorem order_cmp {a b : ByteArray} (ha : okP1 a) (hb : okP1 b) : cmpL (parts a) (parts b) = cmpP a b := by
  obtain ⟨l, hl⟩ := ha
  obtain ⟨m, hm⟩ := hb
  unfold cmpP
  rw [hl, hm]
  unfold splitP at hl hm
  split at hl
  · rename_i h1
    split at hm
    · rename_i h2
      cases hl
      cases hm
      rw [parts_rest h1.1, parts_rest h2.1, cmpL, if_pos rfl]
    · cases hm
  · cases hl
theorem right_at {l : List Acc} (h : Right l) {i k : Nat} (hi : i < l.length) (hk : k < i) : ltA (l.getD k default) (l.getD i default) ∧ (l.getD k default).node ≠ (l.getD i default).node := by
  rw [getD_lt l hi, getD_lt l (by omega)]
  refine ⟨List.pairwise_iff_getElem.1 h.asc k i (by omega) hi hk, fun e => ?_⟩
  have := List.pairwise_iff_getElem.1 h.nodes k i (by rw [List.length_map]; omega) (by rw [List.length_map]; omega) hk
  rw [List.getElem_map, List.getElem_map] at this
  exact this e
set_option maxHeartbeats 2000000 in
theorem rright_pure (l : List Acc) (hl : l.length ≤ 1000000) (hR : Right l) (hz : ∀ y ∈ l, y.path.size ≤ 100000000) :
    PCalls Tryd.prog 20 [.c (.sl 3 (l.map Acc.d))] [] fun y os => y = .c (.v (.bool true)) ∧ os = [] := by
  refine pcalls_of Tryd.func20 rfl (by simp [Tryd.ntmps20]) ?_
  rw [Tryd.ntmps20, Tryd.results20]
  push_cast [eq_self, iff_self, IntWalk.iteOmega, IntWalk.toNatUp]
  repeat' (first | (refine Kont.use (by assumption) ?_) | (refine pwp_seq fun K hK => ?_) | (refine pwp_block ?_) | (refine pwp_scope ?_) | ((first | (refine pwp_cut 7 [] ?_; first | refine pwp_region ?_ | refine pwp_quiet (by kernel_rfl) (by kernel_rfl) ?_) | refine pwp_exit ?_ | refine pwp_ret ?_ | refine pwp_skip ?_); push_cast [eq_self, iff_self, IntWalk.iteOmega, IntWalk.toNatUp]) | (refine pwp_cond ?_; push_cast [eq_self, iff_self, IntWalk.iteOmega, IntWalk.toNatUp]; try (refine ⟨fun h => ?_, fun h => ?_⟩ <;> (try simp only [decide_eq_true_eq, decide_eq_false_iff_not, Bool.not_eq_true', Bool.not_eq_false', Int.not_lt, Int.not_le, Nat.not_lt, Nat.not_le] at h) <;> (try (first | contradiction | (exfalso; omega) | exact nomatch (Eq.trans (Eq.symm h) (by assumption) : true = false) | exact nomatch (Eq.trans (Eq.symm h) (by assumption) : false = true))))))
  (apply pwp_loop3 (α := Nat) 7 [] (fun i => [(3, .c (.v (.int .i64 i)))]) (fun i => []) (fun i => i ≤ l.length) (fun i => l.length - i) (0); (focus ((try push_cast [eq_self, iff_self, IntWalk.iteOmega, IntWalk.toNatUp]); rfl)); (focus exact (by omega)); (focus ((refine weak_fg ?_; try push_cast [eq_self, iff_self, IntWalk.iteOmega, IntWalk.toNatUp]))))
  intro i hi
  push_cast [eq_self, iff_self, IntWalk.iteOmega, IntWalk.toNatUp]
  by_cases hlt : i < l.length
  · have hmem : ∀ k, k < l.length → l.getD k default ∈ l := fun k hk => by rw [getD_lt l hk]; exact List.getElem_mem _
    obtain ⟨p, hp⟩ := hR.ok _ (hmem i hlt)
    have hs := rsplit_pure (l.getD i default).path (hz _ (hmem i hlt))
    rw [hp] at hs
    simp only [rsplitR] at hs
    by_cases h0 : 0 < i
    · have hc := (right_at hR hlt (show i - 1 < i by omega)).1
      unfold ltA at hc
      rw [← order_cmp (hR.ok _ (hmem _ (by omega))) (hR.ok _ (hmem i hlt))] at hc
      have ho := rorder_pure (l.getD (i - 1) default).path (l.getD i default).path (hz _ (hmem _ (by omega))) (hz _ (hmem i hlt))
      generalize cmpL (parts (l.getD (i - 1) default).path) (parts (l.getD i default).path) = c at *
      repeat' (first |  (refine pl_call2 false [] rfl rfl (by kernel_rfl) (hs) ?_ nofun ?_; push_cast [eq_self, iff_self, IntWalk.iteOmega, IntWalk.toNatUp]; rintro r os ⟨rfl, rfl⟩; refine pl_of_pops ?_; push_cast [eq_self, iff_self, IntWalk.iteOmega, IntWalk.toNatUp]) | (refine ql_call2 false rfl rfl (by kernel_rfl) (ho) (fun r os h => h.1) rfl ?_ ?_; push_cast [eq_self, iff_self, IntWalk.iteOmega, IntWalk.toNatUp]; refine ql_of_qops ?_; push_cast [eq_self, iff_self, IntWalk.iteOmega, IntWalk.toNatUp])  | (refine Kont.use (by assumption) ?_) | (refine pwp_seq fun K hK => ?_) | (refine pwp_block ?_) | (refine pwp_scope ?_) | ((first | (refine pwp_cut 7 [] ?_; first | refine pwp_region ?_ | refine pwp_quiet (by kernel_rfl) (by kernel_rfl) ?_) | refine pwp_exit ?_ | refine pwp_ret ?_ | refine pwp_skip ?_); push_cast [eq_self, iff_self, IntWalk.iteOmega, IntWalk.toNatUp]) | (refine pwp_cond ?_; push_cast [eq_self, iff_self, IntWalk.iteOmega, IntWalk.toNatUp]; try (refine ⟨fun h => ?_, fun h => ?_⟩ <;> (try simp only [decide_eq_true_eq, decide_eq_false_iff_not, Bool.not_eq_true', Bool.not_eq_false', Int.not_lt, Int.not_le, Nat.not_lt, Nat.not_le] at h) <;> (try (first | contradiction | (exfalso; omega) | exact nomatch (Eq.trans (Eq.symm h) (by assumption) : true = false) | exact nomatch (Eq.trans (Eq.symm h) (by assumption) : false = true))))))
      (apply pwp_loop3 (α := Nat) 7 [] (fun k => [(6, .c (.v (.int .i64 k)))]) (fun k => []) (fun k => k ≤ i) (fun k => i - k) (0); (focus ((try push_cast [eq_self, iff_self, IntWalk.iteOmega, IntWalk.toNatUp]); rfl)); (focus exact (by omega)); (focus ((refine weak_fg ?_; try push_cast [eq_self, iff_self, IntWalk.iteOmega, IntWalk.toNatUp]))))
      intro k hk
      push_cast [eq_self, iff_self, IntWalk.iteOmega, IntWalk.toNatUp]
      by_cases hki : k < i
      · have hne := (right_at hR hlt hki).2
        repeat' (first | (refine Kont.use (by assumption) ?_) | (refine pwp_seq fun K hK => ?_) | (refine pwp_block ?_) | (refine pwp_scope ?_) | ((first | (refine pwp_cut 7 [] ?_; first | refine pwp_region ?_ | refine pwp_quiet (by kernel_rfl) (by kernel_rfl) ?_) | refine pwp_exit ?_ | refine pwp_ret ?_ | refine pwp_skip ?_); push_cast [eq_self, iff_self, IntWalk.iteOmega, IntWalk.toNatUp, hne]) | (refine pwp_cond ?_; push_cast [eq_self, iff_self, IntWalk.iteOmega, IntWalk.toNatUp, hne]; try (refine ⟨fun h => ?_, fun h => ?_⟩ <;> (try simp only [decide_eq_true_eq, decide_eq_false_iff_not, Bool.not_eq_true', Bool.not_eq_false', Int.not_lt, Int.not_le, Nat.not_lt, Nat.not_le] at h) <;> (try (first | contradiction | (exfalso; omega) | exact nomatch (Eq.trans (Eq.symm h) (by assumption) : true = false) | exact nomatch (Eq.trans (Eq.symm h) (by assumption) : false = true))))))
        exact ⟨k + 1, by omega, by (refine weak_fg ?_; push_cast [eq_self, iff_self, IntWalk.iteOmega, IntWalk.toNatUp]), by omega⟩
      · repeat' (first | (refine Kont.use (by assumption) ?_) | (refine pwp_seq fun K hK => ?_) | (refine pwp_block ?_) | (refine pwp_scope ?_) | ((first | (refine pwp_cut 7 [] ?_; first | refine pwp_region ?_ | refine pwp_quiet (by kernel_rfl) (by kernel_rfl) ?_) | refine pwp_exit ?_ | refine pwp_ret ?_ | refine pwp_skip ?_); push_cast [eq_self, iff_self, IntWalk.iteOmega, IntWalk.toNatUp]) | (refine pwp_cond ?_; push_cast [eq_self, iff_self, IntWalk.iteOmega, IntWalk.toNatUp]; try (refine ⟨fun h => ?_, fun h => ?_⟩ <;> (try simp only [decide_eq_true_eq, decide_eq_false_iff_not, Bool.not_eq_true', Bool.not_eq_false', Int.not_lt, Int.not_le, Nat.not_lt, Nat.not_le] at h) <;> (try (first | contradiction | (exfalso; omega) | exact nomatch (Eq.trans (Eq.symm h) (by assumption) : true = false) | exact nomatch (Eq.trans (Eq.symm h) (by assumption) : false = true))))))
        exact ⟨i + 1, by omega, by (refine weak_fg ?_; push_cast [eq_self, iff_self, IntWalk.iteOmega, IntWalk.toNatUp]), by omega⟩
    · have h0' : i = 0 := by omega
      subst h0'
      repeat' (first |  (refine pl_call2 false [] rfl rfl (by kernel_rfl) (hs) ?_ nofun ?_; push_cast [eq_self, iff_self, IntWalk.iteOmega, IntWalk.toNatUp]; rintro r os ⟨rfl, rfl⟩; refine pl_of_pops ?_; push_cast [eq_self, iff_self, IntWalk.iteOmega, IntWalk.toNatUp])  | (refine Kont.use (by assumption) ?_) | (refine pwp_seq fun K hK => ?_) | (refine pwp_block ?_) | (refine pwp_scope ?_) | ((first | (refine pwp_cut 7 [] ?_; first | refine pwp_region ?_ | refine pwp_quiet (by kernel_rfl) (by kernel_rfl) ?_) | refine pwp_exit ?_ | refine pwp_ret ?_ | refine pwp_skip ?_); push_cast [eq_self, iff_self, IntWalk.iteOmega, IntWalk.toNatUp]) | (refine pwp_cond ?_; push_cast [eq_self, iff_self, IntWalk.iteOmega, IntWalk.toNatUp]; try (refine ⟨fun h => ?_, fun h => ?_⟩ <;> (try simp only [decide_eq_true_eq, decide_eq_false_iff_not, Bool.not_eq_true', Bool.not_eq_false', Int.not_lt, Int.not_le, Nat.not_lt, Nat.not_le] at h) <;> (try (first | contradiction | (exfalso; omega) | exact nomatch (Eq.trans (Eq.symm h) (by assumption) : true = false) | exact nomatch (Eq.trans (Eq.symm h) (by assumption) : false = true))))))
      (apply pwp_loop3 (α := Nat) 7 [] (fun k => [(6, .c (.v (.int .i64 k)))]) (fun k => []) (fun k => k ≤ 0) (fun k => 0 - k) (0); (focus ((try push_cast [eq_self, iff_self, IntWalk.iteOmega, IntWalk.toNatUp]); rfl)); (focus exact (by omega)); (focus ((refine weak_fg ?_; try push_cast [eq_self, iff_self, IntWalk.iteOmega, IntWalk.toNatUp]))))
      intro k hk
      have hk0 : k = 0 := by omega
      subst hk0
      push_cast [eq_self, iff_self, IntWalk.iteOmega, IntWalk.toNatUp]
      repeat' (first | (refine Kont.use (by assumption) ?_) | (refine pwp_seq fun K hK => ?_) | (refine pwp_block ?_) | (refine pwp_scope ?_) | ((first | (refine pwp_cut 7 [] ?_; first | refine pwp_region ?_ | refine pwp_quiet (by kernel_rfl) (by kernel_rfl) ?_) | refine pwp_exit ?_ | refine pwp_ret ?_ | refine pwp_skip ?_); push_cast [eq_self, iff_self, IntWalk.iteOmega, IntWalk.toNatUp]) | (refine pwp_cond ?_; push_cast [eq_self, iff_self, IntWalk.iteOmega, IntWalk.toNatUp]; try (refine ⟨fun h => ?_, fun h => ?_⟩ <;> (try simp only [decide_eq_true_eq, decide_eq_false_iff_not, Bool.not_eq_true', Bool.not_eq_false', Int.not_lt, Int.not_le, Nat.not_lt, Nat.not_le] at h) <;> (try (first | contradiction | (exfalso; omega) | exact nomatch (Eq.trans (Eq.symm h) (by assumption) : true = false) | exact nomatch (Eq.trans (Eq.symm h) (by assumption) : false = true))))))
      exact ⟨0 + 1, by omega, by (refine weak_fg ?_; push_cast [eq_self, iff_self, IntWalk.iteOmega, IntWalk.toNatUp]), by omega⟩
  · repeat' (first | (refine Kont.use (by assumption) ?_) | (refine pwp_seq fun K hK => ?_) | (refine pwp_block ?_) | (refine pwp_scope ?_) | ((first | (refine pwp_cut 7 [] ?_; first | refine pwp_region ?_ | refine pwp_quiet (by kernel_rfl) (by kernel_rfl) ?_) | refine pwp_exit ?_ | refine pwp_ret ?_ | refine pwp_skip ?_); push_cast [eq_self, iff_self, IntWalk.iteOmega, IntWalk.toNatUp]) | (refine pwp_cond ?_; push_cast [eq_self, iff_self, IntWalk.iteOmega, IntWalk.toNatUp]; try (refine ⟨fun h => ?_, fun h => ?_⟩ <;> (try simp only [decide_eq_true_eq, decide_eq_false_iff_not, Bool.not_eq_true', Bool.not_eq_false', Int.not_lt, Int.not_le, Nat.not_lt, Nat.not_le] at h) <;> (try (first | contradiction | (exfalso; omega) | exact nomatch (Eq.trans (Eq.symm h) (by assumption) : true = false) | exact nomatch (Eq.trans (Eq.symm h) (by assumption) : false = true))))))
    (refine retK_of [] ?_; push_cast [eq_self, iff_self, IntWalk.iteOmega, IntWalk.toNatUp])
/-! ### what Apply returns -/
def applyM (l : List Acc) (c : Chg) : List Acc × Int := match applyA l c with
  | (some m, e) => (m, e)
  | (none, e) => ([], e)
theorem applyM_rev {l : List Acc} {x : Acc} (h : x ∈ l) : applyM l ⟨1, x⟩ = (l.filter fun y => decide (y ≠ x), 0) := by
  unfold applyM applyA
  simp [h]
theorem applyM_none {l : List Acc} {x : Acc} (h : x ∉ l) : applyM l ⟨1, x⟩ = ([], 381) := by
  unfold applyM applyA
  simp [h]
theorem applyM_kind {l : List Acc} {c : Chg} (h1 : ¬ c.kind = 1) (h2 : ¬ c.kind = 2) : applyM l c = ([], 380) := by
  unfold applyM applyA
  simp [h1, h2]
theorem applyM_taken {l : List Acc} {x : Acc} (h : ∃ y ∈ l, y.path = x.path ∨ y.node = x.node) : applyM l ⟨2, x⟩ = ([], 382) := by
  unfold applyM applyA
  simp only [if_pos h]
  rfl
theorem applyM_path {l : List Acc} {x : Acc} (h : ¬ ∃ y ∈ l, y.path = x.path ∨ y.node = x.node) (hx : splitP x.path = none) : applyM l ⟨2, x⟩ = ([], 383) := by
  unfold applyM applyA
  simp only [if_neg h, hx]
  rfl
theorem applyM_grant {l : List Acc} {x : Acc} (h : ¬ ∃ y ∈ l, y.path = x.path ∨ y.node = x.node) (hx : okP1 x.path) : applyM l ⟨2, x⟩ = (insA x l, 0) := by
  obtain ⟨p, hp⟩ := hx
  unfold applyM applyA
  simp only [if_neg h, hp]
  rfl
/-- a list and an error, as a result -/
def accR (p : List Acc × Int) : PV := .two (.c (.sl 3 (p.1.map Acc.d))) (.c (.v (.int .i64 p.2)))
end Go.Proofs.YtipgjpcbmnlbhaaDoor
namespace Go.Proofs.YtipgjpcbmnlbhaaDoor
attribute [local irreducible] PL QL PWP PCalls Weak RetK Kont PA
open Go.RowKit
set_option linter.unusedVariables false
set_option linter.unusedSimpArgs false
set_option maxHeartbeats 1000000 in
theorem rapply_kind (l : List Acc) (c : Chg) (h1 : ¬ c.kind = 1) (h2 : ¬ c.kind = 2) :
    PCalls Tryd.prog 19 [.c (.sl 3 (l.map Acc.d)), .agg c.e] [] fun r os => r = accR ([], 380) ∧ os = [] := by
  refine pcalls_of Tryd.func19 rfl (by simp [Tryd.ntmps19]) ?_
  rw [Tryd.ntmps19, Tryd.results19]
  unfold accR
  push_cast [eq_self, iff_self, IntWalk.iteOmega, IntWalk.toNatUp]
  repeat' (first | (refine Kont.use (by assumption) ?_) | (refine pwp_seq fun K hK => ?_) | (refine pwp_block ?_) | (refine pwp_scope ?_) | ((first | (refine pwp_cut 12 [13] ?_; first | refine pwp_region ?_ | refine pwp_quiet (by kernel_rfl) (by kernel_rfl) ?_) | refine pwp_exit ?_ | refine pwp_ret ?_ | refine pwp_skip ?_); push_cast [eq_self, iff_self, IntWalk.iteOmega, IntWalk.toNatUp, h1, h2, ne_eq, not_false_eq_true]) | (refine pwp_cond ?_; push_cast [eq_self, iff_self, IntWalk.iteOmega, IntWalk.toNatUp, h1, h2, ne_eq, not_false_eq_true]; try (refine ⟨fun h => ?_, fun h => ?_⟩ <;> (try simp only [decide_eq_true_eq, decide_eq_false_iff_not, Bool.not_eq_true', Bool.not_eq_false', Int.not_lt, Int.not_le, Nat.not_lt, Nat.not_le] at h) <;> (try (first | contradiction | (exfalso; omega) | exact nomatch (Eq.trans (Eq.symm h) (by assumption) : true = false) | exact nomatch (Eq.trans (Eq.symm h) (by assumption) : false = true))))))
  (refine retK_of [] ?_; push_cast [eq_self, iff_self, IntWalk.iteOmega, IntWalk.toNatUp])
set_option maxHeartbeats 1000000 in
theorem rapply_none (l : List Acc) (x : Acc) (hl : l.length ≤ 1000000) (h : x ∉ l) :
    PCalls Tryd.prog 19 [.c (.sl 3 (l.map Acc.d)), .agg (Chg.mk 1 x).e] [] fun r os => r = accR ([], 381) ∧ os = [] := by
  have hin := rin38_pure l x (by omega)
  rw [decide_eq_false h] at hin
  refine pcalls_of Tryd.func19 rfl (by simp [Tryd.ntmps19]) ?_
  rw [Tryd.ntmps19, Tryd.results19]
  unfold accR
  push_cast [eq_self, iff_self, IntWalk.iteOmega, IntWalk.toNatUp]
  repeat' (first |  (refine pl_call2 false [] rfl rfl (by kernel_rfl) (hin) ?_ nofun ?_; push_cast [eq_self, iff_self, IntWalk.iteOmega, IntWalk.toNatUp]; rintro r os ⟨rfl, rfl⟩; refine pl_of_pops ?_; push_cast [eq_self, iff_self, IntWalk.iteOmega, IntWalk.toNatUp])  | (refine Kont.use (by assumption) ?_) | (refine pwp_seq fun K hK => ?_) | (refine pwp_block ?_) | (refine pwp_scope ?_) | ((first | (refine pwp_cut 12 [13] ?_; first | refine pwp_region ?_ | refine pwp_quiet (by kernel_rfl) (by kernel_rfl) ?_) | refine pwp_exit ?_ | refine pwp_ret ?_ | refine pwp_skip ?_); push_cast [eq_self, iff_self, IntWalk.iteOmega, IntWalk.toNatUp]) | (refine pwp_cond ?_; push_cast [eq_self, iff_self, IntWalk.iteOmega, IntWalk.toNatUp]; try (refine ⟨fun h => ?_, fun h => ?_⟩ <;> (try simp only [decide_eq_true_eq, decide_eq_false_iff_not, Bool.not_eq_true', Bool.not_eq_false', Int.not_lt, Int.not_le, Nat.not_lt, Nat.not_le] at h) <;> (try (first | contradiction | (exfalso; omega) | exact nomatch (Eq.trans (Eq.symm h) (by assumption) : true = false) | exact nomatch (Eq.trans (Eq.symm h) (by assumption) : false = true))))))
  (refine retK_of [] ?_; push_cast [eq_self, iff_self, IntWalk.iteOmega, IntWalk.toNatUp])
theorem neA_in {l : List Acc} {x : Acc} {k : Nat} (hk : k < l.length) (h : l.getD k default = x) : ((l.take (k + 1)).filter fun y => decide (y ≠ x)) = (l.take k).filter fun y => decide (y ≠ x) := by
  rw [getD_lt l hk] at h
  rw [List.take_succ_eq_append_getElem hk, List.filter_append, List.filter_cons_of_neg (by simpa using h)]
  simp
theorem neA_out {l : List Acc} {x : Acc} {k : Nat} (hk : k < l.length) (h : ¬ l.getD k default = x) : ((l.take (k + 1)).filter fun y => decide (y ≠ x)) = ((l.take k).filter fun y => decide (y ≠ x)) ++ [l.getD k default] := by
  rw [getD_lt l hk] at *
  rw [List.take_succ_eq_append_getElem hk, List.filter_append, List.filter_cons_of_pos (by simpa using h)]
  simp
set_option maxHeartbeats 1000000 in
theorem rapply_rev (l : List Acc) (x : Acc) (hl : l.length ≤ 1000000) (h : x ∈ l) :
    PCalls Tryd.prog 19 [.c (.sl 3 (l.map Acc.d)), .agg (Chg.mk 1 x).e] [] fun r os => r = accR (l.filter fun y => decide (y ≠ x), 0) ∧ os = [] := by
  have hin := rin38_pure l x (by omega)
  rw [decide_eq_true h] at hin
  refine pcalls_of Tryd.func19 rfl (by simp [Tryd.ntmps19]) ?_
  rw [Tryd.ntmps19, Tryd.results19]
  unfold accR
  push_cast [eq_self, iff_self, IntWalk.iteOmega, IntWalk.toNatUp]
  repeat' (first |  (refine pl_call2 false [] rfl rfl (by kernel_rfl) (hin) ?_ nofun ?_; push_cast [eq_self, iff_self, IntWalk.iteOmega, IntWalk.toNatUp]; rintro r os ⟨rfl, rfl⟩; refine pl_of_pops ?_; push_cast [eq_self, iff_self, IntWalk.iteOmega, IntWalk.toNatUp])  | (refine Kont.use (by assumption) ?_) | (refine pwp_seq fun K hK => ?_) | (refine pwp_block ?_) | (refine pwp_scope ?_) | ((first | (refine pwp_cut 12 [13] ?_; first | refine pwp_region ?_ | refine pwp_quiet (by kernel_rfl) (by kernel_rfl) ?_) | refine pwp_exit ?_ | refine pwp_ret ?_ | refine pwp_skip ?_); push_cast [eq_self, iff_self, IntWalk.iteOmega, IntWalk.toNatUp]) | (refine pwp_cond ?_; push_cast [eq_self, iff_self, IntWalk.iteOmega, IntWalk.toNatUp]; try (refine ⟨fun h => ?_, fun h => ?_⟩ <;> (try simp only [decide_eq_true_eq, decide_eq_false_iff_not, Bool.not_eq_true', Bool.not_eq_false', Int.not_lt, Int.not_le, Nat.not_lt, Nat.not_le] at h) <;> (try (first | contradiction | (exfalso; omega) | exact nomatch (Eq.trans (Eq.symm h) (by assumption) : true = false) | exact nomatch (Eq.trans (Eq.symm h) (by assumption) : false = true))))))
  refine pwp_weak (weak_adopt 6 31 3 (by omega) (by push_cast [eq_self, iff_self, IntWalk.iteOmega, IntWalk.toNatUp])) ?_
  push_cast [eq_self, iff_self, IntWalk.iteOmega, IntWalk.toNatUp]
  (apply pwp_loop3 (α := Nat) 12 [13] (fun k => [(7, .c (.v (.int .i64 k))), (6, .c (.own 1 (((l.take k).filter fun y => decide (y ≠ x)).length)))]) (fun k => [(1, .arr 31 3 (((l.take k).filter fun y => decide (y ≠ x)).map Acc.d))]) (fun k => k ≤ l.length) (fun k => l.length - k) (0); (focus ((try push_cast [eq_self, iff_self, IntWalk.iteOmega, IntWalk.toNatUp]); rfl)); (focus exact (by omega)); (focus ((refine weak_fg ?_; try push_cast [eq_self, iff_self, IntWalk.iteOmega, IntWalk.toNatUp]); exact ⟨rfl, rfl⟩)))
  intro k hk
  push_cast [eq_self, iff_self, IntWalk.iteOmega, IntWalk.toNatUp]
  have hml : ((l.take k).filter fun y => decide (y ≠ x)).length ≤ k := Nat.le_trans (List.length_filter_le _ _) (List.length_take_le _ _)
  by_cases hlt : k < l.length
  · have hb := acc_beq (l.getD k default) x
    by_cases he : l.getD k default = x
    · rw [decide_eq_true he] at hb
      have hs := neA_in hlt he
      repeat' (first | (refine Kont.use (by assumption) ?_) | (refine pwp_seq fun K hK => ?_) | (refine pwp_block ?_) | (refine pwp_scope ?_) | ((first | (refine pwp_cut 12 [13] ?_; first | refine pwp_region ?_ | refine pwp_quiet (by kernel_rfl) (by kernel_rfl) ?_) | refine pwp_exit ?_ | refine pwp_ret ?_ | refine pwp_skip ?_); push_cast [eq_self, iff_self, IntWalk.iteOmega, IntWalk.toNatUp, hb]) | (refine pwp_cond ?_; push_cast [eq_self, iff_self, IntWalk.iteOmega, IntWalk.toNatUp, hb]; try (refine ⟨fun h => ?_, fun h => ?_⟩ <;> (try simp only [decide_eq_true_eq, decide_eq_false_iff_not, Bool.not_eq_true', Bool.not_eq_false', Int.not_lt, Int.not_le, Nat.not_lt, Nat.not_le] at h) <;> (try (first | contradiction | (exfalso; omega) | exact nomatch (Eq.trans (Eq.symm h) (by assumption) : true = false) | exact nomatch (Eq.trans (Eq.symm h) (by assumption) : false = true))))))
      exact ⟨k + 1, by omega, by (refine weak_fg ?_; push_cast [eq_self, iff_self, IntWalk.iteOmega, IntWalk.toNatUp, hs]), by omega⟩
    · rw [decide_eq_false he] at hb
      have hs := neA_out hlt he
      repeat' (first | (refine Kont.use (by assumption) ?_) | (refine pwp_seq fun K hK => ?_) | (refine pwp_block ?_) | (refine pwp_scope ?_) | ((first | (refine pwp_cut 12 [13] ?_; first | refine pwp_region ?_ | refine pwp_quiet (by kernel_rfl) (by kernel_rfl) ?_) | refine pwp_exit ?_ | refine pwp_ret ?_ | refine pwp_skip ?_); push_cast [eq_self, iff_self, IntWalk.iteOmega, IntWalk.toNatUp, hb]) | (refine pwp_cond ?_; push_cast [eq_self, iff_self, IntWalk.iteOmega, IntWalk.toNatUp, hb]; try (refine ⟨fun h => ?_, fun h => ?_⟩ <;> (try simp only [decide_eq_true_eq, decide_eq_false_iff_not, Bool.not_eq_true', Bool.not_eq_false', Int.not_lt, Int.not_le, Nat.not_lt, Nat.not_le] at h) <;> (try (first | contradiction | (exfalso; omega) | exact nomatch (Eq.trans (Eq.symm h) (by assumption) : true = false) | exact nomatch (Eq.trans (Eq.symm h) (by assumption) : false = true))))))
      exact ⟨k + 1, by omega, by (refine weak_fg ?_; push_cast [eq_self, iff_self, IntWalk.iteOmega, IntWalk.toNatUp, hs]), by omega⟩
  · rw [List.take_of_length_le (by omega)] at *
    generalize (l.filter fun y => decide (y ≠ x)) = m at *
    repeat' (first | (refine Kont.use (by assumption) ?_) | (refine pwp_seq fun K hK => ?_) | (refine pwp_block ?_) | (refine pwp_scope ?_) | ((first | (refine pwp_cut 12 [13] ?_; first | refine pwp_region ?_ | refine pwp_quiet (by kernel_rfl) (by kernel_rfl) ?_) | refine pwp_exit ?_ | refine pwp_ret ?_ | refine pwp_skip ?_); push_cast [eq_self, iff_self, IntWalk.iteOmega, IntWalk.toNatUp]) | (refine pwp_cond ?_; push_cast [eq_self, iff_self, IntWalk.iteOmega, IntWalk.toNatUp]; try (refine ⟨fun h => ?_, fun h => ?_⟩ <;> (try simp only [decide_eq_true_eq, decide_eq_false_iff_not, Bool.not_eq_true', Bool.not_eq_false', Int.not_lt, Int.not_le, Nat.not_lt, Nat.not_le] at h) <;> (try (first | contradiction | (exfalso; omega) | exact nomatch (Eq.trans (Eq.symm h) (by assumption) : true = false) | exact nomatch (Eq.trans (Eq.symm h) (by assumption) : false = true))))))
    (refine retK_of [] ?_; push_cast [eq_self, iff_self, IntWalk.iteOmega, IntWalk.toNatUp])
theorem clash_no {l : List Acc} {x : Acc} {k : Nat} (hk : k < l.length) (h : ∀ y ∈ l.take k, ¬ (y.path = x.path ∨ y.node = x.node)) (h2 : ¬ ((l.getD k default).path = x.path ∨ (l.getD k default).node = x.node)) : ∀ y ∈ l.take (k + 1), ¬ (y.path = x.path ∨ y.node = x.node) := by
  intro y hy
  rw [List.take_succ_eq_append_getElem hk, List.mem_append, List.mem_singleton] at hy
  rcases hy with hy | hy
  · exact h y hy
  · rw [hy, ← getD_lt l hk]; exact h2
def insAt (l : List Acc) (x : Acc) (k : Nat) : List Acc := l.take k ++ x :: l.drop k
theorem insAt_len {l : List Acc} (x : Acc) {k : Nat} (hk : k ≤ l.length) : (insAt l x k).length = l.length + 1 := by simp [insAt]; omega
theorem insAt_k {l : List Acc} (x : Acc) {k : Nat} (hk : k ≤ l.length) : (insAt l x k).getD k default = x := by
  have : (l.take k).length = k := by rw [List.length_take]; omega
  simp [insAt, List.getD, List.getElem?_append, this]
theorem insAt_p {l : List Acc} (x : Acc) {k : Nat} (hk : k ≤ l.length) (h0 : 0 < k) : (insAt l x k).getD (k - 1) default = l.getD (k - 1) default := by
  have : (l.take k).length = k := by rw [List.length_take]; omega
  have h2 : k - 1 < k := by omega
  simp [insAt, List.getD, List.getElem?_append, this, h2, List.getElem?_take, show k - 1 < l.length by omega]
theorem insAt_swap {l : List Acc} (x : Acc) {k : Nat} (hk : k ≤ l.length) (h0 : 0 < k) : ((insAt l x k).set k (l.getD (k - 1) default)).set (k - 1) x = insAt l x (k - 1) := by
  have hlt : k - 1 < l.length := by omega
  have e1 : l.take k = l.take (k - 1) ++ [l.getD (k - 1) default] := by
    rw [getD_lt l hlt, ← List.take_succ_eq_append_getElem hlt]
    congr 1; omega
  have e2 : l.drop (k - 1) = l.getD (k - 1) default :: l.drop k := by
    rw [List.drop_eq_getElem_cons hlt, getD_lt l hlt]
    congr 2; omega
  have hlen : (l.take (k - 1)).length = k - 1 := by rw [List.length_take]; omega
  unfold insAt
  rw [e2, e1]
  generalize l.getD (k - 1) default = y
  generalize l.take (k - 1) = p at *
  generalize l.drop k = q
  have : k = p.length + 1 := by omega
  subst this
  simp [List.set_append]
theorem insAt_end {l : List Acc} {x : Acc} (h : Right l) (hx : okP1 x.path) (hno : ¬ ∃ y ∈ l, y.path = x.path ∨ y.node = x.node) {k : Nat} (hk : k ≤ l.length) (h1 : ∀ y ∈ l.drop k, ltA x y) (h2 : 0 < k → ¬ ltA x (l.getD (k - 1) default)) : insAt l x k = insA x l := by
  have hp : posA x l = k := by
    refine pos_eq hk (fun y hy => ?_) fun y hy => ltA_asymm (h1 y hy)
    by_cases h0 : 0 < k
    · have hlt : k - 1 < l.length := by omega
      have hg : l.getD (k - 1) default ∈ l := by rw [getD_lt l hlt]; exact List.getElem_mem _
      have h3 := h2 h0
      have h4 : ltA (l.getD (k - 1) default) x := by
        have a1 := cmpP_anti (l.getD (k - 1) default).path x.path
        have a2 : cmpP (l.getD (k - 1) default).path x.path ≠ 0 := fun e => hno ⟨_, hg, .inl ((cmpP_eq (h.ok _ hg) hx).1 e)⟩
        unfold ltA at *
        omega
      obtain ⟨i, hi, rfl⟩ := List.mem_iff_getElem.1 hy
      rw [List.length_take] at hi
      rw [List.getElem_take]
      by_cases e : i = k - 1
      · subst e; rw [← getD_lt l hlt]; exact h4
      · have h5 := List.pairwise_iff_getElem.1 h.asc i (k - 1) (by omega) hlt (by omega)
        rw [← getD_lt l hlt] at h5
        exact ltA_trans h5 h4
    · have : k = 0 := by omega
      subst this
      simp at hy
  rw [insA_pos, hp]
  rfl
set_option maxHeartbeats 4000000 in
theorem rapply_grant (l : List Acc) (x : Acc) (hl : l.length ≤ 1000000) (hR : Right l) (hz : ∀ y ∈ l, y.path.size ≤ 100000000) (hx : x.path.size ≤ 100000000) :
    PCalls Tryd.prog 19 [.c (.sl 3 (l.map Acc.d)), .agg (Chg.mk 2 x).e] [] fun r os => r = accR (applyM l ⟨2, x⟩) ∧ os = [] := by
  have hs := rsplit_pure x.path hx
  refine pcalls_of Tryd.func19 rfl (by simp [Tryd.ntmps19]) ?_
  rw [Tryd.ntmps19, Tryd.results19]
  unfold accR
  push_cast [eq_self, iff_self, IntWalk.iteOmega, IntWalk.toNatUp]
  repeat' (first | (refine Kont.use (by assumption) ?_) | (refine pwp_seq fun K hK => ?_) | (refine pwp_block ?_) | (refine pwp_scope ?_) | ((first | (refine pwp_cut 12 [13] ?_; first | refine pwp_region ?_ | refine pwp_quiet (by kernel_rfl) (by kernel_rfl) ?_) | refine pwp_exit ?_ | refine pwp_ret ?_ | refine pwp_skip ?_); push_cast [eq_self, iff_self, IntWalk.iteOmega, IntWalk.toNatUp]) | (refine pwp_cond ?_; push_cast [eq_self, iff_self, IntWalk.iteOmega, IntWalk.toNatUp]; try (refine ⟨fun h => ?_, fun h => ?_⟩ <;> (try simp only [decide_eq_true_eq, decide_eq_false_iff_not, Bool.not_eq_true', Bool.not_eq_false', Int.not_lt, Int.not_le, Nat.not_lt, Nat.not_le] at h) <;> (try (first | contradiction | (exfalso; omega) | exact nomatch (Eq.trans (Eq.symm h) (by assumption) : true = false) | exact nomatch (Eq.trans (Eq.symm h) (by assumption) : false = true))))))
  (apply pwp_loop3 (α := Nat) 12 [13] (fun k => [(8, .c (.v (.int .i64 k)))]) (fun k => []) (fun k => k ≤ l.length ∧ ∀ y ∈ l.take k, ¬ (y.path = x.path ∨ y.node = x.node)) (fun k => l.length - k) (0); (focus ((try push_cast [eq_self, iff_self, IntWalk.iteOmega, IntWalk.toNatUp]); rfl)); (focus exact ⟨by omega, by simp⟩); (focus ((refine weak_fg ?_; try push_cast [eq_self, iff_self, IntWalk.iteOmega, IntWalk.toNatUp]))))
  rintro k ⟨hk, hno⟩
  push_cast [eq_self, iff_self, IntWalk.iteOmega, IntWalk.toNatUp]
  by_cases hlt : k < l.length
  · have hmem : l.getD k default ∈ l := by rw [getD_lt l hlt]; exact List.getElem_mem _
    by_cases hp : (l.getD k default).path = x.path
    · have he := applyM_taken ⟨_, hmem, .inl hp⟩
      have hp' := eq_true hp
      repeat' (first | (refine Kont.use (by assumption) ?_) | (refine pwp_seq fun K hK => ?_) | (refine pwp_block ?_) | (refine pwp_scope ?_) | ((first | (refine pwp_cut 12 [13] ?_; first | refine pwp_region ?_ | refine pwp_quiet (by kernel_rfl) (by kernel_rfl) ?_) | refine pwp_exit ?_ | refine pwp_ret ?_ | refine pwp_skip ?_); push_cast [eq_self, iff_self, IntWalk.iteOmega, IntWalk.toNatUp, hp']) | (refine pwp_cond ?_; push_cast [eq_self, iff_self, IntWalk.iteOmega, IntWalk.toNatUp, hp']; try (refine ⟨fun h => ?_, fun h => ?_⟩ <;> (try simp only [decide_eq_true_eq, decide_eq_false_iff_not, Bool.not_eq_true', Bool.not_eq_false', Int.not_lt, Int.not_le, Nat.not_lt, Nat.not_le] at h) <;> (try (first | contradiction | (exfalso; omega) | exact nomatch (Eq.trans (Eq.symm h) (by assumption) : true = false) | exact nomatch (Eq.trans (Eq.symm h) (by assumption) : false = true))))))
      (refine retK_of [] ?_; push_cast [eq_self, iff_self, IntWalk.iteOmega, IntWalk.toNatUp, he])
    · by_cases hn : (l.getD k default).node = x.node
      · have he := applyM_taken ⟨_, hmem, .inr hn⟩
        have hn' := eq_true hn
        repeat' (first | (refine Kont.use (by assumption) ?_) | (refine pwp_seq fun K hK => ?_) | (refine pwp_block ?_) | (refine pwp_scope ?_) | ((first | (refine pwp_cut 12 [13] ?_; first | refine pwp_region ?_ | refine pwp_quiet (by kernel_rfl) (by kernel_rfl) ?_) | refine pwp_exit ?_ | refine pwp_ret ?_ | refine pwp_skip ?_); push_cast [eq_self, iff_self, IntWalk.iteOmega, IntWalk.toNatUp, hp, hn']) | (refine pwp_cond ?_; push_cast [eq_self, iff_self, IntWalk.iteOmega, IntWalk.toNatUp, hp, hn']; try (refine ⟨fun h => ?_, fun h => ?_⟩ <;> (try simp only [decide_eq_true_eq, decide_eq_false_iff_not, Bool.not_eq_true', Bool.not_eq_false', Int.not_lt, Int.not_le, Nat.not_lt, Nat.not_le] at h) <;> (try (first | contradiction | (exfalso; omega) | exact nomatch (Eq.trans (Eq.symm h) (by assumption) : true = false) | exact nomatch (Eq.trans (Eq.symm h) (by assumption) : false = true))))))
        (refine retK_of [] ?_; push_cast [eq_self, iff_self, IntWalk.iteOmega, IntWalk.toNatUp, he])
      · have hno2 := clash_no hlt hno (fun h => h.elim hp hn)
        repeat' (first | (refine Kont.use (by assumption) ?_) | (refine pwp_seq fun K hK => ?_) | (refine pwp_block ?_) | (refine pwp_scope ?_) | ((first | (refine pwp_cut 12 [13] ?_; first | refine pwp_region ?_ | refine pwp_quiet (by kernel_rfl) (by kernel_rfl) ?_) | refine pwp_exit ?_ | refine pwp_ret ?_ | refine pwp_skip ?_); push_cast [eq_self, iff_self, IntWalk.iteOmega, IntWalk.toNatUp, hp, hn]) | (refine pwp_cond ?_; push_cast [eq_self, iff_self, IntWalk.iteOmega, IntWalk.toNatUp, hp, hn]; try (refine ⟨fun h => ?_, fun h => ?_⟩ <;> (try simp only [decide_eq_true_eq, decide_eq_false_iff_not, Bool.not_eq_true', Bool.not_eq_false', Int.not_lt, Int.not_le, Nat.not_lt, Nat.not_le] at h) <;> (try (first | contradiction | (exfalso; omega) | exact nomatch (Eq.trans (Eq.symm h) (by assumption) : true = false) | exact nomatch (Eq.trans (Eq.symm h) (by assumption) : false = true))))))
        exact ⟨k + 1, ⟨by omega, hno2⟩, by (refine weak_fg ?_; push_cast [eq_self, iff_self, IntWalk.iteOmega, IntWalk.toNatUp]), by omega⟩
  · rw [List.take_of_length_le (by omega)] at hno
    have hno2 : ¬ ∃ y ∈ l, y.path = x.path ∨ y.node = x.node := fun ⟨y, hy, hc⟩ => hno y hy hc
    cases hsp : splitP x.path with
    | none =>
      have he := applyM_path hno2 hsp
      rw [hsp] at hs
      simp only [rsplitR] at hs
      repeat' (first |  (refine pl_call2 false [] rfl rfl (by kernel_rfl) (hs) ?_ nofun ?_; push_cast [eq_self, iff_self, IntWalk.iteOmega, IntWalk.toNatUp]; rintro r os ⟨rfl, rfl⟩; refine pl_of_pops ?_; push_cast [eq_self, iff_self, IntWalk.iteOmega, IntWalk.toNatUp])  | (refine Kont.use (by assumption) ?_) | (refine pwp_seq fun K hK => ?_) | (refine pwp_block ?_) | (refine pwp_scope ?_) | ((first | (refine pwp_cut 12 [13] ?_; first | refine pwp_region ?_ | refine pwp_quiet (by kernel_rfl) (by kernel_rfl) ?_) | refine pwp_exit ?_ | refine pwp_ret ?_ | refine pwp_skip ?_); push_cast [eq_self, iff_self, IntWalk.iteOmega, IntWalk.toNatUp]) | (refine pwp_cond ?_; push_cast [eq_self, iff_self, IntWalk.iteOmega, IntWalk.toNatUp]; try (refine ⟨fun h => ?_, fun h => ?_⟩ <;> (try simp only [decide_eq_true_eq, decide_eq_false_iff_not, Bool.not_eq_true', Bool.not_eq_false', Int.not_lt, Int.not_le, Nat.not_lt, Nat.not_le] at h) <;> (try (first | contradiction | (exfalso; omega) | exact nomatch (Eq.trans (Eq.symm h) (by assumption) : true = false) | exact nomatch (Eq.trans (Eq.symm h) (by assumption) : false = true))))))
      (refine retK_of [] ?_; push_cast [eq_self, iff_self, IntWalk.iteOmega, IntWalk.toNatUp, he])
    | some p =>
      have he := applyM_grant hno2 ⟨p, hsp⟩
      rw [hsp] at hs
      simp only [rsplitR] at hs
      repeat' (first |  (refine pl_call2 false [] rfl rfl (by kernel_rfl) (hs) ?_ nofun ?_; push_cast [eq_self, iff_self, IntWalk.iteOmega, IntWalk.toNatUp]; rintro r os ⟨rfl, rfl⟩; refine pl_of_pops ?_; push_cast [eq_self, iff_self, IntWalk.iteOmega, IntWalk.toNatUp]) | (refine pwp_weak (weak_adopt 6 31 3 (by omega) (by push_cast [eq_self, iff_self, IntWalk.iteOmega, IntWalk.toNatUp])) ?_; push_cast [eq_self, iff_self, IntWalk.iteOmega, IntWalk.toNatUp]; (refine pwp_cut 12 [13] ?_; apply pwp_drawn_to; (focus kernel_rfl); (focus (simp only [List.length_cons, List.length_nil, Nat.reduceAdd]; (repeat' first | ((first | (refine pa_hoist 0 ?_ ?_; (focus decide +kernel)) | (refine pa_hoist 1 ?_ ?_; (focus decide +kernel)) | (refine pa_hoist 3 ?_ ?_; (focus decide +kernel)) | (refine pa_hoist 7 ?_ ?_; (focus decide +kernel))); push_cast [eq_self, iff_self, IntWalk.iteOmega, IntWalk.toNatUp]) | (refine pa_done ?_ ?_; (focus decide +kernel); first | with_reducible exact weak_cutS 12 [13] _ | (refine weak_fg ?_; push_cast [eq_self, iff_self, IntWalk.iteOmega, IntWalk.toNatUp])) | ((first | (refine pa_step [2] ?_ rfl ?_; (focus decide +kernel)) | (refine pa_step [4] ?_ rfl ?_; (focus decide +kernel)) | (refine pa_step [5] ?_ rfl ?_; (focus decide +kernel)) | (refine pa_step [6] ?_ rfl ?_; (focus decide +kernel))); push_cast [eq_self, iff_self, IntWalk.iteOmega, IntWalk.toNatUp]) | ((first | (refine pa_step [2, 4] ?_ rfl ?_; (focus decide +kernel)) | (refine pa_step [2, 5] ?_ rfl ?_; (focus decide +kernel)) | (refine pa_step [2, 6] ?_ rfl ?_; (focus decide +kernel)) | (refine pa_step [4, 5] ?_ rfl ?_; (focus decide +kernel)) | (refine pa_step [4, 6] ?_ rfl ?_; (focus decide +kernel)) | (refine pa_step [5, 6] ?_ rfl ?_; (focus decide +kernel))); push_cast [eq_self, iff_self, IntWalk.iteOmega, IntWalk.toNatUp]; refine ⟨?_, ?_⟩) | ((first | (refine pa_step [2, 4, 5] ?_ rfl ?_; (focus decide +kernel)) | (refine pa_step [2, 4, 6] ?_ rfl ?_; (focus decide +kernel)) | (refine pa_step [2, 5, 6] ?_ rfl ?_; (focus decide +kernel)) | (refine pa_step [4, 5, 6] ?_ rfl ?_; (focus decide +kernel))); push_cast [eq_self, iff_self, IntWalk.iteOmega, IntWalk.toNatUp]; refine ⟨?_, ?_, ?_⟩)); done)); push_cast [eq_self, iff_self, IntWalk.iteOmega, IntWalk.toNatUp]))  | (refine Kont.use (by assumption) ?_) | (refine pwp_seq fun K hK => ?_) | (refine pwp_block ?_) | (refine pwp_scope ?_) | ((first | (refine pwp_cut 12 [13] ?_; first | refine pwp_region ?_ | refine pwp_quiet (by kernel_rfl) (by kernel_rfl) ?_) | refine pwp_exit ?_ | refine pwp_ret ?_ | refine pwp_skip ?_); push_cast [eq_self, iff_self, IntWalk.iteOmega, IntWalk.toNatUp]) | (refine pwp_cond ?_; push_cast [eq_self, iff_self, IntWalk.iteOmega, IntWalk.toNatUp]; try (refine ⟨fun h => ?_, fun h => ?_⟩ <;> (try simp only [decide_eq_true_eq, decide_eq_false_iff_not, Bool.not_eq_true', Bool.not_eq_false', Int.not_lt, Int.not_le, Nat.not_lt, Nat.not_le] at h) <;> (try (first | contradiction | (exfalso; omega) | exact nomatch (Eq.trans (Eq.symm h) (by assumption) : true = false) | exact nomatch (Eq.trans (Eq.symm h) (by assumption) : false = true))))))
      (apply pwp_loop3 (α := Nat) 12 [13] (fun j => [(11, .c (.v (.int .i64 j)))]) (fun j => [(1, .arr 31 3 ((insAt l x j).map Acc.d))]) (fun j => j ≤ l.length ∧ ∀ y ∈ l.drop j, ltA x y) (fun j => j) (l.length); (focus ((try push_cast [eq_self, iff_self, IntWalk.iteOmega, IntWalk.toNatUp]); rfl)); (focus exact ⟨by omega, by simp⟩); (focus ((refine weak_fg ?_; try push_cast [eq_self, iff_self, IntWalk.iteOmega, IntWalk.toNatUp]); simp [insAt, Acc.d])))
      rintro j ⟨hj, hgt⟩
      push_cast [eq_self, iff_self, IntWalk.iteOmega, IntWalk.toNatUp]
      have hml := insAt_len x hj
      have e1 := insAt_k x hj
      have hok : okP1 x.path := ⟨p, hsp⟩
      by_cases h0 : 0 < j
      · have e2 := insAt_p x hj h0
        have hsw := insAt_swap x hj h0
        have hjl : j - 1 < l.length := by omega
        have hmem : l.getD (j - 1) default ∈ l := by rw [getD_lt l hjl]; exact List.getElem_mem _
        have ho := rorder_pure x.path (l.getD (j - 1) default).path hx (hz _ hmem)
        rw [order_cmp hok (hR.ok _ hmem)] at ho
        by_cases hlt2 : cmpP x.path (l.getD (j - 1) default).path < 0
        · have hgt2 : ∀ y ∈ l.drop (j - 1), ltA x y := by
            intro y hy
            rw [List.drop_eq_getElem_cons hjl] at hy
            rcases List.mem_cons.1 hy with rfl | hy
            · rw [← getD_lt l hjl]; exact hlt2
            · exact hgt y (by have : j - 1 + 1 = j := by omega
                              rwa [this] at hy)
          generalize insAt l x j = m at *
          generalize l.getD (j - 1) default = y at *
          generalize cmpP x.path y.path = c at *
          repeat' (first | (refine ql_call2 false rfl rfl (by kernel_rfl) (ho) (fun r os h => h.1) rfl ?_ ?_; push_cast [eq_self, iff_self, IntWalk.iteOmega, IntWalk.toNatUp, e1, e2]; refine ql_of_qops ?_; push_cast [eq_self, iff_self, IntWalk.iteOmega, IntWalk.toNatUp, e1, e2]) | ((refine pwp_cut 12 [13] ?_; apply pwp_drawn_to; (focus kernel_rfl); (focus (simp only [List.length_cons, List.length_nil, Nat.reduceAdd]; (repeat' first | ((first | (refine pa_hoist 0 ?_ ?_; (focus decide +kernel)) | (refine pa_hoist 1 ?_ ?_; (focus decide +kernel)) | (refine pa_hoist 2 ?_ ?_; (focus decide +kernel)) | (refine pa_hoist 3 ?_ ?_; (focus decide +kernel)) | (refine pa_hoist 4 ?_ ?_; (focus decide +kernel)) | (refine pa_hoist 5 ?_ ?_; (focus decide +kernel)) | (refine pa_hoist 6 ?_ ?_; (focus decide +kernel)) | (refine pa_hoist 7 ?_ ?_; (focus decide +kernel)) | (refine pa_hoist 8 ?_ ?_; (focus decide +kernel)) | (refine pa_hoist 10 ?_ ?_; (focus decide +kernel)) | (refine pa_hoist 11 ?_ ?_; (focus decide +kernel)) | (refine pa_hoist 12 ?_ ?_; (focus decide +kernel)) | (refine pa_hoist 14 ?_ ?_; (focus decide +kernel)) | (refine pa_hoist 16 ?_ ?_; (focus decide +kernel))); push_cast [eq_self, iff_self, IntWalk.iteOmega, IntWalk.toNatUp,  e1, e2]) | (refine pa_done ?_ ?_; (focus decide +kernel); first | with_reducible exact weak_cutS 12 [13] _ | (refine weak_fg ?_; push_cast [eq_self, iff_self, IntWalk.iteOmega, IntWalk.toNatUp,  e1, e2])) | ((first | (refine pa_step [9] ?_ rfl ?_; (focus decide +kernel)) | (refine pa_step [13] ?_ rfl ?_; (focus decide +kernel)) | (refine pa_step [15] ?_ rfl ?_; (focus decide +kernel)) | (refine pa_step [17] ?_ rfl ?_; (focus decide +kernel))); push_cast [eq_self, iff_self, IntWalk.iteOmega, IntWalk.toNatUp,  e1, e2]) | ((first | (refine pa_step [9, 13] ?_ rfl ?_; (focus decide +kernel)) | (refine pa_step [9, 15] ?_ rfl ?_; (focus decide +kernel)) | (refine pa_step [9, 17] ?_ rfl ?_; (focus decide +kernel)) | (refine pa_step [13, 15] ?_ rfl ?_; (focus decide +kernel)) | (refine pa_step [13, 17] ?_ rfl ?_; (focus decide +kernel)) | (refine pa_step [15, 17] ?_ rfl ?_; (focus decide +kernel))); push_cast [eq_self, iff_self, IntWalk.iteOmega, IntWalk.toNatUp,  e1, e2]; refine ⟨?_, ?_⟩) | ((first | (refine pa_step [9, 13, 15] ?_ rfl ?_; (focus decide +kernel)) | (refine pa_step [9, 13, 17] ?_ rfl ?_; (focus decide +kernel)) | (refine pa_step [9, 15, 17] ?_ rfl ?_; (focus decide +kernel)) | (refine pa_step [13, 15, 17] ?_ rfl ?_; (focus decide +kernel))); push_cast [eq_self, iff_self, IntWalk.iteOmega, IntWalk.toNatUp,  e1, e2]; refine ⟨?_, ?_, ?_⟩)); done)); push_cast [eq_self, iff_self, IntWalk.iteOmega, IntWalk.toNatUp,  e1, e2])) | (refine Kont.use (by assumption) ?_) | (refine pwp_seq fun K hK => ?_) | (refine pwp_block ?_) | (refine pwp_scope ?_) | ((first | (refine pwp_cut 12 [13] ?_; first | refine pwp_region ?_ | refine pwp_quiet (by kernel_rfl) (by kernel_rfl) ?_) | refine pwp_exit ?_ | refine pwp_ret ?_ | refine pwp_skip ?_); push_cast [eq_self, iff_self, IntWalk.iteOmega, IntWalk.toNatUp, e1, e2]) | (refine pwp_cond ?_; push_cast [eq_self, iff_self, IntWalk.iteOmega, IntWalk.toNatUp, e1, e2]; try (refine ⟨fun h => ?_, fun h => ?_⟩ <;> (try simp only [decide_eq_true_eq, decide_eq_false_iff_not, Bool.not_eq_true', Bool.not_eq_false', Int.not_lt, Int.not_le, Nat.not_lt, Nat.not_le] at h) <;> (try (first | contradiction | (exfalso; omega) | exact nomatch (Eq.trans (Eq.symm h) (by assumption) : true = false) | exact nomatch (Eq.trans (Eq.symm h) (by assumption) : false = true))))))
          have hcast : ((j - 1 : Nat) : Int) = (j : Int) - 1 := by omega
          have hset : (((m.map Acc.d).set j y.d).set (j - 1) (D.v (.string x.path) :: D.v (.string x.node) :: D.v (.string x.user) :: List.drop 3 (((m.map Acc.d).set j y.d).getD (j - 1) []))) = (insAt l x (j - 1)).map Acc.d := by
            have h3 : ((m.map Acc.d).set j y.d).getD (j - 1) [] = y.d := by
              have e3 : m[j - 1]? = some y := by rw [List.getElem?_eq_getElem (by omega), ← getD_lt m (by omega), e2]
              rw [← List.map_set, List.getD, List.getElem?_map, List.getElem?_set_ne (by omega), e3]
              rfl
            rw [h3, ← hsw, List.map_set, List.map_set]
            rfl
          exact ⟨j - 1, ⟨by omega, hgt2⟩, by ((refine weak_fg ?_; push_cast [eq_self, iff_self, IntWalk.iteOmega, IntWalk.toNatUp, hcast]); exact hset), by omega⟩
        · have hend := insAt_end hR hok hno2 hj hgt (fun _ => hlt2)
          rw [hend] at hml e1 e2 ⊢
          generalize insA x l = m at *
          generalize l.getD (j - 1) default = y at *
          generalize cmpP x.path y.path = c at *
          repeat' (first | (refine ql_call2 false rfl rfl (by kernel_rfl) (ho) (fun r os h => h.1) rfl ?_ ?_; push_cast [eq_self, iff_self, IntWalk.iteOmega, IntWalk.toNatUp, e1, e2]; refine ql_of_qops ?_; push_cast [eq_self, iff_self, IntWalk.iteOmega, IntWalk.toNatUp, e1, e2]) | (refine Kont.use (by assumption) ?_) | (refine pwp_seq fun K hK => ?_) | (refine pwp_block ?_) | (refine pwp_scope ?_) | ((first | (refine pwp_cut 12 [13] ?_; first | refine pwp_region ?_ | refine pwp_quiet (by kernel_rfl) (by kernel_rfl) ?_) | refine pwp_exit ?_ | refine pwp_ret ?_ | refine pwp_skip ?_); push_cast [eq_self, iff_self, IntWalk.iteOmega, IntWalk.toNatUp, e1, e2]) | (refine pwp_cond ?_; push_cast [eq_self, iff_self, IntWalk.iteOmega, IntWalk.toNatUp, e1, e2]; try (refine ⟨fun h => ?_, fun h => ?_⟩ <;> (try simp only [decide_eq_true_eq, decide_eq_false_iff_not, Bool.not_eq_true', Bool.not_eq_false', Int.not_lt, Int.not_le, Nat.not_lt, Nat.not_le] at h) <;> (try (first | contradiction | (exfalso; omega) | exact nomatch (Eq.trans (Eq.symm h) (by assumption) : true = false) | exact nomatch (Eq.trans (Eq.symm h) (by assumption) : false = true))))))
          (refine retK_of [] ?_; push_cast [eq_self, iff_self, IntWalk.iteOmega, IntWalk.toNatUp, he])
          exact List.take_of_length_le (by rw [List.length_map]; omega)
      · have hend := insAt_end hR hok hno2 hj hgt (fun h => absurd h h0)
        rw [hend] at hml e1 ⊢
        generalize insA x l = m at *
        repeat' (first | (refine Kont.use (by assumption) ?_) | (refine pwp_seq fun K hK => ?_) | (refine pwp_block ?_) | (refine pwp_scope ?_) | ((first | (refine pwp_cut 12 [13] ?_; first | refine pwp_region ?_ | refine pwp_quiet (by kernel_rfl) (by kernel_rfl) ?_) | refine pwp_exit ?_ | refine pwp_ret ?_ | refine pwp_skip ?_); push_cast [eq_self, iff_self, IntWalk.iteOmega, IntWalk.toNatUp]) | (refine pwp_cond ?_; push_cast [eq_self, iff_self, IntWalk.iteOmega, IntWalk.toNatUp]; try (refine ⟨fun h => ?_, fun h => ?_⟩ <;> (try simp only [decide_eq_true_eq, decide_eq_false_iff_not, Bool.not_eq_true', Bool.not_eq_false', Int.not_lt, Int.not_le, Nat.not_lt, Nat.not_le] at h) <;> (try (first | contradiction | (exfalso; omega) | exact nomatch (Eq.trans (Eq.symm h) (by assumption) : true = false) | exact nomatch (Eq.trans (Eq.symm h) (by assumption) : false = true))))))
        (refine retK_of [] ?_; push_cast [eq_self, iff_self, IntWalk.iteOmega, IntWalk.toNatUp, he])
        exact List.take_of_length_le (by rw [List.length_map]; omega)
/-- the reference's Apply, on a right list -/
theorem rapply_pure (l : List Acc) (c : Chg) (hl : l.length ≤ 1000000) (h : Right l) (hz : ∀ y ∈ l, y.path.size ≤ 100000000) (hx : c.acc.path.size ≤ 100000000) :
    PCalls Tryd.prog 19 [.c (.sl 3 (l.map Acc.d)), .agg c.e] [] fun r os => r = accR (applyM l c) ∧ os = [] := by
  obtain ⟨k, x⟩ := c
  by_cases h1 : k = 1
  · subst h1
    by_cases hm : x ∈ l
    · rw [applyM_rev hm]
      exact rapply_rev l x hl hm
    · rw [applyM_none hm]
      exact rapply_none l x hl hm
  · by_cases h2 : k = 2
    · subst h2
      exact rapply_grant l x hl h hz hx
    · rw [applyM_kind h1 h2]
      exact rapply_kind l ⟨k, x⟩ h1 h2
end Go.Proofs.YtipgjpcbmnlbhaaDoor
namespace Go.Proofs.YtipgjpcbmnlbhaaDoor
attribute [local irreducible] PL QL PWP PCalls Weak RetK Kont PA
open Go.RowKit
set_option linter.unusedVariables false
set_option linter.unusedSimpArgs false
set_option maxHeartbeats 1000000 in
theorem apply_none_pure (l : List Acc) (x : Acc) (hl : l.length ≤ 1000000) (h : x ∉ l) :
    PCalls Tryd.prog 11 [.c (.sl 3 (l.map Acc.d)), .agg (Chg.mk 1 x).e] [] fun r os => r = accR ([], 381) ∧ os = [] := by
  have hx := (aindex_pure l x (by omega)).mono (R' := fun r os => r = .c (.v (.int .i64 (-1))) ∧ os = []) (by
    rintro r os ⟨k, hk, rfl, rfl⟩
    rw [idx_none hk h]
    exact ⟨rfl, rfl⟩)
  refine pcalls_of Tryd.func11 rfl (by simp [Tryd.ntmps11]) ?_
  rw [Tryd.ntmps11, Tryd.results11]
  unfold accR
  push_cast [eq_self, iff_self, IntWalk.iteOmega, IntWalk.toNatUp]
  repeat' (first |  (refine pl_call2 false [] rfl rfl (by kernel_rfl) (hx) ?_ nofun ?_; push_cast [eq_self, iff_self, IntWalk.iteOmega, IntWalk.toNatUp]; rintro r os ⟨rfl, rfl⟩; refine pl_of_pops ?_; push_cast [eq_self, iff_self, IntWalk.iteOmega, IntWalk.toNatUp])  | (refine Kont.use (by assumption) ?_) | (refine pwp_seq fun K hK => ?_) | (refine pwp_block ?_) | (refine pwp_scope ?_) | ((first | (refine pwp_cut 12 [] ?_; first | refine pwp_region ?_ | refine pwp_quiet (by kernel_rfl) (by kernel_rfl) ?_) | refine pwp_exit ?_ | refine pwp_ret ?_ | refine pwp_skip ?_); push_cast [eq_self, iff_self, IntWalk.iteOmega, IntWalk.toNatUp]) | (refine pwp_cond ?_; push_cast [eq_self, iff_self, IntWalk.iteOmega, IntWalk.toNatUp]; try (refine ⟨fun h => ?_, fun h => ?_⟩ <;> (try simp only [decide_eq_true_eq, decide_eq_false_iff_not, Bool.not_eq_true', Bool.not_eq_false', Int.not_lt, Int.not_le, Nat.not_lt, Nat.not_le] at h) <;> (try (first | contradiction | (exfalso; omega) | exact nomatch (Eq.trans (Eq.symm h) (by assumption) : true = false) | exact nomatch (Eq.trans (Eq.symm h) (by assumption) : false = true))))))
  (refine retK_of [] ?_; push_cast [eq_self, iff_self, IntWalk.iteOmega, IntWalk.toNatUp])
set_option maxHeartbeats 1000000 in
theorem apply_kind_pure (l : List Acc) (c : Chg) (h1 : ¬ c.kind = 1) (h2 : ¬ c.kind = 2) :
    PCalls Tryd.prog 11 [.c (.sl 3 (l.map Acc.d)), .agg c.e] [] fun r os => r = accR ([], 380) ∧ os = [] := by
  refine pcalls_of Tryd.func11 rfl (by simp [Tryd.ntmps11]) ?_
  rw [Tryd.ntmps11, Tryd.results11]
  unfold accR
  push_cast [eq_self, iff_self, IntWalk.iteOmega, IntWalk.toNatUp]
  repeat' (first | (refine Kont.use (by assumption) ?_) | (refine pwp_seq fun K hK => ?_) | (refine pwp_block ?_) | (refine pwp_scope ?_) | ((first | (refine pwp_cut 12 [] ?_; first | refine pwp_region ?_ | refine pwp_quiet (by kernel_rfl) (by kernel_rfl) ?_) | refine pwp_exit ?_ | refine pwp_ret ?_ | refine pwp_skip ?_); push_cast [eq_self, iff_self, IntWalk.iteOmega, IntWalk.toNatUp, h1, h2, ne_eq, not_false_eq_true]) | (refine pwp_cond ?_; push_cast [eq_self, iff_self, IntWalk.iteOmega, IntWalk.toNatUp, h1, h2, ne_eq, not_false_eq_true]; try (refine ⟨fun h => ?_, fun h => ?_⟩ <;> (try simp only [decide_eq_true_eq, decide_eq_false_iff_not, Bool.not_eq_true', Bool.not_eq_false', Int.not_lt, Int.not_le, Nat.not_lt, Nat.not_le] at h) <;> (try (first | contradiction | (exfalso; omega) | exact nomatch (Eq.trans (Eq.symm h) (by assumption) : true = false) | exact nomatch (Eq.trans (Eq.symm h) (by assumption) : false = true))))))
  (refine retK_of [] ?_; push_cast [eq_self, iff_self, IntWalk.iteOmega, IntWalk.toNatUp])
set_option maxHeartbeats 1000000 in
theorem apply_taken_data (l : List Acc) (x : Acc) (hl : l.length ≤ 1000000) (h : ∃ y ∈ l, y.path = x.path ∨ y.node = x.node) :
    PCalls Tryd.prog 11 [.c (.sl 3 (l.map Acc.d)), .agg (Chg.mk 2 x).e] [] fun r os => r = accR ([], 382) ∧ os = [] := by
  have hp : PredA Tryd.prog 25 [0] [.box 31 x.e] l (clashA x) := ⟨by kernel_rfl, fun y _ => applyF_pure x y⟩
  have hc := containsFuncA_pure l (by omega) 25 [0] _ (clashA x) hp
  rw [clash_any, decide_eq_true h] at hc
  refine pcalls_of Tryd.func11 rfl (by simp [Tryd.ntmps11]) ?_
  rw [Tryd.ntmps11, Tryd.results11]
  unfold accR
  push_cast [eq_self, iff_self, IntWalk.iteOmega, IntWalk.toNatUp]
  repeat' (first |  (refine pl_call2 false [1] rfl rfl (by kernel_rfl) (hc) ?_ nofun ?_; push_cast [eq_self, iff_self, IntWalk.iteOmega, IntWalk.toNatUp]; rintro r os ⟨rfl, rfl⟩; refine pl_of_pops ?_; push_cast [eq_self, iff_self, IntWalk.iteOmega, IntWalk.toNatUp])  | (refine Kont.use (by assumption) ?_) | (refine pwp_seq fun K hK => ?_) | (refine pwp_block ?_) | (refine pwp_scope ?_) | ((first | (refine pwp_cut 12 [] ?_; first | refine pwp_region ?_ | refine pwp_quiet (by kernel_rfl) (by kernel_rfl) ?_) | refine pwp_exit ?_ | refine pwp_ret ?_ | refine pwp_skip ?_); push_cast [eq_self, iff_self, IntWalk.iteOmega, IntWalk.toNatUp]) | (refine pwp_cond ?_; push_cast [eq_self, iff_self, IntWalk.iteOmega, IntWalk.toNatUp]; try (refine ⟨fun h => ?_, fun h => ?_⟩ <;> (try simp only [decide_eq_true_eq, decide_eq_false_iff_not, Bool.not_eq_true', Bool.not_eq_false', Int.not_lt, Int.not_le, Nat.not_lt, Nat.not_le] at h) <;> (try (first | contradiction | (exfalso; omega) | exact nomatch (Eq.trans (Eq.symm h) (by assumption) : true = false) | exact nomatch (Eq.trans (Eq.symm h) (by assumption) : false = true))))))
  (refine retK_of [] ?_; push_cast [eq_self, iff_self, IntWalk.iteOmega, IntWalk.toNatUp])
set_option maxHeartbeats 1000000 in
theorem apply_path_pure (l : List Acc) (x : Acc) (hl : l.length ≤ 1000000) (h : ¬ ∃ y ∈ l, y.path = x.path ∨ y.node = x.node) (hx : x.path.size ≤ 100000000) (hn : splitP x.path = none) :
    PCalls Tryd.prog 11 [.c (.sl 3 (l.map Acc.d)), .agg (Chg.mk 2 x).e] [] fun r os => r = accR ([], 383) ∧ os = [] := by
  have hp : PredA Tryd.prog 25 [0] [.box 31 x.e] l (clashA x) := ⟨by kernel_rfl, fun y _ => applyF_pure x y⟩
  have hc := containsFuncA_pure l (by omega) 25 [0] _ (clashA x) hp
  rw [clash_any, decide_eq_false h] at hc
  have hs := nsplit_pure x.path hx
  rw [hn] at hs
  simp only [splitR] at hs
  refine pcalls_of Tryd.func11 rfl (by simp [Tryd.ntmps11]) ?_
  rw [Tryd.ntmps11, Tryd.results11]
  unfold accR
  push_cast [eq_self, iff_self, IntWalk.iteOmega, IntWalk.toNatUp]
  repeat' (first |  (refine pl_call2 false [1] rfl rfl (by kernel_rfl) (hc) ?_ nofun ?_; push_cast [eq_self, iff_self, IntWalk.iteOmega, IntWalk.toNatUp]; rintro r os ⟨rfl, rfl⟩; refine pl_of_pops ?_; push_cast [eq_self, iff_self, IntWalk.iteOmega, IntWalk.toNatUp]) | (refine pl_call2 false [] rfl rfl (by kernel_rfl) (hs) ?_ nofun ?_; push_cast [eq_self, iff_self, IntWalk.iteOmega, IntWalk.toNatUp]; rintro r os ⟨rfl, rfl⟩; refine pl_of_pops ?_; push_cast [eq_self, iff_self, IntWalk.iteOmega, IntWalk.toNatUp])  | (refine Kont.use (by assumption) ?_) | (refine pwp_seq fun K hK => ?_) | (refine pwp_block ?_) | (refine pwp_scope ?_) | ((first | (refine pwp_cut 12 [] ?_; first | refine pwp_region ?_ | refine pwp_quiet (by kernel_rfl) (by kernel_rfl) ?_) | refine pwp_exit ?_ | refine pwp_ret ?_ | refine pwp_skip ?_); push_cast [eq_self, iff_self, IntWalk.iteOmega, IntWalk.toNatUp]) | (refine pwp_cond ?_; push_cast [eq_self, iff_self, IntWalk.iteOmega, IntWalk.toNatUp]; try (refine ⟨fun h => ?_, fun h => ?_⟩ <;> (try simp only [decide_eq_true_eq, decide_eq_false_iff_not, Bool.not_eq_true', Bool.not_eq_false', Int.not_lt, Int.not_le, Nat.not_lt, Nat.not_le] at h) <;> (try (first | contradiction | (exfalso; omega) | exact nomatch (Eq.trans (Eq.symm h) (by assumption) : true = false) | exact nomatch (Eq.trans (Eq.symm h) (by assumption) : false = true))))))
  (refine retK_of [] ?_; push_cast [eq_self, iff_self, IntWalk.iteOmega, IntWalk.toNatUp])
set_option maxHeartbeats 1000000 in
theorem apply_rev_data (l : List Acc) (x : Acc) (hl : l.length ≤ 1000000) (h : x ∈ l) (hn : l.Nodup) :
    PCalls Tryd.prog 11 [.c (.sl 3 (l.map Acc.d)), .agg (Chg.mk 1 x).e] [] fun r os => r = accR (l.filter fun y => decide (y ≠ x), 0) ∧ os = [] := by
  have hx := (aindex_pure l x (by omega)).mono (R' := fun r os => ∃ i : Nat, (i < l.length ∧ l.take i ++ l.drop (i + 1) = l.filter fun y => decide (y ≠ x)) ∧ r = .c (.v (.int .i64 ((i : Int)))) ∧ os = []) (by
    rintro r os ⟨k, hk, rfl, rfl⟩
    obtain ⟨i, rfl, h1, h2⟩ := idx_some hk h hn
    exact ⟨i, ⟨h1, h2⟩, rfl, rfl⟩)
  have hc := clone_pure l (by omega)
  generalize l.filter (fun y => decide (y ≠ x)) = m at *
  refine pcalls_of Tryd.func11 rfl (by simp [Tryd.ntmps11]) ?_
  rw [Tryd.ntmps11, Tryd.results11]
  unfold accR
  push_cast [eq_self, iff_self, IntWalk.iteOmega, IntWalk.toNatUp]
  repeat' (first |  (refine pl_call2 false [] rfl rfl (by kernel_rfl) (hx) ?_ nofun ?_; push_cast [eq_self, iff_self, IntWalk.iteOmega, IntWalk.toNatUp]; rintro r os ⟨i, ⟨hi, he⟩, rfl, rfl⟩; refine pl_of_pops ?_; push_cast [eq_self, iff_self, IntWalk.iteOmega, IntWalk.toNatUp]) | (refine pl_call2 false [] rfl rfl (by kernel_rfl) (hc) ?_ nofun ?_; push_cast [eq_self, iff_self, IntWalk.iteOmega, IntWalk.toNatUp]; rintro r os ⟨rfl, rfl⟩; refine pl_of_pops ?_; push_cast [eq_self, iff_self, IntWalk.iteOmega, IntWalk.toNatUp]) | (refine pl_call2 false [2] rfl rfl (by kernel_rfl) (delete_pure l i hi (by omega)) ?_ nofun ?_; push_cast [eq_self, iff_self, IntWalk.iteOmega, IntWalk.toNatUp]; rintro r os ⟨rfl, rfl⟩; refine pl_weak (weak_cutS 12 [33, 37] _) ?_; push_cast [eq_self, iff_self, IntWalk.iteOmega, IntWalk.toNatUp]; refine pl_weak (weak_trim 2 (l.length - 1) rfl) ?_; push_cast [eq_self, iff_self, IntWalk.iteOmega, IntWalk.toNatUp]; refine pl_of_pops ?_; push_cast [eq_self, iff_self, IntWalk.iteOmega, IntWalk.toNatUp])  | (refine Kont.use (by assumption) ?_) | (refine pwp_seq fun K hK => ?_) | (refine pwp_block ?_) | (refine pwp_scope ?_) | ((first | (refine pwp_cut 12 [] ?_; first | refine pwp_region ?_ | refine pwp_quiet (by kernel_rfl) (by kernel_rfl) ?_) | refine pwp_exit ?_ | refine pwp_ret ?_ | refine pwp_skip ?_); push_cast [eq_self, iff_self, IntWalk.iteOmega, IntWalk.toNatUp]) | (refine pwp_cond ?_; push_cast [eq_self, iff_self, IntWalk.iteOmega, IntWalk.toNatUp]; try (refine ⟨fun h => ?_, fun h => ?_⟩ <;> (try simp only [decide_eq_true_eq, decide_eq_false_iff_not, Bool.not_eq_true', Bool.not_eq_false', Int.not_lt, Int.not_le, Nat.not_lt, Nat.not_le] at h) <;> (try (first | contradiction | (exfalso; omega) | exact nomatch (Eq.trans (Eq.symm h) (by assumption) : true = false) | exact nomatch (Eq.trans (Eq.symm h) (by assumption) : false = true))))))
  have hml : l.length - 1 = m.length := by rw [← he, List.length_append, List.length_take, List.length_drop]; omega
  have ht : ∀ z, List.take m.length (List.map Acc.d (List.take i l) ++ (List.map Acc.d (List.drop (i + 1) l) ++ z)) = m.map Acc.d := fun z => by
    rw [← List.append_assoc, ← List.map_append, he]
    exact List.take_left' (by rw [List.length_map])
  rw [hml, ht]
  (refine retK_of [] ?_; push_cast [eq_self, iff_self, IntWalk.iteOmega, IntWalk.toNatUp])
set_option maxHeartbeats 2000000 in
theorem apply_grant_pure (l : List Acc) (x : Acc) (hl : l.length ≤ 1000000) (h : ¬ ∃ y ∈ l, y.path = x.path ∨ y.node = x.node) (ha : l.Pairwise ltA) (hz : ∀ y ∈ l, y.path.size ≤ 100000000) (hx : x.path.size ≤ 100000000) (hok : okP1 x.path) :
    PCalls Tryd.prog 11 [.c (.sl 3 (l.map Acc.d)), .agg (Chg.mk 2 x).e] [] fun r os => r = accR (insA x l, 0) ∧ os = [] := by
  have hp : PredA Tryd.prog 25 [0] [.box 31 x.e] l (clashA x) := ⟨by kernel_rfl, fun y _ => applyF_pure x y⟩
  have hc := containsFuncA_pure l (by omega) 25 [0] _ (clashA x) hp
  rw [clash_any, decide_eq_false h] at hc
  obtain ⟨p, hok⟩ := hok
  have hs := nsplit_pure x.path hx
  rw [hok] at hs
  simp only [splitR] at hs
  have hb := bsearch_pure l x (by omega) ha hz hx
  have hcl := clone_pure l (by omega)
  have hi := insert_pure l x (posA x l) (posA_le x l) hl
  rw [← insA_pos x l] at hi
  generalize posA x l = k at *
  generalize foundA x l = f at *
  have hil : (insA x l).length = l.length + 1 := by rw [insA_pos]; have := posA_le x l; simp; omega
  generalize insA x l = m at *
  refine pcalls_of Tryd.func11 rfl (by simp [Tryd.ntmps11]) ?_
  rw [Tryd.ntmps11, Tryd.results11]
  unfold accR
  push_cast [eq_self, iff_self, IntWalk.iteOmega, IntWalk.toNatUp]
  repeat' (first |  (refine pl_call2 false [1] rfl rfl (by kernel_rfl) (hc) ?_ nofun ?_; push_cast [eq_self, iff_self, IntWalk.iteOmega, IntWalk.toNatUp]; rintro r os ⟨rfl, rfl⟩; refine pl_of_pops ?_; push_cast [eq_self, iff_self, IntWalk.iteOmega, IntWalk.toNatUp]) | (refine pl_call2 false [] rfl rfl (by kernel_rfl) (hs) ?_ nofun ?_; push_cast [eq_self, iff_self, IntWalk.iteOmega, IntWalk.toNatUp]; rintro r os ⟨rfl, rfl⟩; refine pl_of_pops ?_; push_cast [eq_self, iff_self, IntWalk.iteOmega, IntWalk.toNatUp]) | (refine pl_call2 false [] rfl rfl (by kernel_rfl) (hb) ?_ nofun ?_; push_cast [eq_self, iff_self, IntWalk.iteOmega, IntWalk.toNatUp]; rintro r os ⟨rfl, rfl⟩; refine pl_of_pops ?_; push_cast [eq_self, iff_self, IntWalk.iteOmega, IntWalk.toNatUp]) | ((refine pwp_drawn (by kernel_rfl) ?_; simp only [List.length_cons, List.length_nil, Nat.reduceAdd]; repeat' first | (refine pl_call2 false [] rfl rfl (by kernel_rfl) (hcl) ?_ nofun ?_; push_cast [eq_self, iff_self, IntWalk.iteOmega, IntWalk.toNatUp]; rintro r os ⟨rfl, rfl⟩; refine pl_of_pops ?_; push_cast [eq_self, iff_self, IntWalk.iteOmega, IntWalk.toNatUp]) | (refine pl_call2 false [2] rfl rfl (by kernel_rfl) hi ?_ nofun ?_; push_cast [eq_self, iff_self, IntWalk.iteOmega, IntWalk.toNatUp]; rintro r os (⟨rfl, rfl⟩ | ⟨rfl, rfl⟩) <;> (refine pl_of_pops ?_; push_cast [eq_self, iff_self, IntWalk.iteOmega, IntWalk.toNatUp])) | ((first | (refine pa_hoist 0 ?_ ?_; (focus decide +kernel)) | (refine pa_hoist 2 ?_ ?_; (focus decide +kernel)) | (refine pa_hoist 6 ?_ ?_; (focus decide +kernel)) | (refine pa_hoist 7 ?_ ?_; (focus decide +kernel))); push_cast [eq_self, iff_self, IntWalk.iteOmega, IntWalk.toNatUp]) | (refine pa_done ?_ ?_; (focus decide +kernel); try push_cast [eq_self, iff_self, IntWalk.iteOmega, IntWalk.toNatUp]) | ((first | (refine pa_step [1] ?_ rfl ?_; (focus decide +kernel)) | (refine pa_step [3] ?_ rfl ?_; (focus decide +kernel)) | (refine pa_step [4] ?_ rfl ?_; (focus decide +kernel)) | (refine pa_step [5] ?_ rfl ?_; (focus decide +kernel))); push_cast [eq_self, iff_self, IntWalk.iteOmega, IntWalk.toNatUp]) | ((first | (refine pa_step [1, 3] ?_ rfl ?_; (focus decide +kernel)) | (refine pa_step [1, 4] ?_ rfl ?_; (focus decide +kernel)) | (refine pa_step [1, 5] ?_ rfl ?_; (focus decide +kernel)) | (refine pa_step [3, 4] ?_ rfl ?_; (focus decide +kernel)) | (refine pa_step [3, 5] ?_ rfl ?_; (focus decide +kernel)) | (refine pa_step [4, 5] ?_ rfl ?_; (focus decide +kernel))); push_cast [eq_self, iff_self, IntWalk.iteOmega, IntWalk.toNatUp]; refine ⟨?_, ?_⟩) | ((first | (refine pa_step [1, 3, 4] ?_ rfl ?_; (focus decide +kernel)) | (refine pa_step [1, 3, 5] ?_ rfl ?_; (focus decide +kernel)) | (refine pa_step [1, 4, 5] ?_ rfl ?_; (focus decide +kernel)) | (refine pa_step [3, 4, 5] ?_ rfl ?_; (focus decide +kernel))); push_cast [eq_self, iff_self, IntWalk.iteOmega, IntWalk.toNatUp]; refine ⟨?_, ?_, ?_⟩)))  | (refine Kont.use (by assumption) ?_) | (refine pwp_seq fun K hK => ?_) | (refine pwp_block ?_) | (refine pwp_scope ?_) | ((first | (refine pwp_cut 12 [] ?_; first | refine pwp_region ?_ | refine pwp_quiet (by kernel_rfl) (by kernel_rfl) ?_) | refine pwp_exit ?_ | refine pwp_ret ?_ | refine pwp_skip ?_); push_cast [eq_self, iff_self, IntWalk.iteOmega, IntWalk.toNatUp]) | (refine pwp_cond ?_; push_cast [eq_self, iff_self, IntWalk.iteOmega, IntWalk.toNatUp]; try (refine ⟨fun h => ?_, fun h => ?_⟩ <;> (try simp only [decide_eq_true_eq, decide_eq_false_iff_not, Bool.not_eq_true', Bool.not_eq_false', Int.not_lt, Int.not_le, Nat.not_lt, Nat.not_le] at h) <;> (try (first | contradiction | (exfalso; omega) | exact nomatch (Eq.trans (Eq.symm h) (by assumption) : true = false) | exact nomatch (Eq.trans (Eq.symm h) (by assumption) : false = true))))))
  all_goals repeat' (first | (refine Kont.use (by assumption) ?_) | (refine pwp_seq fun K hK => ?_) | (refine pwp_block ?_) | (refine pwp_scope ?_) | ((first | (refine pwp_cut 12 [] ?_; first | refine pwp_region ?_ | refine pwp_quiet (by kernel_rfl) (by kernel_rfl) ?_) | refine pwp_exit ?_ | refine pwp_ret ?_ | refine pwp_skip ?_); push_cast [eq_self, iff_self, IntWalk.iteOmega, IntWalk.toNatUp]) | (refine pwp_cond ?_; push_cast [eq_self, iff_self, IntWalk.iteOmega, IntWalk.toNatUp]; try (refine ⟨fun h => ?_, fun h => ?_⟩ <;> (try simp only [decide_eq_true_eq, decide_eq_false_iff_not, Bool.not_eq_true', Bool.not_eq_false', Int.not_lt, Int.not_le, Nat.not_lt, Nat.not_le] at h) <;> (try (first | contradiction | (exfalso; omega) | exact nomatch (Eq.trans (Eq.symm h) (by assumption) : true = false) | exact nomatch (Eq.trans (Eq.symm h) (by assumption) : false = true))))))
  all_goals (refine retK_of [] ?_; push_cast [eq_self, iff_self, IntWalk.iteOmega, IntWalk.toNatUp])
  all_goals exact List.take_of_length_le (by rw [List.length_map]; omega)
/-- Apply, on a right list -/
theorem apply_pure (l : List Acc) (c : Chg) (hl : l.length ≤ 1000000) (h : Right l) (hz : ∀ y ∈ l, y.path.size ≤ 100000000) (hx : c.acc.path.size ≤ 100000000) :
    PCalls Tryd.prog 11 [.c (.sl 3 (l.map Acc.d)), .agg c.e] [] fun r os => r = accR (applyM l c) ∧ os = [] := by
  obtain ⟨k, x⟩ := c
  by_cases h1 : k = 1
  · subst h1
    by_cases hm : x ∈ l
    · rw [applyM_rev hm]
      exact apply_rev_data l x hl hm h.nodup
    · rw [applyM_none hm]
      exact apply_none_pure l x hl hm
  · by_cases h2 : k = 2
    · subst h2
      by_cases ht : ∃ y ∈ l, y.path = x.path ∨ y.node = x.node
      · rw [applyM_taken ht]
        exact apply_taken_data l x hl ht
      · cases hs : splitP x.path with
        | none =>
          rw [applyM_path ht hs]
          exact apply_path_pure l x hl ht hx hs
        | some p =>
          rw [applyM_grant ht ⟨p, hs⟩]
          exact apply_grant_pure l x hl ht h.asc hz hx ⟨p, hs⟩
    · rw [applyM_kind h1 h2]
      exact apply_kind_pure l ⟨k, x⟩ h1 h2
end Go.Proofs.YtipgjpcbmnlbhaaDoor
namespace Go.Proofs.YtipgjpcbmnlbhaaDoor
attribute [local irreducible] PL QL PWP PCalls Weak RetK Kont PA
open Go.RowKit
set_option linter.unusedVariables false
set_option linter.unusedSimpArgs false
def accBs : List (ByteArray × ByteArray) := nmL.map fun n => ((⟨#[47]⟩ : ByteArray) ++ n, n)
theorem accBs_ok : ∀ x ∈ accBs, (splitP x.1).isSome = true := by decide +kernel
theorem accBs_size : ∀ x ∈ accBs, x.1.size ≤ 100 := by decide +kernel
theorem accBs_asc : accBs.Pairwise fun x y => cmpP x.1 y.1 < 0 := by decide +kernel
theorem accBs_nodup : (accBs.map Prod.snd).Nodup := by decide +kernel
theorem accBs_free : ∀ x ∈ accBs, (x.1 ≠ ⟨#[47, 109]⟩ ∧ x.1 ≠ ⟨#[47, 122]⟩ ∧ x.1 ≠ ⟨#[47, 48]⟩) ∧ x.2 ≠ ⟨#[110, 111, 100, 101]⟩ := by decide +kernel
theorem AccI.sub {l : List Acc} (h : AccI 6 l) : (l.map fun a => (a.path, a.node)).Sublist accBs := h.1
theorem AccI.mem {l : List Acc} (h : AccI 6 l) {a : Acc} (ha : a ∈ l) : (a.path, a.node) ∈ accBs := h.sub.subset (List.mem_map.2 ⟨a, ha, rfl⟩)
theorem AccI.right {l : List Acc} (h : AccI 6 l) : Right l := by
  refine ⟨fun a ha => ?_, ?_, ?_⟩
  · exact Option.isSome_iff_exists.1 (accBs_ok _ (h.mem ha))
  · have := accBs_asc.sublist h.sub
    rw [List.pairwise_map] at this
    exact this
  · have := accBs_nodup.sublist (h.sub.map Prod.snd)
    rw [List.map_map] at this
    exact this
theorem AccI.size {l : List Acc} (h : AccI 6 l) : ∀ y ∈ l, y.path.size ≤ 100 := fun y hy => accBs_size _ (h.mem hy)
theorem mL_ok : ∀ t ∈ ([⟨#[109]⟩, ⟨#[122]⟩, ⟨#[48]⟩] : List ByteArray), (splitP ((⟨#[47]⟩ : ByteArray) ++ t)).isSome = true ∧ t.size = 1 ∧ ((⟨#[47]⟩ : ByteArray) ++ t).size = 2 ∧ ((⟨#[47]⟩ : ByteArray) ++ t = ⟨#[47, 109]⟩ ∨ (⟨#[47]⟩ : ByteArray) ++ t = ⟨#[47, 122]⟩ ∨ (⟨#[47]⟩ : ByteArray) ++ t = ⟨#[47, 48]⟩) := by decide +kernel
theorem AccI.free {l : List Acc} (h : AccI 6 l) {t : ByteArray} (ht : t ∈ ([⟨#[109]⟩, ⟨#[122]⟩, ⟨#[48]⟩] : List ByteArray)) : ¬ ∃ y ∈ l, y.path = (⟨#[47]⟩ : ByteArray) ++ t ∨ y.node = ⟨#[110, 111, 100, 101]⟩ := by
  rintro ⟨y, hy, hc⟩
  obtain ⟨⟨h1, h2, h3⟩, h4⟩ := accBs_free _ (h.mem hy)
  rcases hc with hc | hc
  · obtain ⟨_, _, _, h5 | h5 | h5⟩ := mL_ok t ht
    · exact h1 (hc.trans h5)
    · exact h2 (hc.trans h5)
    · exact h3 (hc.trans h5)
  · exact h4 hc
theorem ins_len (x : Acc) (l : List Acc) : (insA x l).length = l.length + 1 := by
  rw [insA_pos]; have := posA_le x l; simp; omega
set_option maxHeartbeats 2000000 in
theorem back_pure (L : List Int) (hL : ∀ x ∈ L, -9223372036854775808 ≤ x ∧ x ≤ 9223372036854775807) (hl : L.length ≤ 9223372036854775807) :
    PCalls Tryd.prog 4 [.c (.sl 1 (L.map fun x => [D.v (.int .i64 x)]))] [] fun r os => r = .c (.v (.bool true)) ∧ os = [] := by
  have hA := accesses_pure L 0 (by omega) hL hl
  simp only [tape] at hA
  push_cast [eq_self, iff_self, IntWalk.iteOmega, IntWalk.toNatUp] at hA
  refine pcalls_of Tryd.func4 rfl (by simp [Tryd.ntmps4]) ?_
  rw [Tryd.ntmps4, Tryd.results4]
  push_cast [eq_self, iff_self, IntWalk.iteOmega, IntWalk.toNatUp]
  repeat' (first | (refine Kont.use (by assumption) ?_) | (refine pwp_seq fun K hK => ?_) | (refine pwp_block ?_) | (refine pwp_scope ?_) | ((first | (refine pwp_cut 15 [] ?_; first | refine pwp_region ?_ | refine pwp_quiet (by kernel_rfl) (by kernel_rfl) ?_) | refine pwp_exit ?_ | refine pwp_ret ?_ | refine pwp_skip ?_); push_cast [eq_self, iff_self, IntWalk.iteOmega, IntWalk.toNatUp]) | (refine pwp_cond ?_; push_cast [eq_self, iff_self, IntWalk.iteOmega, IntWalk.toNatUp]; try (refine ⟨fun h => ?_, fun h => ?_⟩ <;> (try simp only [decide_eq_true_eq, decide_eq_false_iff_not, Bool.not_eq_true', Bool.not_eq_false', Int.not_lt, Int.not_le, Nat.not_lt, Nat.not_le] at h) <;> (try (first | contradiction | (exfalso; omega) | exact nomatch (Eq.trans (Eq.symm h) (by assumption) : true = false) | exact nomatch (Eq.trans (Eq.symm h) (by assumption) : false = true))))))
  refine pl_call2 false [0] rfl rfl (by kernel_rfl) hA ?_ nofun ?_; push_cast [eq_self, iff_self, IntWalk.iteOmega, IntWalk.toNatUp]; rintro r os ⟨l, k', ⟨hI, hk'⟩, rfl, rfl⟩; refine pl_weak (weak_frz 1 (by omega)) ?_; push_cast [eq_self, iff_self, IntWalk.iteOmega, IntWalk.toNatUp]; refine pl_of_pops ?_; push_cast [eq_self, iff_self, IntWalk.iteOmega, IntWalk.toNatUp]
  have hl6 := hI.len
  have hR := hI.right
  have hz := hI.size
  have hon := one_ex L k' [⟨#[109]⟩, ⟨#[122]⟩, ⟨#[48]⟩] (by omega) (by decide) (by decide) hL hl
  simp only [tape] at hon
  push_cast [eq_self, iff_self, IntWalk.iteOmega, IntWalk.toNatUp] at hon
  repeat' (first | (refine Kont.use (by assumption) ?_) | (refine pwp_seq fun K hK => ?_) | (refine pwp_block ?_) | (refine pwp_scope ?_) | ((first | (refine pwp_cut 15 [] ?_; first | refine pwp_region ?_ | refine pwp_quiet (by kernel_rfl) (by kernel_rfl) ?_) | refine pwp_exit ?_ | refine pwp_ret ?_ | refine pwp_skip ?_); push_cast [eq_self, iff_self, IntWalk.iteOmega, IntWalk.toNatUp]) | (refine pwp_cond ?_; push_cast [eq_self, iff_self, IntWalk.iteOmega, IntWalk.toNatUp]; try (refine ⟨fun h => ?_, fun h => ?_⟩ <;> (try simp only [decide_eq_true_eq, decide_eq_false_iff_not, Bool.not_eq_true', Bool.not_eq_false', Int.not_lt, Int.not_le, Nat.not_lt, Nat.not_le] at h) <;> (try (first | contradiction | (exfalso; omega) | exact nomatch (Eq.trans (Eq.symm h) (by assumption) : true = false) | exact nomatch (Eq.trans (Eq.symm h) (by assumption) : false = true))))))
  refine pl_call2 false [0] rfl rfl (by kernel_rfl) hon ?_ nofun ?_; push_cast [eq_self, iff_self, IntWalk.iteOmega, IntWalk.toNatUp]; rintro r os ⟨t, ht, rfl, rfl⟩; refine pl_of_pops ?_
  obtain ⟨t1, t2, t3, _⟩ := mL_ok t ht
  have hno := hI.free ht
  have hok : okP1 ((⟨#[47]⟩ : ByteArray) ++ t) := Option.isSome_iff_exists.1 t1
  have s0 : (((⟨#[47]⟩ : ByteArray).size : Int) + (t.size : Int) ≤ 9223372036854775807) := by rw [t2]; decide
  push_cast [eq_self, iff_self, IntWalk.iteOmega, IntWalk.toNatUp, s0]
  repeat' (first | (refine Kont.use (by assumption) ?_) | (refine pwp_seq fun K hK => ?_) | (refine pwp_block ?_) | (refine pwp_scope ?_) | ((first | (refine pwp_cut 15 [] ?_; first | refine pwp_region ?_ | refine pwp_quiet (by kernel_rfl) (by kernel_rfl) ?_) | refine pwp_exit ?_ | refine pwp_ret ?_ | refine pwp_skip ?_); push_cast [eq_self, iff_self, IntWalk.iteOmega, IntWalk.toNatUp, s0]) | (refine pwp_cond ?_; push_cast [eq_self, iff_self, IntWalk.iteOmega, IntWalk.toNatUp, s0]; try (refine ⟨fun h => ?_, fun h => ?_⟩ <;> (try simp only [decide_eq_true_eq, decide_eq_false_iff_not, Bool.not_eq_true', Bool.not_eq_false', Int.not_lt, Int.not_le, Nat.not_lt, Nat.not_le] at h) <;> (try (first | contradiction | (exfalso; omega) | exact nomatch (Eq.trans (Eq.symm h) (by assumption) : true = false) | exact nomatch (Eq.trans (Eq.symm h) (by assumption) : false = true))))))
  have ha := apply_pure l ⟨2, ⟨(⟨#[47]⟩ : ByteArray) ++ t, ⟨#[110, 111, 100, 101]⟩, ⟨#[97, 110, 110]⟩⟩⟩ (by omega) hR (fun y hy => by have := hz y hy; omega) (by rw [t3]; decide)
  rw [applyM_grant hno hok] at ha
  have hR2 : Right (insA ⟨(⟨#[47]⟩ : ByteArray) ++ t, ⟨#[110, 111, 100, 101]⟩, ⟨#[97, 110, 110]⟩⟩ l) := hR.ins hok (fun y hy e => hno ⟨y, hy, .inl e⟩) (fun y hy e => hno ⟨y, hy, .inr e⟩)
  have hlen2 := ins_len ⟨(⟨#[47]⟩ : ByteArray) ++ t, ⟨#[110, 111, 100, 101]⟩, ⟨#[97, 110, 110]⟩⟩ l
  have hr := apply_pure (insA ⟨(⟨#[47]⟩ : ByteArray) ++ t, ⟨#[110, 111, 100, 101]⟩, ⟨#[97, 110, 110]⟩⟩ l) ⟨1, ⟨(⟨#[47]⟩ : ByteArray) ++ t, ⟨#[110, 111, 100, 101]⟩, ⟨#[97, 110, 110]⟩⟩⟩ (by omega) hR2 (fun y hy => by
    rcases mem_ins.1 hy with rfl | hy
    · show ((⟨#[47]⟩ : ByteArray) ++ t).size ≤ _
      rw [t3]; decide
    · have := hz y hy; omega) (by show ((⟨#[47]⟩ : ByteArray) ++ t).size ≤ _; rw [t3]; decide)
  rw [applyM_rev (mem_ins.2 (.inl rfl)), back_rev hR hok hno] at hr
  have hs := same38_pure l l (by omega) (by omega)
  rw [decide_eq_true rfl] at hs
  generalize insA ⟨(⟨#[47]⟩ : ByteArray) ++ t, ⟨#[110, 111, 100, 101]⟩, ⟨#[97, 110, 110]⟩⟩ l = m at *
  unfold accR at ha hr
  have hml : (m.length : Int) = l.length + 1 := by omega
  repeat' (first | (refine pl_call2 false [] rfl rfl (by kernel_rfl) (ha) ?_ nofun ?_; push_cast [eq_self, iff_self, IntWalk.iteOmega, IntWalk.toNatUp, hml]; rintro r os ⟨rfl, rfl⟩; refine pl_of_pops ?_; push_cast [eq_self, iff_self, IntWalk.iteOmega, IntWalk.toNatUp, hml]) | (refine pl_call2 false [] rfl rfl (by kernel_rfl) (hr) ?_ nofun ?_; push_cast [eq_self, iff_self, IntWalk.iteOmega, IntWalk.toNatUp, hml]; rintro r os ⟨rfl, rfl⟩; refine pl_of_pops ?_; push_cast [eq_self, iff_self, IntWalk.iteOmega, IntWalk.toNatUp, hml]) | (refine pl_call2 false [] rfl rfl (by kernel_rfl) (hs) ?_ nofun ?_; push_cast [eq_self, iff_self, IntWalk.iteOmega, IntWalk.toNatUp, hml]; rintro r os ⟨rfl, rfl⟩; refine pl_of_pops ?_; push_cast [eq_self, iff_self, IntWalk.iteOmega, IntWalk.toNatUp, hml]) | (refine Kont.use (by assumption) ?_) | (refine pwp_seq fun K hK => ?_) | (refine pwp_block ?_) | (refine pwp_scope ?_) | ((first | (refine pwp_cut 15 [] ?_; first | refine pwp_region ?_ | refine pwp_quiet (by kernel_rfl) (by kernel_rfl) ?_) | refine pwp_exit ?_ | refine pwp_ret ?_ | refine pwp_skip ?_); push_cast [eq_self, iff_self, IntWalk.iteOmega, IntWalk.toNatUp, hml]) | (refine pwp_cond ?_; push_cast [eq_self, iff_self, IntWalk.iteOmega, IntWalk.toNatUp, hml]; try (refine ⟨fun h => ?_, fun h => ?_⟩ <;> (try simp only [decide_eq_true_eq, decide_eq_false_iff_not, Bool.not_eq_true', Bool.not_eq_false', Int.not_lt, Int.not_le, Nat.not_lt, Nat.not_le] at h) <;> (try (first | contradiction | (exfalso; omega) | exact nomatch (Eq.trans (Eq.symm h) (by assumption) : true = false) | exact nomatch (Eq.trans (Eq.symm h) (by assumption) : false = true))))))
  (apply pwp_loop3 (α := Nat) 15 [] (fun i => [(10, .c (.v (.int .i64 i)))]) (fun i => []) (fun i => i ≤ l.length) (fun i => l.length - i) (0); (focus ((try push_cast [eq_self, iff_self, IntWalk.iteOmega, IntWalk.toNatUp]); rfl)); (focus exact (by omega)); (focus ((refine weak_fg ?_; try push_cast [eq_self, iff_self, IntWalk.iteOmega, IntWalk.toNatUp]))))
  intro i hi
  push_cast [eq_self, iff_self, IntWalk.iteOmega, IntWalk.toNatUp]
  by_cases hlt : i < l.length
  · have hmem : l.getD i default ∈ l := by rw [getD_lt l hlt]; exact List.getElem_mem _
    have hc := apply_pure l ⟨1, l.getD i default⟩ (by omega) hR (fun y hy => by have := hz y hy; omega) (by have := hz _ hmem; show (l.getD i default).path.size ≤ _; omega)
    rw [applyM_rev hmem] at hc
    obtain ⟨b1, b2⟩ := back_grant hR hmem
    have hQ : Right (l.filter fun y => decide (y ≠ l.getD i default)) := hR.sublist List.filter_sublist
    have hd := apply_pure (l.filter fun y => decide (y ≠ l.getD i default)) ⟨2, l.getD i default⟩ (by have := List.length_filter_le (fun y => decide (y ≠ l.getD i default)) l; omega) hQ (fun y hy => by have := hz y (List.mem_filter.1 hy).1; omega) (by have := hz _ hmem; show (l.getD i default).path.size ≤ _; omega)
    rw [applyM_grant b2 (hR.ok _ hmem), b1] at hd
    generalize (l.filter fun y => decide (y ≠ l.getD i default)) = q at *
    unfold accR at hc hd
    repeat' (first |  (refine pl_call2 false [] rfl rfl (by kernel_rfl) (hc) ?_ nofun ?_; push_cast [eq_self, iff_self, IntWalk.iteOmega, IntWalk.toNatUp]; rintro r os ⟨rfl, rfl⟩; refine pl_of_pops ?_; push_cast [eq_self, iff_self, IntWalk.iteOmega, IntWalk.toNatUp]) | (refine pl_call2 false [] rfl rfl (by kernel_rfl) (hd) ?_ nofun ?_; push_cast [eq_self, iff_self, IntWalk.iteOmega, IntWalk.toNatUp]; rintro r os ⟨rfl, rfl⟩; refine pl_of_pops ?_; push_cast [eq_self, iff_self, IntWalk.iteOmega, IntWalk.toNatUp]) | (refine pl_call2 false [] rfl rfl (by kernel_rfl) (hs) ?_ nofun ?_; push_cast [eq_self, iff_self, IntWalk.iteOmega, IntWalk.toNatUp]; rintro r os ⟨rfl, rfl⟩; refine pl_of_pops ?_; push_cast [eq_self, iff_self, IntWalk.iteOmega, IntWalk.toNatUp])  | (refine Kont.use (by assumption) ?_) | (refine pwp_seq fun K hK => ?_) | (refine pwp_block ?_) | (refine pwp_scope ?_) | ((first | (refine pwp_cut 15 [] ?_; first | refine pwp_region ?_ | refine pwp_quiet (by kernel_rfl) (by kernel_rfl) ?_) | refine pwp_exit ?_ | refine pwp_ret ?_ | refine pwp_skip ?_); push_cast [eq_self, iff_self, IntWalk.iteOmega, IntWalk.toNatUp]) | (refine pwp_cond ?_; push_cast [eq_self, iff_self, IntWalk.iteOmega, IntWalk.toNatUp]; try (refine ⟨fun h => ?_, fun h => ?_⟩ <;> (try simp only [decide_eq_true_eq, decide_eq_false_iff_not, Bool.not_eq_true', Bool.not_eq_false', Int.not_lt, Int.not_le, Nat.not_lt, Nat.not_le] at h) <;> (try (first | contradiction | (exfalso; omega) | exact nomatch (Eq.trans (Eq.symm h) (by assumption) : true = false) | exact nomatch (Eq.trans (Eq.symm h) (by assumption) : false = true))))))
    exact ⟨i + 1, by omega, by (refine weak_fg ?_; push_cast [eq_self, iff_self, IntWalk.iteOmega, IntWalk.toNatUp]), by omega⟩
  · repeat' (first |  (refine pl_call2 false [] rfl rfl (by kernel_rfl) (known_pure) ?_ nofun ?_; push_cast [eq_self, iff_self, IntWalk.iteOmega, IntWalk.toNatUp]; rintro r os ⟨rfl, rfl⟩; refine pl_of_pops ?_; push_cast [eq_self, iff_self, IntWalk.iteOmega, IntWalk.toNatUp])  | (refine Kont.use (by assumption) ?_) | (refine pwp_seq fun K hK => ?_) | (refine pwp_block ?_) | (refine pwp_scope ?_) | ((first | (refine pwp_cut 15 [] ?_; first | refine pwp_region ?_ | refine pwp_quiet (by kernel_rfl) (by kernel_rfl) ?_) | refine pwp_exit ?_ | refine pwp_ret ?_ | refine pwp_skip ?_); push_cast [eq_self, iff_self, IntWalk.iteOmega, IntWalk.toNatUp]) | (refine pwp_cond ?_; push_cast [eq_self, iff_self, IntWalk.iteOmega, IntWalk.toNatUp]; try (refine ⟨fun h => ?_, fun h => ?_⟩ <;> (try simp only [decide_eq_true_eq, decide_eq_false_iff_not, Bool.not_eq_true', Bool.not_eq_false', Int.not_lt, Int.not_le, Nat.not_lt, Nat.not_le] at h) <;> (try (first | contradiction | (exfalso; omega) | exact nomatch (Eq.trans (Eq.symm h) (by assumption) : true = false) | exact nomatch (Eq.trans (Eq.symm h) (by assumption) : false = true))))))
    (refine retK_of [] ?_; push_cast [eq_self, iff_self, IntWalk.iteOmega, IntWalk.toNatUp])
/-! ### a plan applied -/
def stepA (a b : List Acc) (i : Nat) : List Acc := if i < (minusL a b).length then midA a b i else granA a b (i - (minusL a b).length)
theorem step_right {a b : List Acc} (ha : Right a) (hb : Right b) (i : Nat) : Right (stepA a b i) := by
  unfold stepA; split
  · exact mid_right ha i
  · exact gran_right hb _
theorem step_mem {a b : List Acc} {i : Nat} {y : Acc} (h : y ∈ stepA a b i) : y ∈ a ∨ y ∈ b := by
  unfold stepA at h; split at h
  · exact .inl (List.mem_filter.1 h).1
  · exact .inr (List.mem_filter.1 h).1
theorem step_len {a b : List Acc} {i : Nat} : (stepA a b i).length ≤ a.length + b.length := by
  unfold stepA; split
  · have := List.length_filter_le (fun x => decide (x ∉ (minusL a b).take i)) a; unfold midA; omega
  · have := List.length_filter_le (fun x => decide (x ∈ a ∨ x ∈ (minusL b a).take (i - (minusL a b).length))) b; unfold granA; omega
theorem step_zero {a b : List Acc} (ha : Right a) (hb : Right b) : stepA a b 0 = a := by
  unfold stepA; split
  · exact midA_zero a b
  · rename_i h
    have := midA_end a b (i := 0) h
    rw [midA_zero, gran_zero ha hb] at this
    have e : 0 - (minusL a b).length = 0 := by omega
    rw [e]
    exact this.symm
theorem plan_len (a b : List Acc) : (planA a b).length = (minusL a b).length + (minusL b a).length := by simp [planA]
theorem step_end {a b : List Acc} : stepA a b (planA a b).length = b := by
  unfold stepA
  rw [plan_len, if_neg (by omega)]
  exact gran_end (by omega)
theorem plan_lo {a b : List Acc} {i : Nat} (h : i < (minusL a b).length) : (planA a b).getD i default = ⟨1, (minusL a b)[i]⟩ := by
  unfold planA
  rw [List.getD, List.getElem?_append_left (by rw [List.length_map]; exact h), List.getElem?_map, List.getElem?_eq_getElem h]
  rfl
theorem plan_hi {a b : List Acc} {i : Nat} (h : ¬ i < (minusL a b).length) (h2 : i - (minusL a b).length < (minusL b a).length) : (planA a b).getD i default = ⟨2, (minusL b a)[i - (minusL a b).length]⟩ := by
  unfold planA
  rw [List.getD, List.getElem?_append_right (by rw [List.length_map]; omega), List.length_map, List.getElem?_map, List.getElem?_eq_getElem h2]
  rfl
theorem applyM_of {l m : List Acc} {c : Chg} {e : Int} (h : applyA l c = (some m, e)) : applyM l c = (m, e) := by
  unfold applyM; rw [h]
theorem step_next {a b : List Acc} (ha : Right a) (hb : Right b) {i : Nat} (hi : i < (planA a b).length) : applyM (stepA a b i) ((planA a b).getD i default) = (stepA a b (i + 1), 0) := by
  rw [plan_len] at hi
  by_cases h : i < (minusL a b).length
  · rw [plan_lo h]
    have h1 := apply_rev ha h
    have e : stepA a b i = midA a b i := if_pos h
    rw [e, applyM_of h1]
    congr 1
    unfold stepA
    split
    · rfl
    · rename_i h2
      rw [midA_end a b h2, gran_zero ha hb]
      congr 1; omega
  · have h2 : i - (minusL a b).length < (minusL b a).length := by omega
    rw [plan_hi h h2]
    have h1 := apply_grant hb h2
    have e : stepA a b i = granA a b (i - (minusL a b).length) := if_neg h
    have e2 : stepA a b (i + 1) = granA a b (i - (minusL a b).length + 1) := by
      unfold stepA
      rw [if_neg (by omega)]
      congr 1; omega
    rw [e, e2, applyM_of h1]
set_option maxHeartbeats 4000000 in
theorem reaches_pure (L : List Int) (hL : ∀ x ∈ L, -9223372036854775808 ≤ x ∧ x ≤ 9223372036854775807) (hl : L.length ≤ 9223372036854775807) :
    PCalls Tryd.prog 6 [.c (.sl 1 (L.map fun x => [D.v (.int .i64 x)]))] [] fun r os => r = .c (.v (.bool true)) ∧ os = [] := by
  have hA := accesses_pure L 0 (by omega) hL hl
  simp only [tape] at hA
  push_cast [eq_self, iff_self, IntWalk.iteOmega, IntWalk.toNatUp] at hA
  refine pcalls_of Tryd.func6 rfl (by simp [Tryd.ntmps6]) ?_
  rw [Tryd.ntmps6, Tryd.results6]
  push_cast [eq_self, iff_self, IntWalk.iteOmega, IntWalk.toNatUp]
  repeat' (first | (refine Kont.use (by assumption) ?_) | (refine pwp_seq fun K hK => ?_) | (refine pwp_block ?_) | (refine pwp_scope ?_) | ((first | (refine pwp_cut 10 [] ?_; first | refine pwp_region ?_ | refine pwp_quiet (by kernel_rfl) (by kernel_rfl) ?_) | refine pwp_exit ?_ | refine pwp_ret ?_ | refine pwp_skip ?_); push_cast [eq_self, iff_self, IntWalk.iteOmega, IntWalk.toNatUp]) | (refine pwp_cond ?_; push_cast [eq_self, iff_self, IntWalk.iteOmega, IntWalk.toNatUp]; try (refine ⟨fun h => ?_, fun h => ?_⟩ <;> (try simp only [decide_eq_true_eq, decide_eq_false_iff_not, Bool.not_eq_true', Bool.not_eq_false', Int.not_lt, Int.not_le, Nat.not_lt, Nat.not_le] at h) <;> (try (first | contradiction | (exfalso; omega) | exact nomatch (Eq.trans (Eq.symm h) (by assumption) : true = false) | exact nomatch (Eq.trans (Eq.symm h) (by assumption) : false = true))))))
  refine pl_call2 false [0] rfl rfl (by kernel_rfl) hA ?_ nofun ?_; push_cast [eq_self, iff_self, IntWalk.iteOmega, IntWalk.toNatUp]; rintro r os ⟨a, k1, ⟨hIa, hk1⟩, rfl, rfl⟩; refine pl_weak (weak_frz 1 (by omega)) ?_; push_cast [eq_self, iff_self, IntWalk.iteOmega, IntWalk.toNatUp]; refine pl_of_pops ?_; push_cast [eq_self, iff_self, IntWalk.iteOmega, IntWalk.toNatUp]
  have hB := accesses_pure L k1 (by omega) hL hl
  simp only [tape] at hB
  push_cast [eq_self, iff_self, IntWalk.iteOmega, IntWalk.toNatUp] at hB
  repeat' (first | (refine Kont.use (by assumption) ?_) | (refine pwp_seq fun K hK => ?_) | (refine pwp_block ?_) | (refine pwp_scope ?_) | ((first | (refine pwp_cut 10 [] ?_; first | refine pwp_region ?_ | refine pwp_quiet (by kernel_rfl) (by kernel_rfl) ?_) | refine pwp_exit ?_ | refine pwp_ret ?_ | refine pwp_skip ?_); push_cast [eq_self, iff_self, IntWalk.iteOmega, IntWalk.toNatUp]) | (refine pwp_cond ?_; push_cast [eq_self, iff_self, IntWalk.iteOmega, IntWalk.toNatUp]; try (refine ⟨fun h => ?_, fun h => ?_⟩ <;> (try simp only [decide_eq_true_eq, decide_eq_false_iff_not, Bool.not_eq_true', Bool.not_eq_false', Int.not_lt, Int.not_le, Nat.not_lt, Nat.not_le] at h) <;> (try (first | contradiction | (exfalso; omega) | exact nomatch (Eq.trans (Eq.symm h) (by assumption) : true = false) | exact nomatch (Eq.trans (Eq.symm h) (by assumption) : false = true))))))
  refine pl_call2 false [0] rfl rfl (by kernel_rfl) hB ?_ nofun ?_; push_cast [eq_self, iff_self, IntWalk.iteOmega, IntWalk.toNatUp]; rintro r os ⟨b, k2, ⟨hIb, hk2⟩, rfl, rfl⟩; refine pl_weak (weak_frz 2 (by omega)) ?_; push_cast [eq_self, iff_self, IntWalk.iteOmega, IntWalk.toNatUp]; refine pl_of_pops ?_; push_cast [eq_self, iff_self, IntWalk.iteOmega, IntWalk.toNatUp]
  have ha6 := hIa.len
  have hb6 := hIb.len
  have hRa := hIa.right
  have hRb := hIb.right
  have hza := hIa.size
  have hzb := hIb.size
  have hp := plan_pure a b hRa hRb (by omega) (by omega) (fun y hy => by have := hza y hy; omega) (fun y hy => by have := hzb y hy; omega)
  have hpl := plan_len a b
  have hm1 := (minus_sub a b).length_le
  have hm2 := (minus_sub b a).length_le
  have hst : ∀ i, i < (planA a b).length → applyM (stepA a b i) ((planA a b).getD i default) = (stepA a b (i + 1), 0) := fun i hi => step_next hRa hRb hi
  have hen : stepA a b (planA a b).length = b := step_end
  have hze := step_zero hRa hRb
  have hxs : ∀ i, i < (planA a b).length → ((planA a b).getD i default).acc.path.size ≤ 100 := fun i hi => by
    rw [plan_len] at hi
    by_cases h : i < (minusL a b).length
    · rw [plan_lo h]
      exact hza _ ((minus_sub a b).subset (List.getElem_mem _))
    · rw [plan_hi h (by omega)]
      exact hzb _ ((minus_sub b a).subset (List.getElem_mem _))
  have hpl2 : (planA a b).length ≤ 12 := by omega
  generalize planA a b = p at *
  have hsR : ∀ i, Right (stepA a b i) := fun i => step_right hRa hRb i
  have hsz : ∀ i, ∀ y ∈ stepA a b i, y.path.size ≤ 100 := fun i y hy => by
    rcases step_mem hy with h | h
    · exact hza y h
    · exact hzb y h
  have hsl : ∀ i, (stepA a b i).length ≤ 12 := fun i => by have := step_len (a := a) (b := b) (i := i); omega
  generalize stepA a b = f at *
  repeat' (first |  (refine pl_call2 false [] rfl rfl (by kernel_rfl) hp ?_ nofun ?_; push_cast [eq_self, iff_self, IntWalk.iteOmega, IntWalk.toNatUp]; rintro r os ⟨rfl, rfl⟩; refine pl_weak (weak_frz 3 (by omega)) ?_; push_cast [eq_self, iff_self, IntWalk.iteOmega, IntWalk.toNatUp]; refine pl_of_pops ?_; push_cast [eq_self, iff_self, IntWalk.iteOmega, IntWalk.toNatUp])  | (refine Kont.use (by assumption) ?_) | (refine pwp_seq fun K hK => ?_) | (refine pwp_block ?_) | (refine pwp_scope ?_) | ((first | (refine pwp_cut 10 [] ?_; first | refine pwp_region ?_ | refine pwp_quiet (by kernel_rfl) (by kernel_rfl) ?_) | refine pwp_exit ?_ | refine pwp_ret ?_ | refine pwp_skip ?_); push_cast [eq_self, iff_self, IntWalk.iteOmega, IntWalk.toNatUp]) | (refine pwp_cond ?_; push_cast [eq_self, iff_self, IntWalk.iteOmega, IntWalk.toNatUp]; try (refine ⟨fun h => ?_, fun h => ?_⟩ <;> (try simp only [decide_eq_true_eq, decide_eq_false_iff_not, Bool.not_eq_true', Bool.not_eq_false', Int.not_lt, Int.not_le, Nat.not_lt, Nat.not_le] at h) <;> (try (first | contradiction | (exfalso; omega) | exact nomatch (Eq.trans (Eq.symm h) (by assumption) : true = false) | exact nomatch (Eq.trans (Eq.symm h) (by assumption) : false = true))))))
  (apply pwp_loop3 (α := Nat) 10 [] (fun i => [(7, .c (.v (.int .i64 i))), (4, .c (.sl 3 ((f i).map Acc.d)))]) (fun i => []) (fun i => i ≤ p.length) (fun i => p.length - i) (0); (focus ((try push_cast [eq_self, iff_self, IntWalk.iteOmega, IntWalk.toNatUp]); rfl)); (focus exact (by omega)); (focus ((refine weak_fg ?_; try push_cast [eq_self, iff_self, IntWalk.iteOmega, IntWalk.toNatUp]); (rw [hze]))))
  intro i hi
  push_cast [eq_self, iff_self, IntWalk.iteOmega, IntWalk.toNatUp]
  by_cases hlt : i < p.length
  · have hc := apply_pure (f i) (p.getD i default) (by have := hsl i; omega) (hsR i) (fun y hy => by have := hsz i y hy; omega) (by have := hxs i hlt; omega)
    rw [hst i hlt] at hc
    have hr := rright_pure (f (i + 1)) (by have := hsl (i + 1); omega) (hsR (i + 1)) (fun y hy => by have := hsz (i + 1) y hy; omega)
    unfold accR at hc
    repeat' (first |  (refine pl_call2 false [] rfl rfl (by kernel_rfl) (hc) ?_ nofun ?_; push_cast [eq_self, iff_self, IntWalk.iteOmega, IntWalk.toNatUp]; rintro r os ⟨rfl, rfl⟩; refine pl_of_pops ?_; push_cast [eq_self, iff_self, IntWalk.iteOmega, IntWalk.toNatUp]) | (refine pl_call2 false [] rfl rfl (by kernel_rfl) (hr) ?_ nofun ?_; push_cast [eq_self, iff_self, IntWalk.iteOmega, IntWalk.toNatUp]; rintro r os ⟨rfl, rfl⟩; refine pl_of_pops ?_; push_cast [eq_self, iff_self, IntWalk.iteOmega, IntWalk.toNatUp])  | (refine Kont.use (by assumption) ?_) | (refine pwp_seq fun K hK => ?_) | (refine pwp_block ?_) | (refine pwp_scope ?_) | ((first | (refine pwp_cut 10 [] ?_; first | refine pwp_region ?_ | refine pwp_quiet (by kernel_rfl) (by kernel_rfl) ?_) | refine pwp_exit ?_ | refine pwp_ret ?_ | refine pwp_skip ?_); push_cast [eq_self, iff_self, IntWalk.iteOmega, IntWalk.toNatUp]) | (refine pwp_cond ?_; push_cast [eq_self, iff_self, IntWalk.iteOmega, IntWalk.toNatUp]; try (refine ⟨fun h => ?_, fun h => ?_⟩ <;> (try simp only [decide_eq_true_eq, decide_eq_false_iff_not, Bool.not_eq_true', Bool.not_eq_false', Int.not_lt, Int.not_le, Nat.not_lt, Nat.not_le] at h) <;> (try (first | contradiction | (exfalso; omega) | exact nomatch (Eq.trans (Eq.symm h) (by assumption) : true = false) | exact nomatch (Eq.trans (Eq.symm h) (by assumption) : false = true))))))
    exact ⟨i + 1, by omega, by (refine weak_fg ?_; push_cast [eq_self, iff_self, IntWalk.iteOmega, IntWalk.toNatUp]), by omega⟩
  · have hie : i = p.length := by omega
    have hfi : f i = b := by rw [hie, hen]
    rw [hfi]
    have hs := same38_pure b b (by omega) (by omega)
    rw [decide_eq_true rfl] at hs
    have hq := plan_pure b b hRb hRb (by omega) (by omega) (fun y hy => by have := hzb y hy; omega) (fun y hy => by have := hzb y hy; omega)
    have hq0 : planA b b = [] := by unfold planA; rw [minus_self]; rfl
    rw [hq0] at hq
    repeat' (first |  (refine pl_call2 false [] rfl rfl (by kernel_rfl) (hs) ?_ nofun ?_; push_cast [eq_self, iff_self, IntWalk.iteOmega, IntWalk.toNatUp]; rintro r os ⟨rfl, rfl⟩; refine pl_of_pops ?_; push_cast [eq_self, iff_self, IntWalk.iteOmega, IntWalk.toNatUp]) | (refine pl_call2 false [] rfl rfl (by kernel_rfl) (hq) ?_ nofun ?_; push_cast [eq_self, iff_self, IntWalk.iteOmega, IntWalk.toNatUp]; rintro r os ⟨rfl, rfl⟩; refine pl_of_pops ?_; push_cast [eq_self, iff_self, IntWalk.iteOmega, IntWalk.toNatUp]) | (refine pl_call2 false [] rfl rfl (by kernel_rfl) (known_pure) ?_ nofun ?_; push_cast [eq_self, iff_self, IntWalk.iteOmega, IntWalk.toNatUp]; rintro r os ⟨rfl, rfl⟩; refine pl_of_pops ?_; push_cast [eq_self, iff_self, IntWalk.iteOmega, IntWalk.toNatUp])  | (refine Kont.use (by assumption) ?_) | (refine pwp_seq fun K hK => ?_) | (refine pwp_block ?_) | (refine pwp_scope ?_) | ((first | (refine pwp_cut 10 [] ?_; first | refine pwp_region ?_ | refine pwp_quiet (by kernel_rfl) (by kernel_rfl) ?_) | refine pwp_exit ?_ | refine pwp_ret ?_ | refine pwp_skip ?_); push_cast [eq_self, iff_self, IntWalk.iteOmega, IntWalk.toNatUp]) | (refine pwp_cond ?_; push_cast [eq_self, iff_self, IntWalk.iteOmega, IntWalk.toNatUp]; try (refine ⟨fun h => ?_, fun h => ?_⟩ <;> (try simp only [decide_eq_true_eq, decide_eq_false_iff_not, Bool.not_eq_true', Bool.not_eq_false', Int.not_lt, Int.not_le, Nat.not_lt, Nat.not_le] at h) <;> (try (first | contradiction | (exfalso; omega) | exact nomatch (Eq.trans (Eq.symm h) (by assumption) : true = false) | exact nomatch (Eq.trans (Eq.symm h) (by assumption) : false = true))))))
    (refine retK_of [] ?_; push_cast [eq_self, iff_self, IntWalk.iteOmega, IntWalk.toNatUp])
end Go.Proofs.YtipgjpcbmnlbhaaDoor
namespace Go.Proofs.YtipgjpcbmnlbhaaDoor
attribute [local irreducible] PL QL PWP PCalls Weak RetK Kont PA
open Go.RowKit
set_option linter.unusedVariables false
set_option linter.unusedSimpArgs false
theorem pick_mem (L : List Int) (k : Nat) (l : List ByteArray) (h0 : 0 < l.length) : pick L k l ∈ l := by
  have := fold_bds (tapeAt L k) l.length (by omega)
  unfold pick
  rw [getD_lt _ (by omega)]
  exact List.getElem_mem _
set_option maxHeartbeats 1000000 in
theorem rof_data (l : List Acc) (u : ByteArray) (hl : l.length ≤ 1000000000) :
    PCalls Tryd.prog 17 [.c (.sl 3 (l.map Acc.d)), .c (.v (.string u))] [] fun r os => r = .c (.sl 1 ((ofA l u).map strD)) ∧ os = [] := by
  refine pcalls_of Tryd.func17 rfl (by simp [Tryd.ntmps17]) ?_
  rw [Tryd.ntmps17, Tryd.results17]
  push_cast [eq_self, iff_self, IntWalk.iteOmega, IntWalk.toNatUp]
  repeat' (first | (refine Kont.use (by assumption) ?_) | (refine pwp_seq fun K hK => ?_) | (refine pwp_block ?_) | (refine pwp_scope ?_) | ((first | (refine pwp_cut 7 [] ?_; first | refine pwp_region ?_ | refine pwp_quiet (by kernel_rfl) (by kernel_rfl) ?_) | refine pwp_exit ?_ | refine pwp_ret ?_ | refine pwp_skip ?_); push_cast [eq_self, iff_self, IntWalk.iteOmega, IntWalk.toNatUp]) | (refine pwp_cond ?_; push_cast [eq_self, iff_self, IntWalk.iteOmega, IntWalk.toNatUp]; try (refine ⟨fun h => ?_, fun h => ?_⟩ <;> (try simp only [decide_eq_true_eq, decide_eq_false_iff_not, Bool.not_eq_true', Bool.not_eq_false', Int.not_lt, Int.not_le, Nat.not_lt, Nat.not_le] at h) <;> (try (first | contradiction | (exfalso; omega) | exact nomatch (Eq.trans (Eq.symm h) (by assumption) : true = false) | exact nomatch (Eq.trans (Eq.symm h) (by assumption) : false = true))))))
  refine pwp_weak (weak_adopt 5 9 1 (by omega) (by push_cast [eq_self, iff_self, IntWalk.iteOmega, IntWalk.toNatUp])) ?_
  push_cast [eq_self, iff_self, IntWalk.iteOmega, IntWalk.toNatUp]
  (apply pwp_loop3 (α := Nat) 7 [] (fun k => [(6, .c (.v (.int .i64 k))), (5, .c (.own 0 ((ofT l u k).length)))]) (fun k => [(0, .arr 9 1 ((ofT l u k).map strD))]) (fun k => k ≤ l.length) (fun k => l.length - k) (0); (focus ((try push_cast [eq_self, iff_self, IntWalk.iteOmega, IntWalk.toNatUp]); rfl)); (focus exact (by omega)); (focus ((refine weak_fg ?_; try push_cast [eq_self, iff_self, IntWalk.iteOmega, IntWalk.toNatUp]); exact ⟨rfl, rfl⟩)))
  intro k hk
  push_cast [eq_self, iff_self, IntWalk.iteOmega, IntWalk.toNatUp]
  have hol := ofT_len l u k
  by_cases hlt : k < l.length
  · by_cases hu : (l.getD k default).user = u
    · have hs := ofT_t hlt hu
      have hu' := eq_true hu
      repeat' (first | (refine Kont.use (by assumption) ?_) | (refine pwp_seq fun K hK => ?_) | (refine pwp_block ?_) | (refine pwp_scope ?_) | ((first | (refine pwp_cut 7 [] ?_; first | refine pwp_region ?_ | refine pwp_quiet (by kernel_rfl) (by kernel_rfl) ?_) | refine pwp_exit ?_ | refine pwp_ret ?_ | refine pwp_skip ?_); push_cast [eq_self, iff_self, IntWalk.iteOmega, IntWalk.toNatUp, hu']) | (refine pwp_cond ?_; push_cast [eq_self, iff_self, IntWalk.iteOmega, IntWalk.toNatUp, hu']; try (refine ⟨fun h => ?_, fun h => ?_⟩ <;> (try simp only [decide_eq_true_eq, decide_eq_false_iff_not, Bool.not_eq_true', Bool.not_eq_false', Int.not_lt, Int.not_le, Nat.not_lt, Nat.not_le] at h) <;> (try (first | contradiction | (exfalso; omega) | exact nomatch (Eq.trans (Eq.symm h) (by assumption) : true = false) | exact nomatch (Eq.trans (Eq.symm h) (by assumption) : false = true))))))
      exact ⟨k + 1, by omega, by (refine weak_fg ?_; push_cast [eq_self, iff_self, IntWalk.iteOmega, IntWalk.toNatUp, hs]), by omega⟩
    · have hs := ofT_f hlt hu
      repeat' (first | (refine Kont.use (by assumption) ?_) | (refine pwp_seq fun K hK => ?_) | (refine pwp_block ?_) | (refine pwp_scope ?_) | ((first | (refine pwp_cut 7 [] ?_; first | refine pwp_region ?_ | refine pwp_quiet (by kernel_rfl) (by kernel_rfl) ?_) | refine pwp_exit ?_ | refine pwp_ret ?_ | refine pwp_skip ?_); push_cast [eq_self, iff_self, IntWalk.iteOmega, IntWalk.toNatUp, hu]) | (refine pwp_cond ?_; push_cast [eq_self, iff_self, IntWalk.iteOmega, IntWalk.toNatUp, hu]; try (refine ⟨fun h => ?_, fun h => ?_⟩ <;> (try simp only [decide_eq_true_eq, decide_eq_false_iff_not, Bool.not_eq_true', Bool.not_eq_false', Int.not_lt, Int.not_le, Nat.not_lt, Nat.not_le] at h) <;> (try (first | contradiction | (exfalso; omega) | exact nomatch (Eq.trans (Eq.symm h) (by assumption) : true = false) | exact nomatch (Eq.trans (Eq.symm h) (by assumption) : false = true))))))
      exact ⟨k + 1, by omega, by (refine weak_fg ?_; push_cast [eq_self, iff_self, IntWalk.iteOmega, IntWalk.toNatUp, hs]), by omega⟩
  · rw [ofT_end hlt]
    repeat' (first | (refine Kont.use (by assumption) ?_) | (refine pwp_seq fun K hK => ?_) | (refine pwp_block ?_) | (refine pwp_scope ?_) | ((first | (refine pwp_cut 7 [] ?_; first | refine pwp_region ?_ | refine pwp_quiet (by kernel_rfl) (by kernel_rfl) ?_) | refine pwp_exit ?_ | refine pwp_ret ?_ | refine pwp_skip ?_); push_cast [eq_self, iff_self, IntWalk.iteOmega, IntWalk.toNatUp]) | (refine pwp_cond ?_; push_cast [eq_self, iff_self, IntWalk.iteOmega, IntWalk.toNatUp]; try (refine ⟨fun h => ?_, fun h => ?_⟩ <;> (try simp only [decide_eq_true_eq, decide_eq_false_iff_not, Bool.not_eq_true', Bool.not_eq_false', Int.not_lt, Int.not_le, Nat.not_lt, Nat.not_le] at h) <;> (try (first | contradiction | (exfalso; omega) | exact nomatch (Eq.trans (Eq.symm h) (by assumption) : true = false) | exact nomatch (Eq.trans (Eq.symm h) (by assumption) : false = true))))))
    (refine retK_of [] ?_; push_cast [eq_self, iff_self, IntWalk.iteOmega, IntWalk.toNatUp])
theorem ofA_len (l : List Acc) (u : ByteArray) : (ofA l u).length ≤ l.length := by
  have := List.length_filter_le (fun a => decide (a.user = u)) l
  unfold ofA
  rw [List.length_map]
  exact this
theorem applyM_len (l : List Acc) (c : Chg) : (applyM l c).1.length ≤ l.length + 1 := by
  unfold applyM applyA
  split
  · rename_i m e h
    split at h
    · split at h
      · cases h; exact Nat.le_trans (List.length_filter_le _ _) (Nat.le_succ _)
      · cases h
    · split at h
      · split at h
        · cases h
        · split at h
          · cases h
          · cases h; rw [ins_len]; omega
      · cases h
  · simp
theorem w4_size : ∀ t ∈ ([⟨#[97]⟩, ⟨#[98]⟩, ⟨#[116, 116, 121]⟩, ⟨#[120]⟩] : List ByteArray), t.size ≤ 3 ∧ ((⟨#[47]⟩ : ByteArray) ++ t).size ≤ 4 := by decide +kernel
set_option maxHeartbeats 16000000 in
set_option maxRecDepth 20000 in
theorem plans_pure (L : List Int) (c : Chg) (u : ByteArray) (hL : ∀ x ∈ L, -9223372036854775808 ≤ x ∧ x ≤ 9223372036854775807) (hl : L.length ≤ 9223372036854775807)
    (hp : c.acc.path.size ≤ 140737488351232) (hn : c.acc.node.size ≤ 140737488351232) (hu : c.acc.user.size ≤ 140737488351232) (hw : u.size ≤ 140737488351232) :
    PCalls Tryd.prog 5 [.c (.sl 1 (L.map fun x => [D.v (.int .i64 x)])), .agg c.e, .c (.v (.string u))] [] fun r os => r = .c (.v (.bool true)) ∧ os = [] := by
  have hA := accesses_pure L 0 (by omega) hL hl
  simp only [tape] at hA
  push_cast [eq_self, iff_self, IntWalk.iteOmega, IntWalk.toNatUp] at hA
  refine pcalls_of Tryd.func5 rfl (by simp [Tryd.ntmps5]) ?_
  rw [Tryd.ntmps5, Tryd.results5]
  push_cast [eq_self, iff_self, IntWalk.iteOmega, IntWalk.toNatUp]
  by_cases hbig : 600 < c.acc.path.size + c.acc.node.size + c.acc.user.size + u.size
  · repeat' (first |  (refine pl_call2 false [] rfl rfl (by kernel_rfl) (known_pure) ?_ nofun ?_; push_cast [eq_self, iff_self, IntWalk.iteOmega, IntWalk.toNatUp]; rintro r os ⟨rfl, rfl⟩; refine pl_of_pops ?_; push_cast [eq_self, iff_self, IntWalk.iteOmega, IntWalk.toNatUp])  | (refine Kont.use (by assumption) ?_) | (refine pwp_seq fun K hK => ?_) | (refine pwp_block ?_) | (refine pwp_scope ?_) | ((first | (refine pwp_cut 17 [] ?_; first | refine pwp_region ?_ | refine pwp_quiet (by kernel_rfl) (by kernel_rfl) ?_) | refine pwp_exit ?_ | refine pwp_ret ?_ | refine pwp_skip ?_); push_cast [eq_self, iff_self, IntWalk.iteOmega, IntWalk.toNatUp]) | (refine pwp_cond ?_; push_cast [eq_self, iff_self, IntWalk.iteOmega, IntWalk.toNatUp]; try (refine ⟨fun h => ?_, fun h => ?_⟩ <;> (try simp only [decide_eq_true_eq, decide_eq_false_iff_not, Bool.not_eq_true', Bool.not_eq_false', Int.not_lt, Int.not_le, Nat.not_lt, Nat.not_le] at h) <;> (try (first | contradiction | (exfalso; omega) | exact nomatch (Eq.trans (Eq.symm h) (by assumption) : true = false) | exact nomatch (Eq.trans (Eq.symm h) (by assumption) : false = true))))))
    (refine retK_of [] ?_; push_cast [eq_self, iff_self, IntWalk.iteOmega, IntWalk.toNatUp])
  · have hp6 : c.acc.path.size ≤ 600 := by omega
    clear hp hn
    repeat' (first | (refine Kont.use (by assumption) ?_) | (refine pwp_seq fun K hK => ?_) | (refine pwp_block ?_) | (refine pwp_scope ?_) | ((first | (refine pwp_cut 17 [] ?_; first | refine pwp_region ?_ | refine pwp_quiet (by kernel_rfl) (by kernel_rfl) ?_) | refine pwp_exit ?_ | refine pwp_ret ?_ | refine pwp_skip ?_); push_cast [eq_self, iff_self, IntWalk.iteOmega, IntWalk.toNatUp]) | (refine pwp_cond ?_; push_cast [eq_self, iff_self, IntWalk.iteOmega, IntWalk.toNatUp]; try (refine ⟨fun h => ?_, fun h => ?_⟩ <;> (try simp only [decide_eq_true_eq, decide_eq_false_iff_not, Bool.not_eq_true', Bool.not_eq_false', Int.not_lt, Int.not_le, Nat.not_lt, Nat.not_le] at h) <;> (try (first | contradiction | (exfalso; omega) | exact nomatch (Eq.trans (Eq.symm h) (by assumption) : true = false) | exact nomatch (Eq.trans (Eq.symm h) (by assumption) : false = true))))))
    refine pl_call2 false [1] rfl rfl (by kernel_rfl) hA ?_ nofun ?_; push_cast [eq_self, iff_self, IntWalk.iteOmega, IntWalk.toNatUp]; rintro r os ⟨a, k1, ⟨hIa, hk1⟩, rfl, rfl⟩; refine pl_weak (weak_frz 2 (by omega)) ?_; push_cast [eq_self, iff_self, IntWalk.iteOmega, IntWalk.toNatUp]; refine pl_of_pops ?_; push_cast [eq_self, iff_self, IntWalk.iteOmega, IntWalk.toNatUp]
    have hB := accesses_pure L k1 (by omega) hL hl
    simp only [tape] at hB
    push_cast [eq_self, iff_self, IntWalk.iteOmega, IntWalk.toNatUp] at hB
    repeat' (first | (refine Kont.use (by assumption) ?_) | (refine pwp_seq fun K hK => ?_) | (refine pwp_block ?_) | (refine pwp_scope ?_) | ((first | (refine pwp_cut 17 [] ?_; first | refine pwp_region ?_ | refine pwp_quiet (by kernel_rfl) (by kernel_rfl) ?_) | refine pwp_exit ?_ | refine pwp_ret ?_ | refine pwp_skip ?_); push_cast [eq_self, iff_self, IntWalk.iteOmega, IntWalk.toNatUp]) | (refine pwp_cond ?_; push_cast [eq_self, iff_self, IntWalk.iteOmega, IntWalk.toNatUp]; try (refine ⟨fun h => ?_, fun h => ?_⟩ <;> (try simp only [decide_eq_true_eq, decide_eq_false_iff_not, Bool.not_eq_true', Bool.not_eq_false', Int.not_lt, Int.not_le, Nat.not_lt, Nat.not_le] at h) <;> (try (first | contradiction | (exfalso; omega) | exact nomatch (Eq.trans (Eq.symm h) (by assumption) : true = false) | exact nomatch (Eq.trans (Eq.symm h) (by assumption) : false = true))))))
    refine pl_call2 false [1] rfl rfl (by kernel_rfl) hB ?_ nofun ?_; push_cast [eq_self, iff_self, IntWalk.iteOmega, IntWalk.toNatUp]; rintro r os ⟨b, k2, ⟨hIb, hk2⟩, rfl, rfl⟩; refine pl_weak (weak_frz 3 (by omega)) ?_; push_cast [eq_self, iff_self, IntWalk.iteOmega, IntWalk.toNatUp]; refine pl_of_pops ?_; push_cast [eq_self, iff_self, IntWalk.iteOmega, IntWalk.toNatUp]
    have ha6 := hIa.len
    have hb6 := hIb.len
    have hRa := hIa.right
    have hRb := hIb.right
    have hza := hIa.size
    have hzb := hIb.size
    have hpl := plan_pure a b hRa hRb (by omega) (by omega) (fun y hy => by have := hza y hy; omega) (fun y hy => by have := hzb y hy; omega)
    have hrp := rplan_pure a b (by omega) (by omega)
    have hpll : (planA a b).length ≤ 12 := by
      have := plan_len a b
      have := (minus_sub a b).length_le
      have := (minus_sub b a).length_le
      omega
    have hsc := samec_pure (planA a b) (planA a b) (by omega) (by omega)
    simp only [decide_true] at hsc
    have hf1 := of_data a u (by omega)
    have hf2 := rof_data a u (by omega)
    have hf3 := of_data a ⟨#[97, 110, 110]⟩ (by omega)
    have hf4 := rof_data a ⟨#[97, 110, 110]⟩ (by omega)
    have hl1 := ofA_len a u
    have hl2 := ofA_len a ⟨#[97, 110, 110]⟩
    have hs1 := same_pure (ofA a u) (ofA a u) (by omega) (by omega)
    have hs2 := same_pure (ofA a ⟨#[97, 110, 110]⟩) (ofA a ⟨#[97, 110, 110]⟩) (by omega) (by omega)
    rw [decide_eq_true rfl] at hs1 hs2
    generalize planA a b = p at *
    generalize ofA a u = x1 at *
    generalize ofA a ⟨#[97, 110, 110]⟩ = x2 at *
    obtain ⟨v, ⟨hv0, hv1⟩, hn⟩ : ∃ v : Int, (0 ≤ v ∧ v < 3) ∧ PCalls Tryd.prog 18 [.c (.ptr 0 0), .c (.v (.int .i64 3))] [tape L k2] fun r os => r = .c (.v (.int .i64 v)) ∧ os = [tape L (k2 + 1)] := ⟨_, fold_bds _ _ (by decide), next_pure L k2 3 (by omega) (by decide) hL hl⟩
    obtain ⟨q1, hq1⟩ : ∃ q, q = k2 + 1 := ⟨_, rfl⟩
    rw [← hq1] at hn
    obtain ⟨t1, ht1, ho1⟩ : ∃ t, t ∈ ([⟨#[97]⟩, ⟨#[98]⟩, ⟨#[116, 116, 121]⟩, ⟨#[120]⟩] : List ByteArray) ∧ PCalls Tryd.prog 10 [.c (.ptr 0 0), .c (.sl 1 (([⟨#[97]⟩, ⟨#[98]⟩, ⟨#[116, 116, 121]⟩, ⟨#[120]⟩] : List ByteArray).map strD))] [tape L q1] fun r os => r = .c (.v (.string t)) ∧ os = [tape L (q1 + 1)] := ⟨_, pick_mem L q1 _ (by decide), one_pure L q1 _ (by omega) (by decide) (by decide) hL hl⟩
    obtain ⟨q2, hq2⟩ : ∃ q, q = q1 + 1 := ⟨_, rfl⟩
    rw [← hq2] at ho1
    obtain ⟨t2, ht2, ho2⟩ : ∃ t, t ∈ ([⟨#[97]⟩, ⟨#[98]⟩, ⟨#[116, 116, 121]⟩, ⟨#[120]⟩] : List ByteArray) ∧ PCalls Tryd.prog 10 [.c (.ptr 0 0), .c (.sl 1 (([⟨#[97]⟩, ⟨#[98]⟩, ⟨#[116, 116, 121]⟩, ⟨#[120]⟩] : List ByteArray).map strD))] [tape L q2] fun r os => r = .c (.v (.string t)) ∧ os = [tape L (q2 + 1)] := ⟨_, pick_mem L q2 _ (by decide), one_pure L q2 _ (by omega) (by decide) (by decide) hL hl⟩
    obtain ⟨q3, hq3⟩ : ∃ q, q = q2 + 1 := ⟨_, rfl⟩
    rw [← hq3] at ho2
    obtain ⟨t3, ht3, ho3⟩ : ∃ t, t ∈ ([⟨#[97, 110, 110]⟩, ⟨#[98, 111, 98]⟩] : List ByteArray) ∧ PCalls Tryd.prog 10 [.c (.ptr 0 0), .c (.sl 1 (([⟨#[97, 110, 110]⟩, ⟨#[98, 111, 98]⟩] : List ByteArray).map strD))] [tape L q3] fun r os => r = .c (.v (.string t)) ∧ os = [tape L (q3 + 1)] := ⟨_, pick_mem L q3 _ (by decide), one_pure L q3 _ (by omega) (by decide) (by decide) hL hl⟩
    obtain ⟨q4, hq4⟩ : ∃ q, q = q3 + 1 := ⟨_, rfl⟩
    rw [← hq4] at ho3
    simp only [tape] at hn ho1 ho2 ho3
    push_cast [eq_self, iff_self, IntWalk.iteOmega, IntWalk.toNatUp] at hn
    push_cast [eq_self, iff_self, IntWalk.iteOmega, IntWalk.toNatUp] at ho1
    push_cast [eq_self, iff_self, IntWalk.iteOmega, IntWalk.toNatUp] at ho2
    push_cast [eq_self, iff_self, IntWalk.iteOmega, IntWalk.toNatUp] at ho3
    obtain ⟨z1, z2⟩ := w4_size t1 ht1
    have s1 : (((⟨#[47]⟩ : ByteArray).size : Int) + (t1.size : Int) ≤ 9223372036854775807) := by
      have : (⟨#[47]⟩ : ByteArray).size = 1 := rfl
      omega
    repeat' (first |  (refine pl_call2 false [] rfl rfl (by kernel_rfl) hpl ?_ nofun ?_; push_cast [eq_self, iff_self, IntWalk.iteOmega, IntWalk.toNatUp]; rintro r os ⟨rfl, rfl⟩; refine pl_weak (weak_frz 4 (by omega)) ?_; push_cast [eq_self, iff_self, IntWalk.iteOmega, IntWalk.toNatUp]; refine pl_of_pops ?_; push_cast [eq_self, iff_self, IntWalk.iteOmega, IntWalk.toNatUp]) | (refine pl_call2 false [] rfl rfl (by kernel_rfl) (hrp) ?_ nofun ?_; push_cast [eq_self, iff_self, IntWalk.iteOmega, IntWalk.toNatUp]; rintro r os ⟨rfl, rfl⟩; refine pl_of_pops ?_; push_cast [eq_self, iff_self, IntWalk.iteOmega, IntWalk.toNatUp]) | (refine pl_call2 false [] rfl rfl (by kernel_rfl) (hsc) ?_ nofun ?_; push_cast [eq_self, iff_self, IntWalk.iteOmega, IntWalk.toNatUp]; rintro r os ⟨rfl, rfl⟩; refine pl_of_pops ?_; push_cast [eq_self, iff_self, IntWalk.iteOmega, IntWalk.toNatUp]) | (refine pl_call2 false [] rfl rfl (by kernel_rfl) (hf1) ?_ nofun ?_; push_cast [eq_self, iff_self, IntWalk.iteOmega, IntWalk.toNatUp]; rintro r os ⟨rfl, rfl⟩; refine pl_of_pops ?_; push_cast [eq_self, iff_self, IntWalk.iteOmega, IntWalk.toNatUp]) | (refine pl_call2 false [] rfl rfl (by kernel_rfl) (hf2) ?_ nofun ?_; push_cast [eq_self, iff_self, IntWalk.iteOmega, IntWalk.toNatUp]; rintro r os ⟨rfl, rfl⟩; refine pl_of_pops ?_; push_cast [eq_self, iff_self, IntWalk.iteOmega, IntWalk.toNatUp]) | (refine pl_call2 false [] rfl rfl (by kernel_rfl) (hf3) ?_ nofun ?_; push_cast [eq_self, iff_self, IntWalk.iteOmega, IntWalk.toNatUp]; rintro r os ⟨rfl, rfl⟩; refine pl_of_pops ?_; push_cast [eq_self, iff_self, IntWalk.iteOmega, IntWalk.toNatUp]) | (refine pl_call2 false [] rfl rfl (by kernel_rfl) (hf4) ?_ nofun ?_; push_cast [eq_self, iff_self, IntWalk.iteOmega, IntWalk.toNatUp]; rintro r os ⟨rfl, rfl⟩; refine pl_of_pops ?_; push_cast [eq_self, iff_self, IntWalk.iteOmega, IntWalk.toNatUp]) | (refine pl_call2 false [] rfl rfl (by kernel_rfl) (hs1) ?_ nofun ?_; push_cast [eq_self, iff_self, IntWalk.iteOmega, IntWalk.toNatUp]; rintro r os ⟨rfl, rfl⟩; refine pl_of_pops ?_; push_cast [eq_self, iff_self, IntWalk.iteOmega, IntWalk.toNatUp]) | (refine pl_call2 false [] rfl rfl (by kernel_rfl) (hs2) ?_ nofun ?_; push_cast [eq_self, iff_self, IntWalk.iteOmega, IntWalk.toNatUp]; rintro r os ⟨rfl, rfl⟩; refine pl_of_pops ?_; push_cast [eq_self, iff_self, IntWalk.iteOmega, IntWalk.toNatUp]) | (refine pwp_drawn_to ⟨[(10, .c (.own 2 2)), (9, .c (.sl 3 (b.map Acc.d))), (8, .c (.sl 3 (a.map Acc.d))), (7, .c (.ptr 1 0)), (6, .c (.v (.bool false))), (4, .c (.ptr 0 0))], [.box 39 c.e, .box 27 [.sl 1 (L.map fun x => [D.v (.int .i64 x)]), .v (.int .i64 (q4 : Int))], .arr 39 4 ([c, ⟨1 + v, ⟨((⟨#[47]⟩ : ByteArray) ++ t1), t2, t3⟩⟩].map Chg.d)]⟩ (by kernel_rfl) ?_ ?_)  | (refine Kont.use (by assumption) ?_) | (refine pwp_seq fun K hK => ?_) | (refine pwp_block ?_) | (refine pwp_scope ?_) | ((first | (refine pwp_cut 17 [] ?_; first | refine pwp_region ?_ | refine pwp_quiet (by kernel_rfl) (by kernel_rfl) ?_) | refine pwp_exit ?_ | refine pwp_ret ?_ | refine pwp_skip ?_); push_cast [eq_self, iff_self, IntWalk.iteOmega, IntWalk.toNatUp]) | (refine pwp_cond ?_; push_cast [eq_self, iff_self, IntWalk.iteOmega, IntWalk.toNatUp]; try (refine ⟨fun h => ?_, fun h => ?_⟩ <;> (try simp only [decide_eq_true_eq, decide_eq_false_iff_not, Bool.not_eq_true', Bool.not_eq_false', Int.not_lt, Int.not_le, Nat.not_lt, Nat.not_le] at h) <;> (try (first | contradiction | (exfalso; omega) | exact nomatch (Eq.trans (Eq.symm h) (by assumption) : true = false) | exact nomatch (Eq.trans (Eq.symm h) (by assumption) : false = true))))))
    · simp only [List.length_cons, List.length_nil, Nat.reduceAdd]
      clear hA hB hpl hrp hsc hf1 hf2 hf3 hf4 hs1 hs2
      refine pa_hoist 1 (by kernel_rfl) ?_
      push_cast [eq_self, iff_self, IntWalk.iteOmega, IntWalk.toNatUp]
      refine pa_hoist 4 (by kernel_rfl) ?_
      push_cast [eq_self, iff_self, IntWalk.iteOmega, IntWalk.toNatUp]
      refine pa_hoist 8 (by kernel_rfl) ?_
      push_cast [eq_self, iff_self, IntWalk.iteOmega, IntWalk.toNatUp]
      refine pa_hoist 11 (by kernel_rfl) ?_
      push_cast [eq_self, iff_self, IntWalk.iteOmega, IntWalk.toNatUp]
      refine pa_weak (s' := ⟨[(70, .c (.ptr 1 0)), (73, .c (.ptr 1 0)), (77, .c (.ptr 1 0)), (80, .c (.ptr 1 0)), (9, .c (.sl 3 (b.map Acc.d))), (8, .c (.sl 3 (a.map Acc.d))), (7, .c (.ptr 1 0)), (6, .c (.v (.bool false))), (4, .c (.ptr 0 0))], [.box 39 c.e, .box 27 [.sl 1 (L.map fun x => [D.v (.int .i64 x)]), .v (.int .i64 (k2 : Int))]]⟩) (by (refine weak_fg ?_; push_cast [eq_self, iff_self, IntWalk.iteOmega, IntWalk.toNatUp])) ?_
      refine pa_have 2 #[true, true, true, true, true, true, true, true, true, true, true, true, true, true, true, true, false, false] (⟨[(69, .agg c.e), (84, .agg [.v (.int .i64 (1 + v)), .v (.string ((⟨#[47]⟩ : ByteArray) ++ t1)), .v (.string t2), .v (.string t3)]), (9, .c (.sl 3 (b.map Acc.d))), (8, .c (.sl 3 (a.map Acc.d))), (7, .c (.ptr 1 0)), (6, .c (.v (.bool false))), (4, .c (.ptr 0 0))], [.box 39 c.e, .box 27 [.sl 1 (L.map fun x => [D.v (.int .i64 x)]), .v (.int .i64 (q4 : Int))]]⟩ : S) (fun hd0_2_5_6_9_10_12_13_ => ?_) ?_
      rotate_left
      · refine pa_stepL 16 (by kernel_rfl) rfl ?_
        refine pl_litown (e := 39) (sz := 4) (l := [c, ⟨1 + v, ⟨((⟨#[47]⟩ : ByteArray) ++ t1), t2, t3⟩⟩].map Chg.d) rfl (by push_cast [eq_self, iff_self, IntWalk.iteOmega, IntWalk.toNatUp]) (by push_cast [eq_self, iff_self, IntWalk.iteOmega, IntWalk.toNatUp]) (by decide) (by push_cast [eq_self, iff_self, IntWalk.iteOmega, IntWalk.toNatUp]) (by push_cast [eq_self, iff_self, IntWalk.iteOmega, IntWalk.toNatUp]) ?_
        refine pl_of_pops ?_
        push_cast [eq_self, iff_self, IntWalk.iteOmega, IntWalk.toNatUp]
        refine pa_hoist 17 (by kernel_rfl) ?_
        push_cast [eq_self, iff_self, IntWalk.iteOmega, IntWalk.toNatUp]
        refine pa_done (by kernel_rfl) ?_
        (refine weak_fg ?_; push_cast [eq_self, iff_self, IntWalk.iteOmega, IntWalk.toNatUp])
      refine pa_have 5 #[true, true, true, true, true, true, true, true, true, true, true, true, true, false, false, false, false, false] (⟨[(69, .agg c.e), (72, .c (.v (.int .i64 (1 + v)))), (76, .c (.v (.string (((⟨#[47]⟩ : ByteArray) ++ t1))))), (79, .c (.v (.string t2))), (80, .c (.ptr 1 0)), (81, .c (.full 1 [[.v (.string ⟨#[97, 110, 110]⟩)], [.v (.string ⟨#[98, 111, 98]⟩)]])), (9, .c (.sl 3 (b.map Acc.d))), (8, .c (.sl 3 (a.map Acc.d))), (7, .c (.ptr 1 0)), (6, .c (.v (.bool false))), (4, .c (.ptr 0 0))], [.box 39 c.e, .box 27 [.sl 1 (L.map fun x => [D.v (.int .i64 x)]), .v (.int .i64 (q3 : Int))]]⟩ : S) (fun hd0_2_5_6_9_10_12_ => ?_) (by
        refine pa_step [13] (by kernel_rfl) rfl ?_
        push_cast [eq_self, iff_self, IntWalk.iteOmega, IntWalk.toNatUp]
        · (refine pl_call2 false [1] rfl rfl (by kernel_rfl) (ho3) ?_ nofun ?_; push_cast [eq_self, iff_self, IntWalk.iteOmega, IntWalk.toNatUp]; rintro r os ⟨rfl, rfl⟩; refine pl_of_pops ?_; push_cast [eq_self, iff_self, IntWalk.iteOmega, IntWalk.toNatUp])
          refine pa_hoist 14 (by kernel_rfl) ?_
          push_cast [eq_self, iff_self, IntWalk.iteOmega, IntWalk.toNatUp]
          refine pa_hoist 15 (by kernel_rfl) ?_
          push_cast [eq_self, iff_self, IntWalk.iteOmega, IntWalk.toNatUp]
          exact pa_weak (by (refine weak_fg ?_; push_cast [eq_self, iff_self, IntWalk.iteOmega, IntWalk.toNatUp])) hd0_2_5_6_9_10_12_13_)
      refine pa_have 3 #[false, true, true, true, true, true, true, true, true, true, true, true, true, true, true, true, false, false] (⟨[(84, .agg [.v (.int .i64 (1 + v)), .v (.string ((⟨#[47]⟩ : ByteArray) ++ t1)), .v (.string t2), .v (.string t3)]), (9, .c (.sl 3 (b.map Acc.d))), (8, .c (.sl 3 (a.map Acc.d))), (7, .c (.ptr 1 0)), (6, .c (.v (.bool false))), (4, .c (.ptr 0 0))], [.box 39 c.e, .box 27 [.sl 1 (L.map fun x => [D.v (.int .i64 x)]), .v (.int .i64 (q4 : Int))]]⟩ : S) (fun hd2_5_6_9_10_12_13_ => ?_) (by
        refine pa_step [0] (by kernel_rfl) rfl ?_
        push_cast [eq_self, iff_self, IntWalk.iteOmega, IntWalk.toNatUp]
        · exact pa_weak (by (refine weak_fg ?_; push_cast [eq_self, iff_self, IntWalk.iteOmega, IntWalk.toNatUp])) hd0_2_5_6_9_10_12_13_)
      refine pa_have 6 #[true, true, true, true, true, true, true, true, true, true, true, true, false, false, false, false, false, false] (⟨[(69, .agg c.e), (72, .c (.v (.int .i64 (1 + v)))), (76, .c (.v (.string (((⟨#[47]⟩ : ByteArray) ++ t1))))), (79, .c (.v (.string t2))), (80, .c (.ptr 1 0)), (9, .c (.sl 3 (b.map Acc.d))), (8, .c (.sl 3 (a.map Acc.d))), (7, .c (.ptr 1 0)), (6, .c (.v (.bool false))), (4, .c (.ptr 0 0))], [.box 39 c.e, .box 27 [.sl 1 (L.map fun x => [D.v (.int .i64 x)]), .v (.int .i64 (q3 : Int))]]⟩ : S) (fun hd0_2_5_6_9_10_ => ?_) (by
        refine pa_step [12] (by kernel_rfl) rfl ?_
        push_cast [eq_self, iff_self, IntWalk.iteOmega, IntWalk.toNatUp]
        · exact pa_weak (by (refine weak_fg ?_; push_cast [eq_self, iff_self, IntWalk.iteOmega, IntWalk.toNatUp])) hd0_2_5_6_9_10_12_)
      refine pa_have 6 #[true, true, true, true, true, true, true, true, true, true, false, true, true, false, false, false, false, false] (⟨[(69, .agg c.e), (72, .c (.v (.int .i64 (1 + v)))), (76, .c (.v (.string (((⟨#[47]⟩ : ByteArray) ++ t1))))), (77, .c (.ptr 1 0)), (78, .c (.full 1 [[.v (.string ⟨#[97]⟩)], [.v (.string ⟨#[98]⟩)], [.v (.string ⟨#[116, 116, 121]⟩)], [.v (.string ⟨#[120]⟩)]])), (80, .c (.ptr 1 0)), (81, .c (.full 1 [[.v (.string ⟨#[97, 110, 110]⟩)], [.v (.string ⟨#[98, 111, 98]⟩)]])), (9, .c (.sl 3 (b.map Acc.d))), (8, .c (.sl 3 (a.map Acc.d))), (7, .c (.ptr 1 0)), (6, .c (.v (.bool false))), (4, .c (.ptr 0 0))], [.box 39 c.e, .box 27 [.sl 1 (L.map fun x => [D.v (.int .i64 x)]), .v (.int .i64 (q2 : Int))]]⟩ : S) (fun hd0_2_5_6_9_12_ => ?_) (by
        refine pa_step [10] (by kernel_rfl) rfl ?_
        push_cast [eq_self, iff_self, IntWalk.iteOmega, IntWalk.toNatUp]
        · (refine pl_call2 false [1] rfl rfl (by kernel_rfl) (ho2) ?_ nofun ?_; push_cast [eq_self, iff_self, IntWalk.iteOmega, IntWalk.toNatUp]; rintro r os ⟨rfl, rfl⟩; refine pl_of_pops ?_; push_cast [eq_self, iff_self, IntWalk.iteOmega, IntWalk.toNatUp])
          exact pa_weak (by (refine weak_fg ?_; push_cast [eq_self, iff_self, IntWalk.iteOmega, IntWalk.toNatUp])) hd0_2_5_6_9_10_12_)
      refine pa_have 6 #[false, true, true, true, true, true, true, true, true, true, true, true, true, false, false, false, false, false] (⟨[(72, .c (.v (.int .i64 (1 + v)))), (76, .c (.v (.string (((⟨#[47]⟩ : ByteArray) ++ t1))))), (79, .c (.v (.string t2))), (80, .c (.ptr 1 0)), (81, .c (.full 1 [[.v (.string ⟨#[97, 110, 110]⟩)], [.v (.string ⟨#[98, 111, 98]⟩)]])), (9, .c (.sl 3 (b.map Acc.d))), (8, .c (.sl 3 (a.map Acc.d))), (7, .c (.ptr 1 0)), (6, .c (.v (.bool false))), (4, .c (.ptr 0 0))], [.box 39 c.e, .box 27 [.sl 1 (L.map fun x => [D.v (.int .i64 x)]), .v (.int .i64 (q3 : Int))]]⟩ : S) (fun hd2_5_6_9_10_12_ => ?_) (by
        refine pa_step [0, 13] (by kernel_rfl) rfl ?_
        push_cast [eq_self, iff_self, IntWalk.iteOmega, IntWalk.toNatUp]
        refine ⟨?_, ?_⟩
        · exact pa_weak (by (refine weak_fg ?_; push_cast [eq_self, iff_self, IntWalk.iteOmega, IntWalk.toNatUp])) hd0_2_5_6_9_10_12_
        · (refine pl_call2 false [1] rfl rfl (by kernel_rfl) (ho3) ?_ nofun ?_; push_cast [eq_self, iff_self, IntWalk.iteOmega, IntWalk.toNatUp]; rintro r os ⟨rfl, rfl⟩; refine pl_of_pops ?_; push_cast [eq_self, iff_self, IntWalk.iteOmega, IntWalk.toNatUp])
          refine pa_hoist 14 (by kernel_rfl) ?_
          push_cast [eq_self, iff_self, IntWalk.iteOmega, IntWalk.toNatUp]
          refine pa_hoist 15 (by kernel_rfl) ?_
          push_cast [eq_self, iff_self, IntWalk.iteOmega, IntWalk.toNatUp]
          exact pa_weak (by (refine weak_fg ?_; push_cast [eq_self, iff_self, IntWalk.iteOmega, IntWalk.toNatUp])) hd2_5_6_9_10_12_13_)
      refine pa_have 7 #[true, true, true, true, true, true, true, true, true, true, false, true, false, false, false, false, false, false] (⟨[(69, .agg c.e), (72, .c (.v (.int .i64 (1 + v)))), (76, .c (.v (.string (((⟨#[47]⟩ : ByteArray) ++ t1))))), (77, .c (.ptr 1 0)), (78, .c (.full 1 [[.v (.string ⟨#[97]⟩)], [.v (.string ⟨#[98]⟩)], [.v (.string ⟨#[116, 116, 121]⟩)], [.v (.string ⟨#[120]⟩)]])), (80, .c (.ptr 1 0)), (9, .c (.sl 3 (b.map Acc.d))), (8, .c (.sl 3 (a.map Acc.d))), (7, .c (.ptr 1 0)), (6, .c (.v (.bool false))), (4, .c (.ptr 0 0))], [.box 39 c.e, .box 27 [.sl 1 (L.map fun x => [D.v (.int .i64 x)]), .v (.int .i64 (q2 : Int))]]⟩ : S) (fun hd0_2_5_6_9_ => ?_) (by
        refine pa_step [10, 12] (by kernel_rfl) rfl ?_
        push_cast [eq_self, iff_self, IntWalk.iteOmega, IntWalk.toNatUp]
        refine ⟨?_, ?_⟩
        · (refine pl_call2 false [1] rfl rfl (by kernel_rfl) (ho2) ?_ nofun ?_; push_cast [eq_self, iff_self, IntWalk.iteOmega, IntWalk.toNatUp]; rintro r os ⟨rfl, rfl⟩; refine pl_of_pops ?_; push_cast [eq_self, iff_self, IntWalk.iteOmega, IntWalk.toNatUp])
          exact pa_weak (by (refine weak_fg ?_; push_cast [eq_self, iff_self, IntWalk.iteOmega, IntWalk.toNatUp])) hd0_2_5_6_9_10_
        · exact pa_weak (by (refine weak_fg ?_; push_cast [eq_self, iff_self, IntWalk.iteOmega, IntWalk.toNatUp])) hd0_2_5_6_9_12_)
      refine pa_have 7 #[true, true, true, true, true, true, true, true, true, false, false, true, true, false, false, false, false, false] (⟨[(69, .agg c.e), (72, .c (.v (.int .i64 (1 + v)))), (76, .c (.v (.string (((⟨#[47]⟩ : ByteArray) ++ t1))))), (77, .c (.ptr 1 0)), (80, .c (.ptr 1 0)), (81, .c (.full 1 [[.v (.string ⟨#[97, 110, 110]⟩)], [.v (.string ⟨#[98, 111, 98]⟩)]])), (9, .c (.sl 3 (b.map Acc.d))), (8, .c (.sl 3 (a.map Acc.d))), (7, .c (.ptr 1 0)), (6, .c (.v (.bool false))), (4, .c (.ptr 0 0))], [.box 39 c.e, .box 27 [.sl 1 (L.map fun x => [D.v (.int .i64 x)]), .v (.int .i64 (q2 : Int))]]⟩ : S) (fun hd0_2_5_6_12_ => ?_) (by
        refine pa_step [9] (by kernel_rfl) rfl ?_
        push_cast [eq_self, iff_self, IntWalk.iteOmega, IntWalk.toNatUp]
        · exact pa_weak (by (refine weak_fg ?_; push_cast [eq_self, iff_self, IntWalk.iteOmega, IntWalk.toNatUp])) hd0_2_5_6_9_12_)
      refine pa_have 8 #[true, true, true, true, true, true, false, false, true, true, false, true, true, false, false, false, false, false] (⟨[(69, .agg c.e), (72, .c (.v (.int .i64 (1 + v)))), (73, .c (.ptr 1 0)), (74, .c (.full 1 [[.v (.string ⟨#[97]⟩)], [.v (.string ⟨#[98]⟩)], [.v (.string ⟨#[116, 116, 121]⟩)], [.v (.string ⟨#[120]⟩)]])), (77, .c (.ptr 1 0)), (78, .c (.full 1 [[.v (.string ⟨#[97]⟩)], [.v (.string ⟨#[98]⟩)], [.v (.string ⟨#[116, 116, 121]⟩)], [.v (.string ⟨#[120]⟩)]])), (80, .c (.ptr 1 0)), (81, .c (.full 1 [[.v (.string ⟨#[97, 110, 110]⟩)], [.v (.string ⟨#[98, 111, 98]⟩)]])), (9, .c (.sl 3 (b.map Acc.d))), (8, .c (.sl 3 (a.map Acc.d))), (7, .c (.ptr 1 0)), (6, .c (.v (.bool false))), (4, .c (.ptr 0 0))], [.box 39 c.e, .box 27 [.sl 1 (L.map fun x => [D.v (.int .i64 x)]), .v (.int .i64 (q1 : Int))]]⟩ : S) (fun hd0_2_5_9_12_ => ?_) (by
        refine pa_step [6] (by kernel_rfl) rfl ?_
        push_cast [eq_self, iff_self, IntWalk.iteOmega, IntWalk.toNatUp]
        · (refine pl_call2 false [1] rfl rfl (by kernel_rfl) (ho1) ?_ nofun ?_; push_cast [eq_self, iff_self, IntWalk.iteOmega, IntWalk.toNatUp]; rintro r os ⟨rfl, rfl⟩; refine pl_of_pops ?_; push_cast [eq_self, iff_self, IntWalk.iteOmega, IntWalk.toNatUp])
          refine pa_hoist 7 (by kernel_rfl) ?_
          push_cast [eq_self, iff_self, IntWalk.iteOmega, IntWalk.toNatUp, s1]
          exact pa_weak (by (refine weak_fg ?_; push_cast [eq_self, iff_self, IntWalk.iteOmega, IntWalk.toNatUp])) hd0_2_5_6_9_12_)
      refine pa_have 7 #[false, true, true, true, true, true, true, true, true, true, true, true, false, false, false, false, false, false] (⟨[(72, .c (.v (.int .i64 (1 + v)))), (76, .c (.v (.string (((⟨#[47]⟩ : ByteArray) ++ t1))))), (79, .c (.v (.string t2))), (80, .c (.ptr 1 0)), (9, .c (.sl 3 (b.map Acc.d))), (8, .c (.sl 3 (a.map Acc.d))), (7, .c (.ptr 1 0)), (6, .c (.v (.bool false))), (4, .c (.ptr 0 0))], [.box 39 c.e, .box 27 [.sl 1 (L.map fun x => [D.v (.int .i64 x)]), .v (.int .i64 (q3 : Int))]]⟩ : S) (fun hd2_5_6_9_10_ => ?_) (by
        refine pa_step [0, 12] (by kernel_rfl) rfl ?_
        push_cast [eq_self, iff_self, IntWalk.iteOmega, IntWalk.toNatUp]
        refine ⟨?_, ?_⟩
        · exact pa_weak (by (refine weak_fg ?_; push_cast [eq_self, iff_self, IntWalk.iteOmega, IntWalk.toNatUp])) hd0_2_5_6_9_10_
        · exact pa_weak (by (refine weak_fg ?_; push_cast [eq_self, iff_self, IntWalk.iteOmega, IntWalk.toNatUp])) hd2_5_6_9_10_12_)
      refine pa_have 7 #[false, true, true, true, true, true, true, true, true, true, false, true, true, false, false, false, false, false] (⟨[(72, .c (.v (.int .i64 (1 + v)))), (76, .c (.v (.string (((⟨#[47]⟩ : ByteArray) ++ t1))))), (77, .c (.ptr 1 0)), (78, .c (.full 1 [[.v (.string ⟨#[97]⟩)], [.v (.string ⟨#[98]⟩)], [.v (.string ⟨#[116, 116, 121]⟩)], [.v (.string ⟨#[120]⟩)]])), (80, .c (.ptr 1 0)), (81, .c (.full 1 [[.v (.string ⟨#[97, 110, 110]⟩)], [.v (.string ⟨#[98, 111, 98]⟩)]])), (9, .c (.sl 3 (b.map Acc.d))), (8, .c (.sl 3 (a.map Acc.d))), (7, .c (.ptr 1 0)), (6, .c (.v (.bool false))), (4, .c (.ptr 0 0))], [.box 39 c.e, .box 27 [.sl 1 (L.map fun x => [D.v (.int .i64 x)]), .v (.int .i64 (q2 : Int))]]⟩ : S) (fun hd2_5_6_9_12_ => ?_) (by
        refine pa_step [0, 10] (by kernel_rfl) rfl ?_
        push_cast [eq_self, iff_self, IntWalk.iteOmega, IntWalk.toNatUp]
        refine ⟨?_, ?_⟩
        · exact pa_weak (by (refine weak_fg ?_; push_cast [eq_self, iff_self, IntWalk.iteOmega, IntWalk.toNatUp])) hd0_2_5_6_9_12_
        · (refine pl_call2 false [1] rfl rfl (by kernel_rfl) (ho2) ?_ nofun ?_; push_cast [eq_self, iff_self, IntWalk.iteOmega, IntWalk.toNatUp]; rintro r os ⟨rfl, rfl⟩; refine pl_of_pops ?_; push_cast [eq_self, iff_self, IntWalk.iteOmega, IntWalk.toNatUp])
          exact pa_weak (by (refine weak_fg ?_; push_cast [eq_self, iff_self, IntWalk.iteOmega, IntWalk.toNatUp])) hd2_5_6_9_10_12_)
      refine pa_have 8 #[true, true, true, true, true, true, true, true, true, false, false, true, false, false, false, false, false, false] (⟨[(69, .agg c.e), (72, .c (.v (.int .i64 (1 + v)))), (76, .c (.v (.string (((⟨#[47]⟩ : ByteArray) ++ t1))))), (77, .c (.ptr 1 0)), (80, .c (.ptr 1 0)), (9, .c (.sl 3 (b.map Acc.d))), (8, .c (.sl 3 (a.map Acc.d))), (7, .c (.ptr 1 0)), (6, .c (.v (.bool false))), (4, .c (.ptr 0 0))], [.box 39 c.e, .box 27 [.sl 1 (L.map fun x => [D.v (.int .i64 x)]), .v (.int .i64 (q2 : Int))]]⟩ : S) (fun hd0_2_5_6_ => ?_) (by
        refine pa_step [9, 12] (by kernel_rfl) rfl ?_
        push_cast [eq_self, iff_self, IntWalk.iteOmega, IntWalk.toNatUp]
        refine ⟨?_, ?_⟩
        · exact pa_weak (by (refine weak_fg ?_; push_cast [eq_self, iff_self, IntWalk.iteOmega, IntWalk.toNatUp])) hd0_2_5_6_9_
        · exact pa_weak (by (refine weak_fg ?_; push_cast [eq_self, iff_self, IntWalk.iteOmega, IntWalk.toNatUp])) hd0_2_5_6_12_)
      refine pa_have 9 #[true, true, true, true, true, true, false, false, true, true, false, true, false, false, false, false, false, false] (⟨[(69, .agg c.e), (72, .c (.v (.int .i64 (1 + v)))), (73, .c (.ptr 1 0)), (74, .c (.full 1 [[.v (.string ⟨#[97]⟩)], [.v (.string ⟨#[98]⟩)], [.v (.string ⟨#[116, 116, 121]⟩)], [.v (.string ⟨#[120]⟩)]])), (77, .c (.ptr 1 0)), (78, .c (.full 1 [[.v (.string ⟨#[97]⟩)], [.v (.string ⟨#[98]⟩)], [.v (.string ⟨#[116, 116, 121]⟩)], [.v (.string ⟨#[120]⟩)]])), (80, .c (.ptr 1 0)), (9, .c (.sl 3 (b.map Acc.d))), (8, .c (.sl 3 (a.map Acc.d))), (7, .c (.ptr 1 0)), (6, .c (.v (.bool false))), (4, .c (.ptr 0 0))], [.box 39 c.e, .box 27 [.sl 1 (L.map fun x => [D.v (.int .i64 x)]), .v (.int .i64 (q1 : Int))]]⟩ : S) (fun hd0_2_5_9_ => ?_) (by
        refine pa_step [6, 12] (by kernel_rfl) rfl ?_
        push_cast [eq_self, iff_self, IntWalk.iteOmega, IntWalk.toNatUp]
        refine ⟨?_, ?_⟩
        · (refine pl_call2 false [1] rfl rfl (by kernel_rfl) (ho1) ?_ nofun ?_; push_cast [eq_self, iff_self, IntWalk.iteOmega, IntWalk.toNatUp]; rintro r os ⟨rfl, rfl⟩; refine pl_of_pops ?_; push_cast [eq_self, iff_self, IntWalk.iteOmega, IntWalk.toNatUp])
          refine pa_hoist 7 (by kernel_rfl) ?_
          push_cast [eq_self, iff_self, IntWalk.iteOmega, IntWalk.toNatUp, s1]
          exact pa_weak (by (refine weak_fg ?_; push_cast [eq_self, iff_self, IntWalk.iteOmega, IntWalk.toNatUp])) hd0_2_5_6_9_
        · exact pa_weak (by (refine weak_fg ?_; push_cast [eq_self, iff_self, IntWalk.iteOmega, IntWalk.toNatUp])) hd0_2_5_9_12_)
      refine pa_have 9 #[true, true, true, true, true, true, false, false, true, false, false, true, true, false, false, false, false, false] (⟨[(69, .agg c.e), (72, .c (.v (.int .i64 (1 + v)))), (73, .c (.ptr 1 0)), (74, .c (.full 1 [[.v (.string ⟨#[97]⟩)], [.v (.string ⟨#[98]⟩)], [.v (.string ⟨#[116, 116, 121]⟩)], [.v (.string ⟨#[120]⟩)]])), (77, .c (.ptr 1 0)), (80, .c (.ptr 1 0)), (81, .c (.full 1 [[.v (.string ⟨#[97, 110, 110]⟩)], [.v (.string ⟨#[98, 111, 98]⟩)]])), (9, .c (.sl 3 (b.map Acc.d))), (8, .c (.sl 3 (a.map Acc.d))), (7, .c (.ptr 1 0)), (6, .c (.v (.bool false))), (4, .c (.ptr 0 0))], [.box 39 c.e, .box 27 [.sl 1 (L.map fun x => [D.v (.int .i64 x)]), .v (.int .i64 (q1 : Int))]]⟩ : S) (fun hd0_2_5_12_ => ?_) (by
        refine pa_step [6, 9] (by kernel_rfl) rfl ?_
        push_cast [eq_self, iff_self, IntWalk.iteOmega, IntWalk.toNatUp]
        refine ⟨?_, ?_⟩
        · (refine pl_call2 false [1] rfl rfl (by kernel_rfl) (ho1) ?_ nofun ?_; push_cast [eq_self, iff_self, IntWalk.iteOmega, IntWalk.toNatUp]; rintro r os ⟨rfl, rfl⟩; refine pl_of_pops ?_; push_cast [eq_self, iff_self, IntWalk.iteOmega, IntWalk.toNatUp])
          refine pa_hoist 7 (by kernel_rfl) ?_
          push_cast [eq_self, iff_self, IntWalk.iteOmega, IntWalk.toNatUp, s1]
          exact pa_weak (by (refine weak_fg ?_; push_cast [eq_self, iff_self, IntWalk.iteOmega, IntWalk.toNatUp])) hd0_2_5_6_12_
        · exact pa_weak (by (refine weak_fg ?_; push_cast [eq_self, iff_self, IntWalk.iteOmega, IntWalk.toNatUp])) hd0_2_5_9_12_)
      refine pa_have 9 #[true, true, true, true, true, false, false, false, true, true, false, true, true, false, false, false, false, false] (⟨[(69, .agg c.e), (72, .c (.v (.int .i64 (1 + v)))), (73, .c (.ptr 1 0)), (77, .c (.ptr 1 0)), (78, .c (.full 1 [[.v (.string ⟨#[97]⟩)], [.v (.string ⟨#[98]⟩)], [.v (.string ⟨#[116, 116, 121]⟩)], [.v (.string ⟨#[120]⟩)]])), (80, .c (.ptr 1 0)), (81, .c (.full 1 [[.v (.string ⟨#[97, 110, 110]⟩)], [.v (.string ⟨#[98, 111, 98]⟩)]])), (9, .c (.sl 3 (b.map Acc.d))), (8, .c (.sl 3 (a.map Acc.d))), (7, .c (.ptr 1 0)), (6, .c (.v (.bool false))), (4, .c (.ptr 0 0))], [.box 39 c.e, .box 27 [.sl 1 (L.map fun x => [D.v (.int .i64 x)]), .v (.int .i64 (q1 : Int))]]⟩ : S) (fun hd0_2_9_12_ => ?_) (by
        refine pa_step [5] (by kernel_rfl) rfl ?_
        push_cast [eq_self, iff_self, IntWalk.iteOmega, IntWalk.toNatUp]
        · exact pa_weak (by (refine weak_fg ?_; push_cast [eq_self, iff_self, IntWalk.iteOmega, IntWalk.toNatUp])) hd0_2_5_9_12_)
      refine pa_have 10 #[true, true, false, false, true, true, false, false, true, true, false, true, true, false, false, false, false, false] (⟨[(69, .agg c.e), (70, .c (.ptr 1 0)), (73, .c (.ptr 1 0)), (74, .c (.full 1 [[.v (.string ⟨#[97]⟩)], [.v (.string ⟨#[98]⟩)], [.v (.string ⟨#[116, 116, 121]⟩)], [.v (.string ⟨#[120]⟩)]])), (77, .c (.ptr 1 0)), (78, .c (.full 1 [[.v (.string ⟨#[97]⟩)], [.v (.string ⟨#[98]⟩)], [.v (.string ⟨#[116, 116, 121]⟩)], [.v (.string ⟨#[120]⟩)]])), (80, .c (.ptr 1 0)), (81, .c (.full 1 [[.v (.string ⟨#[97, 110, 110]⟩)], [.v (.string ⟨#[98, 111, 98]⟩)]])), (9, .c (.sl 3 (b.map Acc.d))), (8, .c (.sl 3 (a.map Acc.d))), (7, .c (.ptr 1 0)), (6, .c (.v (.bool false))), (4, .c (.ptr 0 0))], [.box 39 c.e, .box 27 [.sl 1 (L.map fun x => [D.v (.int .i64 x)]), .v (.int .i64 (k2 : Int))]]⟩ : S) (fun hd0_5_9_12_ => ?_) (by
        refine pa_step [2] (by kernel_rfl) rfl ?_
        push_cast [eq_self, iff_self, IntWalk.iteOmega, IntWalk.toNatUp]
        · (refine pl_call2 false [1] rfl rfl (by kernel_rfl) (hn) ?_ nofun ?_; push_cast [eq_self, iff_self, IntWalk.iteOmega, IntWalk.toNatUp]; rintro r os ⟨rfl, rfl⟩; refine pl_of_pops ?_; push_cast [eq_self, iff_self, IntWalk.iteOmega, IntWalk.toNatUp])
          refine pa_hoist 3 (by kernel_rfl) ?_
          push_cast [eq_self, iff_self, IntWalk.iteOmega, IntWalk.toNatUp]
          exact pa_weak (by (refine weak_fg ?_; push_cast [eq_self, iff_self, IntWalk.iteOmega, IntWalk.toNatUp])) hd0_2_5_9_12_)
      refine pa_have 8 #[false, true, true, true, true, true, true, true, true, true, false, true, false, false, false, false, false, false] (⟨[(72, .c (.v (.int .i64 (1 + v)))), (76, .c (.v (.string (((⟨#[47]⟩ : ByteArray) ++ t1))))), (77, .c (.ptr 1 0)), (78, .c (.full 1 [[.v (.string ⟨#[97]⟩)], [.v (.string ⟨#[98]⟩)], [.v (.string ⟨#[116, 116, 121]⟩)], [.v (.string ⟨#[120]⟩)]])), (80, .c (.ptr 1 0)), (9, .c (.sl 3 (b.map Acc.d))), (8, .c (.sl 3 (a.map Acc.d))), (7, .c (.ptr 1 0)), (6, .c (.v (.bool false))), (4, .c (.ptr 0 0))], [.box 39 c.e, .box 27 [.sl 1 (L.map fun x => [D.v (.int .i64 x)]), .v (.int .i64 (q2 : Int))]]⟩ : S) (fun hd2_5_6_9_ => ?_) (by
        refine pa_step [0, 10, 12] (by kernel_rfl) rfl ?_
        push_cast [eq_self, iff_self, IntWalk.iteOmega, IntWalk.toNatUp]
        refine ⟨?_, ?_, ?_⟩
        · exact pa_weak (by (refine weak_fg ?_; push_cast [eq_self, iff_self, IntWalk.iteOmega, IntWalk.toNatUp])) hd0_2_5_6_9_
        · (refine pl_call2 false [1] rfl rfl (by kernel_rfl) (ho2) ?_ nofun ?_; push_cast [eq_self, iff_self, IntWalk.iteOmega, IntWalk.toNatUp]; rintro r os ⟨rfl, rfl⟩; refine pl_of_pops ?_; push_cast [eq_self, iff_self, IntWalk.iteOmega, IntWalk.toNatUp])
          exact pa_weak (by (refine weak_fg ?_; push_cast [eq_self, iff_self, IntWalk.iteOmega, IntWalk.toNatUp])) hd2_5_6_9_10_
        · exact pa_weak (by (refine weak_fg ?_; push_cast [eq_self, iff_self, IntWalk.iteOmega, IntWalk.toNatUp])) hd2_5_6_9_12_)
      refine pa_have 8 #[false, true, true, true, true, true, true, true, true, false, false, true, true, false, false, false, false, false] (⟨[(72, .c (.v (.int .i64 (1 + v)))), (76, .c (.v (.string (((⟨#[47]⟩ : ByteArray) ++ t1))))), (77, .c (.ptr 1 0)), (80, .c (.ptr 1 0)), (81, .c (.full 1 [[.v (.string ⟨#[97, 110, 110]⟩)], [.v (.string ⟨#[98, 111, 98]⟩)]])), (9, .c (.sl 3 (b.map Acc.d))), (8, .c (.sl 3 (a.map Acc.d))), (7, .c (.ptr 1 0)), (6, .c (.v (.bool false))), (4, .c (.ptr 0 0))], [.box 39 c.e, .box 27 [.sl 1 (L.map fun x => [D.v (.int .i64 x)]), .v (.int .i64 (q2 : Int))]]⟩ : S) (fun hd2_5_6_12_ => ?_) (by
        refine pa_step [0, 9] (by kernel_rfl) rfl ?_
        push_cast [eq_self, iff_self, IntWalk.iteOmega, IntWalk.toNatUp]
        refine ⟨?_, ?_⟩
        · exact pa_weak (by (refine weak_fg ?_; push_cast [eq_self, iff_self, IntWalk.iteOmega, IntWalk.toNatUp])) hd0_2_5_6_12_
        · exact pa_weak (by (refine weak_fg ?_; push_cast [eq_self, iff_self, IntWalk.iteOmega, IntWalk.toNatUp])) hd2_5_6_9_12_)
      refine pa_have 9 #[false, true, true, true, true, true, false, false, true, true, false, true, true, false, false, false, false, false] (⟨[(72, .c (.v (.int .i64 (1 + v)))), (73, .c (.ptr 1 0)), (74, .c (.full 1 [[.v (.string ⟨#[97]⟩)], [.v (.string ⟨#[98]⟩)], [.v (.string ⟨#[116, 116, 121]⟩)], [.v (.string ⟨#[120]⟩)]])), (77, .c (.ptr 1 0)), (78, .c (.full 1 [[.v (.string ⟨#[97]⟩)], [.v (.string ⟨#[98]⟩)], [.v (.string ⟨#[116, 116, 121]⟩)], [.v (.string ⟨#[120]⟩)]])), (80, .c (.ptr 1 0)), (81, .c (.full 1 [[.v (.string ⟨#[97, 110, 110]⟩)], [.v (.string ⟨#[98, 111, 98]⟩)]])), (9, .c (.sl 3 (b.map Acc.d))), (8, .c (.sl 3 (a.map Acc.d))), (7, .c (.ptr 1 0)), (6, .c (.v (.bool false))), (4, .c (.ptr 0 0))], [.box 39 c.e, .box 27 [.sl 1 (L.map fun x => [D.v (.int .i64 x)]), .v (.int .i64 (q1 : Int))]]⟩ : S) (fun hd2_5_9_12_ => ?_) (by
        refine pa_step [0, 6] (by kernel_rfl) rfl ?_
        push_cast [eq_self, iff_self, IntWalk.iteOmega, IntWalk.toNatUp]
        refine ⟨?_, ?_⟩
        · exact pa_weak (by (refine weak_fg ?_; push_cast [eq_self, iff_self, IntWalk.iteOmega, IntWalk.toNatUp])) hd0_2_5_9_12_
        · (refine pl_call2 false [1] rfl rfl (by kernel_rfl) (ho1) ?_ nofun ?_; push_cast [eq_self, iff_self, IntWalk.iteOmega, IntWalk.toNatUp]; rintro r os ⟨rfl, rfl⟩; refine pl_of_pops ?_; push_cast [eq_self, iff_self, IntWalk.iteOmega, IntWalk.toNatUp])
          refine pa_hoist 7 (by kernel_rfl) ?_
          push_cast [eq_self, iff_self, IntWalk.iteOmega, IntWalk.toNatUp, s1]
          exact pa_weak (by (refine weak_fg ?_; push_cast [eq_self, iff_self, IntWalk.iteOmega, IntWalk.toNatUp])) hd2_5_6_9_12_)
      refine pa_have 10 #[true, true, true, true, true, true, false, false, true, false, false, true, false, false, false, false, false, false] (⟨[(69, .agg c.e), (72, .c (.v (.int .i64 (1 + v)))), (73, .c (.ptr 1 0)), (74, .c (.full 1 [[.v (.string ⟨#[97]⟩)], [.v (.string ⟨#[98]⟩)], [.v (.string ⟨#[116, 116, 121]⟩)], [.v (.string ⟨#[120]⟩)]])), (77, .c (.ptr 1 0)), (80, .c (.ptr 1 0)), (9, .c (.sl 3 (b.map Acc.d))), (8, .c (.sl 3 (a.map Acc.d))), (7, .c (.ptr 1 0)), (6, .c (.v (.bool false))), (4, .c (.ptr 0 0))], [.box 39 c.e, .box 27 [.sl 1 (L.map fun x => [D.v (.int .i64 x)]), .v (.int .i64 (q1 : Int))]]⟩ : S) (fun hd0_2_5_ => ?_) (by
        refine pa_step [6, 9, 12] (by kernel_rfl) rfl ?_
        push_cast [eq_self, iff_self, IntWalk.iteOmega, IntWalk.toNatUp]
        refine ⟨?_, ?_, ?_⟩
        · (refine pl_call2 false [1] rfl rfl (by kernel_rfl) (ho1) ?_ nofun ?_; push_cast [eq_self, iff_self, IntWalk.iteOmega, IntWalk.toNatUp]; rintro r os ⟨rfl, rfl⟩; refine pl_of_pops ?_; push_cast [eq_self, iff_self, IntWalk.iteOmega, IntWalk.toNatUp])
          refine pa_hoist 7 (by kernel_rfl) ?_
          push_cast [eq_self, iff_self, IntWalk.iteOmega, IntWalk.toNatUp, s1]
          exact pa_weak (by (refine weak_fg ?_; push_cast [eq_self, iff_self, IntWalk.iteOmega, IntWalk.toNatUp])) hd0_2_5_6_
        · exact pa_weak (by (refine weak_fg ?_; push_cast [eq_self, iff_self, IntWalk.iteOmega, IntWalk.toNatUp])) hd0_2_5_9_
        · exact pa_weak (by (refine weak_fg ?_; push_cast [eq_self, iff_self, IntWalk.iteOmega, IntWalk.toNatUp])) hd0_2_5_12_)
      refine pa_have 10 #[true, true, true, true, true, false, false, false, true, true, false, true, false, false, false, false, false, false] (⟨[(69, .agg c.e), (72, .c (.v (.int .i64 (1 + v)))), (73, .c (.ptr 1 0)), (77, .c (.ptr 1 0)), (78, .c (.full 1 [[.v (.string ⟨#[97]⟩)], [.v (.string ⟨#[98]⟩)], [.v (.string ⟨#[116, 116, 121]⟩)], [.v (.string ⟨#[120]⟩)]])), (80, .c (.ptr 1 0)), (9, .c (.sl 3 (b.map Acc.d))), (8, .c (.sl 3 (a.map Acc.d))), (7, .c (.ptr 1 0)), (6, .c (.v (.bool false))), (4, .c (.ptr 0 0))], [.box 39 c.e, .box 27 [.sl 1 (L.map fun x => [D.v (.int .i64 x)]), .v (.int .i64 (q1 : Int))]]⟩ : S) (fun hd0_2_9_ => ?_) (by
        refine pa_step [5, 12] (by kernel_rfl) rfl ?_
        push_cast [eq_self, iff_self, IntWalk.iteOmega, IntWalk.toNatUp]
        refine ⟨?_, ?_⟩
        · exact pa_weak (by (refine weak_fg ?_; push_cast [eq_self, iff_self, IntWalk.iteOmega, IntWalk.toNatUp])) hd0_2_5_9_
        · exact pa_weak (by (refine weak_fg ?_; push_cast [eq_self, iff_self, IntWalk.iteOmega, IntWalk.toNatUp])) hd0_2_9_12_)
      refine pa_have 10 #[true, true, true, true, true, false, false, false, true, false, false, true, true, false, false, false, false, false] (⟨[(69, .agg c.e), (72, .c (.v (.int .i64 (1 + v)))), (73, .c (.ptr 1 0)), (77, .c (.ptr 1 0)), (80, .c (.ptr 1 0)), (81, .c (.full 1 [[.v (.string ⟨#[97, 110, 110]⟩)], [.v (.string ⟨#[98, 111, 98]⟩)]])), (9, .c (.sl 3 (b.map Acc.d))), (8, .c (.sl 3 (a.map Acc.d))), (7, .c (.ptr 1 0)), (6, .c (.v (.bool false))), (4, .c (.ptr 0 0))], [.box 39 c.e, .box 27 [.sl 1 (L.map fun x => [D.v (.int .i64 x)]), .v (.int .i64 (q1 : Int))]]⟩ : S) (fun hd0_2_12_ => ?_) (by
        refine pa_step [5, 9] (by kernel_rfl) rfl ?_
        push_cast [eq_self, iff_self, IntWalk.iteOmega, IntWalk.toNatUp]
        refine ⟨?_, ?_⟩
        · exact pa_weak (by (refine weak_fg ?_; push_cast [eq_self, iff_self, IntWalk.iteOmega, IntWalk.toNatUp])) hd0_2_5_12_
        · exact pa_weak (by (refine weak_fg ?_; push_cast [eq_self, iff_self, IntWalk.iteOmega, IntWalk.toNatUp])) hd0_2_9_12_)
      refine pa_have 11 #[true, true, false, false, true, true, false, false, true, true, false, true, false, false, false, false, false, false] (⟨[(69, .agg c.e), (70, .c (.ptr 1 0)), (73, .c (.ptr 1 0)), (74, .c (.full 1 [[.v (.string ⟨#[97]⟩)], [.v (.string ⟨#[98]⟩)], [.v (.string ⟨#[116, 116, 121]⟩)], [.v (.string ⟨#[120]⟩)]])), (77, .c (.ptr 1 0)), (78, .c (.full 1 [[.v (.string ⟨#[97]⟩)], [.v (.string ⟨#[98]⟩)], [.v (.string ⟨#[116, 116, 121]⟩)], [.v (.string ⟨#[120]⟩)]])), (80, .c (.ptr 1 0)), (9, .c (.sl 3 (b.map Acc.d))), (8, .c (.sl 3 (a.map Acc.d))), (7, .c (.ptr 1 0)), (6, .c (.v (.bool false))), (4, .c (.ptr 0 0))], [.box 39 c.e, .box 27 [.sl 1 (L.map fun x => [D.v (.int .i64 x)]), .v (.int .i64 (k2 : Int))]]⟩ : S) (fun hd0_5_9_ => ?_) (by
        refine pa_step [2, 12] (by kernel_rfl) rfl ?_
        push_cast [eq_self, iff_self, IntWalk.iteOmega, IntWalk.toNatUp]
        refine ⟨?_, ?_⟩
        · (refine pl_call2 false [1] rfl rfl (by kernel_rfl) (hn) ?_ nofun ?_; push_cast [eq_self, iff_self, IntWalk.iteOmega, IntWalk.toNatUp]; rintro r os ⟨rfl, rfl⟩; refine pl_of_pops ?_; push_cast [eq_self, iff_self, IntWalk.iteOmega, IntWalk.toNatUp])
          refine pa_hoist 3 (by kernel_rfl) ?_
          push_cast [eq_self, iff_self, IntWalk.iteOmega, IntWalk.toNatUp]
          exact pa_weak (by (refine weak_fg ?_; push_cast [eq_self, iff_self, IntWalk.iteOmega, IntWalk.toNatUp])) hd0_2_5_9_
        · exact pa_weak (by (refine weak_fg ?_; push_cast [eq_self, iff_self, IntWalk.iteOmega, IntWalk.toNatUp])) hd0_5_9_12_)
      refine pa_have 11 #[true, true, false, false, true, true, false, false, true, false, false, true, true, false, false, false, false, false] (⟨[(69, .agg c.e), (70, .c (.ptr 1 0)), (73, .c (.ptr 1 0)), (74, .c (.full 1 [[.v (.string ⟨#[97]⟩)], [.v (.string ⟨#[98]⟩)], [.v (.string ⟨#[116, 116, 121]⟩)], [.v (.string ⟨#[120]⟩)]])), (77, .c (.ptr 1 0)), (80, .c (.ptr 1 0)), (81, .c (.full 1 [[.v (.string ⟨#[97, 110, 110]⟩)], [.v (.string ⟨#[98, 111, 98]⟩)]])), (9, .c (.sl 3 (b.map Acc.d))), (8, .c (.sl 3 (a.map Acc.d))), (7, .c (.ptr 1 0)), (6, .c (.v (.bool false))), (4, .c (.ptr 0 0))], [.box 39 c.e, .box 27 [.sl 1 (L.map fun x => [D.v (.int .i64 x)]), .v (.int .i64 (k2 : Int))]]⟩ : S) (fun hd0_5_12_ => ?_) (by
        refine pa_step [2, 9] (by kernel_rfl) rfl ?_
        push_cast [eq_self, iff_self, IntWalk.iteOmega, IntWalk.toNatUp]
        refine ⟨?_, ?_⟩
        · (refine pl_call2 false [1] rfl rfl (by kernel_rfl) (hn) ?_ nofun ?_; push_cast [eq_self, iff_self, IntWalk.iteOmega, IntWalk.toNatUp]; rintro r os ⟨rfl, rfl⟩; refine pl_of_pops ?_; push_cast [eq_self, iff_self, IntWalk.iteOmega, IntWalk.toNatUp])
          refine pa_hoist 3 (by kernel_rfl) ?_
          push_cast [eq_self, iff_self, IntWalk.iteOmega, IntWalk.toNatUp]
          exact pa_weak (by (refine weak_fg ?_; push_cast [eq_self, iff_self, IntWalk.iteOmega, IntWalk.toNatUp])) hd0_2_5_12_
        · exact pa_weak (by (refine weak_fg ?_; push_cast [eq_self, iff_self, IntWalk.iteOmega, IntWalk.toNatUp])) hd0_5_9_12_)
      refine pa_have 11 #[true, true, false, false, true, false, false, false, true, true, false, true, true, false, false, false, false, false] (⟨[(69, .agg c.e), (70, .c (.ptr 1 0)), (73, .c (.ptr 1 0)), (77, .c (.ptr 1 0)), (78, .c (.full 1 [[.v (.string ⟨#[97]⟩)], [.v (.string ⟨#[98]⟩)], [.v (.string ⟨#[116, 116, 121]⟩)], [.v (.string ⟨#[120]⟩)]])), (80, .c (.ptr 1 0)), (81, .c (.full 1 [[.v (.string ⟨#[97, 110, 110]⟩)], [.v (.string ⟨#[98, 111, 98]⟩)]])), (9, .c (.sl 3 (b.map Acc.d))), (8, .c (.sl 3 (a.map Acc.d))), (7, .c (.ptr 1 0)), (6, .c (.v (.bool false))), (4, .c (.ptr 0 0))], [.box 39 c.e, .box 27 [.sl 1 (L.map fun x => [D.v (.int .i64 x)]), .v (.int .i64 (k2 : Int))]]⟩ : S) (fun hd0_9_12_ => ?_) (by
        refine pa_step [2, 5] (by kernel_rfl) rfl ?_
        push_cast [eq_self, iff_self, IntWalk.iteOmega, IntWalk.toNatUp]
        refine ⟨?_, ?_⟩
        · (refine pl_call2 false [1] rfl rfl (by kernel_rfl) (hn) ?_ nofun ?_; push_cast [eq_self, iff_self, IntWalk.iteOmega, IntWalk.toNatUp]; rintro r os ⟨rfl, rfl⟩; refine pl_of_pops ?_; push_cast [eq_self, iff_self, IntWalk.iteOmega, IntWalk.toNatUp])
          refine pa_hoist 3 (by kernel_rfl) ?_
          push_cast [eq_self, iff_self, IntWalk.iteOmega, IntWalk.toNatUp]
          exact pa_weak (by (refine weak_fg ?_; push_cast [eq_self, iff_self, IntWalk.iteOmega, IntWalk.toNatUp])) hd0_2_9_12_
        · exact pa_weak (by (refine weak_fg ?_; push_cast [eq_self, iff_self, IntWalk.iteOmega, IntWalk.toNatUp])) hd0_5_9_12_)
      refine pa_have 9 #[false, true, true, true, true, true, true, true, true, false, false, true, false, false, false, false, false, false] (⟨[(72, .c (.v (.int .i64 (1 + v)))), (76, .c (.v (.string (((⟨#[47]⟩ : ByteArray) ++ t1))))), (77, .c (.ptr 1 0)), (80, .c (.ptr 1 0)), (9, .c (.sl 3 (b.map Acc.d))), (8, .c (.sl 3 (a.map Acc.d))), (7, .c (.ptr 1 0)), (6, .c (.v (.bool false))), (4, .c (.ptr 0 0))], [.box 39 c.e, .box 27 [.sl 1 (L.map fun x => [D.v (.int .i64 x)]), .v (.int .i64 (q2 : Int))]]⟩ : S) (fun hd2_5_6_ => ?_) (by
        refine pa_step [0, 9, 12] (by kernel_rfl) rfl ?_
        push_cast [eq_self, iff_self, IntWalk.iteOmega, IntWalk.toNatUp]
        refine ⟨?_, ?_, ?_⟩
        · exact pa_weak (by (refine weak_fg ?_; push_cast [eq_self, iff_self, IntWalk.iteOmega, IntWalk.toNatUp])) hd0_2_5_6_
        · exact pa_weak (by (refine weak_fg ?_; push_cast [eq_self, iff_self, IntWalk.iteOmega, IntWalk.toNatUp])) hd2_5_6_9_
        · exact pa_weak (by (refine weak_fg ?_; push_cast [eq_self, iff_self, IntWalk.iteOmega, IntWalk.toNatUp])) hd2_5_6_12_)
      refine pa_have 10 #[false, true, true, true, true, true, false, false, true, true, false, true, false, false, false, false, false, false] (⟨[(72, .c (.v (.int .i64 (1 + v)))), (73, .c (.ptr 1 0)), (74, .c (.full 1 [[.v (.string ⟨#[97]⟩)], [.v (.string ⟨#[98]⟩)], [.v (.string ⟨#[116, 116, 121]⟩)], [.v (.string ⟨#[120]⟩)]])), (77, .c (.ptr 1 0)), (78, .c (.full 1 [[.v (.string ⟨#[97]⟩)], [.v (.string ⟨#[98]⟩)], [.v (.string ⟨#[116, 116, 121]⟩)], [.v (.string ⟨#[120]⟩)]])), (80, .c (.ptr 1 0)), (9, .c (.sl 3 (b.map Acc.d))), (8, .c (.sl 3 (a.map Acc.d))), (7, .c (.ptr 1 0)), (6, .c (.v (.bool false))), (4, .c (.ptr 0 0))], [.box 39 c.e, .box 27 [.sl 1 (L.map fun x => [D.v (.int .i64 x)]), .v (.int .i64 (q1 : Int))]]⟩ : S) (fun hd2_5_9_ => ?_) (by
        refine pa_step [0, 6, 12] (by kernel_rfl) rfl ?_
        push_cast [eq_self, iff_self, IntWalk.iteOmega, IntWalk.toNatUp]
        refine ⟨?_, ?_, ?_⟩
        · exact pa_weak (by (refine weak_fg ?_; push_cast [eq_self, iff_self, IntWalk.iteOmega, IntWalk.toNatUp])) hd0_2_5_9_
        · (refine pl_call2 false [1] rfl rfl (by kernel_rfl) (ho1) ?_ nofun ?_; push_cast [eq_self, iff_self, IntWalk.iteOmega, IntWalk.toNatUp]; rintro r os ⟨rfl, rfl⟩; refine pl_of_pops ?_; push_cast [eq_self, iff_self, IntWalk.iteOmega, IntWalk.toNatUp])
          refine pa_hoist 7 (by kernel_rfl) ?_
          push_cast [eq_self, iff_self, IntWalk.iteOmega, IntWalk.toNatUp, s1]
          exact pa_weak (by (refine weak_fg ?_; push_cast [eq_self, iff_self, IntWalk.iteOmega, IntWalk.toNatUp])) hd2_5_6_9_
        · exact pa_weak (by (refine weak_fg ?_; push_cast [eq_self, iff_self, IntWalk.iteOmega, IntWalk.toNatUp])) hd2_5_9_12_)
      refine pa_have 10 #[false, true, true, true, true, true, false, false, true, false, false, true, true, false, false, false, false, false] (⟨[(72, .c (.v (.int .i64 (1 + v)))), (73, .c (.ptr 1 0)), (74, .c (.full 1 [[.v (.string ⟨#[97]⟩)], [.v (.string ⟨#[98]⟩)], [.v (.string ⟨#[116, 116, 121]⟩)], [.v (.string ⟨#[120]⟩)]])), (77, .c (.ptr 1 0)), (80, .c (.ptr 1 0)), (81, .c (.full 1 [[.v (.string ⟨#[97, 110, 110]⟩)], [.v (.string ⟨#[98, 111, 98]⟩)]])), (9, .c (.sl 3 (b.map Acc.d))), (8, .c (.sl 3 (a.map Acc.d))), (7, .c (.ptr 1 0)), (6, .c (.v (.bool false))), (4, .c (.ptr 0 0))], [.box 39 c.e, .box 27 [.sl 1 (L.map fun x => [D.v (.int .i64 x)]), .v (.int .i64 (q1 : Int))]]⟩ : S) (fun hd2_5_12_ => ?_) (by
        refine pa_step [0, 6, 9] (by kernel_rfl) rfl ?_
        push_cast [eq_self, iff_self, IntWalk.iteOmega, IntWalk.toNatUp]
        refine ⟨?_, ?_, ?_⟩
        · exact pa_weak (by (refine weak_fg ?_; push_cast [eq_self, iff_self, IntWalk.iteOmega, IntWalk.toNatUp])) hd0_2_5_12_
        · (refine pl_call2 false [1] rfl rfl (by kernel_rfl) (ho1) ?_ nofun ?_; push_cast [eq_self, iff_self, IntWalk.iteOmega, IntWalk.toNatUp]; rintro r os ⟨rfl, rfl⟩; refine pl_of_pops ?_; push_cast [eq_self, iff_self, IntWalk.iteOmega, IntWalk.toNatUp])
          refine pa_hoist 7 (by kernel_rfl) ?_
          push_cast [eq_self, iff_self, IntWalk.iteOmega, IntWalk.toNatUp, s1]
          exact pa_weak (by (refine weak_fg ?_; push_cast [eq_self, iff_self, IntWalk.iteOmega, IntWalk.toNatUp])) hd2_5_6_12_
        · exact pa_weak (by (refine weak_fg ?_; push_cast [eq_self, iff_self, IntWalk.iteOmega, IntWalk.toNatUp])) hd2_5_9_12_)
      refine pa_have 10 #[false, true, true, true, true, false, false, false, true, true, false, true, true, false, false, false, false, false] (⟨[(72, .c (.v (.int .i64 (1 + v)))), (73, .c (.ptr 1 0)), (77, .c (.ptr 1 0)), (78, .c (.full 1 [[.v (.string ⟨#[97]⟩)], [.v (.string ⟨#[98]⟩)], [.v (.string ⟨#[116, 116, 121]⟩)], [.v (.string ⟨#[120]⟩)]])), (80, .c (.ptr 1 0)), (81, .c (.full 1 [[.v (.string ⟨#[97, 110, 110]⟩)], [.v (.string ⟨#[98, 111, 98]⟩)]])), (9, .c (.sl 3 (b.map Acc.d))), (8, .c (.sl 3 (a.map Acc.d))), (7, .c (.ptr 1 0)), (6, .c (.v (.bool false))), (4, .c (.ptr 0 0))], [.box 39 c.e, .box 27 [.sl 1 (L.map fun x => [D.v (.int .i64 x)]), .v (.int .i64 (q1 : Int))]]⟩ : S) (fun hd2_9_12_ => ?_) (by
        refine pa_step [0, 5] (by kernel_rfl) rfl ?_
        push_cast [eq_self, iff_self, IntWalk.iteOmega, IntWalk.toNatUp]
        refine ⟨?_, ?_⟩
        · exact pa_weak (by (refine weak_fg ?_; push_cast [eq_self, iff_self, IntWalk.iteOmega, IntWalk.toNatUp])) hd0_2_9_12_
        · exact pa_weak (by (refine weak_fg ?_; push_cast [eq_self, iff_self, IntWalk.iteOmega, IntWalk.toNatUp])) hd2_5_9_12_)
      refine pa_have 11 #[false, true, false, false, true, true, false, false, true, true, false, true, true, false, false, false, false, false] (⟨[(70, .c (.ptr 1 0)), (73, .c (.ptr 1 0)), (74, .c (.full 1 [[.v (.string ⟨#[97]⟩)], [.v (.string ⟨#[98]⟩)], [.v (.string ⟨#[116, 116, 121]⟩)], [.v (.string ⟨#[120]⟩)]])), (77, .c (.ptr 1 0)), (78, .c (.full 1 [[.v (.string ⟨#[97]⟩)], [.v (.string ⟨#[98]⟩)], [.v (.string ⟨#[116, 116, 121]⟩)], [.v (.string ⟨#[120]⟩)]])), (80, .c (.ptr 1 0)), (81, .c (.full 1 [[.v (.string ⟨#[97, 110, 110]⟩)], [.v (.string ⟨#[98, 111, 98]⟩)]])), (9, .c (.sl 3 (b.map Acc.d))), (8, .c (.sl 3 (a.map Acc.d))), (7, .c (.ptr 1 0)), (6, .c (.v (.bool false))), (4, .c (.ptr 0 0))], [.box 39 c.e, .box 27 [.sl 1 (L.map fun x => [D.v (.int .i64 x)]), .v (.int .i64 (k2 : Int))]]⟩ : S) (fun hd5_9_12_ => ?_) (by
        refine pa_step [0, 2] (by kernel_rfl) rfl ?_
        push_cast [eq_self, iff_self, IntWalk.iteOmega, IntWalk.toNatUp]
        refine ⟨?_, ?_⟩
        · exact pa_weak (by (refine weak_fg ?_; push_cast [eq_self, iff_self, IntWalk.iteOmega, IntWalk.toNatUp])) hd0_5_9_12_
        · (refine pl_call2 false [1] rfl rfl (by kernel_rfl) (hn) ?_ nofun ?_; push_cast [eq_self, iff_self, IntWalk.iteOmega, IntWalk.toNatUp]; rintro r os ⟨rfl, rfl⟩; refine pl_of_pops ?_; push_cast [eq_self, iff_self, IntWalk.iteOmega, IntWalk.toNatUp])
          refine pa_hoist 3 (by kernel_rfl) ?_
          push_cast [eq_self, iff_self, IntWalk.iteOmega, IntWalk.toNatUp]
          exact pa_weak (by (refine weak_fg ?_; push_cast [eq_self, iff_self, IntWalk.iteOmega, IntWalk.toNatUp])) hd2_5_9_12_)
      refine pa_have 11 #[true, true, true, true, true, false, false, false, true, false, false, true, false, false, false, false, false, false] (⟨[(69, .agg c.e), (72, .c (.v (.int .i64 (1 + v)))), (73, .c (.ptr 1 0)), (77, .c (.ptr 1 0)), (80, .c (.ptr 1 0)), (9, .c (.sl 3 (b.map Acc.d))), (8, .c (.sl 3 (a.map Acc.d))), (7, .c (.ptr 1 0)), (6, .c (.v (.bool false))), (4, .c (.ptr 0 0))], [.box 39 c.e, .box 27 [.sl 1 (L.map fun x => [D.v (.int .i64 x)]), .v (.int .i64 (q1 : Int))]]⟩ : S) (fun hd0_2_ => ?_) (by
        refine pa_step [5, 9, 12] (by kernel_rfl) rfl ?_
        push_cast [eq_self, iff_self, IntWalk.iteOmega, IntWalk.toNatUp]
        refine ⟨?_, ?_, ?_⟩
        · exact pa_weak (by (refine weak_fg ?_; push_cast [eq_self, iff_self, IntWalk.iteOmega, IntWalk.toNatUp])) hd0_2_5_
        · exact pa_weak (by (refine weak_fg ?_; push_cast [eq_self, iff_self, IntWalk.iteOmega, IntWalk.toNatUp])) hd0_2_9_
        · exact pa_weak (by (refine weak_fg ?_; push_cast [eq_self, iff_self, IntWalk.iteOmega, IntWalk.toNatUp])) hd0_2_12_)
      refine pa_have 12 #[true, true, false, false, true, true, false, false, true, false, false, true, false, false, false, false, false, false] (⟨[(69, .agg c.e), (70, .c (.ptr 1 0)), (73, .c (.ptr 1 0)), (74, .c (.full 1 [[.v (.string ⟨#[97]⟩)], [.v (.string ⟨#[98]⟩)], [.v (.string ⟨#[116, 116, 121]⟩)], [.v (.string ⟨#[120]⟩)]])), (77, .c (.ptr 1 0)), (80, .c (.ptr 1 0)), (9, .c (.sl 3 (b.map Acc.d))), (8, .c (.sl 3 (a.map Acc.d))), (7, .c (.ptr 1 0)), (6, .c (.v (.bool false))), (4, .c (.ptr 0 0))], [.box 39 c.e, .box 27 [.sl 1 (L.map fun x => [D.v (.int .i64 x)]), .v (.int .i64 (k2 : Int))]]⟩ : S) (fun hd0_5_ => ?_) (by
        refine pa_step [2, 9, 12] (by kernel_rfl) rfl ?_
        push_cast [eq_self, iff_self, IntWalk.iteOmega, IntWalk.toNatUp]
        refine ⟨?_, ?_, ?_⟩
        · (refine pl_call2 false [1] rfl rfl (by kernel_rfl) (hn) ?_ nofun ?_; push_cast [eq_self, iff_self, IntWalk.iteOmega, IntWalk.toNatUp]; rintro r os ⟨rfl, rfl⟩; refine pl_of_pops ?_; push_cast [eq_self, iff_self, IntWalk.iteOmega, IntWalk.toNatUp])
          refine pa_hoist 3 (by kernel_rfl) ?_
          push_cast [eq_self, iff_self, IntWalk.iteOmega, IntWalk.toNatUp]
          exact pa_weak (by (refine weak_fg ?_; push_cast [eq_self, iff_self, IntWalk.iteOmega, IntWalk.toNatUp])) hd0_2_5_
        · exact pa_weak (by (refine weak_fg ?_; push_cast [eq_self, iff_self, IntWalk.iteOmega, IntWalk.toNatUp])) hd0_5_9_
        · exact pa_weak (by (refine weak_fg ?_; push_cast [eq_self, iff_self, IntWalk.iteOmega, IntWalk.toNatUp])) hd0_5_12_)
      refine pa_have 12 #[true, true, false, false, true, false, false, false, true, true, false, true, false, false, false, false, false, false] (⟨[(69, .agg c.e), (70, .c (.ptr 1 0)), (73, .c (.ptr 1 0)), (77, .c (.ptr 1 0)), (78, .c (.full 1 [[.v (.string ⟨#[97]⟩)], [.v (.string ⟨#[98]⟩)], [.v (.string ⟨#[116, 116, 121]⟩)], [.v (.string ⟨#[120]⟩)]])), (80, .c (.ptr 1 0)), (9, .c (.sl 3 (b.map Acc.d))), (8, .c (.sl 3 (a.map Acc.d))), (7, .c (.ptr 1 0)), (6, .c (.v (.bool false))), (4, .c (.ptr 0 0))], [.box 39 c.e, .box 27 [.sl 1 (L.map fun x => [D.v (.int .i64 x)]), .v (.int .i64 (k2 : Int))]]⟩ : S) (fun hd0_9_ => ?_) (by
        refine pa_step [2, 5, 12] (by kernel_rfl) rfl ?_
        push_cast [eq_self, iff_self, IntWalk.iteOmega, IntWalk.toNatUp]
        refine ⟨?_, ?_, ?_⟩
        · (refine pl_call2 false [1] rfl rfl (by kernel_rfl) (hn) ?_ nofun ?_; push_cast [eq_self, iff_self, IntWalk.iteOmega, IntWalk.toNatUp]; rintro r os ⟨rfl, rfl⟩; refine pl_of_pops ?_; push_cast [eq_self, iff_self, IntWalk.iteOmega, IntWalk.toNatUp])
          refine pa_hoist 3 (by kernel_rfl) ?_
          push_cast [eq_self, iff_self, IntWalk.iteOmega, IntWalk.toNatUp]
          exact pa_weak (by (refine weak_fg ?_; push_cast [eq_self, iff_self, IntWalk.iteOmega, IntWalk.toNatUp])) hd0_2_9_
        · exact pa_weak (by (refine weak_fg ?_; push_cast [eq_self, iff_self, IntWalk.iteOmega, IntWalk.toNatUp])) hd0_5_9_
        · exact pa_weak (by (refine weak_fg ?_; push_cast [eq_self, iff_self, IntWalk.iteOmega, IntWalk.toNatUp])) hd0_9_12_)
      refine pa_have 12 #[true, true, false, false, true, false, false, false, true, false, false, true, true, false, false, false, false, false] (⟨[(69, .agg c.e), (70, .c (.ptr 1 0)), (73, .c (.ptr 1 0)), (77, .c (.ptr 1 0)), (80, .c (.ptr 1 0)), (81, .c (.full 1 [[.v (.string ⟨#[97, 110, 110]⟩)], [.v (.string ⟨#[98, 111, 98]⟩)]])), (9, .c (.sl 3 (b.map Acc.d))), (8, .c (.sl 3 (a.map Acc.d))), (7, .c (.ptr 1 0)), (6, .c (.v (.bool false))), (4, .c (.ptr 0 0))], [.box 39 c.e, .box 27 [.sl 1 (L.map fun x => [D.v (.int .i64 x)]), .v (.int .i64 (k2 : Int))]]⟩ : S) (fun hd0_12_ => ?_) (by
        refine pa_step [2, 5, 9] (by kernel_rfl) rfl ?_
        push_cast [eq_self, iff_self, IntWalk.iteOmega, IntWalk.toNatUp]
        refine ⟨?_, ?_, ?_⟩
        · (refine pl_call2 false [1] rfl rfl (by kernel_rfl) (hn) ?_ nofun ?_; push_cast [eq_self, iff_self, IntWalk.iteOmega, IntWalk.toNatUp]; rintro r os ⟨rfl, rfl⟩; refine pl_of_pops ?_; push_cast [eq_self, iff_self, IntWalk.iteOmega, IntWalk.toNatUp])
          refine pa_hoist 3 (by kernel_rfl) ?_
          push_cast [eq_self, iff_self, IntWalk.iteOmega, IntWalk.toNatUp]
          exact pa_weak (by (refine weak_fg ?_; push_cast [eq_self, iff_self, IntWalk.iteOmega, IntWalk.toNatUp])) hd0_2_12_
        · exact pa_weak (by (refine weak_fg ?_; push_cast [eq_self, iff_self, IntWalk.iteOmega, IntWalk.toNatUp])) hd0_5_12_
        · exact pa_weak (by (refine weak_fg ?_; push_cast [eq_self, iff_self, IntWalk.iteOmega, IntWalk.toNatUp])) hd0_9_12_)
      refine pa_have 11 #[false, true, true, true, true, true, false, false, true, false, false, true, false, false, false, false, false, false] (⟨[(72, .c (.v (.int .i64 (1 + v)))), (73, .c (.ptr 1 0)), (74, .c (.full 1 [[.v (.string ⟨#[97]⟩)], [.v (.string ⟨#[98]⟩)], [.v (.string ⟨#[116, 116, 121]⟩)], [.v (.string ⟨#[120]⟩)]])), (77, .c (.ptr 1 0)), (80, .c (.ptr 1 0)), (9, .c (.sl 3 (b.map Acc.d))), (8, .c (.sl 3 (a.map Acc.d))), (7, .c (.ptr 1 0)), (6, .c (.v (.bool false))), (4, .c (.ptr 0 0))], [.box 39 c.e, .box 27 [.sl 1 (L.map fun x => [D.v (.int .i64 x)]), .v (.int .i64 (q1 : Int))]]⟩ : S) (fun hd2_5_ => ?_) (by
        refine pa_step [0, 6, 9, 12] (by kernel_rfl) rfl ?_
        push_cast [eq_self, iff_self, IntWalk.iteOmega, IntWalk.toNatUp]
        refine ⟨?_, ?_, ?_, ?_⟩
        · exact pa_weak (by (refine weak_fg ?_; push_cast [eq_self, iff_self, IntWalk.iteOmega, IntWalk.toNatUp])) hd0_2_5_
        · (refine pl_call2 false [1] rfl rfl (by kernel_rfl) (ho1) ?_ nofun ?_; push_cast [eq_self, iff_self, IntWalk.iteOmega, IntWalk.toNatUp]; rintro r os ⟨rfl, rfl⟩; refine pl_of_pops ?_; push_cast [eq_self, iff_self, IntWalk.iteOmega, IntWalk.toNatUp])
          refine pa_hoist 7 (by kernel_rfl) ?_
          push_cast [eq_self, iff_self, IntWalk.iteOmega, IntWalk.toNatUp, s1]
          exact pa_weak (by (refine weak_fg ?_; push_cast [eq_self, iff_self, IntWalk.iteOmega, IntWalk.toNatUp])) hd2_5_6_
        · exact pa_weak (by (refine weak_fg ?_; push_cast [eq_self, iff_self, IntWalk.iteOmega, IntWalk.toNatUp])) hd2_5_9_
        · exact pa_weak (by (refine weak_fg ?_; push_cast [eq_self, iff_self, IntWalk.iteOmega, IntWalk.toNatUp])) hd2_5_12_)
      refine pa_have 11 #[false, true, true, true, true, false, false, false, true, true, false, true, false, false, false, false, false, false] (⟨[(72, .c (.v (.int .i64 (1 + v)))), (73, .c (.ptr 1 0)), (77, .c (.ptr 1 0)), (78, .c (.full 1 [[.v (.string ⟨#[97]⟩)], [.v (.string ⟨#[98]⟩)], [.v (.string ⟨#[116, 116, 121]⟩)], [.v (.string ⟨#[120]⟩)]])), (80, .c (.ptr 1 0)), (9, .c (.sl 3 (b.map Acc.d))), (8, .c (.sl 3 (a.map Acc.d))), (7, .c (.ptr 1 0)), (6, .c (.v (.bool false))), (4, .c (.ptr 0 0))], [.box 39 c.e, .box 27 [.sl 1 (L.map fun x => [D.v (.int .i64 x)]), .v (.int .i64 (q1 : Int))]]⟩ : S) (fun hd2_9_ => ?_) (by
        refine pa_step [0, 5, 12] (by kernel_rfl) rfl ?_
        push_cast [eq_self, iff_self, IntWalk.iteOmega, IntWalk.toNatUp]
        refine ⟨?_, ?_, ?_⟩
        · exact pa_weak (by (refine weak_fg ?_; push_cast [eq_self, iff_self, IntWalk.iteOmega, IntWalk.toNatUp])) hd0_2_9_
        · exact pa_weak (by (refine weak_fg ?_; push_cast [eq_self, iff_self, IntWalk.iteOmega, IntWalk.toNatUp])) hd2_5_9_
        · exact pa_weak (by (refine weak_fg ?_; push_cast [eq_self, iff_self, IntWalk.iteOmega, IntWalk.toNatUp])) hd2_9_12_)
      refine pa_have 11 #[false, true, true, true, true, false, false, false, true, false, false, true, true, false, false, false, false, false] (⟨[(72, .c (.v (.int .i64 (1 + v)))), (73, .c (.ptr 1 0)), (77, .c (.ptr 1 0)), (80, .c (.ptr 1 0)), (81, .c (.full 1 [[.v (.string ⟨#[97, 110, 110]⟩)], [.v (.string ⟨#[98, 111, 98]⟩)]])), (9, .c (.sl 3 (b.map Acc.d))), (8, .c (.sl 3 (a.map Acc.d))), (7, .c (.ptr 1 0)), (6, .c (.v (.bool false))), (4, .c (.ptr 0 0))], [.box 39 c.e, .box 27 [.sl 1 (L.map fun x => [D.v (.int .i64 x)]), .v (.int .i64 (q1 : Int))]]⟩ : S) (fun hd2_12_ => ?_) (by
        refine pa_step [0, 5, 9] (by kernel_rfl) rfl ?_
        push_cast [eq_self, iff_self, IntWalk.iteOmega, IntWalk.toNatUp]
        refine ⟨?_, ?_, ?_⟩
        · exact pa_weak (by (refine weak_fg ?_; push_cast [eq_self, iff_self, IntWalk.iteOmega, IntWalk.toNatUp])) hd0_2_12_
        · exact pa_weak (by (refine weak_fg ?_; push_cast [eq_self, iff_self, IntWalk.iteOmega, IntWalk.toNatUp])) hd2_5_12_
        · exact pa_weak (by (refine weak_fg ?_; push_cast [eq_self, iff_self, IntWalk.iteOmega, IntWalk.toNatUp])) hd2_9_12_)
      refine pa_have 12 #[false, true, false, false, true, true, false, false, true, true, false, true, false, false, false, false, false, false] (⟨[(70, .c (.ptr 1 0)), (73, .c (.ptr 1 0)), (74, .c (.full 1 [[.v (.string ⟨#[97]⟩)], [.v (.string ⟨#[98]⟩)], [.v (.string ⟨#[116, 116, 121]⟩)], [.v (.string ⟨#[120]⟩)]])), (77, .c (.ptr 1 0)), (78, .c (.full 1 [[.v (.string ⟨#[97]⟩)], [.v (.string ⟨#[98]⟩)], [.v (.string ⟨#[116, 116, 121]⟩)], [.v (.string ⟨#[120]⟩)]])), (80, .c (.ptr 1 0)), (9, .c (.sl 3 (b.map Acc.d))), (8, .c (.sl 3 (a.map Acc.d))), (7, .c (.ptr 1 0)), (6, .c (.v (.bool false))), (4, .c (.ptr 0 0))], [.box 39 c.e, .box 27 [.sl 1 (L.map fun x => [D.v (.int .i64 x)]), .v (.int .i64 (k2 : Int))]]⟩ : S) (fun hd5_9_ => ?_) (by
        refine pa_step [0, 2, 12] (by kernel_rfl) rfl ?_
        push_cast [eq_self, iff_self, IntWalk.iteOmega, IntWalk.toNatUp]
        refine ⟨?_, ?_, ?_⟩
        · exact pa_weak (by (refine weak_fg ?_; push_cast [eq_self, iff_self, IntWalk.iteOmega, IntWalk.toNatUp])) hd0_5_9_
        · (refine pl_call2 false [1] rfl rfl (by kernel_rfl) (hn) ?_ nofun ?_; push_cast [eq_self, iff_self, IntWalk.iteOmega, IntWalk.toNatUp]; rintro r os ⟨rfl, rfl⟩; refine pl_of_pops ?_; push_cast [eq_self, iff_self, IntWalk.iteOmega, IntWalk.toNatUp])
          refine pa_hoist 3 (by kernel_rfl) ?_
          push_cast [eq_self, iff_self, IntWalk.iteOmega, IntWalk.toNatUp]
          exact pa_weak (by (refine weak_fg ?_; push_cast [eq_self, iff_self, IntWalk.iteOmega, IntWalk.toNatUp])) hd2_5_9_
        · exact pa_weak (by (refine weak_fg ?_; push_cast [eq_self, iff_self, IntWalk.iteOmega, IntWalk.toNatUp])) hd5_9_12_)
      refine pa_have 12 #[false, true, false, false, true, true, false, false, true, false, false, true, true, false, false, false, false, false] (⟨[(70, .c (.ptr 1 0)), (73, .c (.ptr 1 0)), (74, .c (.full 1 [[.v (.string ⟨#[97]⟩)], [.v (.string ⟨#[98]⟩)], [.v (.string ⟨#[116, 116, 121]⟩)], [.v (.string ⟨#[120]⟩)]])), (77, .c (.ptr 1 0)), (80, .c (.ptr 1 0)), (81, .c (.full 1 [[.v (.string ⟨#[97, 110, 110]⟩)], [.v (.string ⟨#[98, 111, 98]⟩)]])), (9, .c (.sl 3 (b.map Acc.d))), (8, .c (.sl 3 (a.map Acc.d))), (7, .c (.ptr 1 0)), (6, .c (.v (.bool false))), (4, .c (.ptr 0 0))], [.box 39 c.e, .box 27 [.sl 1 (L.map fun x => [D.v (.int .i64 x)]), .v (.int .i64 (k2 : Int))]]⟩ : S) (fun hd5_12_ => ?_) (by
        refine pa_step [0, 2, 9] (by kernel_rfl) rfl ?_
        push_cast [eq_self, iff_self, IntWalk.iteOmega, IntWalk.toNatUp]
        refine ⟨?_, ?_, ?_⟩
        · exact pa_weak (by (refine weak_fg ?_; push_cast [eq_self, iff_self, IntWalk.iteOmega, IntWalk.toNatUp])) hd0_5_12_
        · (refine pl_call2 false [1] rfl rfl (by kernel_rfl) (hn) ?_ nofun ?_; push_cast [eq_self, iff_self, IntWalk.iteOmega, IntWalk.toNatUp]; rintro r os ⟨rfl, rfl⟩; refine pl_of_pops ?_; push_cast [eq_self, iff_self, IntWalk.iteOmega, IntWalk.toNatUp])
          refine pa_hoist 3 (by kernel_rfl) ?_
          push_cast [eq_self, iff_self, IntWalk.iteOmega, IntWalk.toNatUp]
          exact pa_weak (by (refine weak_fg ?_; push_cast [eq_self, iff_self, IntWalk.iteOmega, IntWalk.toNatUp])) hd2_5_12_
        · exact pa_weak (by (refine weak_fg ?_; push_cast [eq_self, iff_self, IntWalk.iteOmega, IntWalk.toNatUp])) hd5_9_12_)
      refine pa_have 12 #[false, true, false, false, true, false, false, false, true, true, false, true, true, false, false, false, false, false] (⟨[(70, .c (.ptr 1 0)), (73, .c (.ptr 1 0)), (77, .c (.ptr 1 0)), (78, .c (.full 1 [[.v (.string ⟨#[97]⟩)], [.v (.string ⟨#[98]⟩)], [.v (.string ⟨#[116, 116, 121]⟩)], [.v (.string ⟨#[120]⟩)]])), (80, .c (.ptr 1 0)), (81, .c (.full 1 [[.v (.string ⟨#[97, 110, 110]⟩)], [.v (.string ⟨#[98, 111, 98]⟩)]])), (9, .c (.sl 3 (b.map Acc.d))), (8, .c (.sl 3 (a.map Acc.d))), (7, .c (.ptr 1 0)), (6, .c (.v (.bool false))), (4, .c (.ptr 0 0))], [.box 39 c.e, .box 27 [.sl 1 (L.map fun x => [D.v (.int .i64 x)]), .v (.int .i64 (k2 : Int))]]⟩ : S) (fun hd9_12_ => ?_) (by
        refine pa_step [0, 2, 5] (by kernel_rfl) rfl ?_
        push_cast [eq_self, iff_self, IntWalk.iteOmega, IntWalk.toNatUp]
        refine ⟨?_, ?_, ?_⟩
        · exact pa_weak (by (refine weak_fg ?_; push_cast [eq_self, iff_self, IntWalk.iteOmega, IntWalk.toNatUp])) hd0_9_12_
        · (refine pl_call2 false [1] rfl rfl (by kernel_rfl) (hn) ?_ nofun ?_; push_cast [eq_self, iff_self, IntWalk.iteOmega, IntWalk.toNatUp]; rintro r os ⟨rfl, rfl⟩; refine pl_of_pops ?_; push_cast [eq_self, iff_self, IntWalk.iteOmega, IntWalk.toNatUp])
          refine pa_hoist 3 (by kernel_rfl) ?_
          push_cast [eq_self, iff_self, IntWalk.iteOmega, IntWalk.toNatUp]
          exact pa_weak (by (refine weak_fg ?_; push_cast [eq_self, iff_self, IntWalk.iteOmega, IntWalk.toNatUp])) hd2_9_12_
        · exact pa_weak (by (refine weak_fg ?_; push_cast [eq_self, iff_self, IntWalk.iteOmega, IntWalk.toNatUp])) hd5_9_12_)
      refine pa_have 13 #[true, true, false, false, true, false, false, false, true, false, false, true, false, false, false, false, false, false] (⟨[(69, .agg c.e), (70, .c (.ptr 1 0)), (73, .c (.ptr 1 0)), (77, .c (.ptr 1 0)), (80, .c (.ptr 1 0)), (9, .c (.sl 3 (b.map Acc.d))), (8, .c (.sl 3 (a.map Acc.d))), (7, .c (.ptr 1 0)), (6, .c (.v (.bool false))), (4, .c (.ptr 0 0))], [.box 39 c.e, .box 27 [.sl 1 (L.map fun x => [D.v (.int .i64 x)]), .v (.int .i64 (k2 : Int))]]⟩ : S) (fun hd0_ => ?_) (by
        refine pa_step [2, 5, 9, 12] (by kernel_rfl) rfl ?_
        push_cast [eq_self, iff_self, IntWalk.iteOmega, IntWalk.toNatUp]
        refine ⟨?_, ?_, ?_, ?_⟩
        · (refine pl_call2 false [1] rfl rfl (by kernel_rfl) (hn) ?_ nofun ?_; push_cast [eq_self, iff_self, IntWalk.iteOmega, IntWalk.toNatUp]; rintro r os ⟨rfl, rfl⟩; refine pl_of_pops ?_; push_cast [eq_self, iff_self, IntWalk.iteOmega, IntWalk.toNatUp])
          refine pa_hoist 3 (by kernel_rfl) ?_
          push_cast [eq_self, iff_self, IntWalk.iteOmega, IntWalk.toNatUp]
          exact pa_weak (by (refine weak_fg ?_; push_cast [eq_self, iff_self, IntWalk.iteOmega, IntWalk.toNatUp])) hd0_2_
        · exact pa_weak (by (refine weak_fg ?_; push_cast [eq_self, iff_self, IntWalk.iteOmega, IntWalk.toNatUp])) hd0_5_
        · exact pa_weak (by (refine weak_fg ?_; push_cast [eq_self, iff_self, IntWalk.iteOmega, IntWalk.toNatUp])) hd0_9_
        · exact pa_weak (by (refine weak_fg ?_; push_cast [eq_self, iff_self, IntWalk.iteOmega, IntWalk.toNatUp])) hd0_12_)
      refine pa_have 12 #[false, true, true, true, true, false, false, false, true, false, false, true, false, false, false, false, false, false] (⟨[(72, .c (.v (.int .i64 (1 + v)))), (73, .c (.ptr 1 0)), (77, .c (.ptr 1 0)), (80, .c (.ptr 1 0)), (9, .c (.sl 3 (b.map Acc.d))), (8, .c (.sl 3 (a.map Acc.d))), (7, .c (.ptr 1 0)), (6, .c (.v (.bool false))), (4, .c (.ptr 0 0))], [.box 39 c.e, .box 27 [.sl 1 (L.map fun x => [D.v (.int .i64 x)]), .v (.int .i64 (q1 : Int))]]⟩ : S) (fun hd2_ => ?_) (by
        refine pa_step [0, 5, 9, 12] (by kernel_rfl) rfl ?_
        push_cast [eq_self, iff_self, IntWalk.iteOmega, IntWalk.toNatUp]
        refine ⟨?_, ?_, ?_, ?_⟩
        · exact pa_weak (by (refine weak_fg ?_; push_cast [eq_self, iff_self, IntWalk.iteOmega, IntWalk.toNatUp])) hd0_2_
        · exact pa_weak (by (refine weak_fg ?_; push_cast [eq_self, iff_self, IntWalk.iteOmega, IntWalk.toNatUp])) hd2_5_
        · exact pa_weak (by (refine weak_fg ?_; push_cast [eq_self, iff_self, IntWalk.iteOmega, IntWalk.toNatUp])) hd2_9_
        · exact pa_weak (by (refine weak_fg ?_; push_cast [eq_self, iff_self, IntWalk.iteOmega, IntWalk.toNatUp])) hd2_12_)
      refine pa_have 13 #[false, true, false, false, true, true, false, false, true, false, false, true, false, false, false, false, false, false] (⟨[(70, .c (.ptr 1 0)), (73, .c (.ptr 1 0)), (74, .c (.full 1 [[.v (.string ⟨#[97]⟩)], [.v (.string ⟨#[98]⟩)], [.v (.string ⟨#[116, 116, 121]⟩)], [.v (.string ⟨#[120]⟩)]])), (77, .c (.ptr 1 0)), (80, .c (.ptr 1 0)), (9, .c (.sl 3 (b.map Acc.d))), (8, .c (.sl 3 (a.map Acc.d))), (7, .c (.ptr 1 0)), (6, .c (.v (.bool false))), (4, .c (.ptr 0 0))], [.box 39 c.e, .box 27 [.sl 1 (L.map fun x => [D.v (.int .i64 x)]), .v (.int .i64 (k2 : Int))]]⟩ : S) (fun hd5_ => ?_) (by
        refine pa_step [0, 2, 9, 12] (by kernel_rfl) rfl ?_
        push_cast [eq_self, iff_self, IntWalk.iteOmega, IntWalk.toNatUp]
        refine ⟨?_, ?_, ?_, ?_⟩
        · exact pa_weak (by (refine weak_fg ?_; push_cast [eq_self, iff_self, IntWalk.iteOmega, IntWalk.toNatUp])) hd0_5_
        · (refine pl_call2 false [1] rfl rfl (by kernel_rfl) (hn) ?_ nofun ?_; push_cast [eq_self, iff_self, IntWalk.iteOmega, IntWalk.toNatUp]; rintro r os ⟨rfl, rfl⟩; refine pl_of_pops ?_; push_cast [eq_self, iff_self, IntWalk.iteOmega, IntWalk.toNatUp])
          refine pa_hoist 3 (by kernel_rfl) ?_
          push_cast [eq_self, iff_self, IntWalk.iteOmega, IntWalk.toNatUp]
          exact pa_weak (by (refine weak_fg ?_; push_cast [eq_self, iff_self, IntWalk.iteOmega, IntWalk.toNatUp])) hd2_5_
        · exact pa_weak (by (refine weak_fg ?_; push_cast [eq_self, iff_self, IntWalk.iteOmega, IntWalk.toNatUp])) hd5_9_
        · exact pa_weak (by (refine weak_fg ?_; push_cast [eq_self, iff_self, IntWalk.iteOmega, IntWalk.toNatUp])) hd5_12_)
      refine pa_have 13 #[false, true, false, false, true, false, false, false, true, true, false, true, false, false, false, false, false, false] (⟨[(70, .c (.ptr 1 0)), (73, .c (.ptr 1 0)), (77, .c (.ptr 1 0)), (78, .c (.full 1 [[.v (.string ⟨#[97]⟩)], [.v (.string ⟨#[98]⟩)], [.v (.string ⟨#[116, 116, 121]⟩)], [.v (.string ⟨#[120]⟩)]])), (80, .c (.ptr 1 0)), (9, .c (.sl 3 (b.map Acc.d))), (8, .c (.sl 3 (a.map Acc.d))), (7, .c (.ptr 1 0)), (6, .c (.v (.bool false))), (4, .c (.ptr 0 0))], [.box 39 c.e, .box 27 [.sl 1 (L.map fun x => [D.v (.int .i64 x)]), .v (.int .i64 (k2 : Int))]]⟩ : S) (fun hd9_ => ?_) (by
        refine pa_step [0, 2, 5, 12] (by kernel_rfl) rfl ?_
        push_cast [eq_self, iff_self, IntWalk.iteOmega, IntWalk.toNatUp]
        refine ⟨?_, ?_, ?_, ?_⟩
        · exact pa_weak (by (refine weak_fg ?_; push_cast [eq_self, iff_self, IntWalk.iteOmega, IntWalk.toNatUp])) hd0_9_
        · (refine pl_call2 false [1] rfl rfl (by kernel_rfl) (hn) ?_ nofun ?_; push_cast [eq_self, iff_self, IntWalk.iteOmega, IntWalk.toNatUp]; rintro r os ⟨rfl, rfl⟩; refine pl_of_pops ?_; push_cast [eq_self, iff_self, IntWalk.iteOmega, IntWalk.toNatUp])
          refine pa_hoist 3 (by kernel_rfl) ?_
          push_cast [eq_self, iff_self, IntWalk.iteOmega, IntWalk.toNatUp]
          exact pa_weak (by (refine weak_fg ?_; push_cast [eq_self, iff_self, IntWalk.iteOmega, IntWalk.toNatUp])) hd2_9_
        · exact pa_weak (by (refine weak_fg ?_; push_cast [eq_self, iff_self, IntWalk.iteOmega, IntWalk.toNatUp])) hd5_9_
        · exact pa_weak (by (refine weak_fg ?_; push_cast [eq_self, iff_self, IntWalk.iteOmega, IntWalk.toNatUp])) hd9_12_)
      refine pa_have 13 #[false, true, false, false, true, false, false, false, true, false, false, true, true, false, false, false, false, false] (⟨[(70, .c (.ptr 1 0)), (73, .c (.ptr 1 0)), (77, .c (.ptr 1 0)), (80, .c (.ptr 1 0)), (81, .c (.full 1 [[.v (.string ⟨#[97, 110, 110]⟩)], [.v (.string ⟨#[98, 111, 98]⟩)]])), (9, .c (.sl 3 (b.map Acc.d))), (8, .c (.sl 3 (a.map Acc.d))), (7, .c (.ptr 1 0)), (6, .c (.v (.bool false))), (4, .c (.ptr 0 0))], [.box 39 c.e, .box 27 [.sl 1 (L.map fun x => [D.v (.int .i64 x)]), .v (.int .i64 (k2 : Int))]]⟩ : S) (fun hd12_ => ?_) (by
        refine pa_step [0, 2, 5, 9] (by kernel_rfl) rfl ?_
        push_cast [eq_self, iff_self, IntWalk.iteOmega, IntWalk.toNatUp]
        refine ⟨?_, ?_, ?_, ?_⟩
        · exact pa_weak (by (refine weak_fg ?_; push_cast [eq_self, iff_self, IntWalk.iteOmega, IntWalk.toNatUp])) hd0_12_
        · (refine pl_call2 false [1] rfl rfl (by kernel_rfl) (hn) ?_ nofun ?_; push_cast [eq_self, iff_self, IntWalk.iteOmega, IntWalk.toNatUp]; rintro r os ⟨rfl, rfl⟩; refine pl_of_pops ?_; push_cast [eq_self, iff_self, IntWalk.iteOmega, IntWalk.toNatUp])
          refine pa_hoist 3 (by kernel_rfl) ?_
          push_cast [eq_self, iff_self, IntWalk.iteOmega, IntWalk.toNatUp]
          exact pa_weak (by (refine weak_fg ?_; push_cast [eq_self, iff_self, IntWalk.iteOmega, IntWalk.toNatUp])) hd2_12_
        · exact pa_weak (by (refine weak_fg ?_; push_cast [eq_self, iff_self, IntWalk.iteOmega, IntWalk.toNatUp])) hd5_12_
        · exact pa_weak (by (refine weak_fg ?_; push_cast [eq_self, iff_self, IntWalk.iteOmega, IntWalk.toNatUp])) hd9_12_)
      refine pa_step [0, 2, 5, 9, 12] (by kernel_rfl) rfl ?_
      push_cast [eq_self, iff_self, IntWalk.iteOmega, IntWalk.toNatUp]
      refine ⟨?_, ?_, ?_, ?_, ?_⟩
      · exact pa_weak (by (refine weak_fg ?_; push_cast [eq_self, iff_self, IntWalk.iteOmega, IntWalk.toNatUp])) hd0_
      · (refine pl_call2 false [1] rfl rfl (by kernel_rfl) (hn) ?_ nofun ?_; push_cast [eq_self, iff_self, IntWalk.iteOmega, IntWalk.toNatUp]; rintro r os ⟨rfl, rfl⟩; refine pl_of_pops ?_; push_cast [eq_self, iff_self, IntWalk.iteOmega, IntWalk.toNatUp])
        refine pa_hoist 3 (by kernel_rfl) ?_
        push_cast [eq_self, iff_self, IntWalk.iteOmega, IntWalk.toNatUp]
        exact pa_weak (by (refine weak_fg ?_; push_cast [eq_self, iff_self, IntWalk.iteOmega, IntWalk.toNatUp])) hd2_
      · exact pa_weak (by (refine weak_fg ?_; push_cast [eq_self, iff_self, IntWalk.iteOmega, IntWalk.toNatUp])) hd5_
      · exact pa_weak (by (refine weak_fg ?_; push_cast [eq_self, iff_self, IntWalk.iteOmega, IntWalk.toNatUp])) hd9_
      · exact pa_weak (by (refine weak_fg ?_; push_cast [eq_self, iff_self, IntWalk.iteOmega, IntWalk.toNatUp])) hd12_
    · have hin0 : ∀ x ∈ [c, ⟨1 + v, ⟨(⟨#[47]⟩ : ByteArray) ++ t1, t2, t3⟩⟩], x.acc.path.size ≤ 600 := by
        intro x hx
        simp only [List.mem_cons, List.not_mem_nil, or_false] at hx
        rcases hx with rfl | rfl
        · exact hp6
        · show ((⟨#[47]⟩ : ByteArray) ++ t1).size ≤ 600
          omega
      repeat' (first | (refine Kont.use (by assumption) ?_) | (refine pwp_seq fun K hK => ?_) | (refine pwp_block ?_) | (refine pwp_scope ?_) | ((first | (refine pwp_cut 17 [] ?_; first | refine pwp_region ?_ | refine pwp_quiet (by kernel_rfl) (by kernel_rfl) ?_) | refine pwp_exit ?_ | refine pwp_ret ?_ | refine pwp_skip ?_); push_cast [eq_self, iff_self, IntWalk.iteOmega, IntWalk.toNatUp]) | (refine pwp_cond ?_; push_cast [eq_self, iff_self, IntWalk.iteOmega, IntWalk.toNatUp]; try (refine ⟨fun h => ?_, fun h => ?_⟩ <;> (try simp only [decide_eq_true_eq, decide_eq_false_iff_not, Bool.not_eq_true', Bool.not_eq_false', Int.not_lt, Int.not_le, Nat.not_lt, Nat.not_le] at h) <;> (try (first | contradiction | (exfalso; omega) | exact nomatch (Eq.trans (Eq.symm h) (by assumption) : true = false) | exact nomatch (Eq.trans (Eq.symm h) (by assumption) : false = true))))))
      (apply pwp_loop3 (α := Nat × List Chg × Nat) 17 [] (fun z => [(11, .c (.v (.int .i64 z.1))), (10, .c (.own 2 (z.1 + 2)))]) (fun z => [(1, tape L z.2.2), (2, .arr 39 4 (z.2.1.map Chg.d))]) (fun z => z.1 ≤ b.length ∧ z.2.1.length = z.1 + 2 ∧ (∀ x ∈ z.2.1, x.acc.path.size ≤ 600) ∧ z.2.2 = q4 + z.1) (fun z => b.length - z.1) ((0, [c, ⟨1 + v, ⟨(⟨#[47]⟩ : ByteArray) ++ t1, t2, t3⟩⟩], q4)); (focus ((try push_cast [eq_self, iff_self, IntWalk.iteOmega, IntWalk.toNatUp]); rfl)); (focus exact ⟨by simp, by simp, hin0, by simp⟩); (focus ((refine weak_fg ?_; try push_cast [eq_self, iff_self, IntWalk.iteOmega, IntWalk.toNatUp]))))
      rintro ⟨i, Z, k⟩ ⟨h1, h2, h3, h4⟩
      simp only at h1 h2 h3 h4
      push_cast [eq_self, iff_self, IntWalk.iteOmega, IntWalk.toNatUp]
      obtain ⟨w, ⟨hw0, hw1⟩, hx⟩ : ∃ v : Int, (0 ≤ v ∧ v < 2) ∧ PCalls Tryd.prog 18 [.c (.ptr 0 0), .c (.v (.int .i64 2))] [tape L k] fun r os => r = .c (.v (.int .i64 v)) ∧ os = [tape L (k + 1)] := ⟨_, fold_bds _ _ (by decide), next_pure L k 2 (by omega) (by decide) hL hl⟩
      simp only [tape] at hx
      push_cast [eq_self, iff_self, IntWalk.iteOmega, IntWalk.toNatUp] at hx
      by_cases hlt : i < b.length
      · repeat' (first |  ((refine pwp_cut 17 [] ?_; apply pwp_drawn_to; (focus kernel_rfl); (focus (simp only [List.length_cons, List.length_nil, Nat.reduceAdd]; (repeat' first | (refine pl_call2 false [1] rfl rfl (by kernel_rfl) (hx) ?_ nofun ?_; push_cast [eq_self, iff_self, IntWalk.iteOmega, IntWalk.toNatUp]; rintro r os ⟨rfl, rfl⟩; refine pl_of_pops ?_; push_cast [eq_self, iff_self, IntWalk.iteOmega, IntWalk.toNatUp]) | ((first | (refine pa_hoist 0 ?_ ?_; (focus decide +kernel)) | (refine pa_hoist 1 ?_ ?_; (focus decide +kernel)) | (refine pa_hoist 3 ?_ ?_; (focus decide +kernel)) | (refine pa_hoist 4 ?_ ?_; (focus decide +kernel)) | (refine pa_hoist 5 ?_ ?_; (focus decide +kernel)) | (refine pa_hoist 6 ?_ ?_; (focus decide +kernel)) | (refine pa_hoist 8 ?_ ?_; (focus decide +kernel)) | (refine pa_hoist 11 ?_ ?_; (focus decide +kernel))); push_cast [eq_self, iff_self, IntWalk.iteOmega, IntWalk.toNatUp]) | (refine pa_done ?_ ?_; (focus decide +kernel); first | with_reducible exact weak_cutS 17 [] _ | (refine weak_fg ?_; push_cast [eq_self, iff_self, IntWalk.iteOmega, IntWalk.toNatUp])) | ((first | (refine pa_step [2] ?_ rfl ?_; (focus decide +kernel)) | (refine pa_step [7] ?_ rfl ?_; (focus decide +kernel)) | (refine pa_step [9] ?_ rfl ?_; (focus decide +kernel)) | (refine pa_step [10] ?_ rfl ?_; (focus decide +kernel))); push_cast [eq_self, iff_self, IntWalk.iteOmega, IntWalk.toNatUp]) | ((first | (refine pa_step [2, 7] ?_ rfl ?_; (focus decide +kernel)) | (refine pa_step [2, 9] ?_ rfl ?_; (focus decide +kernel)) | (refine pa_step [2, 10] ?_ rfl ?_; (focus decide +kernel)) | (refine pa_step [7, 9] ?_ rfl ?_; (focus decide +kernel)) | (refine pa_step [7, 10] ?_ rfl ?_; (focus decide +kernel)) | (refine pa_step [9, 10] ?_ rfl ?_; (focus decide +kernel))); push_cast [eq_self, iff_self, IntWalk.iteOmega, IntWalk.toNatUp]; refine ⟨?_, ?_⟩) | ((first | (refine pa_step [2, 7, 9] ?_ rfl ?_; (focus decide +kernel)) | (refine pa_step [2, 7, 10] ?_ rfl ?_; (focus decide +kernel)) | (refine pa_step [2, 9, 10] ?_ rfl ?_; (focus decide +kernel)) | (refine pa_step [7, 9, 10] ?_ rfl ?_; (focus decide +kernel))); push_cast [eq_self, iff_self, IntWalk.iteOmega, IntWalk.toNatUp]; refine ⟨?_, ?_, ?_⟩)); done)); push_cast [eq_self, iff_self, IntWalk.iteOmega, IntWalk.toNatUp]))  | (refine Kont.use (by assumption) ?_) | (refine pwp_seq fun K hK => ?_) | (refine pwp_block ?_) | (refine pwp_scope ?_) | ((first | (refine pwp_cut 17 [] ?_; first | refine pwp_region ?_ | refine pwp_quiet (by kernel_rfl) (by kernel_rfl) ?_) | refine pwp_exit ?_ | refine pwp_ret ?_ | refine pwp_skip ?_); push_cast [eq_self, iff_self, IntWalk.iteOmega, IntWalk.toNatUp]) | (refine pwp_cond ?_; push_cast [eq_self, iff_self, IntWalk.iteOmega, IntWalk.toNatUp]; try (refine ⟨fun h => ?_, fun h => ?_⟩ <;> (try simp only [decide_eq_true_eq, decide_eq_false_iff_not, Bool.not_eq_true', Bool.not_eq_false', Int.not_lt, Int.not_le, Nat.not_lt, Nat.not_le] at h) <;> (try (first | contradiction | (exfalso; omega) | exact nomatch (Eq.trans (Eq.symm h) (by assumption) : true = false) | exact nomatch (Eq.trans (Eq.symm h) (by assumption) : false = true))))))
        have hZt : List.take (i + 2) (Z.map Chg.d) = Z.map Chg.d := List.take_of_length_le (by rw [List.length_map]; omega)
        refine ⟨(i + 1, Z ++ [⟨1 + w, b.getD i default⟩], k + 1), ⟨by simp only; omega, by simp only [List.length_append, List.length_cons, List.length_nil]; omega, fun x hx => ?_, by simp only; omega⟩, by (refine weak_fg ?_; push_cast [eq_self, iff_self, IntWalk.iteOmega, IntWalk.toNatUp, hZt]), by simp only; omega⟩
        rcases List.mem_append.1 hx with hx | hx
        · exact h3 x hx
        · rw [List.mem_singleton.1 hx]
          have := hzb (b.getD i default) (by rw [getD_lt b hlt]; exact List.getElem_mem _)
          show (b.getD i default).path.size ≤ 600
          omega
      · repeat' (first | (refine Kont.use (by assumption) ?_) | (refine pwp_seq fun K hK => ?_) | (refine pwp_block ?_) | (refine pwp_scope ?_) | ((first | (refine pwp_cut 17 [] ?_; first | refine pwp_region ?_ | refine pwp_quiet (by kernel_rfl) (by kernel_rfl) ?_) | refine pwp_exit ?_ | refine pwp_ret ?_ | refine pwp_skip ?_); push_cast [eq_self, iff_self, IntWalk.iteOmega, IntWalk.toNatUp]) | (refine pwp_cond ?_; push_cast [eq_self, iff_self, IntWalk.iteOmega, IntWalk.toNatUp]; try (refine ⟨fun h => ?_, fun h => ?_⟩ <;> (try simp only [decide_eq_true_eq, decide_eq_false_iff_not, Bool.not_eq_true', Bool.not_eq_false', Int.not_lt, Int.not_le, Nat.not_lt, Nat.not_le] at h) <;> (try (first | contradiction | (exfalso; omega) | exact nomatch (Eq.trans (Eq.symm h) (by assumption) : true = false) | exact nomatch (Eq.trans (Eq.symm h) (by assumption) : false = true))))))
        (apply pwp_loop3 (α := Nat) 17 [] (fun j => [(12, .c (.v (.int .i64 j)))]) (fun j => []) (fun j => j ≤ Z.length) (fun j => Z.length - j) (0); (focus ((try push_cast [eq_self, iff_self, IntWalk.iteOmega, IntWalk.toNatUp]); rfl)); (focus exact (by omega)); (focus ((refine weak_fg ?_; try push_cast [eq_self, iff_self, IntWalk.iteOmega, IntWalk.toNatUp]))))
        intro j hj
        push_cast [eq_self, iff_self, IntWalk.iteOmega, IntWalk.toNatUp]
        by_cases hlt2 : j < Z.length
        · have hxs := h3 (Z.getD j default) (by rw [getD_lt Z hlt2]; exact List.getElem_mem _)
          have ha := apply_pure a (Z.getD j default) (by omega) hRa (fun y hy => by have := hza y hy; omega) (by omega)
          have hr := rapply_pure a (Z.getD j default) (by omega) hRa (fun y hy => by have := hza y hy; omega) (by omega)
          have hml := applyM_len a (Z.getD j default)
          have hs := same38_pure (applyM a (Z.getD j default)).1 (applyM a (Z.getD j default)).1 (by omega) (by omega)
          simp only [decide_true] at hs
          generalize applyM a (Z.getD j default) = q at *
          unfold accR at ha hr
          repeat' (first |  (refine pl_call2 false [] rfl rfl (by kernel_rfl) (ha) ?_ nofun ?_; push_cast [eq_self, iff_self, IntWalk.iteOmega, IntWalk.toNatUp]; rintro r os ⟨rfl, rfl⟩; refine pl_of_pops ?_; push_cast [eq_self, iff_self, IntWalk.iteOmega, IntWalk.toNatUp]) | (refine pl_call2 false [] rfl rfl (by kernel_rfl) (hr) ?_ nofun ?_; push_cast [eq_self, iff_self, IntWalk.iteOmega, IntWalk.toNatUp]; rintro r os ⟨rfl, rfl⟩; refine pl_of_pops ?_; push_cast [eq_self, iff_self, IntWalk.iteOmega, IntWalk.toNatUp]) | (refine pl_call2 false [] rfl rfl (by kernel_rfl) (hs) ?_ nofun ?_; push_cast [eq_self, iff_self, IntWalk.iteOmega, IntWalk.toNatUp]; rintro r os ⟨rfl, rfl⟩; refine pl_of_pops ?_; push_cast [eq_self, iff_self, IntWalk.iteOmega, IntWalk.toNatUp])  | (refine Kont.use (by assumption) ?_) | (refine pwp_seq fun K hK => ?_) | (refine pwp_block ?_) | (refine pwp_scope ?_) | ((first | (refine pwp_cut 17 [] ?_; first | refine pwp_region ?_ | refine pwp_quiet (by kernel_rfl) (by kernel_rfl) ?_) | refine pwp_exit ?_ | refine pwp_ret ?_ | refine pwp_skip ?_); push_cast [eq_self, iff_self, IntWalk.iteOmega, IntWalk.toNatUp]) | (refine pwp_cond ?_; push_cast [eq_self, iff_self, IntWalk.iteOmega, IntWalk.toNatUp]; try (refine ⟨fun h => ?_, fun h => ?_⟩ <;> (try simp only [decide_eq_true_eq, decide_eq_false_iff_not, Bool.not_eq_true', Bool.not_eq_false', Int.not_lt, Int.not_le, Nat.not_lt, Nat.not_le] at h) <;> (try (first | contradiction | (exfalso; omega) | exact nomatch (Eq.trans (Eq.symm h) (by assumption) : true = false) | exact nomatch (Eq.trans (Eq.symm h) (by assumption) : false = true))))))
          exact ⟨j + 1, by omega, by (refine weak_fg ?_; push_cast [eq_self, iff_self, IntWalk.iteOmega, IntWalk.toNatUp]), by omega⟩
        · repeat' (first |  (refine pl_call2 false [] rfl rfl (by kernel_rfl) (known_pure) ?_ nofun ?_; push_cast [eq_self, iff_self, IntWalk.iteOmega, IntWalk.toNatUp]; rintro r os ⟨rfl, rfl⟩; refine pl_of_pops ?_; push_cast [eq_self, iff_self, IntWalk.iteOmega, IntWalk.toNatUp])  | (refine Kont.use (by assumption) ?_) | (refine pwp_seq fun K hK => ?_) | (refine pwp_block ?_) | (refine pwp_scope ?_) | ((first | (refine pwp_cut 17 [] ?_; first | refine pwp_region ?_ | refine pwp_quiet (by kernel_rfl) (by kernel_rfl) ?_) | refine pwp_exit ?_ | refine pwp_ret ?_ | refine pwp_skip ?_); push_cast [eq_self, iff_self, IntWalk.iteOmega, IntWalk.toNatUp]) | (refine pwp_cond ?_; push_cast [eq_self, iff_self, IntWalk.iteOmega, IntWalk.toNatUp]; try (refine ⟨fun h => ?_, fun h => ?_⟩ <;> (try simp only [decide_eq_true_eq, decide_eq_false_iff_not, Bool.not_eq_true', Bool.not_eq_false', Int.not_lt, Int.not_le, Nat.not_lt, Nat.not_le] at h) <;> (try (first | contradiction | (exfalso; omega) | exact nomatch (Eq.trans (Eq.symm h) (by assumption) : true = false) | exact nomatch (Eq.trans (Eq.symm h) (by assumption) : false = true))))))
          (refine retK_of [] ?_; push_cast [eq_self, iff_self, IntWalk.iteOmega, IntWalk.toNatUp])
end Go.Proofs.YtipgjpcbmnlbhaaDoor
