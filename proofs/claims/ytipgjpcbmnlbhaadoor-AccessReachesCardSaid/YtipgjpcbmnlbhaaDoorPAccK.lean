/- Accesses: Apply whole; AccessBack, AccessReaches. -/
import Derived.Test.YtipgjpcbmnlbhaaDoorPAccW
import Derived.Test.YtipgjpcbmnlbhaaDoorAccB
import Derived.Test.YtipgjpcbmnlbhaaDoorPInsA
import Derived.Test.YtipgjpcbmnlbhaaDoorPAccJ
namespace Go.Proofs.YtipgjpcbmnlbhaaDoor
attribute [local irreducible] PL QL PWP PCalls Weak RetK Kont PA
open Go.RowKit
set_option linter.unusedVariables false
set_option linter.unusedSimpArgs false
theorem minus_in {a b : List Acc} {k : Nat} (hk : k < a.length) (h : a.getD k default ∈ b) : minusL (a.take (k + 1)) b = minusL (a.take k) b := by
  rw [getD_lt a hk] at h
  rw [minus_step hk, if_pos h, List.append_nil]
theorem minus_out {a b : List Acc} {k : Nat} (hk : k < a.length) (h : a.getD k default ∉ b) : minusL (a.take (k + 1)) b = minusL (a.take k) b ++ [a.getD k default] := by
  rw [getD_lt a hk] at *
  rw [minus_step hk, if_neg h]
theorem minus_len (a b : List Acc) (k : Nat) : (minusL (a.take k) b).length ≤ k := Nat.le_trans (List.length_filter_le _ _) (List.length_take_le _ _)
theorem minus_end {a b : List Acc} {k : Nat} (hk : ¬ k < a.length) : minusL (a.take k) b = minusL a b := by rw [List.take_of_length_le (by omega)]
theorem minus_zero (a b : List Acc) : minusL (a.take 0) b = [] := rfl
set_option maxHeartbeats 1000000 in
theorem rplan_pure (a b : List Acc) (hal : a.length ≤ 1000000) (hbl : b.length ≤ 1000000) :
    PCalls Tryd.prog 15 [.c (.sl 3 (a.map Acc.d)), .c (.sl 3 (b.map Acc.d))] [] fun y os => y = .c (.sl 4 ((planA a b).map Chg.d)) ∧ os = [] := by
  refine pcalls_of Tryd.func15 rfl (by simp [Tryd.ntmps15]) ?_
  rw [Tryd.ntmps15, Tryd.results15]
  push_cast [eq_self, iff_self, IntWalk.iteOmega, IntWalk.toNatUp]
  repeat' (first | (refine Kont.use (by assumption) ?_) | (refine pwp_seq fun K hK => ?_) | (refine pwp_block ?_) | (refine pwp_scope ?_) | ((first | (refine pwp_cut 8 [] ?_; first | refine pwp_region ?_ | refine pwp_quiet (by kernel_rfl) (by kernel_rfl) ?_) | refine pwp_exit ?_ | refine pwp_ret ?_ | refine pwp_skip ?_); push_cast [eq_self, iff_self, IntWalk.iteOmega, IntWalk.toNatUp]) | (refine pwp_cond ?_; push_cast [eq_self, iff_self, IntWalk.iteOmega, IntWalk.toNatUp]; try (refine ⟨fun h => ?_, fun h => ?_⟩ <;> (try simp only [decide_eq_true_eq, decide_eq_false_iff_not, Bool.not_eq_true', Bool.not_eq_false', Int.not_lt, Int.not_le, Nat.not_lt, Nat.not_le] at h) <;> (try (first | contradiction | (exfalso; omega) | exact nomatch (Eq.trans (Eq.symm h) (by assumption) : true = false) | exact nomatch (Eq.trans (Eq.symm h) (by assumption) : false = true))))))
  refine pwp_weak (weak_adopt 5 39 4 (by omega) (by push_cast [eq_self, iff_self, IntWalk.iteOmega, IntWalk.toNatUp])) ?_
  push_cast [eq_self, iff_self, IntWalk.iteOmega, IntWalk.toNatUp]
  (apply pwp_loop3 (α := Nat) 8 [] (fun k => [(6, .c (.v (.int .i64 k))), (5, .c (.own 0 ((minusL (a.take k) b).length)))]) (fun k => [(0, .arr 39 4 (((minusL (a.take k) b).map (Chg.mk 1)).map Chg.d))]) (fun k => k ≤ a.length) (fun k => a.length - k) (0); (focus ((try push_cast [eq_self, iff_self, IntWalk.iteOmega, IntWalk.toNatUp]); rfl)); (focus exact (by omega)); (focus ((refine weak_fg ?_; try push_cast [eq_self, iff_self, IntWalk.iteOmega, IntWalk.toNatUp]); exact ⟨rfl, rfl⟩)))
  · intro k hk
    push_cast [eq_self, iff_self, IntWalk.iteOmega, IntWalk.toNatUp]
    have hml := minus_len a b k
    by_cases hlt : k < a.length
    · have hin := rin38_pure b (a.getD k default) (by omega)
      by_cases hm : a.getD k default ∈ b
      · rw [decide_eq_true hm] at hin
        have hs := minus_in hlt hm
        repeat' (first |  (refine pl_call2 false [] rfl rfl (by kernel_rfl) (hin) ?_ nofun ?_; push_cast [eq_self, iff_self, IntWalk.iteOmega, IntWalk.toNatUp]; rintro r os ⟨rfl, rfl⟩; refine pl_of_pops ?_; push_cast [eq_self, iff_self, IntWalk.iteOmega, IntWalk.toNatUp])  | (refine Kont.use (by assumption) ?_) | (refine pwp_seq fun K hK => ?_) | (refine pwp_block ?_) | (refine pwp_scope ?_) | ((first | (refine pwp_cut 8 [] ?_; first | refine pwp_region ?_ | refine pwp_quiet (by kernel_rfl) (by kernel_rfl) ?_) | refine pwp_exit ?_ | refine pwp_ret ?_ | refine pwp_skip ?_); push_cast [eq_self, iff_self, IntWalk.iteOmega, IntWalk.toNatUp]) | (refine pwp_cond ?_; push_cast [eq_self, iff_self, IntWalk.iteOmega, IntWalk.toNatUp]; try (refine ⟨fun h => ?_, fun h => ?_⟩ <;> (try simp only [decide_eq_true_eq, decide_eq_false_iff_not, Bool.not_eq_true', Bool.not_eq_false', Int.not_lt, Int.not_le, Nat.not_lt, Nat.not_le] at h) <;> (try (first | contradiction | (exfalso; omega) | exact nomatch (Eq.trans (Eq.symm h) (by assumption) : true = false) | exact nomatch (Eq.trans (Eq.symm h) (by assumption) : false = true))))))
        exact ⟨k + 1, by omega, by (refine weak_fg ?_; push_cast [eq_self, iff_self, IntWalk.iteOmega, IntWalk.toNatUp, hs]), by omega⟩
      · rw [decide_eq_false hm] at hin
        have hs := minus_out hlt hm
        repeat' (first |  (refine pl_call2 false [] rfl rfl (by kernel_rfl) (hin) ?_ nofun ?_; push_cast [eq_self, iff_self, IntWalk.iteOmega, IntWalk.toNatUp]; rintro r os ⟨rfl, rfl⟩; refine pl_of_pops ?_; push_cast [eq_self, iff_self, IntWalk.iteOmega, IntWalk.toNatUp])  | (refine Kont.use (by assumption) ?_) | (refine pwp_seq fun K hK => ?_) | (refine pwp_block ?_) | (refine pwp_scope ?_) | ((first | (refine pwp_cut 8 [] ?_; first | refine pwp_region ?_ | refine pwp_quiet (by kernel_rfl) (by kernel_rfl) ?_) | refine pwp_exit ?_ | refine pwp_ret ?_ | refine pwp_skip ?_); push_cast [eq_self, iff_self, IntWalk.iteOmega, IntWalk.toNatUp]) | (refine pwp_cond ?_; push_cast [eq_self, iff_self, IntWalk.iteOmega, IntWalk.toNatUp]; try (refine ⟨fun h => ?_, fun h => ?_⟩ <;> (try simp only [decide_eq_true_eq, decide_eq_false_iff_not, Bool.not_eq_true', Bool.not_eq_false', Int.not_lt, Int.not_le, Nat.not_lt, Nat.not_le] at h) <;> (try (first | contradiction | (exfalso; omega) | exact nomatch (Eq.trans (Eq.symm h) (by assumption) : true = false) | exact nomatch (Eq.trans (Eq.symm h) (by assumption) : false = true))))))
        exact ⟨k + 1, by omega, by (refine weak_fg ?_; push_cast [eq_self, iff_self, IntWalk.iteOmega, IntWalk.toNatUp, hs]), by omega⟩
    · rw [minus_end hlt]
      have hra := (minus_sub a b).length_le
      generalize hr : minusL a b = r at *
      repeat' (first | (refine Kont.use (by assumption) ?_) | (refine pwp_seq fun K hK => ?_) | (refine pwp_block ?_) | (refine pwp_scope ?_) | ((first | (refine pwp_cut 8 [] ?_; first | refine pwp_region ?_ | refine pwp_quiet (by kernel_rfl) (by kernel_rfl) ?_) | refine pwp_exit ?_ | refine pwp_ret ?_ | refine pwp_skip ?_); push_cast [eq_self, iff_self, IntWalk.iteOmega, IntWalk.toNatUp]) | (refine pwp_cond ?_; push_cast [eq_self, iff_self, IntWalk.iteOmega, IntWalk.toNatUp]; try (refine ⟨fun h => ?_, fun h => ?_⟩ <;> (try simp only [decide_eq_true_eq, decide_eq_false_iff_not, Bool.not_eq_true', Bool.not_eq_false', Int.not_lt, Int.not_le, Nat.not_lt, Nat.not_le] at h) <;> (try (first | contradiction | (exfalso; omega) | exact nomatch (Eq.trans (Eq.symm h) (by assumption) : true = false) | exact nomatch (Eq.trans (Eq.symm h) (by assumption) : false = true))))))
      (apply pwp_loop3 (α := Nat) 8 [] (fun j => [(7, .c (.v (.int .i64 j))), (5, .c (.own 0 (r.length + (minusL (b.take j) a).length)))]) (fun j => [(0, .arr 39 4 ((r.map (Chg.mk 1) ++ (minusL (b.take j) a).map (Chg.mk 2)).map Chg.d))]) (fun j => j ≤ b.length) (fun j => b.length - j) (0); (focus ((try push_cast [eq_self, iff_self, IntWalk.iteOmega, IntWalk.toNatUp]); rfl)); (focus exact (by omega)); (focus ((refine weak_fg ?_; try push_cast [eq_self, iff_self, IntWalk.iteOmega, IntWalk.toNatUp]); simp [minusL])))
      intro j hj
      push_cast [eq_self, iff_self, IntWalk.iteOmega, IntWalk.toNatUp]
      have hml := minus_len b a j
      by_cases hlt : j < b.length
      · have hin := rin38_pure a (b.getD j default) (by omega)
        by_cases hm : b.getD j default ∈ a
        · rw [decide_eq_true hm] at hin
          have hs := minus_in hlt hm
          repeat' (first |  (refine pl_call2 false [] rfl rfl (by kernel_rfl) (hin) ?_ nofun ?_; push_cast [eq_self, iff_self, IntWalk.iteOmega, IntWalk.toNatUp]; rintro r os ⟨rfl, rfl⟩; refine pl_of_pops ?_; push_cast [eq_self, iff_self, IntWalk.iteOmega, IntWalk.toNatUp])  | (refine Kont.use (by assumption) ?_) | (refine pwp_seq fun K hK => ?_) | (refine pwp_block ?_) | (refine pwp_scope ?_) | ((first | (refine pwp_cut 8 [] ?_; first | refine pwp_region ?_ | refine pwp_quiet (by kernel_rfl) (by kernel_rfl) ?_) | refine pwp_exit ?_ | refine pwp_ret ?_ | refine pwp_skip ?_); push_cast [eq_self, iff_self, IntWalk.iteOmega, IntWalk.toNatUp]) | (refine pwp_cond ?_; push_cast [eq_self, iff_self, IntWalk.iteOmega, IntWalk.toNatUp]; try (refine ⟨fun h => ?_, fun h => ?_⟩ <;> (try simp only [decide_eq_true_eq, decide_eq_false_iff_not, Bool.not_eq_true', Bool.not_eq_false', Int.not_lt, Int.not_le, Nat.not_lt, Nat.not_le] at h) <;> (try (first | contradiction | (exfalso; omega) | exact nomatch (Eq.trans (Eq.symm h) (by assumption) : true = false) | exact nomatch (Eq.trans (Eq.symm h) (by assumption) : false = true))))))
          exact ⟨j + 1, by omega, by (refine weak_fg ?_; push_cast [eq_self, iff_self, IntWalk.iteOmega, IntWalk.toNatUp, hs]), by omega⟩
        · rw [decide_eq_false hm] at hin
          have hs := minus_out hlt hm
          repeat' (first |  (refine pl_call2 false [] rfl rfl (by kernel_rfl) (hin) ?_ nofun ?_; push_cast [eq_self, iff_self, IntWalk.iteOmega, IntWalk.toNatUp]; rintro r os ⟨rfl, rfl⟩; refine pl_of_pops ?_; push_cast [eq_self, iff_self, IntWalk.iteOmega, IntWalk.toNatUp])  | (refine Kont.use (by assumption) ?_) | (refine pwp_seq fun K hK => ?_) | (refine pwp_block ?_) | (refine pwp_scope ?_) | ((first | (refine pwp_cut 8 [] ?_; first | refine pwp_region ?_ | refine pwp_quiet (by kernel_rfl) (by kernel_rfl) ?_) | refine pwp_exit ?_ | refine pwp_ret ?_ | refine pwp_skip ?_); push_cast [eq_self, iff_self, IntWalk.iteOmega, IntWalk.toNatUp]) | (refine pwp_cond ?_; push_cast [eq_self, iff_self, IntWalk.iteOmega, IntWalk.toNatUp]; try (refine ⟨fun h => ?_, fun h => ?_⟩ <;> (try simp only [decide_eq_true_eq, decide_eq_false_iff_not, Bool.not_eq_true', Bool.not_eq_false', Int.not_lt, Int.not_le, Nat.not_lt, Nat.not_le] at h) <;> (try (first | contradiction | (exfalso; omega) | exact nomatch (Eq.trans (Eq.symm h) (by assumption) : true = false) | exact nomatch (Eq.trans (Eq.symm h) (by assumption) : false = true))))))
          exact ⟨j + 1, by omega, by ((refine weak_fg ?_; push_cast [eq_self, iff_self, IntWalk.iteOmega, IntWalk.toNatUp, hs]); omega), by omega⟩
      · rw [minus_end hlt]
        repeat' (first | (refine Kont.use (by assumption) ?_) | (refine pwp_seq fun K hK => ?_) | (refine pwp_block ?_) | (refine pwp_scope ?_) | ((first | (refine pwp_cut 8 [] ?_; first | refine pwp_region ?_ | refine pwp_quiet (by kernel_rfl) (by kernel_rfl) ?_) | refine pwp_exit ?_ | refine pwp_ret ?_ | refine pwp_skip ?_); push_cast [eq_self, iff_self, IntWalk.iteOmega, IntWalk.toNatUp]) | (refine pwp_cond ?_; push_cast [eq_self, iff_self, IntWalk.iteOmega, IntWalk.toNatUp]; try (refine ⟨fun h => ?_, fun h => ?_⟩ <;> (try simp only [decide_eq_true_eq, decide_eq_false_iff_not, Bool.not_eq_true', Bool.not_eq_false', Int.not_lt, Int.not_le, Nat.not_lt, Nat.not_le] at h) <;> (try (first | contradiction | (exfalso; omega) | exact nomatch (Eq.trans (Eq.symm h) (by assumption) : true = false) | exact nomatch (Eq.trans (Eq.symm h) (by assumption) : false = true))))))
        (refine retK_of [] ?_; push_cast [eq_self, iff_self, IntWalk.iteOmega, IntWalk.toNatUp, planA, hr])
theorem chg_eq {a b : Chg} : a = b ↔ a.kind = b.kind ∧ a.acc = b.acc := by
  constructor
  · rintro rfl; exact ⟨rfl, rfl⟩
  · obtain ⟨k, c⟩ := a
    obtain ⟨k', c'⟩ := b
    rintro ⟨rfl, rfl⟩
    rfl
instance chgDec : DecidableEq Chg := fun a b => decidable_of_iff _ chg_eq.symm
theorem chg_beq (a b : Chg) : (decide (a.kind = b.kind) && (decide (a.acc.path = b.acc.path) && (decide (a.acc.node = b.acc.node) && decide (a.acc.user = b.acc.user)))) = decide (a = b) := by
  rw [acc_beq, Bool.eq_iff_iff]
  simp [chg_eq]
set_option maxHeartbeats 1000000 in
theorem samec_pure (l m : List Chg) (hl : l.length ≤ 1000000000) (hm : m.length ≤ 1000000000) :
    PCalls Tryd.prog 13 [.c (.sl 4 (l.map Chg.d)), .c (.sl 4 (m.map Chg.d))] [] fun r os => r = .c (.v (.bool (decide (l = m)))) ∧ os = [] := by
  refine pcalls_of Tryd.func13 rfl (by simp [Tryd.ntmps13]) ?_
  rw [Tryd.ntmps13, Tryd.results13]
  push_cast [eq_self, iff_self, IntWalk.iteOmega, IntWalk.toNatUp]
  by_cases hlm : l.length = m.length
  · have hlm' : ((l.length : Int) = m.length) = True := eq_true (by omega)
    repeat' (first | (refine Kont.use (by assumption) ?_) | (refine pwp_seq fun K hK => ?_) | (refine pwp_block ?_) | (refine pwp_scope ?_) | ((first | (refine pwp_cut 6 [] ?_; first | refine pwp_region ?_ | refine pwp_quiet (by kernel_rfl) (by kernel_rfl) ?_) | refine pwp_exit ?_ | refine pwp_ret ?_ | refine pwp_skip ?_); push_cast [eq_self, iff_self, IntWalk.iteOmega, IntWalk.toNatUp, hlm', ne_eq, not_true_eq_false]) | (refine pwp_cond ?_; push_cast [eq_self, iff_self, IntWalk.iteOmega, IntWalk.toNatUp, hlm', ne_eq, not_true_eq_false]; try (refine ⟨fun h => ?_, fun h => ?_⟩ <;> (try simp only [decide_eq_true_eq, decide_eq_false_iff_not, Bool.not_eq_true', Bool.not_eq_false', Int.not_lt, Int.not_le, Nat.not_lt, Nat.not_le] at h) <;> (try (first | contradiction | (exfalso; omega) | exact nomatch (Eq.trans (Eq.symm h) (by assumption) : true = false) | exact nomatch (Eq.trans (Eq.symm h) (by assumption) : false = true))))))
    (apply pwp_loop3 (α := Nat) 6 [] (fun k => [(5, .c (.v (.int .i64 k)))]) (fun k => []) (fun k => k ≤ l.length ∧ l.take k = m.take k) (fun k => l.length - k) (0); (focus ((try push_cast [eq_self, iff_self, IntWalk.iteOmega, IntWalk.toNatUp]); rfl)); (focus exact ⟨by omega, rfl⟩); (focus ((refine weak_fg ?_; try push_cast [eq_self, iff_self, IntWalk.iteOmega, IntWalk.toNatUp]))))
    rintro k ⟨hk, hn⟩
    push_cast [eq_self, iff_self, IntWalk.iteOmega, IntWalk.toNatUp]
    by_cases hlt : k < l.length
    · have hlt2 : k < m.length := by omega
      have hb := chg_beq (l.getD k default) (m.getD k default)
      by_cases he : l.getD k default = m.getD k default
      · rw [decide_eq_true he] at hb
        repeat' (first | (refine Kont.use (by assumption) ?_) | (refine pwp_seq fun K hK => ?_) | (refine pwp_block ?_) | (refine pwp_scope ?_) | ((first | (refine pwp_cut 6 [] ?_; first | refine pwp_region ?_ | refine pwp_quiet (by kernel_rfl) (by kernel_rfl) ?_) | refine pwp_exit ?_ | refine pwp_ret ?_ | refine pwp_skip ?_); push_cast [eq_self, iff_self, IntWalk.iteOmega, IntWalk.toNatUp, hb]) | (refine pwp_cond ?_; push_cast [eq_self, iff_self, IntWalk.iteOmega, IntWalk.toNatUp, hb]; try (refine ⟨fun h => ?_, fun h => ?_⟩ <;> (try simp only [decide_eq_true_eq, decide_eq_false_iff_not, Bool.not_eq_true', Bool.not_eq_false', Int.not_lt, Int.not_le, Nat.not_lt, Nat.not_le] at h) <;> (try (first | contradiction | (exfalso; omega) | exact nomatch (Eq.trans (Eq.symm h) (by assumption) : true = false) | exact nomatch (Eq.trans (Eq.symm h) (by assumption) : false = true))))))
        refine ⟨k + 1, ⟨by omega, ?_⟩, by (refine weak_fg ?_; push_cast [eq_self, iff_self, IntWalk.iteOmega, IntWalk.toNatUp]), by omega⟩
        rw [List.take_succ_eq_append_getElem hlt, List.take_succ_eq_append_getElem hlt2, hn, ← getD_lt l hlt, ← getD_lt m hlt2, he]
      · rw [decide_eq_false he] at hb
        repeat' (first | (refine Kont.use (by assumption) ?_) | (refine pwp_seq fun K hK => ?_) | (refine pwp_block ?_) | (refine pwp_scope ?_) | ((first | (refine pwp_cut 6 [] ?_; first | refine pwp_region ?_ | refine pwp_quiet (by kernel_rfl) (by kernel_rfl) ?_) | refine pwp_exit ?_ | refine pwp_ret ?_ | refine pwp_skip ?_); push_cast [eq_self, iff_self, IntWalk.iteOmega, IntWalk.toNatUp, hb]) | (refine pwp_cond ?_; push_cast [eq_self, iff_self, IntWalk.iteOmega, IntWalk.toNatUp, hb]; try (refine ⟨fun h => ?_, fun h => ?_⟩ <;> (try simp only [decide_eq_true_eq, decide_eq_false_iff_not, Bool.not_eq_true', Bool.not_eq_false', Int.not_lt, Int.not_le, Nat.not_lt, Nat.not_le] at h) <;> (try (first | contradiction | (exfalso; omega) | exact nomatch (Eq.trans (Eq.symm h) (by assumption) : true = false) | exact nomatch (Eq.trans (Eq.symm h) (by assumption) : false = true))))))
        (refine retK_of [] ?_; push_cast [eq_self, iff_self, IntWalk.iteOmega, IntWalk.toNatUp])
        rw [decide_eq_false]
        rintro rfl
        exact he rfl
    · rw [List.take_of_length_le (by omega), List.take_of_length_le (by omega)] at hn
      repeat' (first | (refine Kont.use (by assumption) ?_) | (refine pwp_seq fun K hK => ?_) | (refine pwp_block ?_) | (refine pwp_scope ?_) | ((first | (refine pwp_cut 6 [] ?_; first | refine pwp_region ?_ | refine pwp_quiet (by kernel_rfl) (by kernel_rfl) ?_) | refine pwp_exit ?_ | refine pwp_ret ?_ | refine pwp_skip ?_); push_cast [eq_self, iff_self, IntWalk.iteOmega, IntWalk.toNatUp]) | (refine pwp_cond ?_; push_cast [eq_self, iff_self, IntWalk.iteOmega, IntWalk.toNatUp]; try (refine ⟨fun h => ?_, fun h => ?_⟩ <;> (try simp only [decide_eq_true_eq, decide_eq_false_iff_not, Bool.not_eq_true', Bool.not_eq_false', Int.not_lt, Int.not_le, Nat.not_lt, Nat.not_le] at h) <;> (try (first | contradiction | (exfalso; omega) | exact nomatch (Eq.trans (Eq.symm h) (by assumption) : true = false) | exact nomatch (Eq.trans (Eq.symm h) (by assumption) : false = true))))))
      (refine retK_of [] ?_; push_cast [eq_self, iff_self, IntWalk.iteOmega, IntWalk.toNatUp])
      rw [decide_eq_true hn]
  · have hlm' : ¬ ((l.length : Int) = m.length) := by omega
    repeat' (first | (refine Kont.use (by assumption) ?_) | (refine pwp_seq fun K hK => ?_) | (refine pwp_block ?_) | (refine pwp_scope ?_) | ((first | (refine pwp_cut 6 [] ?_; first | refine pwp_region ?_ | refine pwp_quiet (by kernel_rfl) (by kernel_rfl) ?_) | refine pwp_exit ?_ | refine pwp_ret ?_ | refine pwp_skip ?_); push_cast [eq_self, iff_self, IntWalk.iteOmega, IntWalk.toNatUp, hlm', ne_eq, not_false_eq_true]) | (refine pwp_cond ?_; push_cast [eq_self, iff_self, IntWalk.iteOmega, IntWalk.toNatUp, hlm', ne_eq, not_false_eq_true]; try (refine ⟨fun h => ?_, fun h => ?_⟩ <;> (try simp only [decide_eq_true_eq, decide_eq_false_iff_not, Bool.not_eq_true', Bool.not_eq_false', Int.not_lt, Int.not_le, Nat.not_lt, Nat.not_le] at h) <;> (try (first | contradiction | (exfalso; omega) | exact nomatch (Eq.trans (Eq.symm h) (by assumption) : true = false) | exact nomatch (Eq.trans (Eq.symm h) (by assumption) : false = true))))))
    (refine retK_of [] ?_; push_cast [eq_self, iff_self, IntWalk.iteOmega, IntWalk.toNatUp])
    rw [decide_eq_false]
    rintro rfl
    exact hlm rfl
/-! ### Right -/
theorem parts_rest {a : ByteArray} (h : slashS a = true) : parts a = ⟨#[]⟩ :: parts (restS a) := by
  unfold parts
  rw [slash_rest h, spl, if_pos rfl]
  rfl
theorem order_cmp {a b : ByteArray} (ha : okP1 a) (hb : okP1 b) : cmpL (parts a) (parts b) = cmpP a b := by
  obtain ⟨l, hl⟩ := ha
  obtain ⟨m, hm⟩ := hb
  unfold cmpP
  rw [hl, hm]
  unfold splitP at hl hm
  split at hl
  · rename_i h1
    split at hm
    · rename_i h2
      cases hl
      cases hm
      rw [parts_rest h1.1, parts_rest h2.1, cmpL, if_pos rfl]
    · cases hm
  · cases hl
theorem right_at {l : List Acc} (h : Right l) {i k : Nat} (hi : i < l.length) (hk : k < i) : ltA (l.getD k default) (l.getD i default) ∧ (l.getD k default).node ≠ (l.getD i default).node := by
  rw [getD_lt l hi, getD_lt l (by omega)]
  refine ⟨List.pairwise_iff_getElem.1 h.asc k i (by omega) hi hk, fun e => ?_⟩
  have := List.pairwise_iff_getElem.1 h.nodes k i (by rw [List.length_map]; omega) (by rw [List.length_map]; omega) hk
  rw [List.getElem_map, List.getElem_map] at this
  exact this e
set_option maxHeartbeats 2000000 in
theorem rright_pure (l : List Acc) (hl : l.length ≤ 1000000) (hR : Right l) (hz : ∀ y ∈ l, y.path.size ≤ 100000000) :
    PCalls Tryd.prog 20 [.c (.sl 3 (l.map Acc.d))] [] fun y os => y = .c (.v (.bool true)) ∧ os = [] := by
  refine pcalls_of Tryd.func20 rfl (by simp [Tryd.ntmps20]) ?_
  rw [Tryd.ntmps20, Tryd.results20]
  push_cast [eq_self, iff_self, IntWalk.iteOmega, IntWalk.toNatUp]
  repeat' (first | (refine Kont.use (by assumption) ?_) | (refine pwp_seq fun K hK => ?_) | (refine pwp_block ?_) | (refine pwp_scope ?_) | ((first | (refine pwp_cut 7 [] ?_; first | refine pwp_region ?_ | refine pwp_quiet (by kernel_rfl) (by kernel_rfl) ?_) | refine pwp_exit ?_ | refine pwp_ret ?_ | refine pwp_skip ?_); push_cast [eq_self, iff_self, IntWalk.iteOmega, IntWalk.toNatUp]) | (refine pwp_cond ?_; push_cast [eq_self, iff_self, IntWalk.iteOmega, IntWalk.toNatUp]; try (refine ⟨fun h => ?_, fun h => ?_⟩ <;> (try simp only [decide_eq_true_eq, decide_eq_false_iff_not, Bool.not_eq_true', Bool.not_eq_false', Int.not_lt, Int.not_le, Nat.not_lt, Nat.not_le] at h) <;> (try (first | contradiction | (exfalso; omega) | exact nomatch (Eq.trans (Eq.symm h) (by assumption) : true = false) | exact nomatch (Eq.trans (Eq.symm h) (by assumption) : false = true))))))
  (apply pwp_loop3 (α := Nat) 7 [] (fun i => [(3, .c (.v (.int .i64 i)))]) (fun i => []) (fun i => i ≤ l.length) (fun i => l.length - i) (0); (focus ((try push_cast [eq_self, iff_self, IntWalk.iteOmega, IntWalk.toNatUp]); rfl)); (focus exact (by omega)); (focus ((refine weak_fg ?_; try push_cast [eq_self, iff_self, IntWalk.iteOmega, IntWalk.toNatUp]))))
  intro i hi
  push_cast [eq_self, iff_self, IntWalk.iteOmega, IntWalk.toNatUp]
  by_cases hlt : i < l.length
  · have hmem : ∀ k, k < l.length → l.getD k default ∈ l := fun k hk => by rw [getD_lt l hk]; exact List.getElem_mem _
    obtain ⟨p, hp⟩ := hR.ok _ (hmem i hlt)
    have hs := rsplit_pure (l.getD i default).path (hz _ (hmem i hlt))
    rw [hp] at hs
    simp only [rsplitR] at hs
    by_cases h0 : 0 < i
    · have hc := (right_at hR hlt (show i - 1 < i by omega)).1
      unfold ltA at hc
      rw [← order_cmp (hR.ok _ (hmem _ (by omega))) (hR.ok _ (hmem i hlt))] at hc
      have ho := rorder_pure (l.getD (i - 1) default).path (l.getD i default).path (hz _ (hmem _ (by omega))) (hz _ (hmem i hlt))
      generalize cmpL (parts (l.getD (i - 1) default).path) (parts (l.getD i default).path) = c at *
      repeat' (first |  (refine pl_call2 false [] rfl rfl (by kernel_rfl) (hs) ?_ nofun ?_; push_cast [eq_self, iff_self, IntWalk.iteOmega, IntWalk.toNatUp]; rintro r os ⟨rfl, rfl⟩; refine pl_of_pops ?_; push_cast [eq_self, iff_self, IntWalk.iteOmega, IntWalk.toNatUp]) | (refine ql_call2 false rfl rfl (by kernel_rfl) (ho) (fun r os h => h.1) rfl ?_ ?_; push_cast [eq_self, iff_self, IntWalk.iteOmega, IntWalk.toNatUp]; refine ql_of_qops ?_; push_cast [eq_self, iff_self, IntWalk.iteOmega, IntWalk.toNatUp])  | (refine Kont.use (by assumption) ?_) | (refine pwp_seq fun K hK => ?_) | (refine pwp_block ?_) | (refine pwp_scope ?_) | ((first | (refine pwp_cut 7 [] ?_; first | refine pwp_region ?_ | refine pwp_quiet (by kernel_rfl) (by kernel_rfl) ?_) | refine pwp_exit ?_ | refine pwp_ret ?_ | refine pwp_skip ?_); push_cast [eq_self, iff_self, IntWalk.iteOmega, IntWalk.toNatUp]) | (refine pwp_cond ?_; push_cast [eq_self, iff_self, IntWalk.iteOmega, IntWalk.toNatUp]; try (refine ⟨fun h => ?_, fun h => ?_⟩ <;> (try simp only [decide_eq_true_eq, decide_eq_false_iff_not, Bool.not_eq_true', Bool.not_eq_false', Int.not_lt, Int.not_le, Nat.not_lt, Nat.not_le] at h) <;> (try (first | contradiction | (exfalso; omega) | exact nomatch (Eq.trans (Eq.symm h) (by assumption) : true = false) | exact nomatch (Eq.trans (Eq.symm h) (by assumption) : false = true))))))
      (apply pwp_loop3 (α := Nat) 7 [] (fun k => [(6, .c (.v (.int .i64 k)))]) (fun k => []) (fun k => k ≤ i) (fun k => i - k) (0); (focus ((try push_cast [eq_self, iff_self, IntWalk.iteOmega, IntWalk.toNatUp]); rfl)); (focus exact (by omega)); (focus ((refine weak_fg ?_; try push_cast [eq_self, iff_self, IntWalk.iteOmega, IntWalk.toNatUp]))))
      intro k hk
      push_cast [eq_self, iff_self, IntWalk.iteOmega, IntWalk.toNatUp]
      by_cases hki : k < i
      · have hne := (right_at hR hlt hki).2
        repeat' (first | (refine Kont.use (by assumption) ?_) | (refine pwp_seq fun K hK => ?_) | (refine pwp_block ?_) | (refine pwp_scope ?_) | ((first | (refine pwp_cut 7 [] ?_; first | refine pwp_region ?_ | refine pwp_quiet (by kernel_rfl) (by kernel_rfl) ?_) | refine pwp_exit ?_ | refine pwp_ret ?_ | refine pwp_skip ?_); push_cast [eq_self, iff_self, IntWalk.iteOmega, IntWalk.toNatUp, hne]) | (refine pwp_cond ?_; push_cast [eq_self, iff_self, IntWalk.iteOmega, IntWalk.toNatUp, hne]; try (refine ⟨fun h => ?_, fun h => ?_⟩ <;> (try simp only [decide_eq_true_eq, decide_eq_false_iff_not, Bool.not_eq_true', Bool.not_eq_false', Int.not_lt, Int.not_le, Nat.not_lt, Nat.not_le] at h) <;> (try (first | contradiction | (exfalso; omega) | exact nomatch (Eq.trans (Eq.symm h) (by assumption) : true = false) | exact nomatch (Eq.trans (Eq.symm h) (by assumption) : false = true))))))
        exact ⟨k + 1, by omega, by (refine weak_fg ?_; push_cast [eq_self, iff_self, IntWalk.iteOmega, IntWalk.toNatUp]), by omega⟩
      · repeat' (first | (refine Kont.use (by assumption) ?_) | (refine pwp_seq fun K hK => ?_) | (refine pwp_block ?_) | (refine pwp_scope ?_) | ((first | (refine pwp_cut 7 [] ?_; first | refine pwp_region ?_ | refine pwp_quiet (by kernel_rfl) (by kernel_rfl) ?_) | refine pwp_exit ?_ | refine pwp_ret ?_ | refine pwp_skip ?_); push_cast [eq_self, iff_self, IntWalk.iteOmega, IntWalk.toNatUp]) | (refine pwp_cond ?_; push_cast [eq_self, iff_self, IntWalk.iteOmega, IntWalk.toNatUp]; try (refine ⟨fun h => ?_, fun h => ?_⟩ <;> (try simp only [decide_eq_true_eq, decide_eq_false_iff_not, Bool.not_eq_true', Bool.not_eq_false', Int.not_lt, Int.not_le, Nat.not_lt, Nat.not_le] at h) <;> (try (first | contradiction | (exfalso; omega) | exact nomatch (Eq.trans (Eq.symm h) (by assumption) : true = false) | exact nomatch (Eq.trans (Eq.symm h) (by assumption) : false = true))))))
        exact ⟨i + 1, by omega, by (refine weak_fg ?_; push_cast [eq_self, iff_self, IntWalk.iteOmega, IntWalk.toNatUp]), by omega⟩
    · have h0' : i = 0 := by omega
      subst h0'
      repeat' (first |  (refine pl_call2 false [] rfl rfl (by kernel_rfl) (hs) ?_ nofun ?_; push_cast [eq_self, iff_self, IntWalk.iteOmega, IntWalk.toNatUp]; rintro r os ⟨rfl, rfl⟩; refine pl_of_pops ?_; push_cast [eq_self, iff_self, IntWalk.iteOmega, IntWalk.toNatUp])  | (refine Kont.use (by assumption) ?_) | (refine pwp_seq fun K hK => ?_) | (refine pwp_block ?_) | (refine pwp_scope ?_) | ((first | (refine pwp_cut 7 [] ?_; first | refine pwp_region ?_ | refine pwp_quiet (by kernel_rfl) (by kernel_rfl) ?_) | refine pwp_exit ?_ | refine pwp_ret ?_ | refine pwp_skip ?_); push_cast [eq_self, iff_self, IntWalk.iteOmega, IntWalk.toNatUp]) | (refine pwp_cond ?_; push_cast [eq_self, iff_self, IntWalk.iteOmega, IntWalk.toNatUp]; try (refine ⟨fun h => ?_, fun h => ?_⟩ <;> (try simp only [decide_eq_true_eq, decide_eq_false_iff_not, Bool.not_eq_true', Bool.not_eq_false', Int.not_lt, Int.not_le, Nat.not_lt, Nat.not_le] at h) <;> (try (first | contradiction | (exfalso; omega) | exact nomatch (Eq.trans (Eq.symm h) (by assumption) : true = false) | exact nomatch (Eq.trans (Eq.symm h) (by assumption) : false = true))))))
      (apply pwp_loop3 (α := Nat) 7 [] (fun k => [(6, .c (.v (.int .i64 k)))]) (fun k => []) (fun k => k ≤ 0) (fun k => 0 - k) (0); (focus ((try push_cast [eq_self, iff_self, IntWalk.iteOmega, IntWalk.toNatUp]); rfl)); (focus exact (by omega)); (focus ((refine weak_fg ?_; try push_cast [eq_self, iff_self, IntWalk.iteOmega, IntWalk.toNatUp]))))
      intro k hk
      have hk0 : k = 0 := by omega
      subst hk0
      push_cast [eq_self, iff_self, IntWalk.iteOmega, IntWalk.toNatUp]
      repeat' (first | (refine Kont.use (by assumption) ?_) | (refine pwp_seq fun K hK => ?_) | (refine pwp_block ?_) | (refine pwp_scope ?_) | ((first | (refine pwp_cut 7 [] ?_; first | refine pwp_region ?_ | refine pwp_quiet (by kernel_rfl) (by kernel_rfl) ?_) | refine pwp_exit ?_ | refine pwp_ret ?_ | refine pwp_skip ?_); push_cast [eq_self, iff_self, IntWalk.iteOmega, IntWalk.toNatUp]) | (refine pwp_cond ?_; push_cast [eq_self, iff_self, IntWalk.iteOmega, IntWalk.toNatUp]; try (refine ⟨fun h => ?_, fun h => ?_⟩ <;> (try simp only [decide_eq_true_eq, decide_eq_false_iff_not, Bool.not_eq_true', Bool.not_eq_false', Int.not_lt, Int.not_le, Nat.not_lt, Nat.not_le] at h) <;> (try (first | contradiction | (exfalso; omega) | exact nomatch (Eq.trans (Eq.symm h) (by assumption) : true = false) | exact nomatch (Eq.trans (Eq.symm h) (by assumption) : false = true))))))
      exact ⟨0 + 1, by omega, by (refine weak_fg ?_; push_cast [eq_self, iff_self, IntWalk.iteOmega, IntWalk.toNatUp]), by omega⟩
  · repeat' (first | (refine Kont.use (by assumption) ?_) | (refine pwp_seq fun K hK => ?_) | (refine pwp_block ?_) | (refine pwp_scope ?_) | ((first | (refine pwp_cut 7 [] ?_; first | refine pwp_region ?_ | refine pwp_quiet (by kernel_rfl) (by kernel_rfl) ?_) | refine pwp_exit ?_ | refine pwp_ret ?_ | refine pwp_skip ?_); push_cast [eq_self, iff_self, IntWalk.iteOmega, IntWalk.toNatUp]) | (refine pwp_cond ?_; push_cast [eq_self, iff_self, IntWalk.iteOmega, IntWalk.toNatUp]; try (refine ⟨fun h => ?_, fun h => ?_⟩ <;> (try simp only [decide_eq_true_eq, decide_eq_false_iff_not, Bool.not_eq_true', Bool.not_eq_false', Int.not_lt, Int.not_le, Nat.not_lt, Nat.not_le] at h) <;> (try (first | contradiction | (exfalso; omega) | exact nomatch (Eq.trans (Eq.symm h) (by assumption) : true = false) | exact nomatch (Eq.trans (Eq.symm h) (by assumption) : false = true))))))
    (refine retK_of [] ?_; push_cast [eq_self, iff_self, IntWalk.iteOmega, IntWalk.toNatUp])
/-! ### what Apply returns -/
def applyM (l : List Acc) (c : Chg) : List Acc × Int := match applyA l c with
  | (some m, e) => (m, e)
  | (none, e) => ([], e)
theorem applyM_rev {l : List Acc} {x : Acc} (h : x ∈ l) : applyM l ⟨1, x⟩ = (l.filter fun y => decide (y ≠ x), 0) := by
  unfold applyM applyA
  simp [h]
theorem applyM_none {l : List Acc} {x : Acc} (h : x ∉ l) : applyM l ⟨1, x⟩ = ([], 381) := by
  unfold applyM applyA
  simp [h]
theorem applyM_kind {l : List Acc} {c : Chg} (h1 : ¬ c.kind = 1) (h2 : ¬ c.kind = 2) : applyM l c = ([], 380) := by
  unfold applyM applyA
  simp [h1, h2]
theorem applyM_taken {l : List Acc} {x : Acc} (h : ∃ y ∈ l, y.path = x.path ∨ y.node = x.node) : applyM l ⟨2, x⟩ = ([], 382) := by
  unfold applyM applyA
  simp only [if_pos h]
  rfl
theorem applyM_path {l : List Acc} {x : Acc} (h : ¬ ∃ y ∈ l, y.path = x.path ∨ y.node = x.node) (hx : splitP x.path = none) : applyM l ⟨2, x⟩ = ([], 383) := by
  unfold applyM applyA
  simp only [if_neg h, hx]
  rfl
theorem applyM_grant {l : List Acc} {x : Acc} (h : ¬ ∃ y ∈ l, y.path = x.path ∨ y.node = x.node) (hx : okP1 x.path) : applyM l ⟨2, x⟩ = (insA x l, 0) := by
  obtain ⟨p, hp⟩ := hx
  unfold applyM applyA
  simp only [if_neg h, hp]
  rfl
/-- a list and an error, as a result -/
def accR (p : List Acc × Int) : PV := .two (.c (.sl 3 (p.1.map Acc.d))) (.c (.v (.int .i64 p.2)))
end Go.Proofs.YtipgjpcbmnlbhaaDoor
namespace Go.Proofs.YtipgjpcbmnlbhaaDoor
attribute [local irreducible] PL QL PWP PCalls Weak RetK Kont PA
open Go.RowKit
set_option linter.unusedVariables false
set_option linter.unusedSimpArgs false
set_option maxHeartbeats 1000000 in
theorem apply_none_pure (l : List Acc) (x : Acc) (hl : l.length ≤ 1000000) (h : x ∉ l) :
    PCalls Tryd.prog 11 [.c (.sl 3 (l.map Acc.d)), .agg (Chg.mk 1 x).e] [] fun r os => r = accR ([], 381) ∧ os = [] := by
  have hx := (aindex_pure l x (by omega)).mono (R' := fun r os => r = .c (.v (.int .i64 (-1))) ∧ os = []) (by
    rintro r os ⟨k, hk, rfl, rfl⟩
    rw [idx_none hk h]
    exact ⟨rfl, rfl⟩)
  refine pcalls_of Tryd.func11 rfl (by simp [Tryd.ntmps11]) ?_
  rw [Tryd.ntmps11, Tryd.results11]
  unfold accR
  push_cast [eq_self, iff_self, IntWalk.iteOmega, IntWalk.toNatUp]
  repeat' (first |  (refine pl_call2 false [] rfl rfl (by kernel_rfl) (hx) ?_ nofun ?_; push_cast [eq_self, iff_self, IntWalk.iteOmega, IntWalk.toNatUp]; rintro r os ⟨rfl, rfl⟩; refine pl_of_pops ?_; push_cast [eq_self, iff_self, IntWalk.iteOmega, IntWalk.toNatUp])  | (refine Kont.use (by assumption) ?_) | (refine pwp_seq fun K hK => ?_) | (refine pwp_block ?_) | (refine pwp_scope ?_) | ((first | (refine pwp_cut 12 [] ?_; first | refine pwp_region ?_ | refine pwp_quiet (by kernel_rfl) (by kernel_rfl) ?_) | refine pwp_exit ?_ | refine pwp_ret ?_ | refine pwp_skip ?_); push_cast [eq_self, iff_self, IntWalk.iteOmega, IntWalk.toNatUp]) | (refine pwp_cond ?_; push_cast [eq_self, iff_self, IntWalk.iteOmega, IntWalk.toNatUp]; try (refine ⟨fun h => ?_, fun h => ?_⟩ <;> (try simp only [decide_eq_true_eq, decide_eq_false_iff_not, Bool.not_eq_true', Bool.not_eq_false', Int.not_lt, Int.not_le, Nat.not_lt, Nat.not_le] at h) <;> (try (first | contradiction | (exfalso; omega) | exact nomatch (Eq.trans (Eq.symm h) (by assumption) : true = false) | exact nomatch (Eq.trans (Eq.symm h) (by assumption) : false = true))))))
  (refine retK_of [] ?_; push_cast [eq_self, iff_self, IntWalk.iteOmega, IntWalk.toNatUp])
set_option maxHeartbeats 1000000 in
theorem apply_kind_pure (l : List Acc) (c : Chg) (h1 : ¬ c.kind = 1) (h2 : ¬ c.kind = 2) :
    PCalls Tryd.prog 11 [.c (.sl 3 (l.map Acc.d)), .agg c.e] [] fun r os => r = accR ([], 380) ∧ os = [] := by
  refine pcalls_of Tryd.func11 rfl (by simp [Tryd.ntmps11]) ?_
  rw [Tryd.ntmps11, Tryd.results11]
  unfold accR
  push_cast [eq_self, iff_self, IntWalk.iteOmega, IntWalk.toNatUp]
  repeat' (first | (refine Kont.use (by assumption) ?_) | (refine pwp_seq fun K hK => ?_) | (refine pwp_block ?_) | (refine pwp_scope ?_) | ((first | (refine pwp_cut 12 [] ?_; first | refine pwp_region ?_ | refine pwp_quiet (by kernel_rfl) (by kernel_rfl) ?_) | refine pwp_exit ?_ | refine pwp_ret ?_ | refine pwp_skip ?_); push_cast [eq_self, iff_self, IntWalk.iteOmega, IntWalk.toNatUp, h1, h2, ne_eq, not_false_eq_true]) | (refine pwp_cond ?_; push_cast [eq_self, iff_self, IntWalk.iteOmega, IntWalk.toNatUp, h1, h2, ne_eq, not_false_eq_true]; try (refine ⟨fun h => ?_, fun h => ?_⟩ <;> (try simp only [decide_eq_true_eq, decide_eq_false_iff_not, Bool.not_eq_true', Bool.not_eq_false', Int.not_lt, Int.not_le, Nat.not_lt, Nat.not_le] at h) <;> (try (first | contradiction | (exfalso; omega) | exact nomatch (Eq.trans (Eq.symm h) (by assumption) : true = false) | exact nomatch (Eq.trans (Eq.symm h) (by assumption) : false = true))))))
  (refine retK_of [] ?_; push_cast [eq_self, iff_self, IntWalk.iteOmega, IntWalk.toNatUp])
set_option maxHeartbeats 1000000 in
theorem apply_taken_data (l : List Acc) (x : Acc) (hl : l.length ≤ 1000000) (h : ∃ y ∈ l, y.path = x.path ∨ y.node = x.node) :
    PCalls Tryd.prog 11 [.c (.sl 3 (l.map Acc.d)), .agg (Chg.mk 2 x).e] [] fun r os => r = accR ([], 382) ∧ os = [] := by
  have hp : PredA Tryd.prog 25 [0] [.box 31 x.e] l (clashA x) := ⟨by kernel_rfl, fun y _ => applyF_pure x y⟩
  have hc := containsFuncA_pure l (by omega) 25 [0] _ (clashA x) hp
  rw [clash_any, decide_eq_true h] at hc
  refine pcalls_of Tryd.func11 rfl (by simp [Tryd.ntmps11]) ?_
  rw [Tryd.ntmps11, Tryd.results11]
  unfold accR
  push_cast [eq_self, iff_self, IntWalk.iteOmega, IntWalk.toNatUp]
  repeat' (first |  (refine pl_call2 false [1] rfl rfl (by kernel_rfl) (hc) ?_ nofun ?_; push_cast [eq_self, iff_self, IntWalk.iteOmega, IntWalk.toNatUp]; rintro r os ⟨rfl, rfl⟩; refine pl_of_pops ?_; push_cast [eq_self, iff_self, IntWalk.iteOmega, IntWalk.toNatUp])  | (refine Kont.use (by assumption) ?_) | (refine pwp_seq fun K hK => ?_) | (refine pwp_block ?_) | (refine pwp_scope ?_) | ((first | (refine pwp_cut 12 [] ?_; first | refine pwp_region ?_ | refine pwp_quiet (by kernel_rfl) (by kernel_rfl) ?_) | refine pwp_exit ?_ | refine pwp_ret ?_ | refine pwp_skip ?_); push_cast [eq_self, iff_self, IntWalk.iteOmega, IntWalk.toNatUp]) | (refine pwp_cond ?_; push_cast [eq_self, iff_self, IntWalk.iteOmega, IntWalk.toNatUp]; try (refine ⟨fun h => ?_, fun h => ?_⟩ <;> (try simp only [decide_eq_true_eq, decide_eq_false_iff_not, Bool.not_eq_true', Bool.not_eq_false', Int.not_lt, Int.not_le, Nat.not_lt, Nat.not_le] at h) <;> (try (first | contradiction | (exfalso; omega) | exact nomatch (Eq.trans (Eq.symm h) (by assumption) : true = false) | exact nomatch (Eq.trans (Eq.symm h) (by assumption) : false = true))))))
  (refine retK_of [] ?_; push_cast [eq_self, iff_self, IntWalk.iteOmega, IntWalk.toNatUp])
set_option maxHeartbeats 1000000 in
theorem apply_path_pure (l : List Acc) (x : Acc) (hl : l.length ≤ 1000000) (h : ¬ ∃ y ∈ l, y.path = x.path ∨ y.node = x.node) (hx : x.path.size ≤ 100000000) (hn : splitP x.path = none) :
    PCalls Tryd.prog 11 [.c (.sl 3 (l.map Acc.d)), .agg (Chg.mk 2 x).e] [] fun r os => r = accR ([], 383) ∧ os = [] := by
  have hp : PredA Tryd.prog 25 [0] [.box 31 x.e] l (clashA x) := ⟨by kernel_rfl, fun y _ => applyF_pure x y⟩
  have hc := containsFuncA_pure l (by omega) 25 [0] _ (clashA x) hp
  rw [clash_any, decide_eq_false h] at hc
  have hs := nsplit_pure x.path hx
  rw [hn] at hs
  simp only [splitR] at hs
  refine pcalls_of Tryd.func11 rfl (by simp [Tryd.ntmps11]) ?_
  rw [Tryd.ntmps11, Tryd.results11]
  unfold accR
  push_cast [eq_self, iff_self, IntWalk.iteOmega, IntWalk.toNatUp]
  repeat' (first |  (refine pl_call2 false [1] rfl rfl (by kernel_rfl) (hc) ?_ nofun ?_; push_cast [eq_self, iff_self, IntWalk.iteOmega, IntWalk.toNatUp]; rintro r os ⟨rfl, rfl⟩; refine pl_of_pops ?_; push_cast [eq_self, iff_self, IntWalk.iteOmega, IntWalk.toNatUp]) | (refine pl_call2 false [] rfl rfl (by kernel_rfl) (hs) ?_ nofun ?_; push_cast [eq_self, iff_self, IntWalk.iteOmega, IntWalk.toNatUp]; rintro r os ⟨rfl, rfl⟩; refine pl_of_pops ?_; push_cast [eq_self, iff_self, IntWalk.iteOmega, IntWalk.toNatUp])  | (refine Kont.use (by assumption) ?_) | (refine pwp_seq fun K hK => ?_) | (refine pwp_block ?_) | (refine pwp_scope ?_) | ((first | (refine pwp_cut 12 [] ?_; first | refine pwp_region ?_ | refine pwp_quiet (by kernel_rfl) (by kernel_rfl) ?_) | refine pwp_exit ?_ | refine pwp_ret ?_ | refine pwp_skip ?_); push_cast [eq_self, iff_self, IntWalk.iteOmega, IntWalk.toNatUp]) | (refine pwp_cond ?_; push_cast [eq_self, iff_self, IntWalk.iteOmega, IntWalk.toNatUp]; try (refine ⟨fun h => ?_, fun h => ?_⟩ <;> (try simp only [decide_eq_true_eq, decide_eq_false_iff_not, Bool.not_eq_true', Bool.not_eq_false', Int.not_lt, Int.not_le, Nat.not_lt, Nat.not_le] at h) <;> (try (first | contradiction | (exfalso; omega) | exact nomatch (Eq.trans (Eq.symm h) (by assumption) : true = false) | exact nomatch (Eq.trans (Eq.symm h) (by assumption) : false = true))))))
  (refine retK_of [] ?_; push_cast [eq_self, iff_self, IntWalk.iteOmega, IntWalk.toNatUp])
set_option maxHeartbeats 1000000 in
theorem apply_rev_data (l : List Acc) (x : Acc) (hl : l.length ≤ 1000000) (h : x ∈ l) (hn : l.Nodup) :
    PCalls Tryd.prog 11 [.c (.sl 3 (l.map Acc.d)), .agg (Chg.mk 1 x).e] [] fun r os => r = accR (l.filter fun y => decide (y ≠ x), 0) ∧ os = [] := by
  have hx := (aindex_pure l x (by omega)).mono (R' := fun r os => ∃ i : Nat, (i < l.length ∧ l.take i ++ l.drop (i + 1) = l.filter fun y => decide (y ≠ x)) ∧ r = .c (.v (.int .i64 ((i : Int)))) ∧ os = []) (by
    rintro r os ⟨k, hk, rfl, rfl⟩
    obtain ⟨i, rfl, h1, h2⟩ := idx_some hk h hn
    exact ⟨i, ⟨h1, h2⟩, rfl, rfl⟩)
  have hc := clone_pure l (by omega)
  generalize l.filter (fun y => decide (y ≠ x)) = m at *
  refine pcalls_of Tryd.func11 rfl (by simp [Tryd.ntmps11]) ?_
  rw [Tryd.ntmps11, Tryd.results11]
  unfold accR
  push_cast [eq_self, iff_self, IntWalk.iteOmega, IntWalk.toNatUp]
  repeat' (first |  (refine pl_call2 false [] rfl rfl (by kernel_rfl) (hx) ?_ nofun ?_; push_cast [eq_self, iff_self, IntWalk.iteOmega, IntWalk.toNatUp]; rintro r os ⟨i, ⟨hi, he⟩, rfl, rfl⟩; refine pl_of_pops ?_; push_cast [eq_self, iff_self, IntWalk.iteOmega, IntWalk.toNatUp]) | (refine pl_call2 false [] rfl rfl (by kernel_rfl) (hc) ?_ nofun ?_; push_cast [eq_self, iff_self, IntWalk.iteOmega, IntWalk.toNatUp]; rintro r os ⟨rfl, rfl⟩; refine pl_of_pops ?_; push_cast [eq_self, iff_self, IntWalk.iteOmega, IntWalk.toNatUp]) | (refine pl_call2 false [2] rfl rfl (by kernel_rfl) (delete_pure l i hi (by omega)) ?_ nofun ?_; push_cast [eq_self, iff_self, IntWalk.iteOmega, IntWalk.toNatUp]; rintro r os ⟨rfl, rfl⟩; refine pl_weak (weak_cutS 12 [33, 37] _) ?_; push_cast [eq_self, iff_self, IntWalk.iteOmega, IntWalk.toNatUp]; refine pl_weak (weak_trim 2 (l.length - 1) rfl) ?_; push_cast [eq_self, iff_self, IntWalk.iteOmega, IntWalk.toNatUp]; refine pl_of_pops ?_; push_cast [eq_self, iff_self, IntWalk.iteOmega, IntWalk.toNatUp])  | (refine Kont.use (by assumption) ?_) | (refine pwp_seq fun K hK => ?_) | (refine pwp_block ?_) | (refine pwp_scope ?_) | ((first | (refine pwp_cut 12 [] ?_; first | refine pwp_region ?_ | refine pwp_quiet (by kernel_rfl) (by kernel_rfl) ?_) | refine pwp_exit ?_ | refine pwp_ret ?_ | refine pwp_skip ?_); push_cast [eq_self, iff_self, IntWalk.iteOmega, IntWalk.toNatUp]) | (refine pwp_cond ?_; push_cast [eq_self, iff_self, IntWalk.iteOmega, IntWalk.toNatUp]; try (refine ⟨fun h => ?_, fun h => ?_⟩ <;> (try simp only [decide_eq_true_eq, decide_eq_false_iff_not, Bool.not_eq_true', Bool.not_eq_false', Int.not_lt, Int.not_le, Nat.not_lt, Nat.not_le] at h) <;> (try (first | contradiction | (exfalso; omega) | exact nomatch (Eq.trans (Eq.symm h) (by assumption) : true = false) | exact nomatch (Eq.trans (Eq.symm h) (by assumption) : false = true))))))
  have hml : l.length - 1 = m.length := by rw [← he, List.length_append, List.length_take, List.length_drop]; omega
  have ht : ∀ z, List.take m.length (List.map Acc.d (List.take i l) ++ (List.map Acc.d (List.drop (i + 1) l) ++ z)) = m.map Acc.d := fun z => by
    rw [← List.append_assoc, ← List.map_append, he]
    exact List.take_left' (by rw [List.length_map])
  rw [hml, ht]
  (refine retK_of [] ?_; push_cast [eq_self, iff_self, IntWalk.iteOmega, IntWalk.toNatUp])
set_option maxHeartbeats 2000000 in
theorem apply_grant_pure (l : List Acc) (x : Acc) (hl : l.length ≤ 1000000) (h : ¬ ∃ y ∈ l, y.path = x.path ∨ y.node = x.node) (ha : l.Pairwise ltA) (hz : ∀ y ∈ l, y.path.size ≤ 100000000) (hx : x.path.size ≤ 100000000) (hok : okP1 x.path) :
    PCalls Tryd.prog 11 [.c (.sl 3 (l.map Acc.d)), .agg (Chg.mk 2 x).e] [] fun r os => r = accR (insA x l, 0) ∧ os = [] := by
  have hp : PredA Tryd.prog 25 [0] [.box 31 x.e] l (clashA x) := ⟨by kernel_rfl, fun y _ => applyF_pure x y⟩
  have hc := containsFuncA_pure l (by omega) 25 [0] _ (clashA x) hp
  rw [clash_any, decide_eq_false h] at hc
  obtain ⟨p, hok⟩ := hok
  have hs := nsplit_pure x.path hx
  rw [hok] at hs
  simp only [splitR] at hs
  have hb := bsearch_pure l x (by omega) ha hz hx
  have hcl := clone_pure l (by omega)
  have hi := insert_pure l x (posA x l) (posA_le x l) hl
  rw [← insA_pos x l] at hi
  generalize posA x l = k at *
  generalize foundA x l = f at *
  have hil : (insA x l).length = l.length + 1 := by rw [insA_pos]; have := posA_le x l; simp; omega
  generalize insA x l = m at *
  refine pcalls_of Tryd.func11 rfl (by simp [Tryd.ntmps11]) ?_
  rw [Tryd.ntmps11, Tryd.results11]
  unfold accR
  push_cast [eq_self, iff_self, IntWalk.iteOmega, IntWalk.toNatUp]
  repeat' (first |  (refine pl_call2 false [1] rfl rfl (by kernel_rfl) (hc) ?_ nofun ?_; push_cast [eq_self, iff_self, IntWalk.iteOmega, IntWalk.toNatUp]; rintro r os ⟨rfl, rfl⟩; refine pl_of_pops ?_; push_cast [eq_self, iff_self, IntWalk.iteOmega, IntWalk.toNatUp]) | (refine pl_call2 false [] rfl rfl (by kernel_rfl) (hs) ?_ nofun ?_; push_cast [eq_self, iff_self, IntWalk.iteOmega, IntWalk.toNatUp]; rintro r os ⟨rfl, rfl⟩; refine pl_of_pops ?_; push_cast [eq_self, iff_self, IntWalk.iteOmega, IntWalk.toNatUp]) | (refine pl_call2 false [] rfl rfl (by kernel_rfl) (hb) ?_ nofun ?_; push_cast [eq_self, iff_self, IntWalk.iteOmega, IntWalk.toNatUp]; rintro r os ⟨rfl, rfl⟩; refine pl_of_pops ?_; push_cast [eq_self, iff_self, IntWalk.iteOmega, IntWalk.toNatUp]) | ((refine pwp_drawn (by kernel_rfl) ?_; simp only [List.length_cons, List.length_nil, Nat.reduceAdd]; repeat' first | (refine pl_call2 false [] rfl rfl (by kernel_rfl) (hcl) ?_ nofun ?_; push_cast [eq_self, iff_self, IntWalk.iteOmega, IntWalk.toNatUp]; rintro r os ⟨rfl, rfl⟩; refine pl_of_pops ?_; push_cast [eq_self, iff_self, IntWalk.iteOmega, IntWalk.toNatUp]) | (refine pl_call2 false [2] rfl rfl (by kernel_rfl) hi ?_ nofun ?_; push_cast [eq_self, iff_self, IntWalk.iteOmega, IntWalk.toNatUp]; rintro r os (⟨rfl, rfl⟩ | ⟨rfl, rfl⟩) <;> (refine pl_of_pops ?_; push_cast [eq_self, iff_self, IntWalk.iteOmega, IntWalk.toNatUp])) | ((first | (refine pa_hoist 0 ?_ ?_; (focus decide +kernel)) | (refine pa_hoist 2 ?_ ?_; (focus decide +kernel)) | (refine pa_hoist 6 ?_ ?_; (focus decide +kernel)) | (refine pa_hoist 7 ?_ ?_; (focus decide +kernel))); push_cast [eq_self, iff_self, IntWalk.iteOmega, IntWalk.toNatUp]) | (refine pa_done ?_ ?_; (focus decide +kernel); try push_cast [eq_self, iff_self, IntWalk.iteOmega, IntWalk.toNatUp]) | ((first | (refine pa_step [1] ?_ rfl ?_; (focus decide +kernel)) | (refine pa_step [3] ?_ rfl ?_; (focus decide +kernel)) | (refine pa_step [4] ?_ rfl ?_; (focus decide +kernel)) | (refine pa_step [5] ?_ rfl ?_; (focus decide +kernel))); push_cast [eq_self, iff_self, IntWalk.iteOmega, IntWalk.toNatUp]) | ((first | (refine pa_step [1, 3] ?_ rfl ?_; (focus decide +kernel)) | (refine pa_step [1, 4] ?_ rfl ?_; (focus decide +kernel)) | (refine pa_step [1, 5] ?_ rfl ?_; (focus decide +kernel)) | (refine pa_step [3, 4] ?_ rfl ?_; (focus decide +kernel)) | (refine pa_step [3, 5] ?_ rfl ?_; (focus decide +kernel)) | (refine pa_step [4, 5] ?_ rfl ?_; (focus decide +kernel))); push_cast [eq_self, iff_self, IntWalk.iteOmega, IntWalk.toNatUp]; refine ⟨?_, ?_⟩) | ((first | (refine pa_step [1, 3, 4] ?_ rfl ?_; (focus decide +kernel)) | (refine pa_step [1, 3, 5] ?_ rfl ?_; (focus decide +kernel)) | (refine pa_step [1, 4, 5] ?_ rfl ?_; (focus decide +kernel)) | (refine pa_step [3, 4, 5] ?_ rfl ?_; (focus decide +kernel))); push_cast [eq_self, iff_self, IntWalk.iteOmega, IntWalk.toNatUp]; refine ⟨?_, ?_, ?_⟩)))  | (refine Kont.use (by assumption) ?_) | (refine pwp_seq fun K hK => ?_) | (refine pwp_block ?_) | (refine pwp_scope ?_) | ((first | (refine pwp_cut 12 [] ?_; first | refine pwp_region ?_ | refine pwp_quiet (by kernel_rfl) (by kernel_rfl) ?_) | refine pwp_exit ?_ | refine pwp_ret ?_ | refine pwp_skip ?_); push_cast [eq_self, iff_self, IntWalk.iteOmega, IntWalk.toNatUp]) | (refine pwp_cond ?_; push_cast [eq_self, iff_self, IntWalk.iteOmega, IntWalk.toNatUp]; try (refine ⟨fun h => ?_, fun h => ?_⟩ <;> (try simp only [decide_eq_true_eq, decide_eq_false_iff_not, Bool.not_eq_true', Bool.not_eq_false', Int.not_lt, Int.not_le, Nat.not_lt, Nat.not_le] at h) <;> (try (first | contradiction | (exfalso; omega) | exact nomatch (Eq.trans (Eq.symm h) (by assumption) : true = false) | exact nomatch (Eq.trans (Eq.symm h) (by assumption) : false = true))))))
  all_goals repeat' (first | (refine Kont.use (by assumption) ?_) | (refine pwp_seq fun K hK => ?_) | (refine pwp_block ?_) | (refine pwp_scope ?_) | ((first | (refine pwp_cut 12 [] ?_; first | refine pwp_region ?_ | refine pwp_quiet (by kernel_rfl) (by kernel_rfl) ?_) | refine pwp_exit ?_ | refine pwp_ret ?_ | refine pwp_skip ?_); push_cast [eq_self, iff_self, IntWalk.iteOmega, IntWalk.toNatUp]) | (refine pwp_cond ?_; push_cast [eq_self, iff_self, IntWalk.iteOmega, IntWalk.toNatUp]; try (refine ⟨fun h => ?_, fun h => ?_⟩ <;> (try simp only [decide_eq_true_eq, decide_eq_false_iff_not, Bool.not_eq_true', Bool.not_eq_false', Int.not_lt, Int.not_le, Nat.not_lt, Nat.not_le] at h) <;> (try (first | contradiction | (exfalso; omega) | exact nomatch (Eq.trans (Eq.symm h) (by assumption) : true = false) | exact nomatch (Eq.trans (Eq.symm h) (by assumption) : false = true))))))
  all_goals (refine retK_of [] ?_; push_cast [eq_self, iff_self, IntWalk.iteOmega, IntWalk.toNatUp])
  all_goals exact List.take_of_length_le (by rw [List.length_map]; omega)
/-- Apply, on a right list -/
theorem apply_pure (l : List Acc) (c : Chg) (hl : l.length ≤ 1000000) (h : Right l) (hz : ∀ y ∈ l, y.path.size ≤ 100000000) (hx : c.acc.path.size ≤ 100000000) :
    PCalls Tryd.prog 11 [.c (.sl 3 (l.map Acc.d)), .agg c.e] [] fun r os => r = accR (applyM l c) ∧ os = [] := by
  obtain ⟨k, x⟩ := c
  by_cases h1 : k = 1
  · subst h1
    by_cases hm : x ∈ l
    · rw [applyM_rev hm]
      exact apply_rev_data l x hl hm h.nodup
    · rw [applyM_none hm]
      exact apply_none_pure l x hl hm
  · by_cases h2 : k = 2
    · subst h2
      by_cases ht : ∃ y ∈ l, y.path = x.path ∨ y.node = x.node
      · rw [applyM_taken ht]
        exact apply_taken_data l x hl ht
      · cases hs : splitP x.path with
        | none =>
          rw [applyM_path ht hs]
          exact apply_path_pure l x hl ht hx hs
        | some p =>
          rw [applyM_grant ht ⟨p, hs⟩]
          exact apply_grant_pure l x hl ht h.asc hz hx ⟨p, hs⟩
    · rw [applyM_kind h1 h2]
      exact apply_kind_pure l ⟨k, x⟩ h1 h2
end Go.Proofs.YtipgjpcbmnlbhaaDoor
namespace Go.Proofs.YtipgjpcbmnlbhaaDoor
attribute [local irreducible] PL QL PWP PCalls Weak RetK Kont PA
open Go.RowKit
set_option linter.unusedVariables false
set_option linter.unusedSimpArgs false
def accBs : List (ByteArray × ByteArray) := nmL.map fun n => ((⟨#[47]⟩ : ByteArray) ++ n, n)
theorem accBs_ok : ∀ x ∈ accBs, (splitP x.1).isSome = true := by decide +kernel
theorem accBs_size : ∀ x ∈ accBs, x.1.size ≤ 100 := by decide +kernel
theorem accBs_asc : accBs.Pairwise fun x y => cmpP x.1 y.1 < 0 := by decide +kernel
theorem accBs_nodup : (accBs.map Prod.snd).Nodup := by decide +kernel
theorem accBs_free : ∀ x ∈ accBs, (x.1 ≠ ⟨#[47, 109]⟩ ∧ x.1 ≠ ⟨#[47, 122]⟩ ∧ x.1 ≠ ⟨#[47, 48]⟩) ∧ x.2 ≠ ⟨#[110, 111, 100, 101]⟩ := by decide +kernel
theorem AccI.sub {l : List Acc} (h : AccI 6 l) : (l.map fun a => (a.path, a.node)).Sublist accBs := h.1
theorem AccI.mem {l : List Acc} (h : AccI 6 l) {a : Acc} (ha : a ∈ l) : (a.path, a.node) ∈ accBs := h.sub.subset (List.mem_map.2 ⟨a, ha, rfl⟩)
theorem AccI.right {l : List Acc} (h : AccI 6 l) : Right l := by
  refine ⟨fun a ha => ?_, ?_, ?_⟩
  · exact Option.isSome_iff_exists.1 (accBs_ok _ (h.mem ha))
  · have := accBs_asc.sublist h.sub
    rw [List.pairwise_map] at this
    exact this
  · have := accBs_nodup.sublist (h.sub.map Prod.snd)
    rw [List.map_map] at this
    exact this
theorem AccI.size {l : List Acc} (h : AccI 6 l) : ∀ y ∈ l, y.path.size ≤ 100 := fun y hy => accBs_size _ (h.mem hy)
theorem mL_ok : ∀ t ∈ ([⟨#[109]⟩, ⟨#[122]⟩, ⟨#[48]⟩] : List ByteArray), (splitP ((⟨#[47]⟩ : ByteArray) ++ t)).isSome = true ∧ t.size = 1 ∧ ((⟨#[47]⟩ : ByteArray) ++ t).size = 2 ∧ ((⟨#[47]⟩ : ByteArray) ++ t = ⟨#[47, 109]⟩ ∨ (⟨#[47]⟩ : ByteArray) ++ t = ⟨#[47, 122]⟩ ∨ (⟨#[47]⟩ : ByteArray) ++ t = ⟨#[47, 48]⟩) := by decide +kernel
theorem AccI.free {l : List Acc} (h : AccI 6 l) {t : ByteArray} (ht : t ∈ ([⟨#[109]⟩, ⟨#[122]⟩, ⟨#[48]⟩] : List ByteArray)) : ¬ ∃ y ∈ l, y.path = (⟨#[47]⟩ : ByteArray) ++ t ∨ y.node = ⟨#[110, 111, 100, 101]⟩ := by
  rintro ⟨y, hy, hc⟩
  obtain ⟨⟨h1, h2, h3⟩, h4⟩ := accBs_free _ (h.mem hy)
  rcases hc with hc | hc
  · obtain ⟨_, _, _, h5 | h5 | h5⟩ := mL_ok t ht
    · exact h1 (hc.trans h5)
    · exact h2 (hc.trans h5)
    · exact h3 (hc.trans h5)
  · exact h4 hc
theorem ins_len (x : Acc) (l : List Acc) : (insA x l).length = l.length + 1 := by
  rw [insA_pos]; have := posA_le x l; simp; omega
set_option maxHeartbeats 2000000 in
theorem back_pure (L : List Int) (hL : ∀ x ∈ L, -9223372036854775808 ≤ x ∧ x ≤ 9223372036854775807) (hl : L.length ≤ 9223372036854775807) :
    PCalls Tryd.prog 4 [.c (.sl 1 (L.map fun x => [D.v (.int .i64 x)]))] [] fun r os => r = .c (.v (.bool true)) ∧ os = [] := by
  have hA := accesses_pure L 0 (by omega) hL hl
  simp only [tape] at hA
  push_cast [eq_self, iff_self, IntWalk.iteOmega, IntWalk.toNatUp] at hA
  refine pcalls_of Tryd.func4 rfl (by simp [Tryd.ntmps4]) ?_
  rw [Tryd.ntmps4, Tryd.results4]
  push_cast [eq_self, iff_self, IntWalk.iteOmega, IntWalk.toNatUp]
  repeat' (first | (refine Kont.use (by assumption) ?_) | (refine pwp_seq fun K hK => ?_) | (refine pwp_block ?_) | (refine pwp_scope ?_) | ((first | (refine pwp_cut 15 [] ?_; first | refine pwp_region ?_ | refine pwp_quiet (by kernel_rfl) (by kernel_rfl) ?_) | refine pwp_exit ?_ | refine pwp_ret ?_ | refine pwp_skip ?_); push_cast [eq_self, iff_self, IntWalk.iteOmega, IntWalk.toNatUp]) | (refine pwp_cond ?_; push_cast [eq_self, iff_self, IntWalk.iteOmega, IntWalk.toNatUp]; try (refine ⟨fun h => ?_, fun h => ?_⟩ <;> (try simp only [decide_eq_true_eq, decide_eq_false_iff_not, Bool.not_eq_true', Bool.not_eq_false', Int.not_lt, Int.not_le, Nat.not_lt, Nat.not_le] at h) <;> (try (first | contradiction | (exfalso; omega) | exact nomatch (Eq.trans (Eq.symm h) (by assumption) : true = false) | exact nomatch (Eq.trans (Eq.symm h) (by assumption) : false = true))))))
  refine pl_call2 false [0] rfl rfl (by kernel_rfl) hA ?_ nofun ?_; push_cast [eq_self, iff_self, IntWalk.iteOmega, IntWalk.toNatUp]; rintro r os ⟨l, k', ⟨hI, hk'⟩, rfl, rfl⟩; refine pl_weak (weak_frz 1 (by omega)) ?_; push_cast [eq_self, iff_self, IntWalk.iteOmega, IntWalk.toNatUp]; refine pl_of_pops ?_; push_cast [eq_self, iff_self, IntWalk.iteOmega, IntWalk.toNatUp]
  have hl6 := hI.len
  have hR := hI.right
  have hz := hI.size
  have hon := one_ex L k' [⟨#[109]⟩, ⟨#[122]⟩, ⟨#[48]⟩] (by omega) (by decide) (by decide) hL hl
  simp only [tape] at hon
  push_cast [eq_self, iff_self, IntWalk.iteOmega, IntWalk.toNatUp] at hon
  repeat' (first | (refine Kont.use (by assumption) ?_) | (refine pwp_seq fun K hK => ?_) | (refine pwp_block ?_) | (refine pwp_scope ?_) | ((first | (refine pwp_cut 15 [] ?_; first | refine pwp_region ?_ | refine pwp_quiet (by kernel_rfl) (by kernel_rfl) ?_) | refine pwp_exit ?_ | refine pwp_ret ?_ | refine pwp_skip ?_); push_cast [eq_self, iff_self, IntWalk.iteOmega, IntWalk.toNatUp]) | (refine pwp_cond ?_; push_cast [eq_self, iff_self, IntWalk.iteOmega, IntWalk.toNatUp]; try (refine ⟨fun h => ?_, fun h => ?_⟩ <;> (try simp only [decide_eq_true_eq, decide_eq_false_iff_not, Bool.not_eq_true', Bool.not_eq_false', Int.not_lt, Int.not_le, Nat.not_lt, Nat.not_le] at h) <;> (try (first | contradiction | (exfalso; omega) | exact nomatch (Eq.trans (Eq.symm h) (by assumption) : true = false) | exact nomatch (Eq.trans (Eq.symm h) (by assumption) : false = true))))))
  refine pl_call2 false [0] rfl rfl (by kernel_rfl) hon ?_ nofun ?_; push_cast [eq_self, iff_self, IntWalk.iteOmega, IntWalk.toNatUp]; rintro r os ⟨t, ht, rfl, rfl⟩; refine pl_of_pops ?_
  obtain ⟨t1, t2, t3, _⟩ := mL_ok t ht
  have hno := hI.free ht
  have hok : okP1 ((⟨#[47]⟩ : ByteArray) ++ t) := Option.isSome_iff_exists.1 t1
  have s0 : (((⟨#[47]⟩ : ByteArray).size : Int) + (t.size : Int) ≤ 9223372036854775807) := by rw [t2]; decide
  push_cast [eq_self, iff_self, IntWalk.iteOmega, IntWalk.toNatUp, s0]
  repeat' (first | (refine Kont.use (by assumption) ?_) | (refine pwp_seq fun K hK => ?_) | (refine pwp_block ?_) | (refine pwp_scope ?_) | ((first | (refine pwp_cut 15 [] ?_; first | refine pwp_region ?_ | refine pwp_quiet (by kernel_rfl) (by kernel_rfl) ?_) | refine pwp_exit ?_ | refine pwp_ret ?_ | refine pwp_skip ?_); push_cast [eq_self, iff_self, IntWalk.iteOmega, IntWalk.toNatUp, s0]) | (refine pwp_cond ?_; push_cast [eq_self, iff_self, IntWalk.iteOmega, IntWalk.toNatUp, s0]; try (refine ⟨fun h => ?_, fun h => ?_⟩ <;> (try simp only [decide_eq_true_eq, decide_eq_false_iff_not, Bool.not_eq_true', Bool.not_eq_false', Int.not_lt, Int.not_le, Nat.not_lt, Nat.not_le] at h) <;> (try (first | contradiction | (exfalso; omega) | exact nomatch (Eq.trans (Eq.symm h) (by assumption) : true = false) | exact nomatch (Eq.trans (Eq.symm h) (by assumption) : false = true))))))
  have ha := apply_pure l ⟨2, ⟨(⟨#[47]⟩ : ByteArray) ++ t, ⟨#[110, 111, 100, 101]⟩, ⟨#[97, 110, 110]⟩⟩⟩ (by omega) hR (fun y hy => by have := hz y hy; omega) (by rw [t3]; decide)
  rw [applyM_grant hno hok] at ha
  have hR2 : Right (insA ⟨(⟨#[47]⟩ : ByteArray) ++ t, ⟨#[110, 111, 100, 101]⟩, ⟨#[97, 110, 110]⟩⟩ l) := hR.ins hok (fun y hy e => hno ⟨y, hy, .inl e⟩) (fun y hy e => hno ⟨y, hy, .inr e⟩)
  have hlen2 := ins_len ⟨(⟨#[47]⟩ : ByteArray) ++ t, ⟨#[110, 111, 100, 101]⟩, ⟨#[97, 110, 110]⟩⟩ l
  have hr := apply_pure (insA ⟨(⟨#[47]⟩ : ByteArray) ++ t, ⟨#[110, 111, 100, 101]⟩, ⟨#[97, 110, 110]⟩⟩ l) ⟨1, ⟨(⟨#[47]⟩ : ByteArray) ++ t, ⟨#[110, 111, 100, 101]⟩, ⟨#[97, 110, 110]⟩⟩⟩ (by omega) hR2 (fun y hy => by
    rcases mem_ins.1 hy with rfl | hy
    · show ((⟨#[47]⟩ : ByteArray) ++ t).size ≤ _
      rw [t3]; decide
    · have := hz y hy; omega) (by show ((⟨#[47]⟩ : ByteArray) ++ t).size ≤ _; rw [t3]; decide)
  rw [applyM_rev (mem_ins.2 (.inl rfl)), back_rev hR hok hno] at hr
  have hs := same38_pure l l (by omega) (by omega)
  rw [decide_eq_true rfl] at hs
  generalize insA ⟨(⟨#[47]⟩ : ByteArray) ++ t, ⟨#[110, 111, 100, 101]⟩, ⟨#[97, 110, 110]⟩⟩ l = m at *
  unfold accR at ha hr
  have hml : (m.length : Int) = l.length + 1 := by omega
  repeat' (first | (refine pl_call2 false [] rfl rfl (by kernel_rfl) (ha) ?_ nofun ?_; push_cast [eq_self, iff_self, IntWalk.iteOmega, IntWalk.toNatUp, hml]; rintro r os ⟨rfl, rfl⟩; refine pl_of_pops ?_; push_cast [eq_self, iff_self, IntWalk.iteOmega, IntWalk.toNatUp, hml]) | (refine pl_call2 false [] rfl rfl (by kernel_rfl) (hr) ?_ nofun ?_; push_cast [eq_self, iff_self, IntWalk.iteOmega, IntWalk.toNatUp, hml]; rintro r os ⟨rfl, rfl⟩; refine pl_of_pops ?_; push_cast [eq_self, iff_self, IntWalk.iteOmega, IntWalk.toNatUp, hml]) | (refine pl_call2 false [] rfl rfl (by kernel_rfl) (hs) ?_ nofun ?_; push_cast [eq_self, iff_self, IntWalk.iteOmega, IntWalk.toNatUp, hml]; rintro r os ⟨rfl, rfl⟩; refine pl_of_pops ?_; push_cast [eq_self, iff_self, IntWalk.iteOmega, IntWalk.toNatUp, hml]) | (refine Kont.use (by assumption) ?_) | (refine pwp_seq fun K hK => ?_) | (refine pwp_block ?_) | (refine pwp_scope ?_) | ((first | (refine pwp_cut 15 [] ?_; first | refine pwp_region ?_ | refine pwp_quiet (by kernel_rfl) (by kernel_rfl) ?_) | refine pwp_exit ?_ | refine pwp_ret ?_ | refine pwp_skip ?_); push_cast [eq_self, iff_self, IntWalk.iteOmega, IntWalk.toNatUp, hml]) | (refine pwp_cond ?_; push_cast [eq_self, iff_self, IntWalk.iteOmega, IntWalk.toNatUp, hml]; try (refine ⟨fun h => ?_, fun h => ?_⟩ <;> (try simp only [decide_eq_true_eq, decide_eq_false_iff_not, Bool.not_eq_true', Bool.not_eq_false', Int.not_lt, Int.not_le, Nat.not_lt, Nat.not_le] at h) <;> (try (first | contradiction | (exfalso; omega) | exact nomatch (Eq.trans (Eq.symm h) (by assumption) : true = false) | exact nomatch (Eq.trans (Eq.symm h) (by assumption) : false = true))))))
  (apply pwp_loop3 (α := Nat) 15 [] (fun i => [(10, .c (.v (.int .i64 i)))]) (fun i => []) (fun i => i ≤ l.length) (fun i => l.length - i) (0); (focus ((try push_cast [eq_self, iff_self, IntWalk.iteOmega, IntWalk.toNatUp]); rfl)); (focus exact (by omega)); (focus ((refine weak_fg ?_; try push_cast [eq_self, iff_self, IntWalk.iteOmega, IntWalk.toNatUp]))))
  intro i hi
  push_cast [eq_self, iff_self, IntWalk.iteOmega, IntWalk.toNatUp]
  by_cases hlt : i < l.length
  · have hmem : l.getD i default ∈ l := by rw [getD_lt l hlt]; exact List.getElem_mem _
    have hc := apply_pure l ⟨1, l.getD i default⟩ (by omega) hR (fun y hy => by have := hz y hy; omega) (by have := hz _ hmem; show (l.getD i default).path.size ≤ _; omega)
    rw [applyM_rev hmem] at hc
    obtain ⟨b1, b2⟩ := back_grant hR hmem
    have hQ : Right (l.filter fun y => decide (y ≠ l.getD i default)) := hR.sublist List.filter_sublist
    have hd := apply_pure (l.filter fun y => decide (y ≠ l.getD i default)) ⟨2, l.getD i default⟩ (by have := List.length_filter_le (fun y => decide (y ≠ l.getD i default)) l; omega) hQ (fun y hy => by have := hz y (List.mem_filter.1 hy).1; omega) (by have := hz _ hmem; show (l.getD i default).path.size ≤ _; omega)
    rw [applyM_grant b2 (hR.ok _ hmem), b1] at hd
    generalize (l.filter fun y => decide (y ≠ l.getD i default)) = q at *
    unfold accR at hc hd
    repeat' (first |  (refine pl_call2 false [] rfl rfl (by kernel_rfl) (hc) ?_ nofun ?_; push_cast [eq_self, iff_self, IntWalk.iteOmega, IntWalk.toNatUp]; rintro r os ⟨rfl, rfl⟩; refine pl_of_pops ?_; push_cast [eq_self, iff_self, IntWalk.iteOmega, IntWalk.toNatUp]) | (refine pl_call2 false [] rfl rfl (by kernel_rfl) (hd) ?_ nofun ?_; push_cast [eq_self, iff_self, IntWalk.iteOmega, IntWalk.toNatUp]; rintro r os ⟨rfl, rfl⟩; refine pl_of_pops ?_; push_cast [eq_self, iff_self, IntWalk.iteOmega, IntWalk.toNatUp]) | (refine pl_call2 false [] rfl rfl (by kernel_rfl) (hs) ?_ nofun ?_; push_cast [eq_self, iff_self, IntWalk.iteOmega, IntWalk.toNatUp]; rintro r os ⟨rfl, rfl⟩; refine pl_of_pops ?_; push_cast [eq_self, iff_self, IntWalk.iteOmega, IntWalk.toNatUp])  | (refine Kont.use (by assumption) ?_) | (refine pwp_seq fun K hK => ?_) | (refine pwp_block ?_) | (refine pwp_scope ?_) | ((first | (refine pwp_cut 15 [] ?_; first | refine pwp_region ?_ | refine pwp_quiet (by kernel_rfl) (by kernel_rfl) ?_) | refine pwp_exit ?_ | refine pwp_ret ?_ | refine pwp_skip ?_); push_cast [eq_self, iff_self, IntWalk.iteOmega, IntWalk.toNatUp]) | (refine pwp_cond ?_; push_cast [eq_self, iff_self, IntWalk.iteOmega, IntWalk.toNatUp]; try (refine ⟨fun h => ?_, fun h => ?_⟩ <;> (try simp only [decide_eq_true_eq, decide_eq_false_iff_not, Bool.not_eq_true', Bool.not_eq_false', Int.not_lt, Int.not_le, Nat.not_lt, Nat.not_le] at h) <;> (try (first | contradiction | (exfalso; omega) | exact nomatch (Eq.trans (Eq.symm h) (by assumption) : true = false) | exact nomatch (Eq.trans (Eq.symm h) (by assumption) : false = true))))))
    exact ⟨i + 1, by omega, by (refine weak_fg ?_; push_cast [eq_self, iff_self, IntWalk.iteOmega, IntWalk.toNatUp]), by omega⟩
  · repeat' (first |  (refine pl_call2 false [] rfl rfl (by kernel_rfl) (known_pure) ?_ nofun ?_; push_cast [eq_self, iff_self, IntWalk.iteOmega, IntWalk.toNatUp]; rintro r os ⟨rfl, rfl⟩; refine pl_of_pops ?_; push_cast [eq_self, iff_self, IntWalk.iteOmega, IntWalk.toNatUp])  | (refine Kont.use (by assumption) ?_) | (refine pwp_seq fun K hK => ?_) | (refine pwp_block ?_) | (refine pwp_scope ?_) | ((first | (refine pwp_cut 15 [] ?_; first | refine pwp_region ?_ | refine pwp_quiet (by kernel_rfl) (by kernel_rfl) ?_) | refine pwp_exit ?_ | refine pwp_ret ?_ | refine pwp_skip ?_); push_cast [eq_self, iff_self, IntWalk.iteOmega, IntWalk.toNatUp]) | (refine pwp_cond ?_; push_cast [eq_self, iff_self, IntWalk.iteOmega, IntWalk.toNatUp]; try (refine ⟨fun h => ?_, fun h => ?_⟩ <;> (try simp only [decide_eq_true_eq, decide_eq_false_iff_not, Bool.not_eq_true', Bool.not_eq_false', Int.not_lt, Int.not_le, Nat.not_lt, Nat.not_le] at h) <;> (try (first | contradiction | (exfalso; omega) | exact nomatch (Eq.trans (Eq.symm h) (by assumption) : true = false) | exact nomatch (Eq.trans (Eq.symm h) (by assumption) : false = true))))))
    (refine retK_of [] ?_; push_cast [eq_self, iff_self, IntWalk.iteOmega, IntWalk.toNatUp])
/-! ### a plan applied -/
def stepA (a b : List Acc) (i : Nat) : List Acc := if i < (minusL a b).length then midA a b i else granA a b (i - (minusL a b).length)
theorem step_right {a b : List Acc} (ha : Right a) (hb : Right b) (i : Nat) : Right (stepA a b i) := by
  unfold stepA; split
  · exact mid_right ha i
  · exact gran_right hb _
theorem step_mem {a b : List Acc} {i : Nat} {y : Acc} (h : y ∈ stepA a b i) : y ∈ a ∨ y ∈ b := by
  unfold stepA at h; split at h
  · exact .inl (List.mem_filter.1 h).1
  · exact .inr (List.mem_filter.1 h).1
theorem step_len {a b : List Acc} {i : Nat} : (stepA a b i).length ≤ a.length + b.length := by
  unfold stepA; split
  · have := List.length_filter_le (fun x => decide (x ∉ (minusL a b).take i)) a; unfold midA; omega
  · have := List.length_filter_le (fun x => decide (x ∈ a ∨ x ∈ (minusL b a).take (i - (minusL a b).length))) b; unfold granA; omega
theorem step_zero {a b : List Acc} (ha : Right a) (hb : Right b) : stepA a b 0 = a := by
  unfold stepA; split
  · exact midA_zero a b
  · rename_i h
    have := midA_end a b (i := 0) h
    rw [midA_zero, gran_zero ha hb] at this
    have e : 0 - (minusL a b).length = 0 := by omega
    rw [e]
    exact this.symm
theorem plan_len (a b : List Acc) : (planA a b).length = (minusL a b).length + (minusL b a).length := by simp [planA]
theorem step_end {a b : List Acc} : stepA a b (planA a b).length = b := by
  unfold stepA
  rw [plan_len, if_neg (by omega)]
  exact gran_end (by omega)
theorem plan_lo {a b : List Acc} {i : Nat} (h : i < (minusL a b).length) : (planA a b).getD i default = ⟨1, (minusL a b)[i]⟩ := by
  unfold planA
  rw [List.getD, List.getElem?_append_left (by rw [List.length_map]; exact h), List.getElem?_map, List.getElem?_eq_getElem h]
  rfl
theorem plan_hi {a b : List Acc} {i : Nat} (h : ¬ i < (minusL a b).length) (h2 : i - (minusL a b).length < (minusL b a).length) : (planA a b).getD i default = ⟨2, (minusL b a)[i - (minusL a b).length]⟩ := by
  unfold planA
  rw [List.getD, List.getElem?_append_right (by rw [List.length_map]; omega), List.length_map, List.getElem?_map, List.getElem?_eq_getElem h2]
  rfl
theorem applyM_of {l m : List Acc} {c : Chg} {e : Int} (h : applyA l c = (some m, e)) : applyM l c = (m, e) := by
  unfold applyM; rw [h]
theorem step_next {a b : List Acc} (ha : Right a) (hb : Right b) {i : Nat} (hi : i < (planA a b).length) : applyM (stepA a b i) ((planA a b).getD i default) = (stepA a b (i + 1), 0) := by
  rw [plan_len] at hi
  by_cases h : i < (minusL a b).length
  · rw [plan_lo h]
    have h1 := apply_rev ha h
    have e : stepA a b i = midA a b i := if_pos h
    rw [e, applyM_of h1]
    congr 1
    unfold stepA
    split
    · rfl
    · rename_i h2
      rw [midA_end a b h2, gran_zero ha hb]
      congr 1; omega
  · have h2 : i - (minusL a b).length < (minusL b a).length := by omega
    rw [plan_hi h h2]
    have h1 := apply_grant hb h2
    have e : stepA a b i = granA a b (i - (minusL a b).length) := if_neg h
    have e2 : stepA a b (i + 1) = granA a b (i - (minusL a b).length + 1) := by
      unfold stepA
      rw [if_neg (by omega)]
      congr 1; omega
    rw [e, e2, applyM_of h1]
set_option maxHeartbeats 4000000 in
theorem reaches_pure (L : List Int) (hL : ∀ x ∈ L, -9223372036854775808 ≤ x ∧ x ≤ 9223372036854775807) (hl : L.length ≤ 9223372036854775807) :
    PCalls Tryd.prog 6 [.c (.sl 1 (L.map fun x => [D.v (.int .i64 x)]))] [] fun r os => r = .c (.v (.bool true)) ∧ os = [] := by
  have hA := accesses_pure L 0 (by omega) hL hl
  simp only [tape] at hA
  push_cast [eq_self, iff_self, IntWalk.iteOmega, IntWalk.toNatUp] at hA
  refine pcalls_of Tryd.func6 rfl (by simp [Tryd.ntmps6]) ?_
  rw [Tryd.ntmps6, Tryd.results6]
  push_cast [eq_self, iff_self, IntWalk.iteOmega, IntWalk.toNatUp]
  repeat' (first | (refine Kont.use (by assumption) ?_) | (refine pwp_seq fun K hK => ?_) | (refine pwp_block ?_) | (refine pwp_scope ?_) | ((first | (refine pwp_cut 10 [] ?_; first | refine pwp_region ?_ | refine pwp_quiet (by kernel_rfl) (by kernel_rfl) ?_) | refine pwp_exit ?_ | refine pwp_ret ?_ | refine pwp_skip ?_); push_cast [eq_self, iff_self, IntWalk.iteOmega, IntWalk.toNatUp]) | (refine pwp_cond ?_; push_cast [eq_self, iff_self, IntWalk.iteOmega, IntWalk.toNatUp]; try (refine ⟨fun h => ?_, fun h => ?_⟩ <;> (try simp only [decide_eq_true_eq, decide_eq_false_iff_not, Bool.not_eq_true', Bool.not_eq_false', Int.not_lt, Int.not_le, Nat.not_lt, Nat.not_le] at h) <;> (try (first | contradiction | (exfalso; omega) | exact nomatch (Eq.trans (Eq.symm h) (by assumption) : true = false) | exact nomatch (Eq.trans (Eq.symm h) (by assumption) : false = true))))))
  refine pl_call2 false [0] rfl rfl (by kernel_rfl) hA ?_ nofun ?_; push_cast [eq_self, iff_self, IntWalk.iteOmega, IntWalk.toNatUp]; rintro r os ⟨a, k1, ⟨hIa, hk1⟩, rfl, rfl⟩; refine pl_weak (weak_frz 1 (by omega)) ?_; push_cast [eq_self, iff_self, IntWalk.iteOmega, IntWalk.toNatUp]; refine pl_of_pops ?_; push_cast [eq_self, iff_self, IntWalk.iteOmega, IntWalk.toNatUp]
  have hB := accesses_pure L k1 (by omega) hL hl
  simp only [tape] at hB
  push_cast [eq_self, iff_self, IntWalk.iteOmega, IntWalk.toNatUp] at hB
  repeat' (first | (refine Kont.use (by assumption) ?_) | (refine pwp_seq fun K hK => ?_) | (refine pwp_block ?_) | (refine pwp_scope ?_) | ((first | (refine pwp_cut 10 [] ?_; first | refine pwp_region ?_ | refine pwp_quiet (by kernel_rfl) (by kernel_rfl) ?_) | refine pwp_exit ?_ | refine pwp_ret ?_ | refine pwp_skip ?_); push_cast [eq_self, iff_self, IntWalk.iteOmega, IntWalk.toNatUp]) | (refine pwp_cond ?_; push_cast [eq_self, iff_self, IntWalk.iteOmega, IntWalk.toNatUp]; try (refine ⟨fun h => ?_, fun h => ?_⟩ <;> (try simp only [decide_eq_true_eq, decide_eq_false_iff_not, Bool.not_eq_true', Bool.not_eq_false', Int.not_lt, Int.not_le, Nat.not_lt, Nat.not_le] at h) <;> (try (first | contradiction | (exfalso; omega) | exact nomatch (Eq.trans (Eq.symm h) (by assumption) : true = false) | exact nomatch (Eq.trans (Eq.symm h) (by assumption) : false = true))))))
  refine pl_call2 false [0] rfl rfl (by kernel_rfl) hB ?_ nofun ?_; push_cast [eq_self, iff_self, IntWalk.iteOmega, IntWalk.toNatUp]; rintro r os ⟨b, k2, ⟨hIb, hk2⟩, rfl, rfl⟩; refine pl_weak (weak_frz 2 (by omega)) ?_; push_cast [eq_self, iff_self, IntWalk.iteOmega, IntWalk.toNatUp]; refine pl_of_pops ?_; push_cast [eq_self, iff_self, IntWalk.iteOmega, IntWalk.toNatUp]
  have ha6 := hIa.len
  have hb6 := hIb.len
  have hRa := hIa.right
  have hRb := hIb.right
  have hza := hIa.size
  have hzb := hIb.size
  have hp := plan_pure a b hRa hRb (by omega) (by omega) (fun y hy => by have := hza y hy; omega) (fun y hy => by have := hzb y hy; omega)
  have hpl := plan_len a b
  have hm1 := (minus_sub a b).length_le
  have hm2 := (minus_sub b a).length_le
  have hst : ∀ i, i < (planA a b).length → applyM (stepA a b i) ((planA a b).getD i default) = (stepA a b (i + 1), 0) := fun i hi => step_next hRa hRb hi
  have hen : stepA a b (planA a b).length = b := step_end
  have hze := step_zero hRa hRb
  have hxs : ∀ i, i < (planA a b).length → ((planA a b).getD i default).acc.path.size ≤ 100 := fun i hi => by
    rw [plan_len] at hi
    by_cases h : i < (minusL a b).length
    · rw [plan_lo h]
      exact hza _ ((minus_sub a b).subset (List.getElem_mem _))
    · rw [plan_hi h (by omega)]
      exact hzb _ ((minus_sub b a).subset (List.getElem_mem _))
  have hpl2 : (planA a b).length ≤ 12 := by omega
  generalize planA a b = p at *
  have hsR : ∀ i, Right (stepA a b i) := fun i => step_right hRa hRb i
  have hsz : ∀ i, ∀ y ∈ stepA a b i, y.path.size ≤ 100 := fun i y hy => by
    rcases step_mem hy with h | h
    · exact hza y h
    · exact hzb y h
  have hsl : ∀ i, (stepA a b i).length ≤ 12 := fun i => by have := step_len (a := a) (b := b) (i := i); omega
  generalize stepA a b = f at *
  repeat' (first |  (refine pl_call2 false [] rfl rfl (by kernel_rfl) hp ?_ nofun ?_; push_cast [eq_self, iff_self, IntWalk.iteOmega, IntWalk.toNatUp]; rintro r os ⟨rfl, rfl⟩; refine pl_weak (weak_frz 3 (by omega)) ?_; push_cast [eq_self, iff_self, IntWalk.iteOmega, IntWalk.toNatUp]; refine pl_of_pops ?_; push_cast [eq_self, iff_self, IntWalk.iteOmega, IntWalk.toNatUp])  | (refine Kont.use (by assumption) ?_) | (refine pwp_seq fun K hK => ?_) | (refine pwp_block ?_) | (refine pwp_scope ?_) | ((first | (refine pwp_cut 10 [] ?_; first | refine pwp_region ?_ | refine pwp_quiet (by kernel_rfl) (by kernel_rfl) ?_) | refine pwp_exit ?_ | refine pwp_ret ?_ | refine pwp_skip ?_); push_cast [eq_self, iff_self, IntWalk.iteOmega, IntWalk.toNatUp]) | (refine pwp_cond ?_; push_cast [eq_self, iff_self, IntWalk.iteOmega, IntWalk.toNatUp]; try (refine ⟨fun h => ?_, fun h => ?_⟩ <;> (try simp only [decide_eq_true_eq, decide_eq_false_iff_not, Bool.not_eq_true', Bool.not_eq_false', Int.not_lt, Int.not_le, Nat.not_lt, Nat.not_le] at h) <;> (try (first | contradiction | (exfalso; omega) | exact nomatch (Eq.trans (Eq.symm h) (by assumption) : true = false) | exact nomatch (Eq.trans (Eq.symm h) (by assumption) : false = true))))))
  (apply pwp_loop3 (α := Nat) 10 [] (fun i => [(7, .c (.v (.int .i64 i))), (4, .c (.sl 3 ((f i).map Acc.d)))]) (fun i => []) (fun i => i ≤ p.length) (fun i => p.length - i) (0); (focus ((try push_cast [eq_self, iff_self, IntWalk.iteOmega, IntWalk.toNatUp]); rfl)); (focus exact (by omega)); (focus ((refine weak_fg ?_; try push_cast [eq_self, iff_self, IntWalk.iteOmega, IntWalk.toNatUp]); (rw [hze]))))
  intro i hi
  push_cast [eq_self, iff_self, IntWalk.iteOmega, IntWalk.toNatUp]
  by_cases hlt : i < p.length
  · have hc := apply_pure (f i) (p.getD i default) (by have := hsl i; omega) (hsR i) (fun y hy => by have := hsz i y hy; omega) (by have := hxs i hlt; omega)
    rw [hst i hlt] at hc
    have hr := rright_pure (f (i + 1)) (by have := hsl (i + 1); omega) (hsR (i + 1)) (fun y hy => by have := hsz (i + 1) y hy; omega)
    unfold accR at hc
    repeat' (first |  (refine pl_call2 false [] rfl rfl (by kernel_rfl) (hc) ?_ nofun ?_; push_cast [eq_self, iff_self, IntWalk.iteOmega, IntWalk.toNatUp]; rintro r os ⟨rfl, rfl⟩; refine pl_of_pops ?_; push_cast [eq_self, iff_self, IntWalk.iteOmega, IntWalk.toNatUp]) | (refine pl_call2 false [] rfl rfl (by kernel_rfl) (hr) ?_ nofun ?_; push_cast [eq_self, iff_self, IntWalk.iteOmega, IntWalk.toNatUp]; rintro r os ⟨rfl, rfl⟩; refine pl_of_pops ?_; push_cast [eq_self, iff_self, IntWalk.iteOmega, IntWalk.toNatUp])  | (refine Kont.use (by assumption) ?_) | (refine pwp_seq fun K hK => ?_) | (refine pwp_block ?_) | (refine pwp_scope ?_) | ((first | (refine pwp_cut 10 [] ?_; first | refine pwp_region ?_ | refine pwp_quiet (by kernel_rfl) (by kernel_rfl) ?_) | refine pwp_exit ?_ | refine pwp_ret ?_ | refine pwp_skip ?_); push_cast [eq_self, iff_self, IntWalk.iteOmega, IntWalk.toNatUp]) | (refine pwp_cond ?_; push_cast [eq_self, iff_self, IntWalk.iteOmega, IntWalk.toNatUp]; try (refine ⟨fun h => ?_, fun h => ?_⟩ <;> (try simp only [decide_eq_true_eq, decide_eq_false_iff_not, Bool.not_eq_true', Bool.not_eq_false', Int.not_lt, Int.not_le, Nat.not_lt, Nat.not_le] at h) <;> (try (first | contradiction | (exfalso; omega) | exact nomatch (Eq.trans (Eq.symm h) (by assumption) : true = false) | exact nomatch (Eq.trans (Eq.symm h) (by assumption) : false = true))))))
    exact ⟨i + 1, by omega, by (refine weak_fg ?_; push_cast [eq_self, iff_self, IntWalk.iteOmega, IntWalk.toNatUp]), by omega⟩
  · have hie : i = p.length := by omega
    have hfi : f i = b := by rw [hie, hen]
    rw [hfi]
    have hs := same38_pure b b (by omega) (by omega)
    rw [decide_eq_true rfl] at hs
    have hq := plan_pure b b hRb hRb (by omega) (by omega) (fun y hy => by have := hzb y hy; omega) (fun y hy => by have := hzb y hy; omega)
    have hq0 : planA b b = [] := by unfold planA; rw [minus_self]; rfl
    rw [hq0] at hq
    repeat' (first |  (refine pl_call2 false [] rfl rfl (by kernel_rfl) (hs) ?_ nofun ?_; push_cast [eq_self, iff_self, IntWalk.iteOmega, IntWalk.toNatUp]; rintro r os ⟨rfl, rfl⟩; refine pl_of_pops ?_; push_cast [eq_self, iff_self, IntWalk.iteOmega, IntWalk.toNatUp]) | (refine pl_call2 false [] rfl rfl (by kernel_rfl) (hq) ?_ nofun ?_; push_cast [eq_self, iff_self, IntWalk.iteOmega, IntWalk.toNatUp]; rintro r os ⟨rfl, rfl⟩; refine pl_of_pops ?_; push_cast [eq_self, iff_self, IntWalk.iteOmega, IntWalk.toNatUp]) | (refine pl_call2 false [] rfl rfl (by kernel_rfl) (known_pure) ?_ nofun ?_; push_cast [eq_self, iff_self, IntWalk.iteOmega, IntWalk.toNatUp]; rintro r os ⟨rfl, rfl⟩; refine pl_of_pops ?_; push_cast [eq_self, iff_self, IntWalk.iteOmega, IntWalk.toNatUp])  | (refine Kont.use (by assumption) ?_) | (refine pwp_seq fun K hK => ?_) | (refine pwp_block ?_) | (refine pwp_scope ?_) | ((first | (refine pwp_cut 10 [] ?_; first | refine pwp_region ?_ | refine pwp_quiet (by kernel_rfl) (by kernel_rfl) ?_) | refine pwp_exit ?_ | refine pwp_ret ?_ | refine pwp_skip ?_); push_cast [eq_self, iff_self, IntWalk.iteOmega, IntWalk.toNatUp]) | (refine pwp_cond ?_; push_cast [eq_self, iff_self, IntWalk.iteOmega, IntWalk.toNatUp]; try (refine ⟨fun h => ?_, fun h => ?_⟩ <;> (try simp only [decide_eq_true_eq, decide_eq_false_iff_not, Bool.not_eq_true', Bool.not_eq_false', Int.not_lt, Int.not_le, Nat.not_lt, Nat.not_le] at h) <;> (try (first | contradiction | (exfalso; omega) | exact nomatch (Eq.trans (Eq.symm h) (by assumption) : true = false) | exact nomatch (Eq.trans (Eq.symm h) (by assumption) : false = true))))))
    (refine retK_of [] ?_; push_cast [eq_self, iff_self, IntWalk.iteOmega, IntWalk.toNatUp])
end Go.Proofs.YtipgjpcbmnlbhaaDoor
