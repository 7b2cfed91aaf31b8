/- The names in which two lists differ: device.Changed and the reference's. (pure walks) -/
import Derived.Test.YtfojijoekpkheaaDoorDevQ
import Derived.Test.YtfojijoekpkheaaDoorDevKn
namespace Go.Proofs.YtfojijoekpkheaaDoor
attribute [local irreducible] PL QL PWP PCalls Weak RetK Kont PA
open Go.RowKit
set_option linter.unusedVariables false
set_option linter.unusedSimpArgs false
theorem sametexts_pure (a b : List ByteArray) (ha : a.length ≤ 1000000000) (hb : b.length ≤ 1000000000) :
    PCalls Tryd.prog 8 [.c (.sl 1 (a.map strD)), .c (.sl 1 (b.map strD))] [] fun r os => r = .c (.v (.bool (decide (a = b)))) ∧ os = [] := by
  refine pcalls_of Tryd.func8 rfl (by simp [Tryd.ntmps8]) ?_
  rw [Tryd.ntmps8, Tryd.results8]
  push_cast [eq_self, iff_self, IntWalk.iteOmega, IntWalk.toNatUp]
  by_cases hl : a.length = b.length
  · repeat' (first | (refine Kont.use (by assumption) ?_) | (refine pwp_seq fun K hK => ?_) | (refine pwp_block ?_) | (refine pwp_scope ?_) | ((first | refine pwp_region ?_ | refine pwp_quiet (by kernel_rfl) (by kernel_rfl) ?_ | refine pwp_exit ?_ | refine pwp_ret ?_ | refine pwp_skip ?_); push_cast [eq_self, iff_self, IntWalk.iteOmega, IntWalk.toNatUp]) | (refine pwp_cond ?_; push_cast [eq_self, iff_self, IntWalk.iteOmega, IntWalk.toNatUp]; try (refine ⟨fun h => ?_, fun h => ?_⟩ <;> (try simp only [decide_eq_true_eq, decide_eq_false_iff_not, Bool.not_eq_true', Bool.not_eq_false', Int.not_lt, Int.not_le, Nat.not_lt, Nat.not_le] at h) <;> (try (first | contradiction | (exfalso; omega) | exact nomatch (Eq.trans (Eq.symm h) (by assumption) : true = false) | exact nomatch (Eq.trans (Eq.symm h) (by assumption) : false = true))))))
    refine pwp_loop2 (α := Nat) (fun k => k ≤ a.length ∧ a.take k = b.take k) (fun k => ⟨[(5, .c (.v (.int .i64 k))), (0, .c (.sl 1 (a.map strD))), (1, .c (.sl 1 (b.map strD)))], []⟩) (fun k => a.length - k) 0 ⟨by omega, by simp⟩ (by (refine weak_fg ?_; push_cast [eq_self, iff_self, IntWalk.iteOmega, IntWalk.toNatUp])) ?_
    rintro k ⟨hk, hpre⟩
    by_cases hlt : k < a.length
    · have hlt' : k < b.length := by omega
      have e1 := getD_lt a hlt
      have e2 := getD_lt b hlt'
      repeat' (first | (refine Kont.use (by assumption) ?_) | (refine pwp_seq fun K hK => ?_) | (refine pwp_block ?_) | (refine pwp_scope ?_) | ((first | refine pwp_region ?_ | refine pwp_quiet (by kernel_rfl) (by kernel_rfl) ?_ | refine pwp_exit ?_ | refine pwp_ret ?_ | refine pwp_skip ?_); push_cast [eq_self, iff_self, IntWalk.iteOmega, IntWalk.toNatUp]) | (refine pwp_cond ?_; push_cast [eq_self, iff_self, IntWalk.iteOmega, IntWalk.toNatUp]; try (refine ⟨fun h => ?_, fun h => ?_⟩ <;> (try simp only [decide_eq_true_eq, decide_eq_false_iff_not, Bool.not_eq_true', Bool.not_eq_false', Int.not_lt, Int.not_le, Nat.not_lt, Nat.not_le] at h) <;> (try (first | contradiction | (exfalso; omega) | exact nomatch (Eq.trans (Eq.symm h) (by assumption) : true = false) | exact nomatch (Eq.trans (Eq.symm h) (by assumption) : false = true))))))
      · rename_i h
        (refine retK_of [] ?_; push_cast [eq_self, iff_self, IntWalk.iteOmega, IntWalk.toNatUp])
        rw [e1, e2] at h
        have : ¬ a = b := fun e => by subst e; simp at h
        simp [this]
      · rename_i h
        refine ⟨k + 1, ⟨by omega, ?_⟩, by (refine weak_fg ?_; push_cast [eq_self, iff_self, IntWalk.iteOmega, IntWalk.toNatUp]), by omega⟩
        rw [e1, e2] at h
        have h' : a[k] = b[k] := by simpa using h
        rw [List.take_succ_eq_append_getElem hlt, List.take_succ_eq_append_getElem hlt', hpre, h']
    · rw [List.take_of_length_le (by omega), List.take_of_length_le (by omega)] at hpre
      repeat' (first | (refine Kont.use (by assumption) ?_) | (refine pwp_seq fun K hK => ?_) | (refine pwp_block ?_) | (refine pwp_scope ?_) | ((first | refine pwp_region ?_ | refine pwp_quiet (by kernel_rfl) (by kernel_rfl) ?_ | refine pwp_exit ?_ | refine pwp_ret ?_ | refine pwp_skip ?_); push_cast [eq_self, iff_self, IntWalk.iteOmega, IntWalk.toNatUp]) | (refine pwp_cond ?_; push_cast [eq_self, iff_self, IntWalk.iteOmega, IntWalk.toNatUp]; try (refine ⟨fun h => ?_, fun h => ?_⟩ <;> (try simp only [decide_eq_true_eq, decide_eq_false_iff_not, Bool.not_eq_true', Bool.not_eq_false', Int.not_lt, Int.not_le, Nat.not_lt, Nat.not_le] at h) <;> (try (first | contradiction | (exfalso; omega) | exact nomatch (Eq.trans (Eq.symm h) (by assumption) : true = false) | exact nomatch (Eq.trans (Eq.symm h) (by assumption) : false = true))))))
      (refine retK_of [] ?_; push_cast [eq_self, iff_self, IntWalk.iteOmega, IntWalk.toNatUp])
      simp [hpre]
  · have : ¬ a = b := fun e => hl (by rw [e])
    repeat' (first | (refine Kont.use (by assumption) ?_) | (refine pwp_seq fun K hK => ?_) | (refine pwp_block ?_) | (refine pwp_scope ?_) | ((first | refine pwp_region ?_ | refine pwp_quiet (by kernel_rfl) (by kernel_rfl) ?_ | refine pwp_exit ?_ | refine pwp_ret ?_ | refine pwp_skip ?_); push_cast [eq_self, iff_self, IntWalk.iteOmega, IntWalk.toNatUp]) | (refine pwp_cond ?_; push_cast [eq_self, iff_self, IntWalk.iteOmega, IntWalk.toNatUp]; try (refine ⟨fun h => ?_, fun h => ?_⟩ <;> (try simp only [decide_eq_true_eq, decide_eq_false_iff_not, Bool.not_eq_true', Bool.not_eq_false', Int.not_lt, Int.not_le, Nat.not_lt, Nat.not_le] at h) <;> (try (first | contradiction | (exfalso; omega) | exact nomatch (Eq.trans (Eq.symm h) (by assumption) : true = false) | exact nomatch (Eq.trans (Eq.symm h) (by assumption) : false = true))))))
    (refine retK_of [] ?_; push_cast [eq_self, iff_self, IntWalk.iteOmega, IntWalk.toNatUp])
    simp [this]
theorem getM1 (l : List Atr) (n : ByteArray) : (getM l n).1 = valM l n := rfl
set_option maxHeartbeats 2000000 in
theorem changed_pure (a b : List Atr) (ha : a.length ≤ 10000) (hb : b.length ≤ 10000) :
    PCalls Tryd.prog 7 [.c (.sl 2 (a.map Atr.d)), .c (.sl 2 (b.map Atr.d))] [] fun r os => r = .c (.sl 1 ((chgL a b).map strD)) ∧ os = [] := by
  have hc := concat_pure a b (by omega) (by omega)
  have hlen : (a ++ b).length = a.length + b.length := List.length_append
  unfold chgL
  obtain ⟨u, hu⟩ : ∃ u, a ++ b = u := ⟨_, rfl⟩
  rw [hu] at hc hlen ⊢
  have htk := List.take_of_length_le (l := u.map Atr.d) (i := u.length) (by simp)
  refine pcalls_of Tryd.func7 rfl (by simp [Tryd.ntmps7]) ?_
  rw [Tryd.ntmps7, Tryd.results7]
  push_cast [eq_self, iff_self, IntWalk.iteOmega, IntWalk.toNatUp]
  repeat' (first |  (refine pl_call2 false [] rfl rfl (by kernel_rfl) (hc) ?_ nofun ?_; push_cast [eq_self, iff_self, IntWalk.iteOmega, IntWalk.toNatUp]; rintro r os ⟨rfl, rfl⟩; refine pl_of_pops ?_; push_cast [eq_self, iff_self, IntWalk.iteOmega, IntWalk.toNatUp])  | (refine Kont.use (by assumption) ?_) | (refine pwp_seq fun K hK => ?_) | (refine pwp_block ?_) | (refine pwp_scope ?_) | ((first | (refine pwp_cut 12 [15, 16, 17] ?_; first | refine pwp_region ?_ | refine pwp_quiet (by kernel_rfl) (by kernel_rfl) ?_) | refine pwp_exit ?_ | refine pwp_ret ?_ | refine pwp_skip ?_); push_cast [eq_self, iff_self, IntWalk.iteOmega, IntWalk.toNatUp]) | (refine pwp_cond ?_; push_cast [eq_self, iff_self, IntWalk.iteOmega, IntWalk.toNatUp]; try (refine ⟨fun h => ?_, fun h => ?_⟩ <;> (try simp only [decide_eq_true_eq, decide_eq_false_iff_not, Bool.not_eq_true', Bool.not_eq_false', Int.not_lt, Int.not_le, Nat.not_lt, Nat.not_le] at h) <;> (try (first | contradiction | (exfalso; omega) | exact nomatch (Eq.trans (Eq.symm h) (by assumption) : true = false) | exact nomatch (Eq.trans (Eq.symm h) (by assumption) : false = true))))))
  refine pwp_weak (weak_frz 0 (by omega)) ?_
  push_cast [eq_self, iff_self, IntWalk.iteOmega, IntWalk.toNatUp, htk]
  refine pwp_weak (weak_adopt 5 9 1 (by omega) (by push_cast [eq_self, iff_self, IntWalk.iteOmega, IntWalk.toNatUp])) ?_
  push_cast [eq_self, iff_self, IntWalk.iteOmega, IntWalk.toNatUp]
  (apply pwp_loop3 (α := Nat) 12 [15, 16, 17] (fun k => [(17, .c (.v (.int .i64 k))), (5, .c (.own 1 ((diffL a b (u.take k)).length)))]) (fun k => [(1, .arr 9 1 ((diffL a b (u.take k)).map strD))]) (fun k => k ≤ u.length) (fun k => u.length - k) (0); (focus ((try push_cast [eq_self, iff_self, IntWalk.iteOmega, IntWalk.toNatUp]); rfl)); (focus exact (by omega)); (focus ((refine weak_fg ?_; try push_cast [eq_self, iff_self, IntWalk.iteOmega, IntWalk.toNatUp]); exact ⟨rfl, rfl⟩)))
  intro k hk
  push_cast [eq_self, iff_self, IntWalk.iteOmega, IntWalk.toNatUp]
  by_cases hlt : k < u.length
  · have g1 := get_pure a (u.getD k default).name (by omega)
    have g2 := get_pure b (u.getD k default).name (by omega)
    have hdl := diff_len a b u k
    rw [getM1] at g1 g2
    by_cases he : valM a (u.getD k default).name = valM b (u.getD k default).name
    · have hd := diff_f hlt he
      have he' := eq_true he
      repeat' (first | (refine pl_call2 false [] rfl rfl (by kernel_rfl) (g1) ?_ nofun ?_; push_cast [eq_self, iff_self, IntWalk.iteOmega, IntWalk.toNatUp, he', ne_eq, not_true_eq_false]; rintro r os ⟨rfl, rfl⟩; refine pl_of_pops ?_; push_cast [eq_self, iff_self, IntWalk.iteOmega, IntWalk.toNatUp, he', ne_eq, not_true_eq_false]) | (refine pl_call2 false [] rfl rfl (by kernel_rfl) (g2) ?_ nofun ?_; push_cast [eq_self, iff_self, IntWalk.iteOmega, IntWalk.toNatUp, he', ne_eq, not_true_eq_false]; rintro r os ⟨rfl, rfl⟩; refine pl_of_pops ?_; push_cast [eq_self, iff_self, IntWalk.iteOmega, IntWalk.toNatUp, he', ne_eq, not_true_eq_false]) | (refine Kont.use (by assumption) ?_) | (refine pwp_seq fun K hK => ?_) | (refine pwp_block ?_) | (refine pwp_scope ?_) | ((first | (refine pwp_cut 12 [15, 16, 17] ?_; first | refine pwp_region ?_ | refine pwp_quiet (by kernel_rfl) (by kernel_rfl) ?_) | refine pwp_exit ?_ | refine pwp_ret ?_ | refine pwp_skip ?_); push_cast [eq_self, iff_self, IntWalk.iteOmega, IntWalk.toNatUp, he', ne_eq, not_true_eq_false]) | (refine pwp_cond ?_; push_cast [eq_self, iff_self, IntWalk.iteOmega, IntWalk.toNatUp, he', ne_eq, not_true_eq_false]; try (refine ⟨fun h => ?_, fun h => ?_⟩ <;> (try simp only [decide_eq_true_eq, decide_eq_false_iff_not, Bool.not_eq_true', Bool.not_eq_false', Int.not_lt, Int.not_le, Nat.not_lt, Nat.not_le] at h) <;> (try (first | contradiction | (exfalso; omega) | exact nomatch (Eq.trans (Eq.symm h) (by assumption) : true = false) | exact nomatch (Eq.trans (Eq.symm h) (by assumption) : false = true))))))
      exact ⟨k + 1, by omega, by (refine weak_fg ?_; push_cast [eq_self, iff_self, IntWalk.iteOmega, IntWalk.toNatUp, hd]), by omega⟩
    · have hd := diff_t hlt he
      repeat' (first | (refine pl_call2 false [] rfl rfl (by kernel_rfl) (g1) ?_ nofun ?_; push_cast [eq_self, iff_self, IntWalk.iteOmega, IntWalk.toNatUp, he, ne_eq, not_false_eq_true]; rintro r os ⟨rfl, rfl⟩; refine pl_of_pops ?_; push_cast [eq_self, iff_self, IntWalk.iteOmega, IntWalk.toNatUp, he, ne_eq, not_false_eq_true]) | (refine pl_call2 false [] rfl rfl (by kernel_rfl) (g2) ?_ nofun ?_; push_cast [eq_self, iff_self, IntWalk.iteOmega, IntWalk.toNatUp, he, ne_eq, not_false_eq_true]; rintro r os ⟨rfl, rfl⟩; refine pl_of_pops ?_; push_cast [eq_self, iff_self, IntWalk.iteOmega, IntWalk.toNatUp, he, ne_eq, not_false_eq_true]) | (refine Kont.use (by assumption) ?_) | (refine pwp_seq fun K hK => ?_) | (refine pwp_block ?_) | (refine pwp_scope ?_) | ((first | (refine pwp_cut 12 [15, 16, 17] ?_; first | refine pwp_region ?_ | refine pwp_quiet (by kernel_rfl) (by kernel_rfl) ?_) | refine pwp_exit ?_ | refine pwp_ret ?_ | refine pwp_skip ?_); push_cast [eq_self, iff_self, IntWalk.iteOmega, IntWalk.toNatUp, he, ne_eq, not_false_eq_true]) | (refine pwp_cond ?_; push_cast [eq_self, iff_self, IntWalk.iteOmega, IntWalk.toNatUp, he, ne_eq, not_false_eq_true]; try (refine ⟨fun h => ?_, fun h => ?_⟩ <;> (try simp only [decide_eq_true_eq, decide_eq_false_iff_not, Bool.not_eq_true', Bool.not_eq_false', Int.not_lt, Int.not_le, Nat.not_lt, Nat.not_le] at h) <;> (try (first | contradiction | (exfalso; omega) | exact nomatch (Eq.trans (Eq.symm h) (by assumption) : true = false) | exact nomatch (Eq.trans (Eq.symm h) (by assumption) : false = true))))))
      exact ⟨k + 1, by omega, by (refine weak_fg ?_; push_cast [eq_self, iff_self, IntWalk.iteOmega, IntWalk.toNatUp, hd]), by omega⟩
  · have hd := diff_end (a := a) (b := b) hlt
    rw [hd]
    have hdl := diff_len a b u u.length
    rw [List.take_length] at hdl
    obtain ⟨R, hR⟩ : ∃ R, diffL a b u = R := ⟨_, rfl⟩
    rw [hR] at hdl ⊢
    repeat' (first |  (refine pl_call2 false [1] rfl rfl (by kernel_rfl) (sort2_pure R (by omega)) ?_ nofun ?_; push_cast [eq_self, iff_self, IntWalk.iteOmega, IntWalk.toNatUp]; rintro r os ⟨S0, ⟨hS1, hS2⟩, rfl, rfl⟩; refine pl_of_pops ?_; push_cast [eq_self, iff_self, IntWalk.iteOmega, IntWalk.toNatUp])  | (refine Kont.use (by assumption) ?_) | (refine pwp_seq fun K hK => ?_) | (refine pwp_block ?_) | (refine pwp_scope ?_) | ((first | (refine pwp_cut 12 [15, 16, 17] ?_; first | refine pwp_region ?_ | refine pwp_quiet (by kernel_rfl) (by kernel_rfl) ?_) | refine pwp_exit ?_ | refine pwp_ret ?_ | refine pwp_skip ?_); push_cast [eq_self, iff_self, IntWalk.iteOmega, IntWalk.toNatUp]) | (refine pwp_cond ?_; push_cast [eq_self, iff_self, IntWalk.iteOmega, IntWalk.toNatUp]; try (refine ⟨fun h => ?_, fun h => ?_⟩ <;> (try simp only [decide_eq_true_eq, decide_eq_false_iff_not, Bool.not_eq_true', Bool.not_eq_false', Int.not_lt, Int.not_le, Nat.not_lt, Nat.not_le] at h) <;> (try (first | contradiction | (exfalso; omega) | exact nomatch (Eq.trans (Eq.symm h) (by assumption) : true = false) | exact nomatch (Eq.trans (Eq.symm h) (by assumption) : false = true))))))
    have hcp := compact2_pure S0 (by omega)
    rw [hS1] at hcp
    repeat' (first |  (refine pl_call2 false [1] rfl rfl (by kernel_rfl) (hcp) ?_ nofun ?_; push_cast [eq_self, iff_self, IntWalk.iteOmega, IntWalk.toNatUp]; rintro r os ⟨m, rfl, rfl⟩; refine pl_of_pops ?_; push_cast [eq_self, iff_self, IntWalk.iteOmega, IntWalk.toNatUp])  | (refine Kont.use (by assumption) ?_) | (refine pwp_seq fun K hK => ?_) | (refine pwp_block ?_) | (refine pwp_scope ?_) | ((first | (refine pwp_cut 12 [15, 16, 17] ?_; first | refine pwp_region ?_ | refine pwp_quiet (by kernel_rfl) (by kernel_rfl) ?_) | refine pwp_exit ?_ | refine pwp_ret ?_ | refine pwp_skip ?_); push_cast [eq_self, iff_self, IntWalk.iteOmega, IntWalk.toNatUp]) | (refine pwp_cond ?_; push_cast [eq_self, iff_self, IntWalk.iteOmega, IntWalk.toNatUp]; try (refine ⟨fun h => ?_, fun h => ?_⟩ <;> (try simp only [decide_eq_true_eq, decide_eq_false_iff_not, Bool.not_eq_true', Bool.not_eq_false', Int.not_lt, Int.not_le, Nat.not_lt, Nat.not_le] at h) <;> (try (first | contradiction | (exfalso; omega) | exact nomatch (Eq.trans (Eq.symm h) (by assumption) : true = false) | exact nomatch (Eq.trans (Eq.symm h) (by assumption) : false = true))))))
    have hcm : List.take (cmpB S0).length (List.map strD (cmpB S0) ++ List.map strD m) = (cmpB S0).map strD := by rw [← List.map_append, ← List.map_take, List.take_left]
    rw [hS2] at hcm
    (refine retK_of [] ?_; push_cast [eq_self, iff_self, IntWalk.iteOmega, IntWalk.toNatUp, hcm, hR, hS2])
set_option maxHeartbeats 4000000 in
theorem rchanged_pure (a b : List Atr) (hg : Good a) (ha : a.length ≤ 10000) (hb : b.length ≤ 10000) :
    PCalls Tryd.prog 9 [.c (.sl 2 (a.map Atr.d)), .c (.sl 2 (b.map Atr.d))] [] fun r os => r = .c (.sl 1 ((chgL a b).map strD)) ∧ os = [] := by
  refine pcalls_of Tryd.func9 rfl (by simp [Tryd.ntmps9]) ?_
  rw [Tryd.ntmps9, Tryd.results9]
  push_cast [eq_self, iff_self, IntWalk.iteOmega, IntWalk.toNatUp]
  repeat' (first | (refine Kont.use (by assumption) ?_) | (refine pwp_seq fun K hK => ?_) | (refine pwp_block ?_) | (refine pwp_scope ?_) | ((first | (refine pwp_cut 13 [] ?_; first | refine pwp_region ?_ | refine pwp_quiet (by kernel_rfl) (by kernel_rfl) ?_) | refine pwp_exit ?_ | refine pwp_ret ?_ | refine pwp_skip ?_); push_cast [eq_self, iff_self, IntWalk.iteOmega, IntWalk.toNatUp]) | (refine pwp_cond ?_; push_cast [eq_self, iff_self, IntWalk.iteOmega, IntWalk.toNatUp]; try (refine ⟨fun h => ?_, fun h => ?_⟩ <;> (try simp only [decide_eq_true_eq, decide_eq_false_iff_not, Bool.not_eq_true', Bool.not_eq_false', Int.not_lt, Int.not_le, Nat.not_lt, Nat.not_le] at h) <;> (try (first | contradiction | (exfalso; omega) | exact nomatch (Eq.trans (Eq.symm h) (by assumption) : true = false) | exact nomatch (Eq.trans (Eq.symm h) (by assumption) : false = true))))))
  (apply pwp_loop3 (α := Nat) 13 [] (fun k => [(6, .c (.v (.int .i64 k))), (5, .c (.sl 2 ((allR a (b.take k)).map Atr.d)))]) (fun k => []) (fun k => k ≤ b.length) (fun k => b.length - k) (0); (focus ((try push_cast [eq_self, iff_self, IntWalk.iteOmega, IntWalk.toNatUp]); rfl)); (focus exact (by omega)); (focus ((refine weak_fg ?_; try push_cast [eq_self, iff_self, IntWalk.iteOmega, IntWalk.toNatUp]); rfl)))
  intro k hk
  push_cast [eq_self, iff_self, IntWalk.iteOmega, IntWalk.toNatUp]
  by_cases hlt : k < b.length
  · have hal := allR_len a (b.take k)
    rw [List.length_take] at hal
    have hs := refset_pure (allR a (b.take k)) (b.getD k default).name ⟨#[120]⟩ (by omega)
    have hn : insM (b.getD k default).name ⟨#[120]⟩ (allR a (b.take k)) = allR a (b.take (k + 1)) := by rw [List.take_succ_eq_append_getElem hlt, allR_snoc, getD_lt b hlt]
    rw [refA_eq (allR_good hg _).up, hn] at hs
    repeat' (first |  (refine pl_call2 false [] rfl rfl (by kernel_rfl) (hs) ?_ nofun ?_; push_cast [eq_self, iff_self, IntWalk.iteOmega, IntWalk.toNatUp]; rintro r os ⟨rfl, rfl⟩; refine pl_of_pops ?_; push_cast [eq_self, iff_self, IntWalk.iteOmega, IntWalk.toNatUp])  | (refine Kont.use (by assumption) ?_) | (refine pwp_seq fun K hK => ?_) | (refine pwp_block ?_) | (refine pwp_scope ?_) | ((first | (refine pwp_cut 13 [] ?_; first | refine pwp_region ?_ | refine pwp_quiet (by kernel_rfl) (by kernel_rfl) ?_) | refine pwp_exit ?_ | refine pwp_ret ?_ | refine pwp_skip ?_); push_cast [eq_self, iff_self, IntWalk.iteOmega, IntWalk.toNatUp]) | (refine pwp_cond ?_; push_cast [eq_self, iff_self, IntWalk.iteOmega, IntWalk.toNatUp]; try (refine ⟨fun h => ?_, fun h => ?_⟩ <;> (try simp only [decide_eq_true_eq, decide_eq_false_iff_not, Bool.not_eq_true', Bool.not_eq_false', Int.not_lt, Int.not_le, Nat.not_lt, Nat.not_le] at h) <;> (try (first | contradiction | (exfalso; omega) | exact nomatch (Eq.trans (Eq.symm h) (by assumption) : true = false) | exact nomatch (Eq.trans (Eq.symm h) (by assumption) : false = true))))))
    exact ⟨k + 1, by omega, by (refine weak_keep true [] ?_; push_cast [eq_self, iff_self, IntWalk.iteOmega, IntWalk.toNatUp]), by omega⟩
  · have he : b.take k = b := List.take_of_length_le (by omega)
    rw [he]
    have hal := allR_len a b
    have hd0 := chgR_eq (b := b) hg
    obtain ⟨c, hc⟩ : ∃ c, allR a b = c := ⟨_, rfl⟩
    rw [hc] at hal hd0 ⊢
    repeat' (first | (refine Kont.use (by assumption) ?_) | (refine pwp_seq fun K hK => ?_) | (refine pwp_block ?_) | (refine pwp_scope ?_) | ((first | (refine pwp_cut 13 [] ?_; first | refine pwp_region ?_ | refine pwp_quiet (by kernel_rfl) (by kernel_rfl) ?_) | refine pwp_exit ?_ | refine pwp_ret ?_ | refine pwp_skip ?_); push_cast [eq_self, iff_self, IntWalk.iteOmega, IntWalk.toNatUp]) | (refine pwp_cond ?_; push_cast [eq_self, iff_self, IntWalk.iteOmega, IntWalk.toNatUp]; try (refine ⟨fun h => ?_, fun h => ?_⟩ <;> (try simp only [decide_eq_true_eq, decide_eq_false_iff_not, Bool.not_eq_true', Bool.not_eq_false', Int.not_lt, Int.not_le, Nat.not_lt, Nat.not_le] at h) <;> (try (first | contradiction | (exfalso; omega) | exact nomatch (Eq.trans (Eq.symm h) (by assumption) : true = false) | exact nomatch (Eq.trans (Eq.symm h) (by assumption) : false = true))))))
    refine pwp_weak (weak_adopt 7 9 1 (by omega) (by push_cast [eq_self, iff_self, IntWalk.iteOmega, IntWalk.toNatUp])) ?_
    push_cast [eq_self, iff_self, IntWalk.iteOmega, IntWalk.toNatUp]
    (apply pwp_loop3 (α := Nat) 13 [] (fun j => [(8, .c (.v (.int .i64 j))), (7, .c (.own 0 ((diffL a b (c.take j)).length)))]) (fun j => [(0, .arr 9 1 ((diffL a b (c.take j)).map strD))]) (fun j => j ≤ c.length) (fun j => c.length - j) (0); (focus ((try push_cast [eq_self, iff_self, IntWalk.iteOmega, IntWalk.toNatUp]); rfl)); (focus exact (by omega)); (focus ((refine weak_fg ?_; try push_cast [eq_self, iff_self, IntWalk.iteOmega, IntWalk.toNatUp]); exact ⟨rfl, rfl⟩)))
    intro j hj
    push_cast [eq_self, iff_self, IntWalk.iteOmega, IntWalk.toNatUp]
    by_cases hlj : j < c.length
    · have g1 := rget_pure a (c.getD j default).name (by omega)
      have g2 := rget_pure b (c.getD j default).name (by omega)
      have hdl := diff_len a b c j
      rw [getM1] at g1 g2
      by_cases he : valM a (c.getD j default).name = valM b (c.getD j default).name
      · have hd := diff_f hlj he
        have he' := eq_true he
        repeat' (first | (refine pl_call2 false [] rfl rfl (by kernel_rfl) (g1) ?_ nofun ?_; push_cast [eq_self, iff_self, IntWalk.iteOmega, IntWalk.toNatUp, he', ne_eq, not_true_eq_false]; rintro r os ⟨rfl, rfl⟩; refine pl_of_pops ?_; push_cast [eq_self, iff_self, IntWalk.iteOmega, IntWalk.toNatUp, he', ne_eq, not_true_eq_false]) | (refine pl_call2 false [] rfl rfl (by kernel_rfl) (g2) ?_ nofun ?_; push_cast [eq_self, iff_self, IntWalk.iteOmega, IntWalk.toNatUp, he', ne_eq, not_true_eq_false]; rintro r os ⟨rfl, rfl⟩; refine pl_of_pops ?_; push_cast [eq_self, iff_self, IntWalk.iteOmega, IntWalk.toNatUp, he', ne_eq, not_true_eq_false]) | (refine Kont.use (by assumption) ?_) | (refine pwp_seq fun K hK => ?_) | (refine pwp_block ?_) | (refine pwp_scope ?_) | ((first | (refine pwp_cut 13 [] ?_; first | refine pwp_region ?_ | refine pwp_quiet (by kernel_rfl) (by kernel_rfl) ?_) | refine pwp_exit ?_ | refine pwp_ret ?_ | refine pwp_skip ?_); push_cast [eq_self, iff_self, IntWalk.iteOmega, IntWalk.toNatUp, he', ne_eq, not_true_eq_false]) | (refine pwp_cond ?_; push_cast [eq_self, iff_self, IntWalk.iteOmega, IntWalk.toNatUp, he', ne_eq, not_true_eq_false]; try (refine ⟨fun h => ?_, fun h => ?_⟩ <;> (try simp only [decide_eq_true_eq, decide_eq_false_iff_not, Bool.not_eq_true', Bool.not_eq_false', Int.not_lt, Int.not_le, Nat.not_lt, Nat.not_le] at h) <;> (try (first | contradiction | (exfalso; omega) | exact nomatch (Eq.trans (Eq.symm h) (by assumption) : true = false) | exact nomatch (Eq.trans (Eq.symm h) (by assumption) : false = true))))))
        exact ⟨j + 1, by omega, by (refine weak_fg ?_; push_cast [eq_self, iff_self, IntWalk.iteOmega, IntWalk.toNatUp, hd]), by omega⟩
      · have hd := diff_t hlj he
        repeat' (first | (refine pl_call2 false [] rfl rfl (by kernel_rfl) (g1) ?_ nofun ?_; push_cast [eq_self, iff_self, IntWalk.iteOmega, IntWalk.toNatUp, he, ne_eq, not_false_eq_true]; rintro r os ⟨rfl, rfl⟩; refine pl_of_pops ?_; push_cast [eq_self, iff_self, IntWalk.iteOmega, IntWalk.toNatUp, he, ne_eq, not_false_eq_true]) | (refine pl_call2 false [] rfl rfl (by kernel_rfl) (g2) ?_ nofun ?_; push_cast [eq_self, iff_self, IntWalk.iteOmega, IntWalk.toNatUp, he, ne_eq, not_false_eq_true]; rintro r os ⟨rfl, rfl⟩; refine pl_of_pops ?_; push_cast [eq_self, iff_self, IntWalk.iteOmega, IntWalk.toNatUp, he, ne_eq, not_false_eq_true]) | (refine Kont.use (by assumption) ?_) | (refine pwp_seq fun K hK => ?_) | (refine pwp_block ?_) | (refine pwp_scope ?_) | ((first | (refine pwp_cut 13 [] ?_; first | refine pwp_region ?_ | refine pwp_quiet (by kernel_rfl) (by kernel_rfl) ?_) | refine pwp_exit ?_ | refine pwp_ret ?_ | refine pwp_skip ?_); push_cast [eq_self, iff_self, IntWalk.iteOmega, IntWalk.toNatUp, he, ne_eq, not_false_eq_true]) | (refine pwp_cond ?_; push_cast [eq_self, iff_self, IntWalk.iteOmega, IntWalk.toNatUp, he, ne_eq, not_false_eq_true]; try (refine ⟨fun h => ?_, fun h => ?_⟩ <;> (try simp only [decide_eq_true_eq, decide_eq_false_iff_not, Bool.not_eq_true', Bool.not_eq_false', Int.not_lt, Int.not_le, Nat.not_lt, Nat.not_le] at h) <;> (try (first | contradiction | (exfalso; omega) | exact nomatch (Eq.trans (Eq.symm h) (by assumption) : true = false) | exact nomatch (Eq.trans (Eq.symm h) (by assumption) : false = true))))))
        exact ⟨j + 1, by omega, by (refine weak_fg ?_; push_cast [eq_self, iff_self, IntWalk.iteOmega, IntWalk.toNatUp, hd]), by omega⟩
    · have hd := diff_end (a := a) (b := b) hlj
      rw [hd, hd0]
      repeat' (first | (refine Kont.use (by assumption) ?_) | (refine pwp_seq fun K hK => ?_) | (refine pwp_block ?_) | (refine pwp_scope ?_) | ((first | (refine pwp_cut 13 [] ?_; first | refine pwp_region ?_ | refine pwp_quiet (by kernel_rfl) (by kernel_rfl) ?_) | refine pwp_exit ?_ | refine pwp_ret ?_ | refine pwp_skip ?_); push_cast [eq_self, iff_self, IntWalk.iteOmega, IntWalk.toNatUp]) | (refine pwp_cond ?_; push_cast [eq_self, iff_self, IntWalk.iteOmega, IntWalk.toNatUp]; try (refine ⟨fun h => ?_, fun h => ?_⟩ <;> (try simp only [decide_eq_true_eq, decide_eq_false_iff_not, Bool.not_eq_true', Bool.not_eq_false', Int.not_lt, Int.not_le, Nat.not_lt, Nat.not_le] at h) <;> (try (first | contradiction | (exfalso; omega) | exact nomatch (Eq.trans (Eq.symm h) (by assumption) : true = false) | exact nomatch (Eq.trans (Eq.symm h) (by assumption) : false = true))))))
      (refine retK_of [] ?_; push_cast [eq_self, iff_self, IntWalk.iteOmega, IntWalk.toNatUp])
set_option maxRecDepth 10000 in
set_option maxHeartbeats 4000000 in
theorem changes_pure (L M : List Int) (hL : ∀ x ∈ L, -9223372036854775808 ≤ x ∧ x ≤ 9223372036854775807) (hl : L.length ≤ 9223372036854775807) (hM : ∀ x ∈ M, -9223372036854775808 ≤ x ∧ x ≤ 9223372036854775807) (hm : M.length ≤ 9223372036854775807) :
    PCalls Tryd.prog 3 [.c (.sl 1 (L.map fun x => [D.v (.int .i64 x)])), .c (.sl 1 (M.map fun x => [D.v (.int .i64 x)]))] [] fun r os => r = .c (.v (.bool true)) ∧ os = [] := by
  refine pcalls_of Tryd.func3 rfl (by simp [Tryd.ntmps3]) ?_
  rw [Tryd.ntmps3, Tryd.results3]
  have p1 := attrs_pure L 0 (by omega) hL hl
  have p2 := attrs_pure M 0 (by omega) hM hm
  have g1 := attrsM_good L 0
  have g2 := attrsM_good M 0
  have l1 := attrsM_len L 0
  have l2 := attrsM_len M 0
  obtain ⟨a, ha⟩ : ∃ a, attrsM L 0 = a := ⟨_, rfl⟩
  obtain ⟨b, hb⟩ : ∃ b, attrsM M 0 = b := ⟨_, rfl⟩
  rw [ha] at p1 g1 l1
  rw [hb] at p2 g2 l2
  have c1 := changed_pure a b (by omega) (by omega)
  have c2 := rchanged_pure a b g1 (by omega) (by omega)
  have c3 := changed_pure a a (by omega) (by omega)
  rw [chg_self] at c3
  have hcl := chg_len a b
  have hset := setAll_chg g1 g2
  obtain ⟨c, hc⟩ : ∃ c, chgL a b = c := ⟨_, rfl⟩
  rw [hc] at c1 c2 hcl hset
  have c4 := sametexts_pure c c (by omega) (by omega)
  push_cast [eq_self, iff_self, IntWalk.iteOmega, IntWalk.toNatUp]
  repeat' (first |  (refine pl_call2 false [0] rfl rfl (by kernel_rfl) (p1) ?_ nofun ?_; push_cast [eq_self, iff_self, IntWalk.iteOmega, IntWalk.toNatUp]; rintro r os ⟨rfl, rfl⟩; refine pl_of_pops ?_; push_cast [eq_self, iff_self, IntWalk.iteOmega, IntWalk.toNatUp])  | (refine Kont.use (by assumption) ?_) | (refine pwp_seq fun K hK => ?_) | (refine pwp_block ?_) | (refine pwp_scope ?_) | ((first | (refine pwp_cut 11 [] ?_; first | refine pwp_region ?_ | refine pwp_quiet (by kernel_rfl) (by kernel_rfl) ?_) | refine pwp_exit ?_ | refine pwp_ret ?_ | refine pwp_skip ?_); push_cast [eq_self, iff_self, IntWalk.iteOmega, IntWalk.toNatUp]) | (refine pwp_cond ?_; push_cast [eq_self, iff_self, IntWalk.iteOmega, IntWalk.toNatUp]; try (refine ⟨fun h => ?_, fun h => ?_⟩ <;> (try simp only [decide_eq_true_eq, decide_eq_false_iff_not, Bool.not_eq_true', Bool.not_eq_false', Int.not_lt, Int.not_le, Nat.not_lt, Nat.not_le] at h) <;> (try (first | contradiction | (exfalso; omega) | exact nomatch (Eq.trans (Eq.symm h) (by assumption) : true = false) | exact nomatch (Eq.trans (Eq.symm h) (by assumption) : false = true))))))
  (refine pl_call2 false [2] rfl rfl (by kernel_rfl) (p2) ?_ nofun ?_; push_cast [eq_self, iff_self, IntWalk.iteOmega, IntWalk.toNatUp]; rintro r os ⟨rfl, rfl⟩; refine pl_of_pops ?_; push_cast [eq_self, iff_self, IntWalk.iteOmega, IntWalk.toNatUp])
  refine Kont.use (by assumption) ?_
  refine pwp_weak (weak_frz 1 (by omega)) ?_
  push_cast [eq_self, iff_self, IntWalk.iteOmega, IntWalk.toNatUp]
  refine pwp_weak (weak_frz 3 (by omega)) ?_
  push_cast [eq_self, iff_self, IntWalk.iteOmega, IntWalk.toNatUp]
  have t1 := List.take_of_length_le (l := a.map Atr.d) (i := a.length) (by simp)
  have t2 := List.take_of_length_le (l := b.map Atr.d) (i := b.length) (by simp)
  push_cast [eq_self, iff_self, IntWalk.iteOmega, IntWalk.toNatUp, t1, t2]
  repeat' (first |  (refine pl_call2 false [] rfl rfl (by kernel_rfl) (c1) ?_ nofun ?_; push_cast [eq_self, iff_self, IntWalk.iteOmega, IntWalk.toNatUp]; rintro r os ⟨rfl, rfl⟩; refine pl_of_pops ?_; push_cast [eq_self, iff_self, IntWalk.iteOmega, IntWalk.toNatUp]) | (refine pl_call2 false [] rfl rfl (by kernel_rfl) (c2) ?_ nofun ?_; push_cast [eq_self, iff_self, IntWalk.iteOmega, IntWalk.toNatUp]; rintro r os ⟨rfl, rfl⟩; refine pl_of_pops ?_; push_cast [eq_self, iff_self, IntWalk.iteOmega, IntWalk.toNatUp]) | (refine pl_call2 false [] rfl rfl (by kernel_rfl) (c3) ?_ nofun ?_; push_cast [eq_self, iff_self, IntWalk.iteOmega, IntWalk.toNatUp]; rintro r os ⟨rfl, rfl⟩; refine pl_of_pops ?_; push_cast [eq_self, iff_self, IntWalk.iteOmega, IntWalk.toNatUp]) | (refine pl_call2 false [] rfl rfl (by kernel_rfl) (c4) ?_ nofun ?_; push_cast [eq_self, iff_self, IntWalk.iteOmega, IntWalk.toNatUp]; rintro r os ⟨rfl, rfl⟩; refine pl_of_pops ?_; push_cast [eq_self, iff_self, IntWalk.iteOmega, IntWalk.toNatUp])  | (refine Kont.use (by assumption) ?_) | (refine pwp_seq fun K hK => ?_) | (refine pwp_block ?_) | (refine pwp_scope ?_) | ((first | (refine pwp_cut 11 [] ?_; first | refine pwp_region ?_ | refine pwp_quiet (by kernel_rfl) (by kernel_rfl) ?_) | refine pwp_exit ?_ | refine pwp_ret ?_ | refine pwp_skip ?_); push_cast [eq_self, iff_self, IntWalk.iteOmega, IntWalk.toNatUp]) | (refine pwp_cond ?_; push_cast [eq_self, iff_self, IntWalk.iteOmega, IntWalk.toNatUp]; try (refine ⟨fun h => ?_, fun h => ?_⟩ <;> (try simp only [decide_eq_true_eq, decide_eq_false_iff_not, Bool.not_eq_true', Bool.not_eq_false', Int.not_lt, Int.not_le, Nat.not_lt, Nat.not_le] at h) <;> (try (first | contradiction | (exfalso; omega) | exact nomatch (Eq.trans (Eq.symm h) (by assumption) : true = false) | exact nomatch (Eq.trans (Eq.symm h) (by assumption) : false = true))))))
  (apply pwp_loop3 (α := Nat) 11 [] (fun k => [(8, .c (.v (.int .i64 k))), (5, .c (.sl 2 ((setAll b a (c.take k)).map Atr.d)))]) (fun k => []) (fun k => k ≤ c.length) (fun k => c.length - k) (0); (focus ((try push_cast [eq_self, iff_self, IntWalk.iteOmega, IntWalk.toNatUp]); rfl)); (focus exact (by omega)); (focus ((refine weak_fg ?_; try push_cast [eq_self, iff_self, IntWalk.iteOmega, IntWalk.toNatUp]); rfl)))
  intro k hk
  push_cast [eq_self, iff_self, IntWalk.iteOmega, IntWalk.toNatUp]
  by_cases hlt : k < c.length
  · have g3 := get_pure b (c.getD k default) (by omega)
    rw [getM1] at g3
    have hsl := setAll_len (b := b) (c.take k) a
    rw [List.length_take] at hsl
    have hs := set_pure (setAll b a (c.take k)) (c.getD k default) (valM b (c.getD k default)) (by omega) (setAll_good b g1 _).up
    have hn : insM (c.getD k default) (valM b (c.getD k default)) (setAll b a (c.take k)) = setAll b a (c.take (k + 1)) := by rw [List.take_succ_eq_append_getElem hlt, setAll_snoc, getD_lt c hlt]
    rw [hn] at hs
    repeat' (first |  (refine pl_call2 false [] rfl rfl (by kernel_rfl) (g3) ?_ nofun ?_; push_cast [eq_self, iff_self, IntWalk.iteOmega, IntWalk.toNatUp]; rintro r os ⟨rfl, rfl⟩; refine pl_of_pops ?_; push_cast [eq_self, iff_self, IntWalk.iteOmega, IntWalk.toNatUp]) | (refine pl_call2 false [] rfl rfl (by kernel_rfl) (hs) ?_ nofun ?_; push_cast [eq_self, iff_self, IntWalk.iteOmega, IntWalk.toNatUp]; rintro r os ⟨rfl, rfl⟩; refine pl_of_pops ?_; push_cast [eq_self, iff_self, IntWalk.iteOmega, IntWalk.toNatUp])  | (refine Kont.use (by assumption) ?_) | (refine pwp_seq fun K hK => ?_) | (refine pwp_block ?_) | (refine pwp_scope ?_) | ((first | (refine pwp_cut 11 [] ?_; first | refine pwp_region ?_ | refine pwp_quiet (by kernel_rfl) (by kernel_rfl) ?_) | refine pwp_exit ?_ | refine pwp_ret ?_ | refine pwp_skip ?_); push_cast [eq_self, iff_self, IntWalk.iteOmega, IntWalk.toNatUp]) | (refine pwp_cond ?_; push_cast [eq_self, iff_self, IntWalk.iteOmega, IntWalk.toNatUp]; try (refine ⟨fun h => ?_, fun h => ?_⟩ <;> (try simp only [decide_eq_true_eq, decide_eq_false_iff_not, Bool.not_eq_true', Bool.not_eq_false', Int.not_lt, Int.not_le, Nat.not_lt, Nat.not_le] at h) <;> (try (first | contradiction | (exfalso; omega) | exact nomatch (Eq.trans (Eq.symm h) (by assumption) : true = false) | exact nomatch (Eq.trans (Eq.symm h) (by assumption) : false = true))))))
    exact ⟨k + 1, by omega, by (refine weak_fg ?_; push_cast [eq_self, iff_self, IntWalk.iteOmega, IntWalk.toNatUp]), by omega⟩
  · rw [List.take_of_length_le (by omega), hset]
    have c5 := sameattrs_pure b b (by omega) (by omega)
    repeat' (first |  (refine pl_call2 false [] rfl rfl (by kernel_rfl) (c5) ?_ nofun ?_; push_cast [eq_self, iff_self, IntWalk.iteOmega, IntWalk.toNatUp]; rintro r os ⟨rfl, rfl⟩; refine pl_of_pops ?_; push_cast [eq_self, iff_self, IntWalk.iteOmega, IntWalk.toNatUp]) | (refine pl_call2 false [] rfl rfl (by kernel_rfl) (known_pure) ?_ nofun ?_; push_cast [eq_self, iff_self, IntWalk.iteOmega, IntWalk.toNatUp]; rintro r os ⟨rfl, rfl⟩; refine pl_of_pops ?_; push_cast [eq_self, iff_self, IntWalk.iteOmega, IntWalk.toNatUp])  | (refine Kont.use (by assumption) ?_) | (refine pwp_seq fun K hK => ?_) | (refine pwp_block ?_) | (refine pwp_scope ?_) | ((first | (refine pwp_cut 11 [] ?_; first | refine pwp_region ?_ | refine pwp_quiet (by kernel_rfl) (by kernel_rfl) ?_) | refine pwp_exit ?_ | refine pwp_ret ?_ | refine pwp_skip ?_); push_cast [eq_self, iff_self, IntWalk.iteOmega, IntWalk.toNatUp]) | (refine pwp_cond ?_; push_cast [eq_self, iff_self, IntWalk.iteOmega, IntWalk.toNatUp]; try (refine ⟨fun h => ?_, fun h => ?_⟩ <;> (try simp only [decide_eq_true_eq, decide_eq_false_iff_not, Bool.not_eq_true', Bool.not_eq_false', Int.not_lt, Int.not_le, Nat.not_lt, Nat.not_le] at h) <;> (try (first | contradiction | (exfalso; omega) | exact nomatch (Eq.trans (Eq.symm h) (by assumption) : true = false) | exact nomatch (Eq.trans (Eq.symm h) (by assumption) : false = true))))))
    (refine retK_of [] ?_; push_cast [eq_self, iff_self, IntWalk.iteOmega, IntWalk.toNatUp])
end Go.Proofs.YtfojijoekpkheaaDoor
