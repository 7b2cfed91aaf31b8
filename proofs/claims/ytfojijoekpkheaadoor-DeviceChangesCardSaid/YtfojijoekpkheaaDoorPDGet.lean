/- Get and Set of package device; Get of the reference; a device's node. (pure walks) -/
import Derived.Test.YtfojijoekpkheaaDoorDevP
import Derived.Test.YtfojijoekpkheaaDoorPCatA
import Derived.Test.YtfojijoekpkheaaDoorPStr
namespace Go.Proofs.YtfojijoekpkheaaDoor
attribute [local irreducible] PL QL PWP PCalls Weak RetK Kont PA
open Go.RowKit
set_option linter.unusedVariables false
set_option linter.unusedSimpArgs false
theorem getM_skip {n : ByteArray} {b : List Atr} : ∀ {a : List Atr}, (∀ y ∈ a, y.name ≠ n) → getM (a ++ b) n = getM b n
  | [], _ => rfl
  | x :: a, h => by rw [List.cons_append, getM_cons, if_neg (h x (by simp)), getM_skip fun y hy => h y (by simp [hy])]
theorem getM_at {l : List Atr} {n : ByteArray} {k : Nat} (hk : k < l.length) (h0 : ∀ y ∈ l.take k, y.name ≠ n) (h : (l.getD k default).name = n) : getM l n = ((l.getD k default).value, true) := by
  have e : l = l.take k ++ l[k] :: l.drop (k + 1) := by rw [← List.drop_eq_getElem_cons hk, List.take_append_drop]
  rw [getD_lt l hk] at *
  conv => lhs; rw [e]
  rw [getM_skip h0, getM_cons, if_pos h]
theorem name_next {l : List Atr} {n : ByteArray} {k : Nat} (hk : k < l.length) (h0 : ∀ y ∈ l.take k, y.name ≠ n) (h : ¬ (l.getD k default).name = n) : ∀ y ∈ l.take (k + 1), y.name ≠ n := by
  intro y hy
  rw [List.take_succ_eq_append_getElem hk, List.mem_append, List.mem_singleton] at hy
  rcases hy with hy | hy
  · exact h0 y hy
  · rw [hy, ← getD_lt l hk]; exact h
set_option maxHeartbeats 1000000 in
theorem get_pure (l : List Atr) (n : ByteArray) (hl : l.length ≤ 9223372036854775807) :
    PCalls Tryd.prog 10 [.c (.sl 2 (l.map Atr.d)), .c (.v (.string n))] [] fun r os => r = .two (.c (.v (.string ((getM l n).1)))) (.c (.v (.bool ((getM l n).2)))) ∧ os = [] := by
  refine pcalls_of Tryd.func10 rfl (by simp [Tryd.ntmps10]) ?_
  rw [Tryd.ntmps10, Tryd.results10]
  push_cast [eq_self, iff_self, IntWalk.iteOmega, IntWalk.toNatUp]
  repeat' (first | (refine Kont.use (by assumption) ?_) | (refine pwp_seq fun K hK => ?_) | (refine pwp_block ?_) | (refine pwp_scope ?_) | ((first | (refine pwp_cut 8 [8, 9, 10] ?_; first | refine pwp_region ?_ | refine pwp_quiet (by kernel_rfl) (by kernel_rfl) ?_) | refine pwp_exit ?_ | refine pwp_ret ?_ | refine pwp_skip ?_); push_cast [eq_self, iff_self, IntWalk.iteOmega, IntWalk.toNatUp]) | (refine pwp_cond ?_; push_cast [eq_self, iff_self, IntWalk.iteOmega, IntWalk.toNatUp]; try (refine ⟨fun h => ?_, fun h => ?_⟩ <;> (try simp only [decide_eq_true_eq, decide_eq_false_iff_not, Bool.not_eq_true', Bool.not_eq_false', Int.not_lt, Int.not_le, Nat.not_lt, Nat.not_le] at h) <;> (try (first | contradiction | (exfalso; omega) | exact nomatch (Eq.trans (Eq.symm h) (by assumption) : true = false) | exact nomatch (Eq.trans (Eq.symm h) (by assumption) : false = true))))))
  (apply pwp_loop3 (α := Nat) 8 [8, 9, 10] (fun k => [(10, .c (.v (.int .i64 k)))]) (fun k => []) (fun k => k ≤ l.length ∧ ∀ y ∈ l.take k, y.name ≠ n) (fun k => l.length - k) (0); (focus ((try push_cast [eq_self, iff_self, IntWalk.iteOmega, IntWalk.toNatUp]); rfl)); (focus exact ⟨by omega, by simp⟩); (focus ((refine weak_fg ?_; try push_cast [eq_self, iff_self, IntWalk.iteOmega, IntWalk.toNatUp]))))
  rintro k ⟨hk, h0⟩
  push_cast [eq_self, iff_self, IntWalk.iteOmega, IntWalk.toNatUp]
  by_cases hlt : k < l.length
  · by_cases hn : (l.getD k default).name = n
    · have hg := getM_at hlt h0 hn
      have hn' := eq_true hn
      repeat' (first | (refine Kont.use (by assumption) ?_) | (refine pwp_seq fun K hK => ?_) | (refine pwp_block ?_) | (refine pwp_scope ?_) | ((first | (refine pwp_cut 8 [8, 9, 10] ?_; first | refine pwp_region ?_ | refine pwp_quiet (by kernel_rfl) (by kernel_rfl) ?_) | refine pwp_exit ?_ | refine pwp_ret ?_ | refine pwp_skip ?_); push_cast [eq_self, iff_self, IntWalk.iteOmega, IntWalk.toNatUp, hn']) | (refine pwp_cond ?_; push_cast [eq_self, iff_self, IntWalk.iteOmega, IntWalk.toNatUp, hn']; try (refine ⟨fun h => ?_, fun h => ?_⟩ <;> (try simp only [decide_eq_true_eq, decide_eq_false_iff_not, Bool.not_eq_true', Bool.not_eq_false', Int.not_lt, Int.not_le, Nat.not_lt, Nat.not_le] at h) <;> (try (first | contradiction | (exfalso; omega) | exact nomatch (Eq.trans (Eq.symm h) (by assumption) : true = false) | exact nomatch (Eq.trans (Eq.symm h) (by assumption) : false = true))))))
      (refine retK_of [] ?_; push_cast [eq_self, iff_self, IntWalk.iteOmega, IntWalk.toNatUp, hg])
    · have h1 := name_next hlt h0 hn
      repeat' (first | (refine Kont.use (by assumption) ?_) | (refine pwp_seq fun K hK => ?_) | (refine pwp_block ?_) | (refine pwp_scope ?_) | ((first | (refine pwp_cut 8 [8, 9, 10] ?_; first | refine pwp_region ?_ | refine pwp_quiet (by kernel_rfl) (by kernel_rfl) ?_) | refine pwp_exit ?_ | refine pwp_ret ?_ | refine pwp_skip ?_); push_cast [eq_self, iff_self, IntWalk.iteOmega, IntWalk.toNatUp, hn]) | (refine pwp_cond ?_; push_cast [eq_self, iff_self, IntWalk.iteOmega, IntWalk.toNatUp, hn]; try (refine ⟨fun h => ?_, fun h => ?_⟩ <;> (try simp only [decide_eq_true_eq, decide_eq_false_iff_not, Bool.not_eq_true', Bool.not_eq_false', Int.not_lt, Int.not_le, Nat.not_lt, Nat.not_le] at h) <;> (try (first | contradiction | (exfalso; omega) | exact nomatch (Eq.trans (Eq.symm h) (by assumption) : true = false) | exact nomatch (Eq.trans (Eq.symm h) (by assumption) : false = true))))))
      exact ⟨k + 1, ⟨by omega, h1⟩, by (refine weak_fg ?_; push_cast [eq_self, iff_self, IntWalk.iteOmega, IntWalk.toNatUp]), by omega⟩
  · rw [List.take_of_length_le (by omega)] at h0
    have hg := getM_none h0
    repeat' (first | (refine Kont.use (by assumption) ?_) | (refine pwp_seq fun K hK => ?_) | (refine pwp_block ?_) | (refine pwp_scope ?_) | ((first | (refine pwp_cut 8 [8, 9, 10] ?_; first | refine pwp_region ?_ | refine pwp_quiet (by kernel_rfl) (by kernel_rfl) ?_) | refine pwp_exit ?_ | refine pwp_ret ?_ | refine pwp_skip ?_); push_cast [eq_self, iff_self, IntWalk.iteOmega, IntWalk.toNatUp]) | (refine pwp_cond ?_; push_cast [eq_self, iff_self, IntWalk.iteOmega, IntWalk.toNatUp]; try (refine ⟨fun h => ?_, fun h => ?_⟩ <;> (try simp only [decide_eq_true_eq, decide_eq_false_iff_not, Bool.not_eq_true', Bool.not_eq_false', Int.not_lt, Int.not_le, Nat.not_lt, Nat.not_le] at h) <;> (try (first | contradiction | (exfalso; omega) | exact nomatch (Eq.trans (Eq.symm h) (by assumption) : true = false) | exact nomatch (Eq.trans (Eq.symm h) (by assumption) : false = true))))))
    (refine retK_of [] ?_; push_cast [eq_self, iff_self, IntWalk.iteOmega, IntWalk.toNatUp, hg])
set_option maxHeartbeats 1000000 in
theorem rget_pure (l : List Atr) (n : ByteArray) (hl : l.length ≤ 9223372036854775807) :
    PCalls Tryd.prog 27 [.c (.sl 2 (l.map Atr.d)), .c (.v (.string n))] [] fun r os => r = .two (.c (.v (.string ((getM l n).1)))) (.c (.v (.bool ((getM l n).2)))) ∧ os = [] := by
  refine pcalls_of Tryd.func27 rfl (by simp [Tryd.ntmps27]) ?_
  rw [Tryd.ntmps27, Tryd.results27]
  push_cast [eq_self, iff_self, IntWalk.iteOmega, IntWalk.toNatUp]
  repeat' (first | (refine Kont.use (by assumption) ?_) | (refine pwp_seq fun K hK => ?_) | (refine pwp_block ?_) | (refine pwp_scope ?_) | ((first | (refine pwp_cut 7 [] ?_; first | refine pwp_region ?_ | refine pwp_quiet (by kernel_rfl) (by kernel_rfl) ?_) | refine pwp_exit ?_ | refine pwp_ret ?_ | refine pwp_skip ?_); push_cast [eq_self, iff_self, IntWalk.iteOmega, IntWalk.toNatUp]) | (refine pwp_cond ?_; push_cast [eq_self, iff_self, IntWalk.iteOmega, IntWalk.toNatUp]; try (refine ⟨fun h => ?_, fun h => ?_⟩ <;> (try simp only [decide_eq_true_eq, decide_eq_false_iff_not, Bool.not_eq_true', Bool.not_eq_false', Int.not_lt, Int.not_le, Nat.not_lt, Nat.not_le] at h) <;> (try (first | contradiction | (exfalso; omega) | exact nomatch (Eq.trans (Eq.symm h) (by assumption) : true = false) | exact nomatch (Eq.trans (Eq.symm h) (by assumption) : false = true))))))
  (apply pwp_loop3 (α := Nat) 7 [] (fun k => [(6, .c (.v (.int .i64 k)))]) (fun k => []) (fun k => k ≤ l.length ∧ ∀ y ∈ l.take k, y.name ≠ n) (fun k => l.length - k) (0); (focus ((try push_cast [eq_self, iff_self, IntWalk.iteOmega, IntWalk.toNatUp]); rfl)); (focus exact ⟨by omega, by simp⟩); (focus ((refine weak_fg ?_; try push_cast [eq_self, iff_self, IntWalk.iteOmega, IntWalk.toNatUp]))))
  rintro k ⟨hk, h0⟩
  push_cast [eq_self, iff_self, IntWalk.iteOmega, IntWalk.toNatUp]
  by_cases hlt : k < l.length
  · by_cases hn : (l.getD k default).name = n
    · have hg := getM_at hlt h0 hn
      have hn' := eq_true hn
      repeat' (first | (refine Kont.use (by assumption) ?_) | (refine pwp_seq fun K hK => ?_) | (refine pwp_block ?_) | (refine pwp_scope ?_) | ((first | (refine pwp_cut 7 [] ?_; first | refine pwp_region ?_ | refine pwp_quiet (by kernel_rfl) (by kernel_rfl) ?_) | refine pwp_exit ?_ | refine pwp_ret ?_ | refine pwp_skip ?_); push_cast [eq_self, iff_self, IntWalk.iteOmega, IntWalk.toNatUp, hn']) | (refine pwp_cond ?_; push_cast [eq_self, iff_self, IntWalk.iteOmega, IntWalk.toNatUp, hn']; try (refine ⟨fun h => ?_, fun h => ?_⟩ <;> (try simp only [decide_eq_true_eq, decide_eq_false_iff_not, Bool.not_eq_true', Bool.not_eq_false', Int.not_lt, Int.not_le, Nat.not_lt, Nat.not_le] at h) <;> (try (first | contradiction | (exfalso; omega) | exact nomatch (Eq.trans (Eq.symm h) (by assumption) : true = false) | exact nomatch (Eq.trans (Eq.symm h) (by assumption) : false = true))))))
      (refine retK_of [] ?_; push_cast [eq_self, iff_self, IntWalk.iteOmega, IntWalk.toNatUp, hg])
    · have h1 := name_next hlt h0 hn
      repeat' (first | (refine Kont.use (by assumption) ?_) | (refine pwp_seq fun K hK => ?_) | (refine pwp_block ?_) | (refine pwp_scope ?_) | ((first | (refine pwp_cut 7 [] ?_; first | refine pwp_region ?_ | refine pwp_quiet (by kernel_rfl) (by kernel_rfl) ?_) | refine pwp_exit ?_ | refine pwp_ret ?_ | refine pwp_skip ?_); push_cast [eq_self, iff_self, IntWalk.iteOmega, IntWalk.toNatUp, hn]) | (refine pwp_cond ?_; push_cast [eq_self, iff_self, IntWalk.iteOmega, IntWalk.toNatUp, hn]; try (refine ⟨fun h => ?_, fun h => ?_⟩ <;> (try simp only [decide_eq_true_eq, decide_eq_false_iff_not, Bool.not_eq_true', Bool.not_eq_false', Int.not_lt, Int.not_le, Nat.not_lt, Nat.not_le] at h) <;> (try (first | contradiction | (exfalso; omega) | exact nomatch (Eq.trans (Eq.symm h) (by assumption) : true = false) | exact nomatch (Eq.trans (Eq.symm h) (by assumption) : false = true))))))
      exact ⟨k + 1, ⟨by omega, h1⟩, by (refine weak_fg ?_; push_cast [eq_self, iff_self, IntWalk.iteOmega, IntWalk.toNatUp]), by omega⟩
  · rw [List.take_of_length_le (by omega)] at h0
    have hg := getM_none h0
    repeat' (first | (refine Kont.use (by assumption) ?_) | (refine pwp_seq fun K hK => ?_) | (refine pwp_block ?_) | (refine pwp_scope ?_) | ((first | (refine pwp_cut 7 [] ?_; first | refine pwp_region ?_ | refine pwp_quiet (by kernel_rfl) (by kernel_rfl) ?_) | refine pwp_exit ?_ | refine pwp_ret ?_ | refine pwp_skip ?_); push_cast [eq_self, iff_self, IntWalk.iteOmega, IntWalk.toNatUp]) | (refine pwp_cond ?_; push_cast [eq_self, iff_self, IntWalk.iteOmega, IntWalk.toNatUp]; try (refine ⟨fun h => ?_, fun h => ?_⟩ <;> (try simp only [decide_eq_true_eq, decide_eq_false_iff_not, Bool.not_eq_true', Bool.not_eq_false', Int.not_lt, Int.not_le, Nat.not_lt, Nat.not_le] at h) <;> (try (first | contradiction | (exfalso; omega) | exact nomatch (Eq.trans (Eq.symm h) (by assumption) : true = false) | exact nomatch (Eq.trans (Eq.symm h) (by assumption) : false = true))))))
    (refine retK_of [] ?_; push_cast [eq_self, iff_self, IntWalk.iteOmega, IntWalk.toNatUp, hg])
theorem cmpat_pure (x : Atr) (n : ByteArray) :
    PCalls Tryd.prog 29 [.agg (x.d.map D.e), .c (.v (.string n))] [] fun r os => r = .c (.v (.int .i64 (cmpS x.name n))) ∧ os = [] := by
  have hc := scmp_pure x.name n
  refine pcalls_of Tryd.func29 rfl (by simp [Tryd.ntmps29]) ?_
  rw [Tryd.ntmps29, Tryd.results29]
  push_cast [eq_self, iff_self, IntWalk.iteOmega, IntWalk.toNatUp]
  repeat' (first |  (refine pl_call2 false [] rfl rfl (by kernel_rfl) (hc) ?_ nofun ?_; push_cast [eq_self, iff_self, IntWalk.iteOmega, IntWalk.toNatUp]; rintro r os ⟨rfl, rfl⟩; refine pl_of_pops ?_; push_cast [eq_self, iff_self, IntWalk.iteOmega, IntWalk.toNatUp])  | (refine Kont.use (by assumption) ?_) | (refine pwp_seq fun K hK => ?_) | (refine pwp_block ?_) | (refine pwp_scope ?_) | ((first | (refine pwp_cut 5 [] ?_; first | refine pwp_region ?_ | refine pwp_quiet (by kernel_rfl) (by kernel_rfl) ?_) | refine pwp_exit ?_ | refine pwp_ret ?_ | refine pwp_skip ?_); push_cast [eq_self, iff_self, IntWalk.iteOmega, IntWalk.toNatUp]) | (refine pwp_cond ?_; push_cast [eq_self, iff_self, IntWalk.iteOmega, IntWalk.toNatUp]; try (refine ⟨fun h => ?_, fun h => ?_⟩ <;> (try simp only [decide_eq_true_eq, decide_eq_false_iff_not, Bool.not_eq_true', Bool.not_eq_false', Int.not_lt, Int.not_le, Nat.not_lt, Nat.not_le] at h) <;> (try (first | contradiction | (exfalso; omega) | exact nomatch (Eq.trans (Eq.symm h) (by assumption) : true = false) | exact nomatch (Eq.trans (Eq.symm h) (by assumption) : false = true))))))
  (refine retK_of [] ?_; push_cast [eq_self, iff_self, IntWalk.iteOmega, IntWalk.toNatUp])
theorem hit_eq {l : List Atr} {n : ByteArray} {i : Nat} (hp : pos l n = i) : hit l n = (decide (i < l.length) && decide ((l.getD i default).name = n)) := by
  unfold hit
  rw [hp]
  by_cases h : i < l.length
  · rw [List.getElem?_eq_getElem h, getD_lt l h, decide_eq_true h]; rfl
  · rw [List.getElem?_eq_none (by omega), decide_eq_false h]; rfl
set_option maxHeartbeats 2000000 in
theorem bsat_pure (l : List Atr) (n : ByteArray) (hl : l.length ≤ 1000000000) (hu : l.Pairwise Up) :
    PCalls Tryd.prog 28 [.c (.sl 2 (l.map Atr.d)), .c (.v (.string n)), .c (.fn (.func 29) [] [])] [] fun r os => r = .two (.c (.v (.int .i64 (pos l n)))) (.c (.v (.bool (hit l n)))) ∧ os = [] := by
  refine pcalls_of Tryd.func28 rfl (by simp [Tryd.ntmps28]) ?_
  rw [Tryd.ntmps28, Tryd.results28]
  push_cast [eq_self, iff_self, IntWalk.iteOmega, IntWalk.toNatUp]
  repeat' (first | (refine Kont.use (by assumption) ?_) | (refine pwp_seq fun K hK => ?_) | (refine pwp_block ?_) | (refine pwp_scope ?_) | ((first | (refine pwp_cut 12 [] ?_; first | refine pwp_region ?_ | refine pwp_quiet (by kernel_rfl) (by kernel_rfl) ?_) | refine pwp_exit ?_ | refine pwp_ret ?_ | refine pwp_skip ?_); push_cast [eq_self, iff_self, IntWalk.iteOmega, IntWalk.toNatUp]) | (refine pwp_cond ?_; push_cast [eq_self, iff_self, IntWalk.iteOmega, IntWalk.toNatUp]; try (refine ⟨fun h => ?_, fun h => ?_⟩ <;> (try simp only [decide_eq_true_eq, decide_eq_false_iff_not, Bool.not_eq_true', Bool.not_eq_false', Int.not_lt, Int.not_le, Nat.not_lt, Nat.not_le] at h) <;> (try (first | contradiction | (exfalso; omega) | exact nomatch (Eq.trans (Eq.symm h) (by assumption) : true = false) | exact nomatch (Eq.trans (Eq.symm h) (by assumption) : false = true))))))
  (apply pwp_loop3 (α := Nat × Nat) 12 [] (fun z => [(9, .c (.v (.int .i64 z.1))), (10, .c (.v (.int .i64 z.2)))]) (fun z => []) (fun z => z.1 ≤ z.2 ∧ z.2 ≤ l.length ∧ (∀ y ∈ l.take z.1, bless y.name n = true) ∧ ∀ y ∈ l.drop z.2, bless y.name n = false) (fun z => z.2 - z.1) ((0, l.length)); (focus ((try push_cast [eq_self, iff_self, IntWalk.iteOmega, IntWalk.toNatUp]); rfl)); (focus exact ⟨by simp, by simp, by simp, by simp⟩); (focus ((refine weak_fg ?_; try push_cast [eq_self, iff_self, IntWalk.iteOmega, IntWalk.toNatUp]))))
  rintro ⟨i, j⟩ ⟨h1, h2, h3, h4⟩
  simp only at h1 h2 h3 h4
  push_cast [eq_self, iff_self, IntWalk.iteOmega, IntWalk.toNatUp]
  by_cases hlt : i < j
  · obtain ⟨md, hh⟩ : ∃ md, (i + j) / 2 = md := ⟨_, rfl⟩
    have hh2 : ((i : Int) + j) / 2 = (md : Int) := by omega
    have hhl : md < l.length := by omega
    have hc := cmpat_pure (l.getD md default) n
    have hsp : l = l.take md ++ l[md] :: l.drop (md + 1) := by rw [← List.drop_eq_getElem_cons hhl, List.take_append_drop]
    have hsort : ∀ y ∈ l.take md, Up y (l.getD md default) := by
      have hp := hu
      rw [hsp] at hp
      intro y hy
      rw [getD_lt l hhl]
      exact (List.pairwise_append.1 hp).2.2 y hy _ List.mem_cons_self
    have hsort2 : ∀ y ∈ l.drop (md + 1), Up (l.getD md default) y := by
      have hp := hu
      rw [hsp] at hp
      intro y hy
      rw [getD_lt l hhl]
      exact (List.pairwise_cons.1 (List.pairwise_append.1 hp).2.1).1 y hy
    by_cases hl2 : bless (l.getD md default).name n = true
    · have e := eq_true (cmpS_lt.2 hl2)
      repeat' (first | (refine pl_call2 false [] rfl rfl (by kernel_rfl) (hc) ?_ nofun ?_; push_cast [eq_self, iff_self, IntWalk.iteOmega, IntWalk.toNatUp, hh2, e]; rintro r os ⟨rfl, rfl⟩; refine pl_of_pops ?_; push_cast [eq_self, iff_self, IntWalk.iteOmega, IntWalk.toNatUp, hh2, e]) | (refine Kont.use (by assumption) ?_) | (refine pwp_seq fun K hK => ?_) | (refine pwp_block ?_) | (refine pwp_scope ?_) | ((first | (refine pwp_cut 12 [] ?_; first | refine pwp_region ?_ | refine pwp_quiet (by kernel_rfl) (by kernel_rfl) ?_) | refine pwp_exit ?_ | refine pwp_ret ?_ | refine pwp_skip ?_); push_cast [eq_self, iff_self, IntWalk.iteOmega, IntWalk.toNatUp, hh2, e]) | (refine pwp_cond ?_; push_cast [eq_self, iff_self, IntWalk.iteOmega, IntWalk.toNatUp, hh2, e]; try (refine ⟨fun h => ?_, fun h => ?_⟩ <;> (try simp only [decide_eq_true_eq, decide_eq_false_iff_not, Bool.not_eq_true', Bool.not_eq_false', Int.not_lt, Int.not_le, Nat.not_lt, Nat.not_le] at h) <;> (try (first | contradiction | (exfalso; omega) | exact nomatch (Eq.trans (Eq.symm h) (by assumption) : true = false) | exact nomatch (Eq.trans (Eq.symm h) (by assumption) : false = true))))))
      refine ⟨(md + 1, j), ⟨by simp only; omega, h2, fun y hy => ?_, h4⟩, by (refine weak_fg ?_; push_cast [eq_self, iff_self, IntWalk.iteOmega, IntWalk.toNatUp]), by simp only; omega⟩
      simp only at hy
      rw [List.take_succ_eq_append_getElem hhl] at hy
      rcases List.mem_append.1 hy with hy | hy
      · exact bless_trans (hsort y hy) hl2
      · rw [List.mem_singleton.1 hy, ← getD_lt l hhl]; exact hl2
    · have e : ¬ (cmpS (l.getD md default).name n < 0) := fun h => hl2 (cmpS_lt.1 h)
      repeat' (first | (refine pl_call2 false [] rfl rfl (by kernel_rfl) (hc) ?_ nofun ?_; push_cast [eq_self, iff_self, IntWalk.iteOmega, IntWalk.toNatUp, hh2, e]; rintro r os ⟨rfl, rfl⟩; refine pl_of_pops ?_; push_cast [eq_self, iff_self, IntWalk.iteOmega, IntWalk.toNatUp, hh2, e]) | (refine Kont.use (by assumption) ?_) | (refine pwp_seq fun K hK => ?_) | (refine pwp_block ?_) | (refine pwp_scope ?_) | ((first | (refine pwp_cut 12 [] ?_; first | refine pwp_region ?_ | refine pwp_quiet (by kernel_rfl) (by kernel_rfl) ?_) | refine pwp_exit ?_ | refine pwp_ret ?_ | refine pwp_skip ?_); push_cast [eq_self, iff_self, IntWalk.iteOmega, IntWalk.toNatUp, hh2, e]) | (refine pwp_cond ?_; push_cast [eq_self, iff_self, IntWalk.iteOmega, IntWalk.toNatUp, hh2, e]; try (refine ⟨fun h => ?_, fun h => ?_⟩ <;> (try simp only [decide_eq_true_eq, decide_eq_false_iff_not, Bool.not_eq_true', Bool.not_eq_false', Int.not_lt, Int.not_le, Nat.not_lt, Nat.not_le] at h) <;> (try (first | contradiction | (exfalso; omega) | exact nomatch (Eq.trans (Eq.symm h) (by assumption) : true = false) | exact nomatch (Eq.trans (Eq.symm h) (by assumption) : false = true))))))
      refine ⟨(i, md), ⟨by simp only; omega, by simp only; omega, h3, fun y hy => ?_⟩, by (refine weak_fg ?_; push_cast [eq_self, iff_self, IntWalk.iteOmega, IntWalk.toNatUp]), by simp only; omega⟩
      simp only at hy
      rw [List.drop_eq_getElem_cons hhl] at hy
      rcases List.mem_cons.1 hy with e2 | hy
      · rw [e2, ← getD_lt l hhl]; simpa using hl2
      · rcases hq : bless y.name n with _ | _
        · rfl
        · exact absurd (bless_trans (hsort2 y hy) hq) hl2
  · have hij : i = j := by omega
    subst hij
    have hp := pos_up h2 h3 h4
    have hh := hit_eq hp
    by_cases hn : i < l.length
    · have hc := cmpat_pure (l.getD i default) n
      obtain ⟨b, hb⟩ : ∃ b, decide (cmpS (l.getD i default).name n = 0) = b := ⟨_, rfl⟩
      have hb2 : decide ((l.getD i default).name = n) = b := by rw [← hb]; exact decide_eq_decide.2 cmpS_eq.symm
      rw [hb2, decide_eq_true hn, Bool.true_and] at hh
      repeat' (first | (refine pl_call2 false [] rfl rfl (by kernel_rfl) (hc) ?_ nofun ?_; push_cast [eq_self, iff_self, IntWalk.iteOmega, IntWalk.toNatUp, hb]; rintro r os ⟨rfl, rfl⟩; refine pl_of_pops ?_; push_cast [eq_self, iff_self, IntWalk.iteOmega, IntWalk.toNatUp, hb]) | (refine Kont.use (by assumption) ?_) | (refine pwp_seq fun K hK => ?_) | (refine pwp_block ?_) | (refine pwp_scope ?_) | ((first | (refine pwp_cut 12 [] ?_; first | refine pwp_region ?_ | refine pwp_quiet (by kernel_rfl) (by kernel_rfl) ?_) | refine pwp_exit ?_ | refine pwp_ret ?_ | refine pwp_skip ?_); push_cast [eq_self, iff_self, IntWalk.iteOmega, IntWalk.toNatUp, hb]) | (refine pwp_cond ?_; push_cast [eq_self, iff_self, IntWalk.iteOmega, IntWalk.toNatUp, hb]; try (refine ⟨fun h => ?_, fun h => ?_⟩ <;> (try simp only [decide_eq_true_eq, decide_eq_false_iff_not, Bool.not_eq_true', Bool.not_eq_false', Int.not_lt, Int.not_le, Nat.not_lt, Nat.not_le] at h) <;> (try (first | contradiction | (exfalso; omega) | exact nomatch (Eq.trans (Eq.symm h) (by assumption) : true = false) | exact nomatch (Eq.trans (Eq.symm h) (by assumption) : false = true))))))
      (refine retK_of [] ?_; push_cast [eq_self, iff_self, IntWalk.iteOmega, IntWalk.toNatUp, hp, hh])
    · rw [decide_eq_false hn, Bool.false_and] at hh
      repeat' (first | (refine Kont.use (by assumption) ?_) | (refine pwp_seq fun K hK => ?_) | (refine pwp_block ?_) | (refine pwp_scope ?_) | ((first | (refine pwp_cut 12 [] ?_; first | refine pwp_region ?_ | refine pwp_quiet (by kernel_rfl) (by kernel_rfl) ?_) | refine pwp_exit ?_ | refine pwp_ret ?_ | refine pwp_skip ?_); push_cast [eq_self, iff_self, IntWalk.iteOmega, IntWalk.toNatUp]) | (refine pwp_cond ?_; push_cast [eq_self, iff_self, IntWalk.iteOmega, IntWalk.toNatUp]; try (refine ⟨fun h => ?_, fun h => ?_⟩ <;> (try simp only [decide_eq_true_eq, decide_eq_false_iff_not, Bool.not_eq_true', Bool.not_eq_false', Int.not_lt, Int.not_le, Nat.not_lt, Nat.not_le] at h) <;> (try (first | contradiction | (exfalso; omega) | exact nomatch (Eq.trans (Eq.symm h) (by assumption) : true = false) | exact nomatch (Eq.trans (Eq.symm h) (by assumption) : false = true))))))
      (refine retK_of [] ?_; push_cast [eq_self, iff_self, IntWalk.iteOmega, IntWalk.toNatUp, hp, hh])
/-- append onto a slice without room -/
def appF (P : Program) (os : List Ob) (t : TypeId) (sz' : Nat) (l : List (List D)) (y : Option PV) : Res := match elOf P t with
  | some (e, sz) => match bytOf P e, srcRows os sz y with
    | some by', some ys => if 0 < sz ∧ (zerOf P e).map List.length = some sz then (if sz' = sz ∧ (0 < ys.length ∨ l.length = 0) ∧ ((l.length : Int) + ys.length) * by' ≤ 140737488355328 ∧ (l.length : Int) + ys.length ≤ 9223372036854775807 then .app (.c (.own os.length (l.length + ys.length))) (os ++ [.arr e sz (l ++ ys)]) none else .stop) else .stop
    | _, _ => .stop
  | none => .stop
theorem appR_full (P : Program) (p : Nat) (os : List Ob) (t : TypeId) (sz' : Nat) (l : List (List D)) (y : Option PV) : appR P p os t (some (.c (.full sz' l))) y = appF P os t sz' l y := by
  have hi : inpP P os t (some (.c (.full sz' l))) y = none := by unfold inpP; rfl
  unfold appF appR
  rw [hi]
  unfold appP
  cases elOf P t with
  | none => rfl
  | some es =>
    obtain ⟨e, sz⟩ := es
    dsimp only
    generalize bytOf P e = b
    generalize srcRows os sz y = ys
    generalize zerOf P e = z
    cases b <;> cases ys <;> try rfl
    dsimp only
    split
    · split <;> rfl
    · rfl
theorem appR_eq (P : Program) (p : Nat) (os : List Ob) (t : TypeId) (x y : Option PV) : appR P p os t x y = match inpP P os t x y with
  | some (q, os') => .heap q os'
  | none => .ofA (appP P p os t x y) := rfl
attribute [-push_cast] appR
attribute [push_cast] appR_full
attribute [push_cast] appF
set_option maxHeartbeats 2000000 in
theorem set_pure (l : List Atr) (n v : ByteArray) (hl : l.length ≤ 900000) (hu : l.Pairwise Up) :
    PCalls Tryd.prog 11 [.c (.sl 2 (l.map Atr.d)), .c (.v (.string n)), .c (.v (.string v))] [] fun r os => r = .c (.sl 2 ((insM n v l).map Atr.d)) ∧ os = [] := by
  rw [← devSet_eq]
  unfold devSet
  have hb := bsat_pure l n (by omega) hu
  have hpl := pos_le l n
  have hhl : hit l n = true → pos l n < l.length := fun h => by
    unfold hit at h
    split at h
    · rename_i y hy; exact (List.getElem?_eq_some_iff.1 hy).1
    · cases h
  generalize pos l n = i at *
  generalize hit l n = f at *
  refine pcalls_of Tryd.func11 rfl (by simp [Tryd.ntmps11]) ?_
  rw [Tryd.ntmps11, Tryd.results11]
  push_cast [eq_self, iff_self, IntWalk.iteOmega, IntWalk.toNatUp]
  have hdd : l.drop (i + 1) = (l.drop i).drop 1 := by rw [List.drop_drop]
  by_cases hv : v = ⟨#[]⟩
  · have hv' := eq_true hv
    cases f with
    | true =>
      have hlt := hhl rfl
      have hc := concat_pure (l.take i) ((l.drop i).drop 1) (by rw [List.length_take]; omega) (by rw [List.length_drop, List.length_drop]; omega)
      simp only [List.map_take, List.map_drop] at hc
      repeat' (first | (refine pl_call2 false [] rfl rfl (by kernel_rfl) (hb) ?_ nofun ?_; push_cast [eq_self, iff_self, IntWalk.iteOmega, IntWalk.toNatUp, hv']; rintro r os ⟨rfl, rfl⟩; refine pl_of_pops ?_; push_cast [eq_self, iff_self, IntWalk.iteOmega, IntWalk.toNatUp, hv']) | (refine pl_call2 false [] rfl rfl (by kernel_rfl) (hc) ?_ nofun ?_; push_cast [eq_self, iff_self, IntWalk.iteOmega, IntWalk.toNatUp, hv']; rintro r os ⟨rfl, rfl⟩; refine pl_of_pops ?_; push_cast [eq_self, iff_self, IntWalk.iteOmega, IntWalk.toNatUp, hv']) | (refine Kont.use (by assumption) ?_) | (refine pwp_seq fun K hK => ?_) | (refine pwp_block ?_) | (refine pwp_scope ?_) | ((first | (refine pwp_cut 11 [] ?_; first | refine pwp_region ?_ | refine pwp_quiet (by kernel_rfl) (by kernel_rfl) ?_) | refine pwp_exit ?_ | refine pwp_ret ?_ | refine pwp_skip ?_); push_cast [eq_self, iff_self, IntWalk.iteOmega, IntWalk.toNatUp, hv']) | (refine pwp_cond ?_; push_cast [eq_self, iff_self, IntWalk.iteOmega, IntWalk.toNatUp, hv']; try (refine ⟨fun h => ?_, fun h => ?_⟩ <;> (try simp only [decide_eq_true_eq, decide_eq_false_iff_not, Bool.not_eq_true', Bool.not_eq_false', Int.not_lt, Int.not_le, Nat.not_lt, Nat.not_le] at h) <;> (try (first | contradiction | (exfalso; omega) | exact nomatch (Eq.trans (Eq.symm h) (by assumption) : true = false) | exact nomatch (Eq.trans (Eq.symm h) (by assumption) : false = true))))))
      (refine retK_of [] ?_; push_cast [eq_self, iff_self, IntWalk.iteOmega, IntWalk.toNatUp, hv', hdd])
    | false =>
      have hc := concat_pure (l.take i) (l.drop i) (by rw [List.length_take]; omega) (by rw [List.length_drop]; omega)
      simp only [List.map_take, List.map_drop] at hc
      repeat' (first | (refine pl_call2 false [] rfl rfl (by kernel_rfl) (hb) ?_ nofun ?_; push_cast [eq_self, iff_self, IntWalk.iteOmega, IntWalk.toNatUp, hv']; rintro r os ⟨rfl, rfl⟩; refine pl_of_pops ?_; push_cast [eq_self, iff_self, IntWalk.iteOmega, IntWalk.toNatUp, hv']) | (refine pl_call2 false [] rfl rfl (by kernel_rfl) (hc) ?_ nofun ?_; push_cast [eq_self, iff_self, IntWalk.iteOmega, IntWalk.toNatUp, hv']; rintro r os ⟨rfl, rfl⟩; refine pl_of_pops ?_; push_cast [eq_self, iff_self, IntWalk.iteOmega, IntWalk.toNatUp, hv']) | (refine Kont.use (by assumption) ?_) | (refine pwp_seq fun K hK => ?_) | (refine pwp_block ?_) | (refine pwp_scope ?_) | ((first | (refine pwp_cut 11 [] ?_; first | refine pwp_region ?_ | refine pwp_quiet (by kernel_rfl) (by kernel_rfl) ?_) | refine pwp_exit ?_ | refine pwp_ret ?_ | refine pwp_skip ?_); push_cast [eq_self, iff_self, IntWalk.iteOmega, IntWalk.toNatUp, hv']) | (refine pwp_cond ?_; push_cast [eq_self, iff_self, IntWalk.iteOmega, IntWalk.toNatUp, hv']; try (refine ⟨fun h => ?_, fun h => ?_⟩ <;> (try simp only [decide_eq_true_eq, decide_eq_false_iff_not, Bool.not_eq_true', Bool.not_eq_false', Int.not_lt, Int.not_le, Nat.not_lt, Nat.not_le] at h) <;> (try (first | contradiction | (exfalso; omega) | exact nomatch (Eq.trans (Eq.symm h) (by assumption) : true = false) | exact nomatch (Eq.trans (Eq.symm h) (by assumption) : false = true))))))
      (refine retK_of [] ?_; push_cast [eq_self, iff_self, IntWalk.iteOmega, IntWalk.toNatUp, hv'])
  · obtain ⟨A, hA⟩ : ∃ A, l.take i = A := ⟨_, rfl⟩
    have hAl : A.length = i := by rw [← hA, List.length_take]; omega
    have hT : List.take i (List.map Atr.d l) = A.map Atr.d := by rw [← hA, List.map_take]
    have hcl : (A ++ [(⟨n, v⟩ : Atr)]).length = i + 1 := by rw [List.length_append, hAl]; rfl
    rw [hA]
    cases f with
    | true =>
      have hlt := hhl rfl
      have hc := concat_pure (A ++ [⟨n, v⟩]) ((l.drop i).drop 1) (by rw [hcl]; omega) (by rw [List.length_drop, List.length_drop]; omega)
      simp only [List.map_append, List.map_cons, List.map_nil, List.map_drop] at hc
      repeat' (first | (refine pl_call2 false [] rfl rfl (by kernel_rfl) (hb) ?_ nofun ?_; push_cast [eq_self, iff_self, IntWalk.iteOmega, IntWalk.toNatUp, hv, hT]; rintro r os ⟨rfl, rfl⟩; refine pl_of_pops ?_; push_cast [eq_self, iff_self, IntWalk.iteOmega, IntWalk.toNatUp, hv, hT]) | (refine Kont.use (by assumption) ?_) | (refine pwp_seq fun K hK => ?_) | (refine pwp_block ?_) | (refine pwp_scope ?_) | ((first | (refine pwp_cut 11 [] ?_; first | refine pwp_region ?_ | refine pwp_quiet (by kernel_rfl) (by kernel_rfl) ?_) | refine pwp_exit ?_ | refine pwp_ret ?_ | refine pwp_skip ?_); push_cast [eq_self, iff_self, IntWalk.iteOmega, IntWalk.toNatUp, hv, hT]) | (refine pwp_cond ?_; push_cast [eq_self, iff_self, IntWalk.iteOmega, IntWalk.toNatUp, hv, hT]; try (refine ⟨fun h => ?_, fun h => ?_⟩ <;> (try simp only [decide_eq_true_eq, decide_eq_false_iff_not, Bool.not_eq_true', Bool.not_eq_false', Int.not_lt, Int.not_le, Nat.not_lt, Nat.not_le] at h) <;> (try (first | contradiction | (exfalso; omega) | exact nomatch (Eq.trans (Eq.symm h) (by assumption) : true = false) | exact nomatch (Eq.trans (Eq.symm h) (by assumption) : false = true))))))
      refine pl_weak (weak_frz 0 (by omega)) ?_
      refine pl_of_pops ?_
      push_cast [eq_self, iff_self, IntWalk.iteOmega, IntWalk.toNatUp]
      (refine pl_call2 false [] rfl rfl (by kernel_rfl) (hc) ?_ nofun ?_; push_cast [eq_self, iff_self, IntWalk.iteOmega, IntWalk.toNatUp]; rintro r os ⟨rfl, rfl⟩; refine pl_of_pops ?_; push_cast [eq_self, iff_self, IntWalk.iteOmega, IntWalk.toNatUp])
      repeat' (first | (refine Kont.use (by assumption) ?_) | (refine pwp_seq fun K hK => ?_) | (refine pwp_block ?_) | (refine pwp_scope ?_) | ((first | (refine pwp_cut 11 [] ?_; first | refine pwp_region ?_ | refine pwp_quiet (by kernel_rfl) (by kernel_rfl) ?_) | refine pwp_exit ?_ | refine pwp_ret ?_ | refine pwp_skip ?_); push_cast [eq_self, iff_self, IntWalk.iteOmega, IntWalk.toNatUp, hv]) | (refine pwp_cond ?_; push_cast [eq_self, iff_self, IntWalk.iteOmega, IntWalk.toNatUp, hv]; try (refine ⟨fun h => ?_, fun h => ?_⟩ <;> (try simp only [decide_eq_true_eq, decide_eq_false_iff_not, Bool.not_eq_true', Bool.not_eq_false', Int.not_lt, Int.not_le, Nat.not_lt, Nat.not_le] at h) <;> (try (first | contradiction | (exfalso; omega) | exact nomatch (Eq.trans (Eq.symm h) (by assumption) : true = false) | exact nomatch (Eq.trans (Eq.symm h) (by assumption) : false = true))))))
      (refine retK_of [] ?_; push_cast [eq_self, iff_self, IntWalk.iteOmega, IntWalk.toNatUp, hv, hdd])
      all_goals simp only [List.map_take, List.map_drop]
    | false =>
      have hc := concat_pure (A ++ [⟨n, v⟩]) (l.drop i) (by rw [hcl]; omega) (by rw [List.length_drop]; omega)
      simp only [List.map_append, List.map_cons, List.map_nil, List.map_drop] at hc
      repeat' (first | (refine pl_call2 false [] rfl rfl (by kernel_rfl) (hb) ?_ nofun ?_; push_cast [eq_self, iff_self, IntWalk.iteOmega, IntWalk.toNatUp, hv, hT]; rintro r os ⟨rfl, rfl⟩; refine pl_of_pops ?_; push_cast [eq_self, iff_self, IntWalk.iteOmega, IntWalk.toNatUp, hv, hT]) | (refine Kont.use (by assumption) ?_) | (refine pwp_seq fun K hK => ?_) | (refine pwp_block ?_) | (refine pwp_scope ?_) | ((first | (refine pwp_cut 11 [] ?_; first | refine pwp_region ?_ | refine pwp_quiet (by kernel_rfl) (by kernel_rfl) ?_) | refine pwp_exit ?_ | refine pwp_ret ?_ | refine pwp_skip ?_); push_cast [eq_self, iff_self, IntWalk.iteOmega, IntWalk.toNatUp, hv, hT]) | (refine pwp_cond ?_; push_cast [eq_self, iff_self, IntWalk.iteOmega, IntWalk.toNatUp, hv, hT]; try (refine ⟨fun h => ?_, fun h => ?_⟩ <;> (try simp only [decide_eq_true_eq, decide_eq_false_iff_not, Bool.not_eq_true', Bool.not_eq_false', Int.not_lt, Int.not_le, Nat.not_lt, Nat.not_le] at h) <;> (try (first | contradiction | (exfalso; omega) | exact nomatch (Eq.trans (Eq.symm h) (by assumption) : true = false) | exact nomatch (Eq.trans (Eq.symm h) (by assumption) : false = true))))))
      refine pl_weak (weak_frz 0 (by omega)) ?_
      refine pl_of_pops ?_
      push_cast [eq_self, iff_self, IntWalk.iteOmega, IntWalk.toNatUp]
      (refine pl_call2 false [] rfl rfl (by kernel_rfl) (hc) ?_ nofun ?_; push_cast [eq_self, iff_self, IntWalk.iteOmega, IntWalk.toNatUp]; rintro r os ⟨rfl, rfl⟩; refine pl_of_pops ?_; push_cast [eq_self, iff_self, IntWalk.iteOmega, IntWalk.toNatUp])
      repeat' (first | (refine Kont.use (by assumption) ?_) | (refine pwp_seq fun K hK => ?_) | (refine pwp_block ?_) | (refine pwp_scope ?_) | ((first | (refine pwp_cut 11 [] ?_; first | refine pwp_region ?_ | refine pwp_quiet (by kernel_rfl) (by kernel_rfl) ?_) | refine pwp_exit ?_ | refine pwp_ret ?_ | refine pwp_skip ?_); push_cast [eq_self, iff_self, IntWalk.iteOmega, IntWalk.toNatUp, hv]) | (refine pwp_cond ?_; push_cast [eq_self, iff_self, IntWalk.iteOmega, IntWalk.toNatUp, hv]; try (refine ⟨fun h => ?_, fun h => ?_⟩ <;> (try simp only [decide_eq_true_eq, decide_eq_false_iff_not, Bool.not_eq_true', Bool.not_eq_false', Int.not_lt, Int.not_le, Nat.not_lt, Nat.not_le] at h) <;> (try (first | contradiction | (exfalso; omega) | exact nomatch (Eq.trans (Eq.symm h) (by assumption) : true = false) | exact nomatch (Eq.trans (Eq.symm h) (by assumption) : false = true))))))
      (refine retK_of [] ?_; push_cast [eq_self, iff_self, IntWalk.iteOmega, IntWalk.toNatUp, hv])
      all_goals simp only [List.map_take, List.map_drop]
end Go.Proofs.YtfojijoekpkheaaDoor
