/- Accesses: the list that a tape tells. -/
import Derived.Test.YtipgjpcbmnlbhaaDoorPAccX
import Derived.Test.YtipgjpcbmnlbhaaDoorPTape
namespace Go.Proofs.YtipgjpcbmnlbhaaDoor
attribute [local irreducible] PL QL PWP PCalls Weak RetK Kont PA
open Go.RowKit
set_option linter.unusedVariables false
set_option linter.unusedSimpArgs false
def nmL : List ByteArray := [⟨#[97]⟩, ⟨#[97, 49]⟩, ⟨#[98]⟩, ⟨#[115, 100, 97]⟩, ⟨#[115, 100, 98]⟩, ⟨#[116, 116, 121]⟩]
def usL : List ByteArray := [⟨#[97, 110, 110]⟩, ⟨#[98, 111, 98]⟩]
/-- behind j names: some of them, each with a user -/
def AccI (j : Nat) (l : List Acc) : Prop := (l.map fun a => (a.path, a.node)).Sublist ((nmL.take j).map fun n => ((⟨#[47]⟩ : ByteArray) ++ n, n)) ∧ ∀ a ∈ l, a.user ∈ usL
theorem AccI.len {j : Nat} {l : List Acc} (h : AccI j l) : l.length ≤ 6 := by
  have := h.1.length_le
  simp only [List.length_map, List.length_take, nmL, List.length_cons, List.length_nil] at this
  omega
theorem AccI.skip {j : Nat} {l : List Acc} (h : AccI j l) (hj : j < 6) : AccI (j + 1) l := by
  refine ⟨h.1.trans ?_, h.2⟩
  rw [List.take_succ_eq_append_getElem (show j < nmL.length from hj), List.map_append]
  exact List.sublist_append_left _ _
theorem AccI.put {j : Nat} {l : List Acc} (h : AccI j l) (hj : j < 6) {u : ByteArray} (hu : u ∈ usL) : AccI (j + 1) (l ++ [⟨(⟨#[47]⟩ : ByteArray) ++ nmL.getD j default, nmL.getD j default, u⟩]) := by
  refine ⟨?_, fun a ha => ?_⟩
  · rw [List.take_succ_eq_append_getElem (show j < nmL.length from hj), List.map_append, List.map_append, getD_lt nmL (show j < nmL.length from hj)]
    exact h.1.append (List.Sublist.refl _)
  · rcases List.mem_append.1 ha with ha | ha
    · exact h.2 a ha
    · rw [List.mem_singleton.1 ha]; exact hu
set_option maxHeartbeats 2000000 in
theorem accesses_pure (L : List Int) (k : Nat) (hk : k < 900000) (hL : ∀ x ∈ L, -9223372036854775808 ≤ x ∧ x ≤ 9223372036854775807) (hl : L.length ≤ 9223372036854775807) :
    PCalls Tryd.prog 7 [.c (.ptr 0 0)] [tape L k] fun r os => ∃ l k', (AccI 6 l ∧ k' ≤ k + 12) ∧ r = .c (.own 1 (l.length)) ∧ os = [tape L k', .arr 31 3 (l.map Acc.d)] := by
  refine pcalls_of Tryd.func7 rfl (by simp [Tryd.ntmps7]) ?_
  rw [Tryd.ntmps7, Tryd.results7]
  push_cast [eq_self, iff_self, IntWalk.iteOmega, IntWalk.toNatUp]
  repeat' (first | (refine Kont.use (by assumption) ?_) | (refine pwp_seq fun K hK => ?_) | (refine pwp_block ?_) | (refine pwp_scope ?_) | ((first | (refine pwp_cut 9 [] ?_; first | refine pwp_region ?_ | refine pwp_quiet (by kernel_rfl) (by kernel_rfl) ?_) | refine pwp_exit ?_ | refine pwp_ret ?_ | refine pwp_skip ?_); push_cast [eq_self, iff_self, IntWalk.iteOmega, IntWalk.toNatUp]) | (refine pwp_cond ?_; push_cast [eq_self, iff_self, IntWalk.iteOmega, IntWalk.toNatUp]; try (refine ⟨fun h => ?_, fun h => ?_⟩ <;> (try simp only [decide_eq_true_eq, decide_eq_false_iff_not, Bool.not_eq_true', Bool.not_eq_false', Int.not_lt, Int.not_le, Nat.not_lt, Nat.not_le] at h) <;> (try (first | contradiction | (exfalso; omega) | exact nomatch (Eq.trans (Eq.symm h) (by assumption) : true = false) | exact nomatch (Eq.trans (Eq.symm h) (by assumption) : false = true))))))
  refine pwp_weak (weak_adopt 3 31 3 (by omega) (by push_cast [eq_self, iff_self, IntWalk.iteOmega, IntWalk.toNatUp])) ?_
  push_cast [eq_self, iff_self, IntWalk.iteOmega, IntWalk.toNatUp]
  (apply pwp_loop3 (α := Nat × Nat × List Acc) 9 [] (fun z => [(8, .c (.v (.int .i64 z.1))), (3, .c (.own 1 (z.2.2.length)))]) (fun z => [(0, tape L z.2.1), (1, .arr 31 3 (z.2.2.map Acc.d))]) (fun z => z.1 ≤ 6 ∧ z.2.1 ≤ k + 2 * z.1 ∧ AccI z.1 z.2.2) (fun z => 6 - z.1) ((0, k, [])); (focus ((try push_cast [eq_self, iff_self, IntWalk.iteOmega, IntWalk.toNatUp]); rfl)); (focus exact ⟨by simp, by simp, by simp [AccI]⟩); (focus ((refine weak_fg ?_; try push_cast [eq_self, iff_self, IntWalk.iteOmega, IntWalk.toNatUp]))))
  rintro ⟨j, k', l⟩ ⟨h1, h2, h3⟩
  simp only at h1 h2 h3
  have hll := h3.len
  push_cast [eq_self, iff_self, IntWalk.iteOmega, IntWalk.toNatUp]
  have hj : j = 0 ∨ j = 1 ∨ j = 2 ∨ j = 3 ∨ j = 4 ∨ j = 5 ∨ j = 6 := by omega
  have hnx := next_ex L k' 2 (by omega) (by omega) (by omega) hL hl
  have hon := one_ex L (k' + 1) usL (by omega) (by decide) (by decide) hL hl
  simp only [tape, usL] at hnx hon
  push_cast [eq_self, iff_self, IntWalk.iteOmega, IntWalk.toNatUp] at hnx
  push_cast [eq_self, iff_self, IntWalk.iteOmega, IntWalk.toNatUp] at hon

  rcases hj with rfl | rfl | rfl | rfl | rfl | rfl | rfl
  · have e0 : nmL.getD 0 default = ⟨#[97]⟩ := rfl
    have s0 : (((⟨#[47]⟩ : ByteArray).size : Int) + ((⟨#[97]⟩ : ByteArray).size : Int) ≤ 9223372036854775807) := by decide
    repeat' (first | (refine pl_call2 false [0] rfl rfl (by kernel_rfl) (hnx) ?_ nofun ?_; push_cast [eq_self, iff_self, IntWalk.iteOmega, IntWalk.toNatUp, s0]; rintro r os ⟨v, ⟨hv0, hv1⟩, rfl, rfl⟩; refine pl_of_pops ?_; push_cast [eq_self, iff_self, IntWalk.iteOmega, IntWalk.toNatUp, s0]) | (refine pl_call2 false [0] rfl rfl (by kernel_rfl) (hon) ?_ nofun ?_; push_cast [eq_self, iff_self, IntWalk.iteOmega, IntWalk.toNatUp, s0]; rintro r os ⟨u, hu, rfl, rfl⟩; refine pl_of_pops ?_; push_cast [eq_self, iff_self, IntWalk.iteOmega, IntWalk.toNatUp, s0]) | (refine Kont.use (by assumption) ?_) | (refine pwp_seq fun K hK => ?_) | (refine pwp_block ?_) | (refine pwp_scope ?_) | ((first | (refine pwp_cut 9 [] ?_; first | refine pwp_region ?_ | refine pwp_quiet (by kernel_rfl) (by kernel_rfl) ?_) | refine pwp_exit ?_ | refine pwp_ret ?_ | refine pwp_skip ?_); push_cast [eq_self, iff_self, IntWalk.iteOmega, IntWalk.toNatUp, s0]) | (refine pwp_cond ?_; push_cast [eq_self, iff_self, IntWalk.iteOmega, IntWalk.toNatUp, s0]; try (refine ⟨fun h => ?_, fun h => ?_⟩ <;> (try simp only [decide_eq_true_eq, decide_eq_false_iff_not, Bool.not_eq_true', Bool.not_eq_false', Int.not_lt, Int.not_le, Nat.not_lt, Nat.not_le] at h) <;> (try (first | contradiction | (exfalso; omega) | exact nomatch (Eq.trans (Eq.symm h) (by assumption) : true = false) | exact nomatch (Eq.trans (Eq.symm h) (by assumption) : false = true))))))
    · have hp := h3.put (by omega) hu
      rw [e0] at hp
      exact ⟨(0 + 1, k' + 1 + 1, l ++ [⟨(⟨#[47]⟩ : ByteArray) ++ ⟨#[97]⟩, ⟨#[97]⟩, u⟩]), ⟨by simp only; omega, by simp only; omega, hp⟩, by (refine weak_fg ?_; push_cast [eq_self, iff_self, IntWalk.iteOmega, IntWalk.toNatUp]), by simp only; omega⟩
    · exact ⟨(0 + 1, k' + 1, l), ⟨by simp only; omega, by simp only; omega, h3.skip (by omega)⟩, by (refine weak_fg ?_; push_cast [eq_self, iff_self, IntWalk.iteOmega, IntWalk.toNatUp]), by simp only; omega⟩
  · have e0 : nmL.getD 1 default = ⟨#[97, 49]⟩ := rfl
    have s0 : (((⟨#[47]⟩ : ByteArray).size : Int) + ((⟨#[97, 49]⟩ : ByteArray).size : Int) ≤ 9223372036854775807) := by decide
    repeat' (first | (refine pl_call2 false [0] rfl rfl (by kernel_rfl) (hnx) ?_ nofun ?_; push_cast [eq_self, iff_self, IntWalk.iteOmega, IntWalk.toNatUp, s0]; rintro r os ⟨v, ⟨hv0, hv1⟩, rfl, rfl⟩; refine pl_of_pops ?_; push_cast [eq_self, iff_self, IntWalk.iteOmega, IntWalk.toNatUp, s0]) | (refine pl_call2 false [0] rfl rfl (by kernel_rfl) (hon) ?_ nofun ?_; push_cast [eq_self, iff_self, IntWalk.iteOmega, IntWalk.toNatUp, s0]; rintro r os ⟨u, hu, rfl, rfl⟩; refine pl_of_pops ?_; push_cast [eq_self, iff_self, IntWalk.iteOmega, IntWalk.toNatUp, s0]) | (refine Kont.use (by assumption) ?_) | (refine pwp_seq fun K hK => ?_) | (refine pwp_block ?_) | (refine pwp_scope ?_) | ((first | (refine pwp_cut 9 [] ?_; first | refine pwp_region ?_ | refine pwp_quiet (by kernel_rfl) (by kernel_rfl) ?_) | refine pwp_exit ?_ | refine pwp_ret ?_ | refine pwp_skip ?_); push_cast [eq_self, iff_self, IntWalk.iteOmega, IntWalk.toNatUp, s0]) | (refine pwp_cond ?_; push_cast [eq_self, iff_self, IntWalk.iteOmega, IntWalk.toNatUp, s0]; try (refine ⟨fun h => ?_, fun h => ?_⟩ <;> (try simp only [decide_eq_true_eq, decide_eq_false_iff_not, Bool.not_eq_true', Bool.not_eq_false', Int.not_lt, Int.not_le, Nat.not_lt, Nat.not_le] at h) <;> (try (first | contradiction | (exfalso; omega) | exact nomatch (Eq.trans (Eq.symm h) (by assumption) : true = false) | exact nomatch (Eq.trans (Eq.symm h) (by assumption) : false = true))))))
    · have hp := h3.put (by omega) hu
      rw [e0] at hp
      exact ⟨(1 + 1, k' + 1 + 1, l ++ [⟨(⟨#[47]⟩ : ByteArray) ++ ⟨#[97, 49]⟩, ⟨#[97, 49]⟩, u⟩]), ⟨by simp only; omega, by simp only; omega, hp⟩, by (refine weak_fg ?_; push_cast [eq_self, iff_self, IntWalk.iteOmega, IntWalk.toNatUp]), by simp only; omega⟩
    · exact ⟨(1 + 1, k' + 1, l), ⟨by simp only; omega, by simp only; omega, h3.skip (by omega)⟩, by (refine weak_fg ?_; push_cast [eq_self, iff_self, IntWalk.iteOmega, IntWalk.toNatUp]), by simp only; omega⟩
  · have e0 : nmL.getD 2 default = ⟨#[98]⟩ := rfl
    have s0 : (((⟨#[47]⟩ : ByteArray).size : Int) + ((⟨#[98]⟩ : ByteArray).size : Int) ≤ 9223372036854775807) := by decide
    repeat' (first | (refine pl_call2 false [0] rfl rfl (by kernel_rfl) (hnx) ?_ nofun ?_; push_cast [eq_self, iff_self, IntWalk.iteOmega, IntWalk.toNatUp, s0]; rintro r os ⟨v, ⟨hv0, hv1⟩, rfl, rfl⟩; refine pl_of_pops ?_; push_cast [eq_self, iff_self, IntWalk.iteOmega, IntWalk.toNatUp, s0]) | (refine pl_call2 false [0] rfl rfl (by kernel_rfl) (hon) ?_ nofun ?_; push_cast [eq_self, iff_self, IntWalk.iteOmega, IntWalk.toNatUp, s0]; rintro r os ⟨u, hu, rfl, rfl⟩; refine pl_of_pops ?_; push_cast [eq_self, iff_self, IntWalk.iteOmega, IntWalk.toNatUp, s0]) | (refine Kont.use (by assumption) ?_) | (refine pwp_seq fun K hK => ?_) | (refine pwp_block ?_) | (refine pwp_scope ?_) | ((first | (refine pwp_cut 9 [] ?_; first | refine pwp_region ?_ | refine pwp_quiet (by kernel_rfl) (by kernel_rfl) ?_) | refine pwp_exit ?_ | refine pwp_ret ?_ | refine pwp_skip ?_); push_cast [eq_self, iff_self, IntWalk.iteOmega, IntWalk.toNatUp, s0]) | (refine pwp_cond ?_; push_cast [eq_self, iff_self, IntWalk.iteOmega, IntWalk.toNatUp, s0]; try (refine ⟨fun h => ?_, fun h => ?_⟩ <;> (try simp only [decide_eq_true_eq, decide_eq_false_iff_not, Bool.not_eq_true', Bool.not_eq_false', Int.not_lt, Int.not_le, Nat.not_lt, Nat.not_le] at h) <;> (try (first | contradiction | (exfalso; omega) | exact nomatch (Eq.trans (Eq.symm h) (by assumption) : true = false) | exact nomatch (Eq.trans (Eq.symm h) (by assumption) : false = true))))))
    · have hp := h3.put (by omega) hu
      rw [e0] at hp
      exact ⟨(2 + 1, k' + 1 + 1, l ++ [⟨(⟨#[47]⟩ : ByteArray) ++ ⟨#[98]⟩, ⟨#[98]⟩, u⟩]), ⟨by simp only; omega, by simp only; omega, hp⟩, by (refine weak_fg ?_; push_cast [eq_self, iff_self, IntWalk.iteOmega, IntWalk.toNatUp]), by simp only; omega⟩
    · exact ⟨(2 + 1, k' + 1, l), ⟨by simp only; omega, by simp only; omega, h3.skip (by omega)⟩, by (refine weak_fg ?_; push_cast [eq_self, iff_self, IntWalk.iteOmega, IntWalk.toNatUp]), by simp only; omega⟩
  · have e0 : nmL.getD 3 default = ⟨#[115, 100, 97]⟩ := rfl
    have s0 : (((⟨#[47]⟩ : ByteArray).size : Int) + ((⟨#[115, 100, 97]⟩ : ByteArray).size : Int) ≤ 9223372036854775807) := by decide
    repeat' (first | (refine pl_call2 false [0] rfl rfl (by kernel_rfl) (hnx) ?_ nofun ?_; push_cast [eq_self, iff_self, IntWalk.iteOmega, IntWalk.toNatUp, s0]; rintro r os ⟨v, ⟨hv0, hv1⟩, rfl, rfl⟩; refine pl_of_pops ?_; push_cast [eq_self, iff_self, IntWalk.iteOmega, IntWalk.toNatUp, s0]) | (refine pl_call2 false [0] rfl rfl (by kernel_rfl) (hon) ?_ nofun ?_; push_cast [eq_self, iff_self, IntWalk.iteOmega, IntWalk.toNatUp, s0]; rintro r os ⟨u, hu, rfl, rfl⟩; refine pl_of_pops ?_; push_cast [eq_self, iff_self, IntWalk.iteOmega, IntWalk.toNatUp, s0]) | (refine Kont.use (by assumption) ?_) | (refine pwp_seq fun K hK => ?_) | (refine pwp_block ?_) | (refine pwp_scope ?_) | ((first | (refine pwp_cut 9 [] ?_; first | refine pwp_region ?_ | refine pwp_quiet (by kernel_rfl) (by kernel_rfl) ?_) | refine pwp_exit ?_ | refine pwp_ret ?_ | refine pwp_skip ?_); push_cast [eq_self, iff_self, IntWalk.iteOmega, IntWalk.toNatUp, s0]) | (refine pwp_cond ?_; push_cast [eq_self, iff_self, IntWalk.iteOmega, IntWalk.toNatUp, s0]; try (refine ⟨fun h => ?_, fun h => ?_⟩ <;> (try simp only [decide_eq_true_eq, decide_eq_false_iff_not, Bool.not_eq_true', Bool.not_eq_false', Int.not_lt, Int.not_le, Nat.not_lt, Nat.not_le] at h) <;> (try (first | contradiction | (exfalso; omega) | exact nomatch (Eq.trans (Eq.symm h) (by assumption) : true = false) | exact nomatch (Eq.trans (Eq.symm h) (by assumption) : false = true))))))
    · have hp := h3.put (by omega) hu
      rw [e0] at hp
      exact ⟨(3 + 1, k' + 1 + 1, l ++ [⟨(⟨#[47]⟩ : ByteArray) ++ ⟨#[115, 100, 97]⟩, ⟨#[115, 100, 97]⟩, u⟩]), ⟨by simp only; omega, by simp only; omega, hp⟩, by (refine weak_fg ?_; push_cast [eq_self, iff_self, IntWalk.iteOmega, IntWalk.toNatUp]), by simp only; omega⟩
    · exact ⟨(3 + 1, k' + 1, l), ⟨by simp only; omega, by simp only; omega, h3.skip (by omega)⟩, by (refine weak_fg ?_; push_cast [eq_self, iff_self, IntWalk.iteOmega, IntWalk.toNatUp]), by simp only; omega⟩
  · have e0 : nmL.getD 4 default = ⟨#[115, 100, 98]⟩ := rfl
    have s0 : (((⟨#[47]⟩ : ByteArray).size : Int) + ((⟨#[115, 100, 98]⟩ : ByteArray).size : Int) ≤ 9223372036854775807) := by decide
    repeat' (first | (refine pl_call2 false [0] rfl rfl (by kernel_rfl) (hnx) ?_ nofun ?_; push_cast [eq_self, iff_self, IntWalk.iteOmega, IntWalk.toNatUp, s0]; rintro r os ⟨v, ⟨hv0, hv1⟩, rfl, rfl⟩; refine pl_of_pops ?_; push_cast [eq_self, iff_self, IntWalk.iteOmega, IntWalk.toNatUp, s0]) | (refine pl_call2 false [0] rfl rfl (by kernel_rfl) (hon) ?_ nofun ?_; push_cast [eq_self, iff_self, IntWalk.iteOmega, IntWalk.toNatUp, s0]; rintro r os ⟨u, hu, rfl, rfl⟩; refine pl_of_pops ?_; push_cast [eq_self, iff_self, IntWalk.iteOmega, IntWalk.toNatUp, s0]) | (refine Kont.use (by assumption) ?_) | (refine pwp_seq fun K hK => ?_) | (refine pwp_block ?_) | (refine pwp_scope ?_) | ((first | (refine pwp_cut 9 [] ?_; first | refine pwp_region ?_ | refine pwp_quiet (by kernel_rfl) (by kernel_rfl) ?_) | refine pwp_exit ?_ | refine pwp_ret ?_ | refine pwp_skip ?_); push_cast [eq_self, iff_self, IntWalk.iteOmega, IntWalk.toNatUp, s0]) | (refine pwp_cond ?_; push_cast [eq_self, iff_self, IntWalk.iteOmega, IntWalk.toNatUp, s0]; try (refine ⟨fun h => ?_, fun h => ?_⟩ <;> (try simp only [decide_eq_true_eq, decide_eq_false_iff_not, Bool.not_eq_true', Bool.not_eq_false', Int.not_lt, Int.not_le, Nat.not_lt, Nat.not_le] at h) <;> (try (first | contradiction | (exfalso; omega) | exact nomatch (Eq.trans (Eq.symm h) (by assumption) : true = false) | exact nomatch (Eq.trans (Eq.symm h) (by assumption) : false = true))))))
    · have hp := h3.put (by omega) hu
      rw [e0] at hp
      exact ⟨(4 + 1, k' + 1 + 1, l ++ [⟨(⟨#[47]⟩ : ByteArray) ++ ⟨#[115, 100, 98]⟩, ⟨#[115, 100, 98]⟩, u⟩]), ⟨by simp only; omega, by simp only; omega, hp⟩, by (refine weak_fg ?_; push_cast [eq_self, iff_self, IntWalk.iteOmega, IntWalk.toNatUp]), by simp only; omega⟩
    · exact ⟨(4 + 1, k' + 1, l), ⟨by simp only; omega, by simp only; omega, h3.skip (by omega)⟩, by (refine weak_fg ?_; push_cast [eq_self, iff_self, IntWalk.iteOmega, IntWalk.toNatUp]), by simp only; omega⟩
  · have e0 : nmL.getD 5 default = ⟨#[116, 116, 121]⟩ := rfl
    have s0 : (((⟨#[47]⟩ : ByteArray).size : Int) + ((⟨#[116, 116, 121]⟩ : ByteArray).size : Int) ≤ 9223372036854775807) := by decide
    repeat' (first | (refine pl_call2 false [0] rfl rfl (by kernel_rfl) (hnx) ?_ nofun ?_; push_cast [eq_self, iff_self, IntWalk.iteOmega, IntWalk.toNatUp, s0]; rintro r os ⟨v, ⟨hv0, hv1⟩, rfl, rfl⟩; refine pl_of_pops ?_; push_cast [eq_self, iff_self, IntWalk.iteOmega, IntWalk.toNatUp, s0]) | (refine pl_call2 false [0] rfl rfl (by kernel_rfl) (hon) ?_ nofun ?_; push_cast [eq_self, iff_self, IntWalk.iteOmega, IntWalk.toNatUp, s0]; rintro r os ⟨u, hu, rfl, rfl⟩; refine pl_of_pops ?_; push_cast [eq_self, iff_self, IntWalk.iteOmega, IntWalk.toNatUp, s0]) | (refine Kont.use (by assumption) ?_) | (refine pwp_seq fun K hK => ?_) | (refine pwp_block ?_) | (refine pwp_scope ?_) | ((first | (refine pwp_cut 9 [] ?_; first | refine pwp_region ?_ | refine pwp_quiet (by kernel_rfl) (by kernel_rfl) ?_) | refine pwp_exit ?_ | refine pwp_ret ?_ | refine pwp_skip ?_); push_cast [eq_self, iff_self, IntWalk.iteOmega, IntWalk.toNatUp, s0]) | (refine pwp_cond ?_; push_cast [eq_self, iff_self, IntWalk.iteOmega, IntWalk.toNatUp, s0]; try (refine ⟨fun h => ?_, fun h => ?_⟩ <;> (try simp only [decide_eq_true_eq, decide_eq_false_iff_not, Bool.not_eq_true', Bool.not_eq_false', Int.not_lt, Int.not_le, Nat.not_lt, Nat.not_le] at h) <;> (try (first | contradiction | (exfalso; omega) | exact nomatch (Eq.trans (Eq.symm h) (by assumption) : true = false) | exact nomatch (Eq.trans (Eq.symm h) (by assumption) : false = true))))))
    · have hp := h3.put (by omega) hu
      rw [e0] at hp
      exact ⟨(5 + 1, k' + 1 + 1, l ++ [⟨(⟨#[47]⟩ : ByteArray) ++ ⟨#[116, 116, 121]⟩, ⟨#[116, 116, 121]⟩, u⟩]), ⟨by simp only; omega, by simp only; omega, hp⟩, by (refine weak_fg ?_; push_cast [eq_self, iff_self, IntWalk.iteOmega, IntWalk.toNatUp]), by simp only; omega⟩
    · exact ⟨(5 + 1, k' + 1, l), ⟨by simp only; omega, by simp only; omega, h3.skip (by omega)⟩, by (refine weak_fg ?_; push_cast [eq_self, iff_self, IntWalk.iteOmega, IntWalk.toNatUp]), by simp only; omega⟩
  · repeat' (first | (refine Kont.use (by assumption) ?_) | (refine pwp_seq fun K hK => ?_) | (refine pwp_block ?_) | (refine pwp_scope ?_) | ((first | (refine pwp_cut 9 [] ?_; first | refine pwp_region ?_ | refine pwp_quiet (by kernel_rfl) (by kernel_rfl) ?_) | refine pwp_exit ?_ | refine pwp_ret ?_ | refine pwp_skip ?_); push_cast [eq_self, iff_self, IntWalk.iteOmega, IntWalk.toNatUp]) | (refine pwp_cond ?_; push_cast [eq_self, iff_self, IntWalk.iteOmega, IntWalk.toNatUp]; try (refine ⟨fun h => ?_, fun h => ?_⟩ <;> (try simp only [decide_eq_true_eq, decide_eq_false_iff_not, Bool.not_eq_true', Bool.not_eq_false', Int.not_lt, Int.not_le, Nat.not_lt, Nat.not_le] at h) <;> (try (first | contradiction | (exfalso; omega) | exact nomatch (Eq.trans (Eq.symm h) (by assumption) : true = false) | exact nomatch (Eq.trans (Eq.symm h) (by assumption) : false = true))))))
    (refine retK_of [0, 1] ?_; push_cast [eq_self, iff_self, IntWalk.iteOmega, IntWalk.toNatUp])
    exact ⟨_, _, leP_refl _, leOs_refl _, l, k', ⟨h3, by omega⟩, rfl, rfl⟩
end Go.Proofs.YtipgjpcbmnlbhaaDoor
