/- The tape of numbers: Fold, Next, One. (pure walks) -/
import Derived.Test.YtfojijoekpkheaaDoorRows
import Derived.Test.YtfojijoekpkheaaDoorTab
import Derived.Test.YtfojijoekpkheaaDoorPureP
namespace Go.Proofs.YtfojijoekpkheaaDoor
attribute [local irreducible] PL QL PWP PCalls Weak RetK Kont
open Go.RowKit
set_option linter.unusedVariables false
set_option linter.unusedSimpArgs false
theorem fold_pure (v n : Int) (hv : -9223372036854775808 ≤ v) (hv' : v ≤ 9223372036854775807) (hn : n ≤ 9223372036854775807) :
    PCalls Tryd.prog 50 [.c (.v (.int .i64 v)), .c (.v (.int .i64 n))] [] fun r os => r = .c (.v (.int .i64 (fold v n))) ∧ os = [] := by
  have hlo := Int.lt_tmod_of_pos v (b := n)
  have hhi := Int.tmod_lt_of_pos v (b := n)
  refine pcalls_of Tryd.func50 rfl (by simp [Tryd.ntmps50]) ?_
  rw [Tryd.ntmps50, Tryd.results50]
  push_cast [eq_self, iff_self, IntWalk.iteOmega, IntWalk.toNatUp]
  by_cases h1 : n ≤ 1
  · repeat' (first | (refine Kont.use (by assumption) ?_) | (refine pwp_seq fun K hK => ?_) | (refine pwp_block ?_) | (refine pwp_scope ?_) | ((first | refine pwp_region ?_ | refine pwp_quiet (by kernel_rfl) (by kernel_rfl) ?_ | refine pwp_exit ?_ | refine pwp_ret ?_ | refine pwp_skip ?_); push_cast [eq_self, iff_self, IntWalk.iteOmega, IntWalk.toNatUp]) | (refine pwp_cond ?_; push_cast [eq_self, iff_self, IntWalk.iteOmega, IntWalk.toNatUp]; try (refine ⟨fun h => ?_, fun h => ?_⟩ <;> (try simp only [decide_eq_true_eq, decide_eq_false_iff_not, Bool.not_eq_true', Bool.not_eq_false', Int.not_lt, Int.not_le, Nat.not_lt, Nat.not_le] at h) <;> (try (first | contradiction | (exfalso; omega) | exact nomatch (Eq.trans (Eq.symm h) (by assumption) : true = false) | exact nomatch (Eq.trans (Eq.symm h) (by assumption) : false = true))))))
    (refine retK_of [] ?_; push_cast [eq_self, iff_self, IntWalk.iteOmega, IntWalk.toNatUp])
    simp [fold, h1]
  · by_cases h0 : 0 ≤ v
    · have he := Int.tmod_eq_emod_of_nonneg h0 (b := n)
      have hb := Int.emod_nonneg v (b := n) (by omega)
      repeat' (first | (refine Kont.use (by assumption) ?_) | (refine pwp_seq fun K hK => ?_) | (refine pwp_block ?_) | (refine pwp_scope ?_) | ((first | refine pwp_region ?_ | refine pwp_quiet (by kernel_rfl) (by kernel_rfl) ?_ | refine pwp_exit ?_ | refine pwp_ret ?_ | refine pwp_skip ?_); push_cast [eq_self, iff_self, IntWalk.iteOmega, IntWalk.toNatUp]) | (refine pwp_cond ?_; push_cast [eq_self, iff_self, IntWalk.iteOmega, IntWalk.toNatUp]; try (refine ⟨fun h => ?_, fun h => ?_⟩ <;> (try simp only [decide_eq_true_eq, decide_eq_false_iff_not, Bool.not_eq_true', Bool.not_eq_false', Int.not_lt, Int.not_le, Nat.not_lt, Nat.not_le] at h) <;> (try (first | contradiction | (exfalso; omega) | exact nomatch (Eq.trans (Eq.symm h) (by assumption) : true = false) | exact nomatch (Eq.trans (Eq.symm h) (by assumption) : false = true))))))
      (refine retK_of [] ?_; push_cast [eq_self, iff_self, IntWalk.iteOmega, IntWalk.toNatUp])
      simp only [fold, if_neg h1, he]
      rw [if_neg (by omega)]
    · by_cases h2 : v.tmod n < 0
      · repeat' (first | (refine Kont.use (by assumption) ?_) | (refine pwp_seq fun K hK => ?_) | (refine pwp_block ?_) | (refine pwp_scope ?_) | ((first | refine pwp_region ?_ | refine pwp_quiet (by kernel_rfl) (by kernel_rfl) ?_ | refine pwp_exit ?_ | refine pwp_ret ?_ | refine pwp_skip ?_); push_cast [eq_self, iff_self, IntWalk.iteOmega, IntWalk.toNatUp]) | (refine pwp_cond ?_; push_cast [eq_self, iff_self, IntWalk.iteOmega, IntWalk.toNatUp]; try (refine ⟨fun h => ?_, fun h => ?_⟩ <;> (try simp only [decide_eq_true_eq, decide_eq_false_iff_not, Bool.not_eq_true', Bool.not_eq_false', Int.not_lt, Int.not_le, Nat.not_lt, Nat.not_le] at h) <;> (try (first | contradiction | (exfalso; omega) | exact nomatch (Eq.trans (Eq.symm h) (by assumption) : true = false) | exact nomatch (Eq.trans (Eq.symm h) (by assumption) : false = true))))))
        (refine retK_of [] ?_; push_cast [eq_self, iff_self, IntWalk.iteOmega, IntWalk.toNatUp])
        simp [fold, h1, h2]
      · repeat' (first | (refine Kont.use (by assumption) ?_) | (refine pwp_seq fun K hK => ?_) | (refine pwp_block ?_) | (refine pwp_scope ?_) | ((first | refine pwp_region ?_ | refine pwp_quiet (by kernel_rfl) (by kernel_rfl) ?_ | refine pwp_exit ?_ | refine pwp_ret ?_ | refine pwp_skip ?_); push_cast [eq_self, iff_self, IntWalk.iteOmega, IntWalk.toNatUp]) | (refine pwp_cond ?_; push_cast [eq_self, iff_self, IntWalk.iteOmega, IntWalk.toNatUp]; try (refine ⟨fun h => ?_, fun h => ?_⟩ <;> (try simp only [decide_eq_true_eq, decide_eq_false_iff_not, Bool.not_eq_true', Bool.not_eq_false', Int.not_lt, Int.not_le, Nat.not_lt, Nat.not_le] at h) <;> (try (first | contradiction | (exfalso; omega) | exact nomatch (Eq.trans (Eq.symm h) (by assumption) : true = false) | exact nomatch (Eq.trans (Eq.symm h) (by assumption) : false = true))))))
        (refine retK_of [] ?_; push_cast [eq_self, iff_self, IntWalk.iteOmega, IntWalk.toNatUp])
        simp [fold, h1, h2]
def eInts (L : List Int) : E := .sl 1 (L.map fun x => [D.v (.int .i64 x)])
/-- the tape of numbers L, read as far as k -/
def tape (L : List Int) (k : Nat) : Ob := .box 27 [.sl 1 (L.map fun x => [D.v (.int .i64 x)]), .v (.int .i64 k)]
attribute [push_cast] tape
theorem next_pure (L : List Int) (k : Nat) (n : Int) (hk : k < 1000000) (hn : n ≤ 9223372036854775807) (hL : ∀ x ∈ L, -9223372036854775808 ≤ x ∧ x ≤ 9223372036854775807) (hl : L.length ≤ 9223372036854775807) :
    PCalls Tryd.prog 21 [.c (.ptr 0 0), .c (.v (.int .i64 n))] [tape L k] fun r os => r = .c (.v (.int .i64 (fold (tapeAt L k) n))) ∧ os = [tape L (k + 1)] := by
  refine pcalls_of Tryd.func21 rfl (by simp [Tryd.ntmps21]) ?_
  rw [Tryd.ntmps21, Tryd.results21]
  push_cast [eq_self, iff_self, IntWalk.iteOmega, IntWalk.toNatUp]
  by_cases hlt : k < L.length
  · have hx := hL (L.getD k default) (by rw [getD_lt L hlt]; exact List.getElem_mem _)
    repeat' (first |  (refine pl_call2 false [] rfl rfl (by kernel_rfl) (fold_pure (L.getD k default) n (by omega) (by omega) hn) ?_ nofun ?_; push_cast [eq_self, iff_self, IntWalk.iteOmega, IntWalk.toNatUp]; rintro r os ⟨rfl, rfl⟩; refine pl_of_pops ?_; push_cast [eq_self, iff_self, IntWalk.iteOmega, IntWalk.toNatUp])  | (refine Kont.use (by assumption) ?_) | (refine pwp_seq fun K hK => ?_) | (refine pwp_block ?_) | (refine pwp_scope ?_) | ((first | refine pwp_region ?_ | refine pwp_quiet (by kernel_rfl) (by kernel_rfl) ?_ | refine pwp_exit ?_ | refine pwp_ret ?_ | refine pwp_skip ?_); push_cast [eq_self, iff_self, IntWalk.iteOmega, IntWalk.toNatUp]) | (refine pwp_cond ?_; push_cast [eq_self, iff_self, IntWalk.iteOmega, IntWalk.toNatUp]; try (refine ⟨fun h => ?_, fun h => ?_⟩ <;> (try simp only [decide_eq_true_eq, decide_eq_false_iff_not, Bool.not_eq_true', Bool.not_eq_false', Int.not_lt, Int.not_le, Nat.not_lt, Nat.not_le] at h) <;> (try (first | contradiction | (exfalso; omega) | exact nomatch (Eq.trans (Eq.symm h) (by assumption) : true = false) | exact nomatch (Eq.trans (Eq.symm h) (by assumption) : false = true))))))
    (refine retK_of [0] ?_; push_cast [eq_self, iff_self, IntWalk.iteOmega, IntWalk.toNatUp])
    simp [tapeAt, hlt]
  · repeat' (first |  (refine pl_call2 false [] rfl rfl (by kernel_rfl) (fold_pure ((k : Int) * 7 % 11) n (by omega) (by omega) hn) ?_ nofun ?_; push_cast [eq_self, iff_self, IntWalk.iteOmega, IntWalk.toNatUp]; rintro r os ⟨rfl, rfl⟩; refine pl_of_pops ?_; push_cast [eq_self, iff_self, IntWalk.iteOmega, IntWalk.toNatUp])  | (refine Kont.use (by assumption) ?_) | (refine pwp_seq fun K hK => ?_) | (refine pwp_block ?_) | (refine pwp_scope ?_) | ((first | refine pwp_region ?_ | refine pwp_quiet (by kernel_rfl) (by kernel_rfl) ?_ | refine pwp_exit ?_ | refine pwp_ret ?_ | refine pwp_skip ?_); push_cast [eq_self, iff_self, IntWalk.iteOmega, IntWalk.toNatUp]) | (refine pwp_cond ?_; push_cast [eq_self, iff_self, IntWalk.iteOmega, IntWalk.toNatUp]; try (refine ⟨fun h => ?_, fun h => ?_⟩ <;> (try simp only [decide_eq_true_eq, decide_eq_false_iff_not, Bool.not_eq_true', Bool.not_eq_false', Int.not_lt, Int.not_le, Nat.not_lt, Nat.not_le] at h) <;> (try (first | contradiction | (exfalso; omega) | exact nomatch (Eq.trans (Eq.symm h) (by assumption) : true = false) | exact nomatch (Eq.trans (Eq.symm h) (by assumption) : false = true))))))
    (refine retK_of [0] ?_; push_cast [eq_self, iff_self, IntWalk.iteOmega, IntWalk.toNatUp])
    simp [tapeAt, hlt]

def strD (s : ByteArray) : List D := [.v (.string s)]
attribute [push_cast] strD
/-- what One answers at place k of the tape -/
def pick (L : List Int) (k : Nat) (l : List ByteArray) : ByteArray := l.getD (fold (tapeAt L k) l.length).toNat default
theorem fold_bds (v n : Int) (hn : 0 < n) : 0 ≤ fold v n ∧ fold v n < n := by
  unfold fold
  have := Int.lt_tmod_of_pos v (b := n) hn
  have := Int.tmod_lt_of_pos v (b := n) hn
  split
  · omega
  · split <;> omega
theorem one_pure (L : List Int) (k : Nat) (l : List ByteArray) (hk : k < 1000000) (h0 : 0 < l.length) (hn : l.length ≤ 1000000) (hL : ∀ x ∈ L, -9223372036854775808 ≤ x ∧ x ≤ 9223372036854775807) (hl : L.length ≤ 9223372036854775807) :
    PCalls Tryd.prog 23 [.c (.ptr 0 0), .c (.sl 1 (l.map strD))] [tape L k] fun r os => r = .c (.v (.string (pick L k l))) ∧ os = [tape L (k + 1)] := by
  refine pcalls_of Tryd.func23 rfl (by simp [Tryd.ntmps23]) ?_
  rw [Tryd.ntmps23, Tryd.results23]
  obtain ⟨hb, hb'⟩ := fold_bds (tapeAt L k) l.length (by omega)
  push_cast [eq_self, iff_self, IntWalk.iteOmega, IntWalk.toNatUp]
  repeat' (first |  (refine pl_call2 false [0] rfl rfl (by kernel_rfl) (next_pure L k l.length hk (by omega) hL hl) ?_ nofun ?_; push_cast [eq_self, iff_self, IntWalk.iteOmega, IntWalk.toNatUp]; rintro r os ⟨rfl, rfl⟩; refine pl_of_pops ?_; push_cast [eq_self, iff_self, IntWalk.iteOmega, IntWalk.toNatUp])  | (refine Kont.use (by assumption) ?_) | (refine pwp_seq fun K hK => ?_) | (refine pwp_block ?_) | (refine pwp_scope ?_) | ((first | refine pwp_region ?_ | refine pwp_quiet (by kernel_rfl) (by kernel_rfl) ?_ | refine pwp_exit ?_ | refine pwp_ret ?_ | refine pwp_skip ?_); push_cast [eq_self, iff_self, IntWalk.iteOmega, IntWalk.toNatUp]) | (refine pwp_cond ?_; push_cast [eq_self, iff_self, IntWalk.iteOmega, IntWalk.toNatUp]; try (refine ⟨fun h => ?_, fun h => ?_⟩ <;> (try simp only [decide_eq_true_eq, decide_eq_false_iff_not, Bool.not_eq_true', Bool.not_eq_false', Int.not_lt, Int.not_le, Nat.not_lt, Nat.not_le] at h) <;> (try (first | contradiction | (exfalso; omega) | exact nomatch (Eq.trans (Eq.symm h) (by assumption) : true = false) | exact nomatch (Eq.trans (Eq.symm h) (by assumption) : false = true))))))
  (refine retK_of [0] ?_; push_cast [eq_self, iff_self, IntWalk.iteOmega, IntWalk.toNatUp])
  simp [pick, List.getD]
theorem next_ex (L : List Int) (k : Nat) (n : Int) (hk : k < 1000000) (h0 : 0 < n) (hn : n ≤ 9223372036854775807) (hL : ∀ x ∈ L, -9223372036854775808 ≤ x ∧ x ≤ 9223372036854775807) (hl : L.length ≤ 9223372036854775807) :
    PCalls Tryd.prog 21 [.c (.ptr 0 0), .c (.v (.int .i64 n))] [tape L k] fun r os => ∃ v : Int, (0 ≤ v ∧ v < n) ∧ r = .c (.v (.int .i64 v)) ∧ os = [tape L (k + 1)] :=
  (next_pure L k n hk hn hL hl).mono fun r os h => ⟨_, fold_bds _ _ h0, h.1, h.2⟩
theorem one_ex (L : List Int) (k : Nat) (l : List ByteArray) (hk : k < 1000000) (h0 : 0 < l.length) (hn : l.length ≤ 1000000) (hL : ∀ x ∈ L, -9223372036854775808 ≤ x ∧ x ≤ 9223372036854775807) (hl : L.length ≤ 9223372036854775807) :
    PCalls Tryd.prog 23 [.c (.ptr 0 0), .c (.sl 1 (l.map strD))] [tape L k] fun r os => ∃ s, s ∈ l ∧ r = .c (.v (.string s)) ∧ os = [tape L (k + 1)] :=
  (one_pure L k l hk h0 hn hL hl).mono fun r os h => ⟨_, by
    have := fold_bds (tapeAt L k) l.length (by omega)
    unfold pick
    rw [getD_lt _ (by omega)]
    exact List.getElem_mem _, h.1, h.2⟩
end Go.Proofs.YtfojijoekpkheaaDoor
