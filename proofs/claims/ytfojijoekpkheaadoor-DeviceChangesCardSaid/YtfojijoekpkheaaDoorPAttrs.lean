/- Lists of attributes that are made by a tape. (pure walks) -/
import Derived.Test.YtfojijoekpkheaaDoorPRef
namespace Go.Proofs.YtfojijoekpkheaaDoor
attribute [local irreducible] PL QL PWP PCalls Weak RetK Kont
open Go.RowKit
set_option linter.unusedVariables false
set_option linter.unusedSimpArgs false
theorem toA_len (n v : ByteArray) (l : List Atr) : (toA n v l).1.length ≤ l.length + (toA n v l).2.toNat := by
  have : ∀ (l : List Atr) (s : List Atr × Bool) (j : Nat), s.1.length ≤ j + s.2.toNat → (l.foldl (stepA n v) s).1.length ≤ j + l.length + (l.foldl (stepA n v) s).2.toNat := by
    intro l
    induction l with
    | nil => intro s j h; simpa using h
    | cons x l ih =>
      intro s j h
      have h2 : (stepA n v s x).1.length ≤ j + 1 + (stepA n v s x).2.toNat := by
        obtain ⟨o, dn⟩ := s
        unfold stepA
        generalize bless x.name n = b
        simp only at h
        cases dn <;> cases b <;> by_cases hn : x.name = n <;> simp [hn] at h ⊢ <;> omega
      have := ih (stepA n v s x) (j + 1) h2
      simp only [List.foldl_cons, List.length_cons]
      omega
  have h := this l ([], decide (v = ⟨#[]⟩)) 0 (by simp)
  simpa [toA] using h
theorem refA_len1 (l : List Atr) (n v : ByteArray) : (refA l n v).length ≤ l.length + 1 := by
  have := toA_len n v l
  unfold refA
  split <;> rename_i h <;> simp [h] at this ⊢ <;> omega
theorem refA_len (l : List Atr) (n v : ByteArray) : (refA l n v).length ≤ 2 * l.length + 1 := by
  have := refA_len1 l n v
  omega
def names5A : List ByteArray := [⟨#[97]⟩, ⟨#[98]⟩, ⟨#[99]⟩, ⟨#[99, 111, 110, 116, 101, 110, 116]⟩, ⟨#[122, 46, 49]⟩]
def vals4A : List ByteArray := [⟨#[49]⟩, ⟨#[50]⟩, ⟨#[120, 32, 121]⟩, ⟨#[37, 36]⟩]
def attrsGo (L : List Int) : Nat → Nat → List Atr → List Atr
  | 0, _, out => out
  | n + 1, k, out => attrsGo L n (k + 2) (refA out (pick L k names5A) (pick L (k + 1) vals4A))
def attrsN (L : List Int) (k : Nat) : Nat := (fold (tapeAt L k) 5).toNat
def attrsM (L : List Int) (k : Nat) : List Atr := attrsGo L (attrsN L k) (k + 1) []
attribute [push_cast] names5A vals4A
theorem attrsN_lt (L : List Int) (k : Nat) : attrsN L k < 5 := by
  have := fold_bds (tapeAt L k) 5 (by omega)
  unfold attrsN; omega
theorem attrs_pure (L : List Int) (k : Nat) (hk : k < 100000) (hL : ∀ x ∈ L, -9223372036854775808 ≤ x ∧ x ≤ 9223372036854775807) (hl : L.length ≤ 9223372036854775807) :
    PCalls Tryd.prog 6 [.c (.ptr 0 0)] [tape L k] fun r os => r = .c (.own 1 (attrsM L k).length) ∧ os = [tape L (k + 1 + 2 * attrsN L k), .arr 50 2 ((attrsM L k).map Atr.d)] := by
  refine pcalls_of Tryd.func6 rfl (by simp [Tryd.ntmps6]) ?_
  rw [Tryd.ntmps6, Tryd.results6]
  have hN := attrsN_lt L k
  have hf : fold (tapeAt L k) 5 = attrsN L k := by have := fold_bds (tapeAt L k) 5 (by omega); unfold attrsN; omega
  push_cast [eq_self, iff_self, IntWalk.iteOmega, IntWalk.toNatUp]
  repeat' (first |  (refine pl_call2 false [0] rfl rfl (by kernel_rfl) (next_pure L k 5 (by omega) (by omega) hL hl) ?_ nofun ?_; push_cast [eq_self, iff_self, IntWalk.iteOmega, IntWalk.toNatUp]; rintro r os ⟨rfl, rfl⟩; refine pl_of_pops ?_; push_cast [eq_self, iff_self, IntWalk.iteOmega, IntWalk.toNatUp])  | (refine Kont.use (by assumption) ?_) | (refine pwp_seq fun K hK => ?_) | (refine pwp_block ?_) | (refine pwp_scope ?_) | ((first | refine pwp_region ?_ | refine pwp_quiet (by kernel_rfl) (by kernel_rfl) ?_ | refine pwp_exit ?_ | refine pwp_ret ?_ | refine pwp_skip ?_); push_cast [eq_self, iff_self, IntWalk.iteOmega, IntWalk.toNatUp]) | (refine pwp_cond ?_; push_cast [eq_self, iff_self, IntWalk.iteOmega, IntWalk.toNatUp]; try (refine ⟨fun h => ?_, fun h => ?_⟩ <;> (try simp only [decide_eq_true_eq, decide_eq_false_iff_not, Bool.not_eq_true', Bool.not_eq_false', Int.not_lt, Int.not_le, Nat.not_lt, Nat.not_le] at h) <;> (try (first | contradiction | (exfalso; omega) | exact nomatch (Eq.trans (Eq.symm h) (by assumption) : true = false) | exact nomatch (Eq.trans (Eq.symm h) (by assumption) : false = true))))))
  refine pwp_weak (weak_adopt 3 50 2 (by omega) (by push_cast [eq_self, iff_self, IntWalk.iteOmega, IntWalk.toNatUp])) ?_
  push_cast [eq_self, iff_self, IntWalk.iteOmega, IntWalk.toNatUp]
  refine pwp_loop2 (α := Nat × Nat × List Atr) (fun x => ∃ j, x.1 + j = attrsN L k ∧ x.2.1 = k + 1 + 2 * j ∧ x.2.2.length < 2 ^ j ∧ attrsGo L x.1 x.2.1 x.2.2 = attrsM L k)
    (fun x => ⟨[(4, .c (.v (.int .i64 x.1))), (3, .c (.own 1 x.2.2.length)), (0, .c (.ptr 0 0))], [tape L x.2.1, .arr 50 2 (x.2.2.map Atr.d)]⟩) (fun x => x.1) (attrsN L k, k + 1, []) ⟨0, by simp, by simp, by simp, rfl⟩ (by rw [hf]; (refine weak_fg ?_; push_cast [eq_self, iff_self, IntWalk.iteOmega, IntWalk.toNatUp])) ?_
  rintro ⟨i, pos, out⟩ ⟨j, hi, hp, ho, hg⟩
  simp only at hi hp ho hg
  have hj : 2 ^ j ≤ 2 ^ 4 := Nat.pow_le_pow_right (by omega) (by omega)
  cases i with
  | zero =>
    repeat' (first | (refine Kont.use (by assumption) ?_) | (refine pwp_seq fun K hK => ?_) | (refine pwp_block ?_) | (refine pwp_scope ?_) | ((first | refine pwp_region ?_ | refine pwp_quiet (by kernel_rfl) (by kernel_rfl) ?_ | refine pwp_exit ?_ | refine pwp_ret ?_ | refine pwp_skip ?_); push_cast [eq_self, iff_self, IntWalk.iteOmega, IntWalk.toNatUp]) | (refine pwp_cond ?_; push_cast [eq_self, iff_self, IntWalk.iteOmega, IntWalk.toNatUp]; try (refine ⟨fun h => ?_, fun h => ?_⟩ <;> (try simp only [decide_eq_true_eq, decide_eq_false_iff_not, Bool.not_eq_true', Bool.not_eq_false', Int.not_lt, Int.not_le, Nat.not_lt, Nat.not_le] at h) <;> (try (first | contradiction | (exfalso; omega) | exact nomatch (Eq.trans (Eq.symm h) (by assumption) : true = false) | exact nomatch (Eq.trans (Eq.symm h) (by assumption) : false = true))))))
    (refine retK_of [0, 1] ?_; push_cast [eq_self, iff_self, IntWalk.iteOmega, IntWalk.toNatUp])
    rw [← hg]
    simp only [attrsGo, and_true, true_and]
    omega
  | succ i =>
    have hs := refA_len out (pick L pos names5A) (pick L (pos + 1) vals4A)
    repeat' (first |  (refine pl_call2 false [0] rfl rfl (by kernel_rfl) (one_pure L pos names5A (by omega) (by decide) (by decide) hL hl) ?_ nofun ?_; push_cast [eq_self, iff_self, IntWalk.iteOmega, IntWalk.toNatUp]; rintro r os ⟨rfl, rfl⟩; refine pl_of_pops ?_; push_cast [eq_self, iff_self, IntWalk.iteOmega, IntWalk.toNatUp]) | (refine pl_call2 false [0] rfl rfl (by kernel_rfl) (one_pure L (pos + 1) vals4A (by omega) (by decide) (by decide) hL hl) ?_ nofun ?_; push_cast [eq_self, iff_self, IntWalk.iteOmega, IntWalk.toNatUp]; rintro r os ⟨rfl, rfl⟩; refine pl_of_pops ?_; push_cast [eq_self, iff_self, IntWalk.iteOmega, IntWalk.toNatUp]) | (refine pl_call2 true [] rfl rfl (by kernel_rfl) (refset_pure out (pick L pos names5A) (pick L (pos + 1) vals4A) (by omega)) ?_ ?_ ?_; push_cast [eq_self, iff_self, IntWalk.iteOmega, IntWalk.toNatUp]; (intro _ r os; rintro ⟨rfl, rfl⟩; push_cast [eq_self, iff_self, IntWalk.iteOmega, IntWalk.toNatUp]); rintro r os ⟨rfl, rfl⟩; refine pl_of_pops ?_; push_cast [eq_self, iff_self, IntWalk.iteOmega, IntWalk.toNatUp])  | (refine Kont.use (by assumption) ?_) | (refine pwp_seq fun K hK => ?_) | (refine pwp_block ?_) | (refine pwp_scope ?_) | ((first | refine pwp_region ?_ | refine pwp_quiet (by kernel_rfl) (by kernel_rfl) ?_ | refine pwp_exit ?_ | refine pwp_ret ?_ | refine pwp_skip ?_); push_cast [eq_self, iff_self, IntWalk.iteOmega, IntWalk.toNatUp]) | (refine pwp_cond ?_; push_cast [eq_self, iff_self, IntWalk.iteOmega, IntWalk.toNatUp]; try (refine ⟨fun h => ?_, fun h => ?_⟩ <;> (try simp only [decide_eq_true_eq, decide_eq_false_iff_not, Bool.not_eq_true', Bool.not_eq_false', Int.not_lt, Int.not_le, Nat.not_lt, Nat.not_le] at h) <;> (try (first | contradiction | (exfalso; omega) | exact nomatch (Eq.trans (Eq.symm h) (by assumption) : true = false) | exact nomatch (Eq.trans (Eq.symm h) (by assumption) : false = true))))))
    refine ⟨(i, pos + 2, refA out (pick L pos names5A) (pick L (pos + 1) vals4A)), ⟨j + 1, by simp only; omega, by simp only; omega, ?_, hg⟩, by (refine weak_keep true [0, 2] ?_; push_cast [eq_self, iff_self, IntWalk.iteOmega, IntWalk.toNatUp]), by simp only; omega⟩
    simp only [Nat.pow_succ]
    omega
theorem attrsM_len (L : List Int) (k : Nat) : (attrsM L k).length ≤ 31 := by
  have : ∀ (n k : Nat) (out : List Atr), (attrsGo L n k out).length + 1 ≤ 2 ^ n * (out.length + 1) := by
    intro n
    induction n with
    | zero => intro k out; simp [attrsGo]
    | succ n ih =>
      intro k out
      have h1 := ih (k + 2) (refA out (pick L k names5A) (pick L (k + 1) vals4A))
      have h2 := refA_len out (pick L k names5A) (pick L (k + 1) vals4A)
      have h3 : 2 ^ n * ((refA out (pick L k names5A) (pick L (k + 1) vals4A)).length + 1) ≤ 2 ^ n * (2 * (out.length + 1)) := Nat.mul_le_mul_left _ (by omega)
      have h4 : 2 ^ (n + 1) * (out.length + 1) = 2 ^ n * (2 * (out.length + 1)) := by rw [Nat.pow_succ]; ac_rfl
      simp only [attrsGo]
      omega
  have h := this (attrsN L k) (k + 1) []
  have h2 : 2 ^ attrsN L k ≤ 2 ^ 4 := Nat.pow_le_pow_right (by omega) (by have := attrsN_lt L k; omega)
  simp only [List.length_nil] at h
  unfold attrsM
  omega
theorem attrs_ex (L : List Int) (k : Nat) (hk : k < 100000) (hL : ∀ x ∈ L, -9223372036854775808 ≤ x ∧ x ≤ 9223372036854775807) (hl : L.length ≤ 9223372036854775807) :
    PCalls Tryd.prog 6 [.c (.ptr 0 0)] [tape L k] fun r os => ∃ (l : List Atr) (n : Nat), (l.length ≤ 31 ∧ n ≤ 9) ∧ r = .c (.own 1 l.length) ∧ os = [tape L (k + n), .arr 50 2 (l.map Atr.d)] :=
  (attrs_pure L k hk hL hl).mono fun r os h => ⟨_, 1 + 2 * attrsN L k, ⟨attrsM_len L k, by have := attrsN_lt L k; omega⟩, h.1, by rw [← Nat.add_assoc]; exact h.2⟩
end Go.Proofs.YtfojijoekpkheaaDoor
