/- AccessUsers: the law's walk. -/
import Derived.Test.YtipgjpcbmnlbhaaDoorPAccT
import Derived.Test.YtipgjpcbmnlbhaaDoorPAccU
namespace Go.Proofs.YtipgjpcbmnlbhaaDoor
attribute [local irreducible] PL QL PWP PCalls Weak RetK Kont PA
open Go.RowKit
set_option linter.unusedVariables false
set_option linter.unusedSimpArgs false
theorem of_split (l : List Acc) (u : ByteArray) (k : Nat) : ofA l u = ofT l u k ++ ((l.drop k).filter fun a => decide (a.user = u)).map Acc.node := by
  unfold ofA ofT
  rw [← List.map_append, ← List.filter_append, List.take_append_drop]
theorem of_next {l : List Acc} {u : ByteArray} {k : Nat} (hk : k < l.length) (h : (l.getD k default).user = u) : (ofT l u k).length < (ofA l u).length ∧ (ofA l u).getD (ofT l u k).length default = (l.getD k default).node := by
  have e := of_split l u k
  rw [List.drop_eq_getElem_cons hk, List.filter_cons_of_pos (by rw [← getD_lt l hk]; simpa using h), List.map_cons] at e
  rw [e]
  constructor
  · simp
  · rw [getD_lt l hk]
    simp [List.getD]
theorem of_none {l : List Acc} {u : ByteArray} (h : ∀ a ∈ l, a.user ≠ u) : ofA l u = [] := by
  unfold ofA
  rw [List.filter_eq_nil_iff.2 (fun a ha => by simpa using h a ha)]
  rfl
theorem users_pure (L : List Int) (hL : ∀ x ∈ L, -9223372036854775808 ≤ x ∧ x ≤ 9223372036854775807) (hl : L.length ≤ 9223372036854775807) :
    PCalls Tryd.prog 3 [.c (.sl 1 (L.map fun x => [D.v (.int .i64 x)]))] [] fun r os => r = .c (.v (.bool true)) ∧ os = [] := by
  have hA := accesses_pure L 0 (by omega) hL hl
  simp only [tape] at hA
  push_cast [eq_self, iff_self, IntWalk.iteOmega, IntWalk.toNatUp] at hA
  refine pcalls_of Tryd.func3 rfl (by simp [Tryd.ntmps3]) ?_
  rw [Tryd.ntmps3, Tryd.results3]
  push_cast [eq_self, iff_self, IntWalk.iteOmega, IntWalk.toNatUp]
  repeat' (first |  (refine pl_call2 false [0] rfl rfl (by kernel_rfl) hA ?_ nofun ?_; push_cast [eq_self, iff_self, IntWalk.iteOmega, IntWalk.toNatUp]; rintro r os ⟨l, k', ⟨hI, hk'⟩, rfl, rfl⟩; refine pl_weak (weak_frz 1 (by omega)) ?_; push_cast [eq_self, iff_self, IntWalk.iteOmega, IntWalk.toNatUp]; refine pl_of_pops ?_; push_cast [eq_self, iff_self, IntWalk.iteOmega, IntWalk.toNatUp]) | (refine pl_call2 false [] rfl rfl (by kernel_rfl) ((of_data l ⟨#[97, 110, 110]⟩ (by have := hI.len; omega))) ?_ nofun ?_; push_cast [eq_self, iff_self, IntWalk.iteOmega, IntWalk.toNatUp]; rintro r os ⟨rfl, rfl⟩; refine pl_of_pops ?_; push_cast [eq_self, iff_self, IntWalk.iteOmega, IntWalk.toNatUp]) | (refine pl_call2 false [] rfl rfl (by kernel_rfl) ((of_data l ⟨#[98, 111, 98]⟩ (by have := hI.len; omega))) ?_ nofun ?_; push_cast [eq_self, iff_self, IntWalk.iteOmega, IntWalk.toNatUp]; rintro r os ⟨rfl, rfl⟩; refine pl_of_pops ?_; push_cast [eq_self, iff_self, IntWalk.iteOmega, IntWalk.toNatUp]) | (refine pl_call2 false [] rfl rfl (by kernel_rfl) ((of_data l ⟨#[101, 118, 101]⟩ (by have := hI.len; omega))) ?_ nofun ?_; push_cast [eq_self, iff_self, IntWalk.iteOmega, IntWalk.toNatUp]; rintro r os ⟨rfl, rfl⟩; refine pl_of_pops ?_; push_cast [eq_self, iff_self, IntWalk.iteOmega, IntWalk.toNatUp])  | (refine Kont.use (by assumption) ?_) | (refine pwp_seq fun K hK => ?_) | (refine pwp_block ?_) | (refine pwp_scope ?_) | ((first | (refine pwp_cut 10 [] ?_; first | refine pwp_region ?_ | refine pwp_quiet (by kernel_rfl) (by kernel_rfl) ?_) | refine pwp_exit ?_ | refine pwp_ret ?_ | refine pwp_skip ?_); push_cast [eq_self, iff_self, IntWalk.iteOmega, IntWalk.toNatUp]) | (refine pwp_cond ?_; push_cast [eq_self, iff_self, IntWalk.iteOmega, IntWalk.toNatUp]; try (refine ⟨fun h => ?_, fun h => ?_⟩ <;> (try simp only [decide_eq_true_eq, decide_eq_false_iff_not, Bool.not_eq_true', Bool.not_eq_false', Int.not_lt, Int.not_le, Nat.not_lt, Nat.not_le] at h) <;> (try (first | contradiction | (exfalso; omega) | exact nomatch (Eq.trans (Eq.symm h) (by assumption) : true = false) | exact nomatch (Eq.trans (Eq.symm h) (by assumption) : false = true))))))
  have hl6 := hI.len
  have hU : ∀ k, k < l.length → (l.getD k default).user = ⟨#[97, 110, 110]⟩ ∨ (l.getD k default).user = ⟨#[98, 111, 98]⟩ := fun k hk => by
    have := hI.2 (l.getD k default) (by rw [getD_lt l hk]; exact List.getElem_mem _)
    simpa [usL] using this
  have hE : ofA l ⟨#[101, 118, 101]⟩ = [] := of_none fun a ha h => by
    have := hI.2 a ha
    rw [h] at this
    have h2 : (⟨#[101, 118, 101]⟩ : ByteArray) = ⟨#[97, 110, 110]⟩ ∨ (⟨#[101, 118, 101]⟩ : ByteArray) = ⟨#[98, 111, 98]⟩ := by simpa only [usL, List.mem_cons, List.not_mem_nil, or_false] using this
    rcases h2 with h | h <;> exact absurd h (by decide)
  rw [hE]
  (apply pwp_loop3 (α := Nat) 10 [] (fun k => [(9, .c (.v (.int .i64 k))), (7, .c (.v (.int .i64 (((ofT l ⟨#[97, 110, 110]⟩ k).length : Int))))), (8, .c (.v (.int .i64 (((ofT l ⟨#[98, 111, 98]⟩ k).length : Int)))))]) (fun k => []) (fun k => k ≤ l.length) (fun k => l.length - k) (0); (focus ((try push_cast [eq_self, iff_self, IntWalk.iteOmega, IntWalk.toNatUp]); rfl)); (focus exact (by omega)); (focus ((refine weak_fg ?_; try push_cast [eq_self, iff_self, IntWalk.iteOmega, IntWalk.toNatUp]); exact ⟨rfl, rfl⟩)))
  intro k hk
  have b1 := ofT_len l ⟨#[97, 110, 110]⟩ k
  have b2 := ofT_len l ⟨#[98, 111, 98]⟩ k
  push_cast [eq_self, iff_self, IntWalk.iteOmega, IntWalk.toNatUp]
  by_cases hlt : k < l.length
  · rcases hU k hlt with ha | hb
    · obtain ⟨h1, h2⟩ := of_next hlt ha
      have hnb : ¬ (l.getD k default).user = ⟨#[98, 111, 98]⟩ := by rw [ha]; decide
      have hs := ofT_t hlt ha
      have hs2 := ofT_f hlt hnb
      have ha' := eq_true ha
      repeat' (first | (refine Kont.use (by assumption) ?_) | (refine pwp_seq fun K hK => ?_) | (refine pwp_block ?_) | (refine pwp_scope ?_) | ((first | (refine pwp_cut 10 [] ?_; first | refine pwp_region ?_ | refine pwp_quiet (by kernel_rfl) (by kernel_rfl) ?_) | refine pwp_exit ?_ | refine pwp_ret ?_ | refine pwp_skip ?_); push_cast [eq_self, iff_self, IntWalk.iteOmega, IntWalk.toNatUp, ha', h2]) | (refine pwp_cond ?_; push_cast [eq_self, iff_self, IntWalk.iteOmega, IntWalk.toNatUp, ha', h2]; try (refine ⟨fun h => ?_, fun h => ?_⟩ <;> (try simp only [decide_eq_true_eq, decide_eq_false_iff_not, Bool.not_eq_true', Bool.not_eq_false', Int.not_lt, Int.not_le, Nat.not_lt, Nat.not_le] at h) <;> (try (first | contradiction | (exfalso; omega) | exact nomatch (Eq.trans (Eq.symm h) (by assumption) : true = false) | exact nomatch (Eq.trans (Eq.symm h) (by assumption) : false = true))))))
      exact ⟨k + 1, by omega, by (refine weak_fg ?_; push_cast [eq_self, iff_self, IntWalk.iteOmega, IntWalk.toNatUp, hs, hs2]), by omega⟩
    · obtain ⟨h1, h2⟩ := of_next hlt hb
      have hna : ¬ (l.getD k default).user = ⟨#[97, 110, 110]⟩ := by rw [hb]; decide
      have hs := ofT_t hlt hb
      have hs2 := ofT_f hlt hna
      have hb' := eq_true hb
      by_cases hi : (ofT l ⟨#[97, 110, 110]⟩ k).length < (ofA l ⟨#[97, 110, 110]⟩).length
      · repeat' (first | (refine Kont.use (by assumption) ?_) | (refine pwp_seq fun K hK => ?_) | (refine pwp_block ?_) | (refine pwp_scope ?_) | ((first | (refine pwp_cut 10 [] ?_; first | refine pwp_region ?_ | refine pwp_quiet (by kernel_rfl) (by kernel_rfl) ?_) | refine pwp_exit ?_ | refine pwp_ret ?_ | refine pwp_skip ?_); push_cast [eq_self, iff_self, IntWalk.iteOmega, IntWalk.toNatUp, hb', hna, h2]) | (refine pwp_cond ?_; push_cast [eq_self, iff_self, IntWalk.iteOmega, IntWalk.toNatUp, hb', hna, h2]; try (refine ⟨fun h => ?_, fun h => ?_⟩ <;> (try simp only [decide_eq_true_eq, decide_eq_false_iff_not, Bool.not_eq_true', Bool.not_eq_false', Int.not_lt, Int.not_le, Nat.not_lt, Nat.not_le] at h) <;> (try (first | contradiction | (exfalso; omega) | exact nomatch (Eq.trans (Eq.symm h) (by assumption) : true = false) | exact nomatch (Eq.trans (Eq.symm h) (by assumption) : false = true))))))
        exact ⟨k + 1, by omega, by (refine weak_fg ?_; push_cast [eq_self, iff_self, IntWalk.iteOmega, IntWalk.toNatUp, hs, hs2]), by omega⟩
      · repeat' (first | (refine Kont.use (by assumption) ?_) | (refine pwp_seq fun K hK => ?_) | (refine pwp_block ?_) | (refine pwp_scope ?_) | ((first | (refine pwp_cut 10 [] ?_; first | refine pwp_region ?_ | refine pwp_quiet (by kernel_rfl) (by kernel_rfl) ?_) | refine pwp_exit ?_ | refine pwp_ret ?_ | refine pwp_skip ?_); push_cast [eq_self, iff_self, IntWalk.iteOmega, IntWalk.toNatUp, hb', hna, h2]) | (refine pwp_cond ?_; push_cast [eq_self, iff_self, IntWalk.iteOmega, IntWalk.toNatUp, hb', hna, h2]; try (refine ⟨fun h => ?_, fun h => ?_⟩ <;> (try simp only [decide_eq_true_eq, decide_eq_false_iff_not, Bool.not_eq_true', Bool.not_eq_false', Int.not_lt, Int.not_le, Nat.not_lt, Nat.not_le] at h) <;> (try (first | contradiction | (exfalso; omega) | exact nomatch (Eq.trans (Eq.symm h) (by assumption) : true = false) | exact nomatch (Eq.trans (Eq.symm h) (by assumption) : false = true))))))
        exact ⟨k + 1, by omega, by (refine weak_fg ?_; push_cast [eq_self, iff_self, IntWalk.iteOmega, IntWalk.toNatUp, hs, hs2]), by omega⟩
  · rw [ofT_end hlt, ofT_end hlt]
    repeat' (first |  (refine pl_call2 false [] rfl rfl (by kernel_rfl) (known_pure) ?_ nofun ?_; push_cast [eq_self, iff_self, IntWalk.iteOmega, IntWalk.toNatUp]; rintro r os ⟨rfl, rfl⟩; refine pl_of_pops ?_; push_cast [eq_self, iff_self, IntWalk.iteOmega, IntWalk.toNatUp])  | (refine Kont.use (by assumption) ?_) | (refine pwp_seq fun K hK => ?_) | (refine pwp_block ?_) | (refine pwp_scope ?_) | ((first | (refine pwp_cut 10 [] ?_; first | refine pwp_region ?_ | refine pwp_quiet (by kernel_rfl) (by kernel_rfl) ?_) | refine pwp_exit ?_ | refine pwp_ret ?_ | refine pwp_skip ?_); push_cast [eq_self, iff_self, IntWalk.iteOmega, IntWalk.toNatUp]) | (refine pwp_cond ?_; push_cast [eq_self, iff_self, IntWalk.iteOmega, IntWalk.toNatUp]; try (refine ⟨fun h => ?_, fun h => ?_⟩ <;> (try simp only [decide_eq_true_eq, decide_eq_false_iff_not, Bool.not_eq_true', Bool.not_eq_false', Int.not_lt, Int.not_le, Nat.not_lt, Nat.not_le] at h) <;> (try (first | contradiction | (exfalso; omega) | exact nomatch (Eq.trans (Eq.symm h) (by assumption) : true = false) | exact nomatch (Eq.trans (Eq.symm h) (by assumption) : false = true))))))
    (refine retK_of [] ?_; push_cast [eq_self, iff_self, IntWalk.iteOmega, IntWalk.toNatUp])
end Go.Proofs.YtipgjpcbmnlbhaaDoor
