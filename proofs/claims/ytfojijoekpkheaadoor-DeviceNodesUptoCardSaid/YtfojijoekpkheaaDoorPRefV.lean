/- The reference's names: in, Valid. -/
import Derived.Test.YtfojijoekpkheaaDoorPNam
namespace Go.Proofs.YtfojijoekpkheaaDoor
attribute [local irreducible] PL QL PWP PCalls Weak RetK Kont PA
open Go.RowKit
set_option linter.unusedVariables false
set_option linter.unusedSimpArgs false
theorem idxb_lt : ∀ (l : List UInt8) (c : UInt8), Lib.indexByte l c < 0 ↔ l.contains c = false
  | [], c => by simp [Lib.indexByte]
  | b :: l, c => by
    have ih := idxb_lt l c
    have hg := Lib.indexByte_ge l c
    rw [Lib.indexByte, List.contains_cons]
    by_cases h : b = c
    · subst h; simp
    · rw [if_neg (by simpa using h), show (c == b) = false by simpa using Ne.symm h, Bool.false_or, ← ih]
      split
      · rename_i h1; simp at h1; omega
      · rename_i h1; simp at h1; omega
theorem byte_back (b : UInt8) : ((b.toNat : Int)).toNat.toUInt8 = b := by simp
/-- all bytes of a text are in another one -/
def inT (s t : ByteArray) : Bool := s.data.toList.all fun b => t.data.toList.contains b
set_option maxHeartbeats 1000000 in
theorem rin_pure (s t : ByteArray) (hs : s.size ≤ 1000000000) :
    PCalls Tryd.prog 66 [.c (.v (.string s)), .c (.v (.string t))] [] fun r os => r = .c (.v (.bool (inT s t))) ∧ os = [] := by
  refine pcalls_of Tryd.func66 rfl (by simp [Tryd.ntmps66]) ?_
  rw [Tryd.ntmps66, Tryd.results66]
  push_cast [eq_self, iff_self, IntWalk.iteOmega, IntWalk.toNatUp]
  repeat' (first | (refine Kont.use (by assumption) ?_) | (refine pwp_seq fun K hK => ?_) | (refine pwp_block ?_) | (refine pwp_scope ?_) | ((first | (refine pwp_cut 6 [] ?_; first | refine pwp_region ?_ | refine pwp_quiet (by kernel_rfl) (by kernel_rfl) ?_) | refine pwp_exit ?_ | refine pwp_ret ?_ | refine pwp_skip ?_); push_cast [eq_self, iff_self, IntWalk.iteOmega, IntWalk.toNatUp]) | (refine pwp_cond ?_; push_cast [eq_self, iff_self, IntWalk.iteOmega, IntWalk.toNatUp]; try (refine ⟨fun h => ?_, fun h => ?_⟩ <;> (try simp only [decide_eq_true_eq, decide_eq_false_iff_not, Bool.not_eq_true', Bool.not_eq_false', Int.not_lt, Int.not_le, Nat.not_lt, Nat.not_le] at h) <;> (try (first | contradiction | (exfalso; omega) | exact nomatch (Eq.trans (Eq.symm h) (by assumption) : true = false) | exact nomatch (Eq.trans (Eq.symm h) (by assumption) : false = true))))))
  (apply pwp_loop3 (α := Nat) 6 [] (fun k => [(5, .c (.v (.int .i64 k)))]) (fun k => []) (fun k => k ≤ s.size ∧ (s.data.toList.take k).all (fun b => t.data.toList.contains b) = true) (fun k => s.size - k) (0); (focus ((try push_cast [eq_self, iff_self, IntWalk.iteOmega, IntWalk.toNatUp]); rfl)); (focus exact ⟨by omega, rfl⟩); (focus ((refine weak_fg ?_; try push_cast [eq_self, iff_self, IntWalk.iteOmega, IntWalk.toNatUp]))))
  rintro k ⟨hk, ha⟩
  push_cast [eq_self, iff_self, IntWalk.iteOmega, IntWalk.toNatUp]
  by_cases hlt : k < s.size
  · have hk2 : k < s.data.toList.length := hlt
    have eg : s.data.toList.getD k 0 = s.data.toList[k] := by rw [List.getD_eq_getElem?_getD, List.getElem?_eq_getElem hk2]; rfl
    have hix := idxb_lt t.data.toList (s.data.toList.getD k 0)
    have hc := idxb_pure t ((s.data.toList.getD k 0).toNat : Int)
    rw [byte_back] at hc
    cases hv : t.data.toList.contains (s.data.toList.getD k 0)
    · have hl := hix.2 hv
      repeat' (first | (refine pl_call2 false [] rfl rfl (by kernel_rfl) (hc) ?_ nofun ?_; push_cast [eq_self, iff_self, IntWalk.iteOmega, IntWalk.toNatUp, hl]; rintro r os ⟨rfl, rfl⟩; refine pl_of_pops ?_; push_cast [eq_self, iff_self, IntWalk.iteOmega, IntWalk.toNatUp, hl]) | (refine Kont.use (by assumption) ?_) | (refine pwp_seq fun K hK => ?_) | (refine pwp_block ?_) | (refine pwp_scope ?_) | ((first | (refine pwp_cut 6 [] ?_; first | refine pwp_region ?_ | refine pwp_quiet (by kernel_rfl) (by kernel_rfl) ?_) | refine pwp_exit ?_ | refine pwp_ret ?_ | refine pwp_skip ?_); push_cast [eq_self, iff_self, IntWalk.iteOmega, IntWalk.toNatUp, hl]) | (refine pwp_cond ?_; push_cast [eq_self, iff_self, IntWalk.iteOmega, IntWalk.toNatUp, hl]; try (refine ⟨fun h => ?_, fun h => ?_⟩ <;> (try simp only [decide_eq_true_eq, decide_eq_false_iff_not, Bool.not_eq_true', Bool.not_eq_false', Int.not_lt, Int.not_le, Nat.not_lt, Nat.not_le] at h) <;> (try (first | contradiction | (exfalso; omega) | exact nomatch (Eq.trans (Eq.symm h) (by assumption) : true = false) | exact nomatch (Eq.trans (Eq.symm h) (by assumption) : false = true))))))
      (refine retK_of [] ?_; push_cast [eq_self, iff_self, IntWalk.iteOmega, IntWalk.toNatUp])
      rw [inT, List.all_eq_false.2]
      exact ⟨s.data.toList.getD k 0, by rw [eg]; exact List.getElem_mem _, by rw [hv]; decide⟩
    · have hl : ¬ Lib.indexByte t.data.toList (s.data.toList.getD k 0) < 0 := fun h => by rw [hix.1 h] at hv; cases hv
      repeat' (first | (refine pl_call2 false [] rfl rfl (by kernel_rfl) (hc) ?_ nofun ?_; push_cast [eq_self, iff_self, IntWalk.iteOmega, IntWalk.toNatUp, hl]; rintro r os ⟨rfl, rfl⟩; refine pl_of_pops ?_; push_cast [eq_self, iff_self, IntWalk.iteOmega, IntWalk.toNatUp, hl]) | (refine Kont.use (by assumption) ?_) | (refine pwp_seq fun K hK => ?_) | (refine pwp_block ?_) | (refine pwp_scope ?_) | ((first | (refine pwp_cut 6 [] ?_; first | refine pwp_region ?_ | refine pwp_quiet (by kernel_rfl) (by kernel_rfl) ?_) | refine pwp_exit ?_ | refine pwp_ret ?_ | refine pwp_skip ?_); push_cast [eq_self, iff_self, IntWalk.iteOmega, IntWalk.toNatUp, hl]) | (refine pwp_cond ?_; push_cast [eq_self, iff_self, IntWalk.iteOmega, IntWalk.toNatUp, hl]; try (refine ⟨fun h => ?_, fun h => ?_⟩ <;> (try simp only [decide_eq_true_eq, decide_eq_false_iff_not, Bool.not_eq_true', Bool.not_eq_false', Int.not_lt, Int.not_le, Nat.not_lt, Nat.not_le] at h) <;> (try (first | contradiction | (exfalso; omega) | exact nomatch (Eq.trans (Eq.symm h) (by assumption) : true = false) | exact nomatch (Eq.trans (Eq.symm h) (by assumption) : false = true))))))
      refine ⟨k + 1, ⟨by omega, ?_⟩, by (refine weak_fg ?_; push_cast [eq_self, iff_self, IntWalk.iteOmega, IntWalk.toNatUp]), by omega⟩
      rw [List.take_succ_eq_append_getElem hk2, List.all_append, ha, ← eg, List.all_cons, hv]; rfl
  · have hk2 : k = s.size := by omega
    subst hk2
    have he : s.data.toList.take s.size = s.data.toList := List.take_of_length_le (Nat.le_refl _)
    rw [he] at ha
    repeat' (first | (refine Kont.use (by assumption) ?_) | (refine pwp_seq fun K hK => ?_) | (refine pwp_block ?_) | (refine pwp_scope ?_) | ((first | (refine pwp_cut 6 [] ?_; first | refine pwp_region ?_ | refine pwp_quiet (by kernel_rfl) (by kernel_rfl) ?_) | refine pwp_exit ?_ | refine pwp_ret ?_ | refine pwp_skip ?_); push_cast [eq_self, iff_self, IntWalk.iteOmega, IntWalk.toNatUp]) | (refine pwp_cond ?_; push_cast [eq_self, iff_self, IntWalk.iteOmega, IntWalk.toNatUp]; try (refine ⟨fun h => ?_, fun h => ?_⟩ <;> (try simp only [decide_eq_true_eq, decide_eq_false_iff_not, Bool.not_eq_true', Bool.not_eq_false', Int.not_lt, Int.not_le, Nat.not_lt, Nat.not_le] at h) <;> (try (first | contradiction | (exfalso; omega) | exact nomatch (Eq.trans (Eq.symm h) (by assumption) : true = false) | exact nomatch (Eq.trans (Eq.symm h) (by assumption) : false = true))))))
    (refine retK_of [] ?_; push_cast [eq_self, iff_self, IntWalk.iteOmega, IntWalk.toNatUp])
    rw [inT, ha]
def refSet : ByteArray := ⟨#[65, 66, 67, 68, 69, 70, 71, 72, 73, 74, 75, 76, 77, 78, 79, 80, 81, 82, 83, 84, 85, 86, 87, 88, 89, 90, 97, 98, 99, 100, 101, 102, 103, 104, 105, 106, 107, 108, 109, 110, 111, 112, 113, 114, 115, 116, 117, 118, 119, 120, 121, 122, 48, 49, 50, 51, 52, 53, 54, 55, 56, 57, 95, 46, 58, 43, 45, 33]⟩
theorem in_name (s : ByteArray) : inT s refSet = s.data.toList.all nameB := by
  unfold inT
  congr
set_option maxHeartbeats 1000000 in
theorem rvalid_pure (s : ByteArray) (hs : s.size ≤ 9223372036854775807) : PCalls Tryd.prog 45 [.c (.v (.string s))] [] fun r os => r = .c (.v (.bool (validS s))) ∧ os = [] := by
  have hv : validS s = (((decide (s ≠ ⟨#[]⟩) && decide (s.size ≤ 32)) && !dotsS s) && inT s refSet) := by rw [in_name, validS]
  rw [hv]
  unfold dotsS
  refine pcalls_of Tryd.func45 rfl (by simp [Tryd.ntmps45]) ?_
  rw [Tryd.ntmps45, Tryd.results45]
  by_cases h1 : s = ⟨#[]⟩
  · have e1 := eq_true h1
    push_cast [eq_self, iff_self, IntWalk.iteOmega, IntWalk.toNatUp]
    repeat' (first | (refine Kont.use (by assumption) ?_) | (refine pwp_seq fun K hK => ?_) | (refine pwp_block ?_) | (refine pwp_scope ?_) | ((first | refine pwp_region ?_ | refine pwp_quiet (by kernel_rfl) (by kernel_rfl) ?_ | refine pwp_exit ?_ | refine pwp_ret ?_ | refine pwp_skip ?_); push_cast [eq_self, iff_self, IntWalk.iteOmega, IntWalk.toNatUp, e1, ne_eq, not_true_eq_false]) | (refine pwp_cond ?_; push_cast [eq_self, iff_self, IntWalk.iteOmega, IntWalk.toNatUp, e1, ne_eq, not_true_eq_false]; try (refine ⟨fun h => ?_, fun h => ?_⟩ <;> (try simp only [decide_eq_true_eq, decide_eq_false_iff_not, Bool.not_eq_true', Bool.not_eq_false', Int.not_lt, Int.not_le, Nat.not_lt, Nat.not_le] at h) <;> (try (first | contradiction | (exfalso; omega) | exact nomatch (Eq.trans (Eq.symm h) (by assumption) : true = false) | exact nomatch (Eq.trans (Eq.symm h) (by assumption) : false = true))))))
    (refine retK_of [] ?_; push_cast [eq_self, iff_self, IntWalk.iteOmega, IntWalk.toNatUp])
  · by_cases h2 : s.size ≤ 32
    · have h2' : (s.size : Int) ≤ 32 := by omega
      have hh := rin_pure s refSet (by omega)
      obtain ⟨c, hc⟩ : ∃ c, inT s refSet = c := ⟨_, rfl⟩
      rw [hc] at hh ⊢
      unfold refSet at hh
      obtain ⟨d1, hd1⟩ : ∃ d1, (s = ⟨#[46]⟩) = d1 := ⟨_, rfl⟩
      obtain ⟨d2, hd2⟩ : ∃ d2, (s = ⟨#[46, 46]⟩) = d2 := ⟨_, rfl⟩
      by_cases e3 : s = ⟨#[46]⟩
      · have e4 := eq_true e3
        cases c
        all_goals push_cast [eq_self, iff_self, IntWalk.iteOmega, IntWalk.toNatUp]
        all_goals repeat' (first | (refine pl_call2 false [] rfl rfl (by kernel_rfl) (hh) ?_ nofun ?_; push_cast [eq_self, iff_self, IntWalk.iteOmega, IntWalk.toNatUp, h1, h2', e4, ne_eq, not_false_eq_true, not_true_eq_false]; rintro r os ⟨rfl, rfl⟩; refine pl_of_pops ?_; push_cast [eq_self, iff_self, IntWalk.iteOmega, IntWalk.toNatUp, h1, h2', e4, ne_eq, not_false_eq_true, not_true_eq_false]) | (refine Kont.use (by assumption) ?_) | (refine pwp_seq fun K hK => ?_) | (refine pwp_block ?_) | (refine pwp_scope ?_) | ((first | refine pwp_region ?_ | refine pwp_quiet (by kernel_rfl) (by kernel_rfl) ?_ | refine pwp_exit ?_ | refine pwp_ret ?_ | refine pwp_skip ?_); push_cast [eq_self, iff_self, IntWalk.iteOmega, IntWalk.toNatUp, h1, h2', e4, ne_eq, not_false_eq_true, not_true_eq_false]) | (refine pwp_cond ?_; push_cast [eq_self, iff_self, IntWalk.iteOmega, IntWalk.toNatUp, h1, h2', e4, ne_eq, not_false_eq_true, not_true_eq_false]; try (refine ⟨fun h => ?_, fun h => ?_⟩ <;> (try simp only [decide_eq_true_eq, decide_eq_false_iff_not, Bool.not_eq_true', Bool.not_eq_false', Int.not_lt, Int.not_le, Nat.not_lt, Nat.not_le] at h) <;> (try (first | contradiction | (exfalso; omega) | exact nomatch (Eq.trans (Eq.symm h) (by assumption) : true = false) | exact nomatch (Eq.trans (Eq.symm h) (by assumption) : false = true))))))
        all_goals (refine retK_of [] ?_; push_cast [eq_self, iff_self, IntWalk.iteOmega, IntWalk.toNatUp])
        all_goals simp [e3]
      · by_cases e5 : s = ⟨#[46, 46]⟩
        · have e6 := eq_true e5
          cases c
          all_goals push_cast [eq_self, iff_self, IntWalk.iteOmega, IntWalk.toNatUp]
          all_goals repeat' (first | (refine pl_call2 false [] rfl rfl (by kernel_rfl) (hh) ?_ nofun ?_; push_cast [eq_self, iff_self, IntWalk.iteOmega, IntWalk.toNatUp, h1, h2', e3, e6, ne_eq, not_false_eq_true, not_true_eq_false]; rintro r os ⟨rfl, rfl⟩; refine pl_of_pops ?_; push_cast [eq_self, iff_self, IntWalk.iteOmega, IntWalk.toNatUp, h1, h2', e3, e6, ne_eq, not_false_eq_true, not_true_eq_false]) | (refine Kont.use (by assumption) ?_) | (refine pwp_seq fun K hK => ?_) | (refine pwp_block ?_) | (refine pwp_scope ?_) | ((first | refine pwp_region ?_ | refine pwp_quiet (by kernel_rfl) (by kernel_rfl) ?_ | refine pwp_exit ?_ | refine pwp_ret ?_ | refine pwp_skip ?_); push_cast [eq_self, iff_self, IntWalk.iteOmega, IntWalk.toNatUp, h1, h2', e3, e6, ne_eq, not_false_eq_true, not_true_eq_false]) | (refine pwp_cond ?_; push_cast [eq_self, iff_self, IntWalk.iteOmega, IntWalk.toNatUp, h1, h2', e3, e6, ne_eq, not_false_eq_true, not_true_eq_false]; try (refine ⟨fun h => ?_, fun h => ?_⟩ <;> (try simp only [decide_eq_true_eq, decide_eq_false_iff_not, Bool.not_eq_true', Bool.not_eq_false', Int.not_lt, Int.not_le, Nat.not_lt, Nat.not_le] at h) <;> (try (first | contradiction | (exfalso; omega) | exact nomatch (Eq.trans (Eq.symm h) (by assumption) : true = false) | exact nomatch (Eq.trans (Eq.symm h) (by assumption) : false = true))))))
          all_goals (refine retK_of [] ?_; push_cast [eq_self, iff_self, IntWalk.iteOmega, IntWalk.toNatUp])
          all_goals simp [e5]
        · cases c
          all_goals push_cast [eq_self, iff_self, IntWalk.iteOmega, IntWalk.toNatUp]
          all_goals repeat' (first | (refine pl_call2 false [] rfl rfl (by kernel_rfl) (hh) ?_ nofun ?_; push_cast [eq_self, iff_self, IntWalk.iteOmega, IntWalk.toNatUp, h1, h2', e3, e5, ne_eq, not_false_eq_true, not_true_eq_false]; rintro r os ⟨rfl, rfl⟩; refine pl_of_pops ?_; push_cast [eq_self, iff_self, IntWalk.iteOmega, IntWalk.toNatUp, h1, h2', e3, e5, ne_eq, not_false_eq_true, not_true_eq_false]) | (refine Kont.use (by assumption) ?_) | (refine pwp_seq fun K hK => ?_) | (refine pwp_block ?_) | (refine pwp_scope ?_) | ((first | refine pwp_region ?_ | refine pwp_quiet (by kernel_rfl) (by kernel_rfl) ?_ | refine pwp_exit ?_ | refine pwp_ret ?_ | refine pwp_skip ?_); push_cast [eq_self, iff_self, IntWalk.iteOmega, IntWalk.toNatUp, h1, h2', e3, e5, ne_eq, not_false_eq_true, not_true_eq_false]) | (refine pwp_cond ?_; push_cast [eq_self, iff_self, IntWalk.iteOmega, IntWalk.toNatUp, h1, h2', e3, e5, ne_eq, not_false_eq_true, not_true_eq_false]; try (refine ⟨fun h => ?_, fun h => ?_⟩ <;> (try simp only [decide_eq_true_eq, decide_eq_false_iff_not, Bool.not_eq_true', Bool.not_eq_false', Int.not_lt, Int.not_le, Nat.not_lt, Nat.not_le] at h) <;> (try (first | contradiction | (exfalso; omega) | exact nomatch (Eq.trans (Eq.symm h) (by assumption) : true = false) | exact nomatch (Eq.trans (Eq.symm h) (by assumption) : false = true))))))
          all_goals (refine retK_of [] ?_; push_cast [eq_self, iff_self, IntWalk.iteOmega, IntWalk.toNatUp])
          all_goals simp [h1, h2, e3, e5]
    · have h2' : ¬ (s.size : Int) ≤ 32 := by omega
      push_cast [eq_self, iff_self, IntWalk.iteOmega, IntWalk.toNatUp]
      repeat' (first | (refine Kont.use (by assumption) ?_) | (refine pwp_seq fun K hK => ?_) | (refine pwp_block ?_) | (refine pwp_scope ?_) | ((first | refine pwp_region ?_ | refine pwp_quiet (by kernel_rfl) (by kernel_rfl) ?_ | refine pwp_exit ?_ | refine pwp_ret ?_ | refine pwp_skip ?_); push_cast [eq_self, iff_self, IntWalk.iteOmega, IntWalk.toNatUp, h1, h2', ne_eq, not_false_eq_true]) | (refine pwp_cond ?_; push_cast [eq_self, iff_self, IntWalk.iteOmega, IntWalk.toNatUp, h1, h2', ne_eq, not_false_eq_true]; try (refine ⟨fun h => ?_, fun h => ?_⟩ <;> (try simp only [decide_eq_true_eq, decide_eq_false_iff_not, Bool.not_eq_true', Bool.not_eq_false', Int.not_lt, Int.not_le, Nat.not_lt, Nat.not_le] at h) <;> (try (first | contradiction | (exfalso; omega) | exact nomatch (Eq.trans (Eq.symm h) (by assumption) : true = false) | exact nomatch (Eq.trans (Eq.symm h) (by assumption) : false = true))))))
      (refine retK_of [] ?_; push_cast [eq_self, iff_self, IntWalk.iteOmega, IntWalk.toNatUp])
      simp [h2]
end Go.Proofs.YtfojijoekpkheaaDoor
