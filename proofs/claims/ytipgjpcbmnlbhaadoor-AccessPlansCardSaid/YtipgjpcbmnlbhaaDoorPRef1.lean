/- The reference's names and paths. -/
import Derived.Test.YtipgjpcbmnlbhaaDoorPNamB
namespace Go.Proofs.YtipgjpcbmnlbhaaDoor
attribute [local irreducible] PL QL PWP PCalls Weak RetK Kont PA
open Go.RowKit
set_option linter.unusedVariables false
set_option linter.unusedSimpArgs false
theorem idxb_lt : ∀ (l : List UInt8) (c : UInt8), Lib.indexByte l c < 0 ↔ l.contains c = false
  | [], c => by simp [Lib.indexByte]
  | b :: l, c => by
    have ih := idxb_lt l c
    have hg := Lib.indexByte_ge l c
    rw [Lib.indexByte, List.contains_cons]
    by_cases h : b = c
    · subst h; simp
    · rw [if_neg (by simpa using h), show (c == b) = false by simpa using Ne.symm h, Bool.false_or, ← ih]
      split
      · rename_i h1; simp at h1; omega
      · rename_i h1; simp at h1; omega
theorem byte_back (b : UInt8) : ((b.toNat : Int)).toNat.toUInt8 = b := by simp
/-- all bytes of a text are in another one -/
def inT (s t : ByteArray) : Bool := s.data.toList.all fun b => t.data.toList.contains b
set_option maxHeartbeats 1000000 in
theorem rin_pure (s t : ByteArray) (hs : s.size ≤ 1000000000) :
    PCalls Tryd.prog 58 [.c (.v (.string s)), .c (.v (.string t))] [] fun r os => r = .c (.v (.bool (inT s t))) ∧ os = [] := by
  refine pcalls_of Tryd.func58 rfl (by simp [Tryd.ntmps58]) ?_
  rw [Tryd.ntmps58, Tryd.results58]
  push_cast [eq_self, iff_self, IntWalk.iteOmega, IntWalk.toNatUp]
  repeat' (first | (refine Kont.use (by assumption) ?_) | (refine pwp_seq fun K hK => ?_) | (refine pwp_block ?_) | (refine pwp_scope ?_) | ((first | (refine pwp_cut 6 [] ?_; first | refine pwp_region ?_ | refine pwp_quiet (by kernel_rfl) (by kernel_rfl) ?_) | refine pwp_exit ?_ | refine pwp_ret ?_ | refine pwp_skip ?_); push_cast [eq_self, iff_self, IntWalk.iteOmega, IntWalk.toNatUp]) | (refine pwp_cond ?_; push_cast [eq_self, iff_self, IntWalk.iteOmega, IntWalk.toNatUp]; try (refine ⟨fun h => ?_, fun h => ?_⟩ <;> (try simp only [decide_eq_true_eq, decide_eq_false_iff_not, Bool.not_eq_true', Bool.not_eq_false', Int.not_lt, Int.not_le, Nat.not_lt, Nat.not_le] at h) <;> (try (first | contradiction | (exfalso; omega) | exact nomatch (Eq.trans (Eq.symm h) (by assumption) : true = false) | exact nomatch (Eq.trans (Eq.symm h) (by assumption) : false = true))))))
  (apply pwp_loop3 (α := Nat) 6 [] (fun k => [(5, .c (.v (.int .i64 k)))]) (fun k => []) (fun k => k ≤ s.size ∧ (s.data.toList.take k).all (fun b => t.data.toList.contains b) = true) (fun k => s.size - k) (0); (focus ((try push_cast [eq_self, iff_self, IntWalk.iteOmega, IntWalk.toNatUp]); rfl)); (focus exact ⟨by omega, rfl⟩); (focus ((refine weak_fg ?_; try push_cast [eq_self, iff_self, IntWalk.iteOmega, IntWalk.toNatUp]))))
  rintro k ⟨hk, ha⟩
  push_cast [eq_self, iff_self, IntWalk.iteOmega, IntWalk.toNatUp]
  by_cases hlt : k < s.size
  · have hk2 : k < s.data.toList.length := hlt
    have eg : s.data.toList.getD k 0 = s.data.toList[k] := by rw [List.getD_eq_getElem?_getD, List.getElem?_eq_getElem hk2]; rfl
    have hix := idxb_lt t.data.toList (s.data.toList.getD k 0)
    have hc := idxb_pure t ((s.data.toList.getD k 0).toNat : Int)
    rw [byte_back] at hc
    cases hv : t.data.toList.contains (s.data.toList.getD k 0)
    · have hl := hix.2 hv
      repeat' (first | (refine pl_call2 false [] rfl rfl (by kernel_rfl) (hc) ?_ nofun ?_; push_cast [eq_self, iff_self, IntWalk.iteOmega, IntWalk.toNatUp, hl]; rintro r os ⟨rfl, rfl⟩; refine pl_of_pops ?_; push_cast [eq_self, iff_self, IntWalk.iteOmega, IntWalk.toNatUp, hl]) | (refine Kont.use (by assumption) ?_) | (refine pwp_seq fun K hK => ?_) | (refine pwp_block ?_) | (refine pwp_scope ?_) | ((first | (refine pwp_cut 6 [] ?_; first | refine pwp_region ?_ | refine pwp_quiet (by kernel_rfl) (by kernel_rfl) ?_) | refine pwp_exit ?_ | refine pwp_ret ?_ | refine pwp_skip ?_); push_cast [eq_self, iff_self, IntWalk.iteOmega, IntWalk.toNatUp, hl]) | (refine pwp_cond ?_; push_cast [eq_self, iff_self, IntWalk.iteOmega, IntWalk.toNatUp, hl]; try (refine ⟨fun h => ?_, fun h => ?_⟩ <;> (try simp only [decide_eq_true_eq, decide_eq_false_iff_not, Bool.not_eq_true', Bool.not_eq_false', Int.not_lt, Int.not_le, Nat.not_lt, Nat.not_le] at h) <;> (try (first | contradiction | (exfalso; omega) | exact nomatch (Eq.trans (Eq.symm h) (by assumption) : true = false) | exact nomatch (Eq.trans (Eq.symm h) (by assumption) : false = true))))))
      (refine retK_of [] ?_; push_cast [eq_self, iff_self, IntWalk.iteOmega, IntWalk.toNatUp])
      rw [inT, List.all_eq_false.2]
      exact ⟨s.data.toList.getD k 0, by rw [eg]; exact List.getElem_mem _, by rw [hv]; decide⟩
    · have hl : ¬ Lib.indexByte t.data.toList (s.data.toList.getD k 0) < 0 := fun h => by rw [hix.1 h] at hv; cases hv
      repeat' (first | (refine pl_call2 false [] rfl rfl (by kernel_rfl) (hc) ?_ nofun ?_; push_cast [eq_self, iff_self, IntWalk.iteOmega, IntWalk.toNatUp, hl]; rintro r os ⟨rfl, rfl⟩; refine pl_of_pops ?_; push_cast [eq_self, iff_self, IntWalk.iteOmega, IntWalk.toNatUp, hl]) | (refine Kont.use (by assumption) ?_) | (refine pwp_seq fun K hK => ?_) | (refine pwp_block ?_) | (refine pwp_scope ?_) | ((first | (refine pwp_cut 6 [] ?_; first | refine pwp_region ?_ | refine pwp_quiet (by kernel_rfl) (by kernel_rfl) ?_) | refine pwp_exit ?_ | refine pwp_ret ?_ | refine pwp_skip ?_); push_cast [eq_self, iff_self, IntWalk.iteOmega, IntWalk.toNatUp, hl]) | (refine pwp_cond ?_; push_cast [eq_self, iff_self, IntWalk.iteOmega, IntWalk.toNatUp, hl]; try (refine ⟨fun h => ?_, fun h => ?_⟩ <;> (try simp only [decide_eq_true_eq, decide_eq_false_iff_not, Bool.not_eq_true', Bool.not_eq_false', Int.not_lt, Int.not_le, Nat.not_lt, Nat.not_le] at h) <;> (try (first | contradiction | (exfalso; omega) | exact nomatch (Eq.trans (Eq.symm h) (by assumption) : true = false) | exact nomatch (Eq.trans (Eq.symm h) (by assumption) : false = true))))))
      refine ⟨k + 1, ⟨by omega, ?_⟩, by (refine weak_fg ?_; push_cast [eq_self, iff_self, IntWalk.iteOmega, IntWalk.toNatUp]), by omega⟩
      rw [List.take_succ_eq_append_getElem hk2, List.all_append, ha, ← eg, List.all_cons, hv]; rfl
  · have hk2 : k = s.size := by omega
    subst hk2
    have he : s.data.toList.take s.size = s.data.toList := List.take_of_length_le (Nat.le_refl _)
    rw [he] at ha
    repeat' (first | (refine Kont.use (by assumption) ?_) | (refine pwp_seq fun K hK => ?_) | (refine pwp_block ?_) | (refine pwp_scope ?_) | ((first | (refine pwp_cut 6 [] ?_; first | refine pwp_region ?_ | refine pwp_quiet (by kernel_rfl) (by kernel_rfl) ?_) | refine pwp_exit ?_ | refine pwp_ret ?_ | refine pwp_skip ?_); push_cast [eq_self, iff_self, IntWalk.iteOmega, IntWalk.toNatUp]) | (refine pwp_cond ?_; push_cast [eq_self, iff_self, IntWalk.iteOmega, IntWalk.toNatUp]; try (refine ⟨fun h => ?_, fun h => ?_⟩ <;> (try simp only [decide_eq_true_eq, decide_eq_false_iff_not, Bool.not_eq_true', Bool.not_eq_false', Int.not_lt, Int.not_le, Nat.not_lt, Nat.not_le] at h) <;> (try (first | contradiction | (exfalso; omega) | exact nomatch (Eq.trans (Eq.symm h) (by assumption) : true = false) | exact nomatch (Eq.trans (Eq.symm h) (by assumption) : false = true))))))
    (refine retK_of [] ?_; push_cast [eq_self, iff_self, IntWalk.iteOmega, IntWalk.toNatUp])
    rw [inT, ha]
def refSet : ByteArray := ⟨#[65, 66, 67, 68, 69, 70, 71, 72, 73, 74, 75, 76, 77, 78, 79, 80, 81, 82, 83, 84, 85, 86, 87, 88, 89, 90, 97, 98, 99, 100, 101, 102, 103, 104, 105, 106, 107, 108, 109, 110, 111, 112, 113, 114, 115, 116, 117, 118, 119, 120, 121, 122, 48, 49, 50, 51, 52, 53, 54, 55, 56, 57, 95, 46, 58, 43, 45, 33]⟩
theorem in_name (s : ByteArray) : inT s refSet = s.data.toList.all nameB := by
  unfold inT
  congr
set_option maxHeartbeats 1000000 in
theorem rvalid_pure (s : ByteArray) (hs : s.size ≤ 9223372036854775807) : PCalls Tryd.prog 46 [.c (.v (.string s))] [] fun r os => r = .c (.v (.bool (validS s))) ∧ os = [] := by
  have hv : validS s = (((decide (s ≠ ⟨#[]⟩) && decide (s.size ≤ 32)) && !dotsS s) && inT s refSet) := by rw [in_name, validS]
  rw [hv]
  unfold dotsS
  refine pcalls_of Tryd.func46 rfl (by simp [Tryd.ntmps46]) ?_
  rw [Tryd.ntmps46, Tryd.results46]
  by_cases h1 : s = ⟨#[]⟩
  · have e1 := eq_true h1
    push_cast [eq_self, iff_self, IntWalk.iteOmega, IntWalk.toNatUp]
    repeat' (first | (refine Kont.use (by assumption) ?_) | (refine pwp_seq fun K hK => ?_) | (refine pwp_block ?_) | (refine pwp_scope ?_) | ((first | refine pwp_region ?_ | refine pwp_quiet (by kernel_rfl) (by kernel_rfl) ?_ | refine pwp_exit ?_ | refine pwp_ret ?_ | refine pwp_skip ?_); push_cast [eq_self, iff_self, IntWalk.iteOmega, IntWalk.toNatUp, e1, ne_eq, not_true_eq_false]) | (refine pwp_cond ?_; push_cast [eq_self, iff_self, IntWalk.iteOmega, IntWalk.toNatUp, e1, ne_eq, not_true_eq_false]; try (refine ⟨fun h => ?_, fun h => ?_⟩ <;> (try simp only [decide_eq_true_eq, decide_eq_false_iff_not, Bool.not_eq_true', Bool.not_eq_false', Int.not_lt, Int.not_le, Nat.not_lt, Nat.not_le] at h) <;> (try (first | contradiction | (exfalso; omega) | exact nomatch (Eq.trans (Eq.symm h) (by assumption) : true = false) | exact nomatch (Eq.trans (Eq.symm h) (by assumption) : false = true))))))
    (refine retK_of [] ?_; push_cast [eq_self, iff_self, IntWalk.iteOmega, IntWalk.toNatUp])
  · by_cases h2 : s.size ≤ 32
    · have h2' : (s.size : Int) ≤ 32 := by omega
      have hh := rin_pure s refSet (by omega)
      obtain ⟨c, hc⟩ : ∃ c, inT s refSet = c := ⟨_, rfl⟩
      rw [hc] at hh ⊢
      unfold refSet at hh
      obtain ⟨d1, hd1⟩ : ∃ d1, (s = ⟨#[46]⟩) = d1 := ⟨_, rfl⟩
      obtain ⟨d2, hd2⟩ : ∃ d2, (s = ⟨#[46, 46]⟩) = d2 := ⟨_, rfl⟩
      by_cases e3 : s = ⟨#[46]⟩
      · have e4 := eq_true e3
        cases c
        all_goals push_cast [eq_self, iff_self, IntWalk.iteOmega, IntWalk.toNatUp]
        all_goals repeat' (first | (refine pl_call2 false [] rfl rfl (by kernel_rfl) (hh) ?_ nofun ?_; push_cast [eq_self, iff_self, IntWalk.iteOmega, IntWalk.toNatUp, h1, h2', e4, ne_eq, not_false_eq_true, not_true_eq_false]; rintro r os ⟨rfl, rfl⟩; refine pl_of_pops ?_; push_cast [eq_self, iff_self, IntWalk.iteOmega, IntWalk.toNatUp, h1, h2', e4, ne_eq, not_false_eq_true, not_true_eq_false]) | (refine Kont.use (by assumption) ?_) | (refine pwp_seq fun K hK => ?_) | (refine pwp_block ?_) | (refine pwp_scope ?_) | ((first | refine pwp_region ?_ | refine pwp_quiet (by kernel_rfl) (by kernel_rfl) ?_ | refine pwp_exit ?_ | refine pwp_ret ?_ | refine pwp_skip ?_); push_cast [eq_self, iff_self, IntWalk.iteOmega, IntWalk.toNatUp, h1, h2', e4, ne_eq, not_false_eq_true, not_true_eq_false]) | (refine pwp_cond ?_; push_cast [eq_self, iff_self, IntWalk.iteOmega, IntWalk.toNatUp, h1, h2', e4, ne_eq, not_false_eq_true, not_true_eq_false]; try (refine ⟨fun h => ?_, fun h => ?_⟩ <;> (try simp only [decide_eq_true_eq, decide_eq_false_iff_not, Bool.not_eq_true', Bool.not_eq_false', Int.not_lt, Int.not_le, Nat.not_lt, Nat.not_le] at h) <;> (try (first | contradiction | (exfalso; omega) | exact nomatch (Eq.trans (Eq.symm h) (by assumption) : true = false) | exact nomatch (Eq.trans (Eq.symm h) (by assumption) : false = true))))))
        all_goals (refine retK_of [] ?_; push_cast [eq_self, iff_self, IntWalk.iteOmega, IntWalk.toNatUp])
        all_goals simp [e3]
      · by_cases e5 : s = ⟨#[46, 46]⟩
        · have e6 := eq_true e5
          cases c
          all_goals push_cast [eq_self, iff_self, IntWalk.iteOmega, IntWalk.toNatUp]
          all_goals repeat' (first | (refine pl_call2 false [] rfl rfl (by kernel_rfl) (hh) ?_ nofun ?_; push_cast [eq_self, iff_self, IntWalk.iteOmega, IntWalk.toNatUp, h1, h2', e3, e6, ne_eq, not_false_eq_true, not_true_eq_false]; rintro r os ⟨rfl, rfl⟩; refine pl_of_pops ?_; push_cast [eq_self, iff_self, IntWalk.iteOmega, IntWalk.toNatUp, h1, h2', e3, e6, ne_eq, not_false_eq_true, not_true_eq_false]) | (refine Kont.use (by assumption) ?_) | (refine pwp_seq fun K hK => ?_) | (refine pwp_block ?_) | (refine pwp_scope ?_) | ((first | refine pwp_region ?_ | refine pwp_quiet (by kernel_rfl) (by kernel_rfl) ?_ | refine pwp_exit ?_ | refine pwp_ret ?_ | refine pwp_skip ?_); push_cast [eq_self, iff_self, IntWalk.iteOmega, IntWalk.toNatUp, h1, h2', e3, e6, ne_eq, not_false_eq_true, not_true_eq_false]) | (refine pwp_cond ?_; push_cast [eq_self, iff_self, IntWalk.iteOmega, IntWalk.toNatUp, h1, h2', e3, e6, ne_eq, not_false_eq_true, not_true_eq_false]; try (refine ⟨fun h => ?_, fun h => ?_⟩ <;> (try simp only [decide_eq_true_eq, decide_eq_false_iff_not, Bool.not_eq_true', Bool.not_eq_false', Int.not_lt, Int.not_le, Nat.not_lt, Nat.not_le] at h) <;> (try (first | contradiction | (exfalso; omega) | exact nomatch (Eq.trans (Eq.symm h) (by assumption) : true = false) | exact nomatch (Eq.trans (Eq.symm h) (by assumption) : false = true))))))
          all_goals (refine retK_of [] ?_; push_cast [eq_self, iff_self, IntWalk.iteOmega, IntWalk.toNatUp])
          all_goals simp [e5]
        · cases c
          all_goals push_cast [eq_self, iff_self, IntWalk.iteOmega, IntWalk.toNatUp]
          all_goals repeat' (first | (refine pl_call2 false [] rfl rfl (by kernel_rfl) (hh) ?_ nofun ?_; push_cast [eq_self, iff_self, IntWalk.iteOmega, IntWalk.toNatUp, h1, h2', e3, e5, ne_eq, not_false_eq_true, not_true_eq_false]; rintro r os ⟨rfl, rfl⟩; refine pl_of_pops ?_; push_cast [eq_self, iff_self, IntWalk.iteOmega, IntWalk.toNatUp, h1, h2', e3, e5, ne_eq, not_false_eq_true, not_true_eq_false]) | (refine Kont.use (by assumption) ?_) | (refine pwp_seq fun K hK => ?_) | (refine pwp_block ?_) | (refine pwp_scope ?_) | ((first | refine pwp_region ?_ | refine pwp_quiet (by kernel_rfl) (by kernel_rfl) ?_ | refine pwp_exit ?_ | refine pwp_ret ?_ | refine pwp_skip ?_); push_cast [eq_self, iff_self, IntWalk.iteOmega, IntWalk.toNatUp, h1, h2', e3, e5, ne_eq, not_false_eq_true, not_true_eq_false]) | (refine pwp_cond ?_; push_cast [eq_self, iff_self, IntWalk.iteOmega, IntWalk.toNatUp, h1, h2', e3, e5, ne_eq, not_false_eq_true, not_true_eq_false]; try (refine ⟨fun h => ?_, fun h => ?_⟩ <;> (try simp only [decide_eq_true_eq, decide_eq_false_iff_not, Bool.not_eq_true', Bool.not_eq_false', Int.not_lt, Int.not_le, Nat.not_lt, Nat.not_le] at h) <;> (try (first | contradiction | (exfalso; omega) | exact nomatch (Eq.trans (Eq.symm h) (by assumption) : true = false) | exact nomatch (Eq.trans (Eq.symm h) (by assumption) : false = true))))))
          all_goals (refine retK_of [] ?_; push_cast [eq_self, iff_self, IntWalk.iteOmega, IntWalk.toNatUp])
          all_goals simp [h1, h2, e3, e5]
    · have h2' : ¬ (s.size : Int) ≤ 32 := by omega
      push_cast [eq_self, iff_self, IntWalk.iteOmega, IntWalk.toNatUp]
      repeat' (first | (refine Kont.use (by assumption) ?_) | (refine pwp_seq fun K hK => ?_) | (refine pwp_block ?_) | (refine pwp_scope ?_) | ((first | refine pwp_region ?_ | refine pwp_quiet (by kernel_rfl) (by kernel_rfl) ?_ | refine pwp_exit ?_ | refine pwp_ret ?_ | refine pwp_skip ?_); push_cast [eq_self, iff_self, IntWalk.iteOmega, IntWalk.toNatUp, h1, h2', ne_eq, not_false_eq_true]) | (refine pwp_cond ?_; push_cast [eq_self, iff_self, IntWalk.iteOmega, IntWalk.toNatUp, h1, h2', ne_eq, not_false_eq_true]; try (refine ⟨fun h => ?_, fun h => ?_⟩ <;> (try simp only [decide_eq_true_eq, decide_eq_false_iff_not, Bool.not_eq_true', Bool.not_eq_false', Int.not_lt, Int.not_le, Nat.not_lt, Nat.not_le] at h) <;> (try (first | contradiction | (exfalso; omega) | exact nomatch (Eq.trans (Eq.symm h) (by assumption) : true = false) | exact nomatch (Eq.trans (Eq.symm h) (by assumption) : false = true))))))
      (refine retK_of [] ?_; push_cast [eq_self, iff_self, IntWalk.iteOmega, IntWalk.toNatUp])
      simp [h2]
theorem slash_nil : slashS ⟨#[]⟩ = false := by decide
theorem slash_get {s : ByteArray} (h : s ≠ ⟨#[]⟩) : slashS s = decide ((((s.data.toList.getD 0 0).toNat : Nat) : Int) = 47) := by
  unfold slashS Lib.hasPrefix
  cases e : s.data.toList with
  | nil => exact absurd (by cases s; simp only at e; congr; exact Array.toList_inj.1 e) h
  | cons b l =>
    rw [Bool.eq_iff_iff]
    simp only [List.isPrefixOf, Bool.and_true, beq_iff_eq, decide_eq_true_eq, List.getD_cons_zero]
    constructor
    · rintro rfl; rfl
    · intro h
      have : b.toNat = 47 := by omega
      exact (UInt8.toNat_inj.1 this).symm
theorem size_pos {s : ByteArray} (h : s ≠ ⟨#[]⟩) : 0 < s.size := by
  rcases Nat.eq_zero_or_pos s.size with h0 | h0
  · exact absurd (by obtain ⟨⟨l⟩⟩ := s; cases l with
      | nil => rfl
      | cons b l => simp [ByteArray.size] at h0) h
  · exact h0
/-- what the reference's Split returns -/
def rsplitR : Option (List ByteArray) → PV
  | some l => .two (.c (.sl 1 (l.map strD))) (.c (.v (.bool true)))
  | none => .two (.c (.v (.slice none 0 0))) (.c (.v (.bool false)))
attribute [push_cast] rsplitR
set_option maxHeartbeats 1000000 in
theorem rsplit_pure (s : ByteArray) (hs : s.size ≤ 100000000) :
    PCalls Tryd.prog 35 [.c (.v (.string s))] [] fun r os => r = rsplitR (splitP s) ∧ os = [] := by
  have hrs := rest_size s
  have hps := parts_size (s := restS s)
  have hpm := fun x hx => parts_mem (s := restS s) (x := x) hx
  refine pcalls_of Tryd.func35 rfl (by simp [Tryd.ntmps35]) ?_
  rw [Tryd.ntmps35, Tryd.results35]
  push_cast [eq_self, iff_self, IntWalk.iteOmega, IntWalk.toNatUp]
  by_cases h1 : s = ⟨#[]⟩
  · have e1 := eq_true h1
    have hsp : splitP s = none := by unfold splitP; rw [if_neg (by rw [h1, slash_nil]; simp)]
    rw [hsp]
    repeat' (first | (refine Kont.use (by assumption) ?_) | (refine pwp_seq fun K hK => ?_) | (refine pwp_block ?_) | (refine pwp_scope ?_) | ((first | (refine pwp_cut 6 [] ?_; first | refine pwp_region ?_ | refine pwp_quiet (by kernel_rfl) (by kernel_rfl) ?_) | refine pwp_exit ?_ | refine pwp_ret ?_ | refine pwp_skip ?_); push_cast [eq_self, iff_self, IntWalk.iteOmega, IntWalk.toNatUp, e1]) | (refine pwp_cond ?_; push_cast [eq_self, iff_self, IntWalk.iteOmega, IntWalk.toNatUp, e1]; try (refine ⟨fun h => ?_, fun h => ?_⟩ <;> (try simp only [decide_eq_true_eq, decide_eq_false_iff_not, Bool.not_eq_true', Bool.not_eq_false', Int.not_lt, Int.not_le, Nat.not_lt, Nat.not_le] at h) <;> (try (first | contradiction | (exfalso; omega) | exact nomatch (Eq.trans (Eq.symm h) (by assumption) : true = false) | exact nomatch (Eq.trans (Eq.symm h) (by assumption) : false = true))))))
    (refine retK_of [] ?_; push_cast [eq_self, iff_self, IntWalk.iteOmega, IntWalk.toNatUp])
  · have hpos := size_pos h1
    have hsl := slash_get h1
    by_cases h2 : (((s.data.toList.getD 0 0).toNat : Nat) : Int) = 47
    · rw [decide_eq_true h2] at hsl
      have hre : s.extract 1 s.size = restS s := by unfold restS; rw [if_pos hsl]
      have hsp : splitP s = if (parts (restS s)).all validS = true then some (parts (restS s)) else none := by unfold splitP; rw [hsl]; simp
      obtain ⟨l, hl⟩ : ∃ l, parts (restS s) = l := ⟨_, rfl⟩
      have hspl := split_pure (restS s) (by omega)
      rw [hl] at hps hspl hsp
      simp only [hl] at hpm
      have htk := List.take_of_length_le (l := l.map strD) (i := l.length) (by simp)
      have e2 := eq_true h2
      repeat' (first | (refine pl_call2 false [] rfl rfl (by kernel_rfl) (hspl) ?_ nofun ?_; push_cast [eq_self, iff_self, IntWalk.iteOmega, IntWalk.toNatUp, h1, e2, hre, ne_eq, not_true_eq_false]; rintro r os ⟨rfl, rfl⟩; refine pl_of_pops ?_; push_cast [eq_self, iff_self, IntWalk.iteOmega, IntWalk.toNatUp, h1, e2, hre, ne_eq, not_true_eq_false]) | (refine Kont.use (by assumption) ?_) | (refine pwp_seq fun K hK => ?_) | (refine pwp_block ?_) | (refine pwp_scope ?_) | ((first | (refine pwp_cut 6 [] ?_; first | refine pwp_region ?_ | refine pwp_quiet (by kernel_rfl) (by kernel_rfl) ?_) | refine pwp_exit ?_ | refine pwp_ret ?_ | refine pwp_skip ?_); push_cast [eq_self, iff_self, IntWalk.iteOmega, IntWalk.toNatUp, h1, e2, hre, ne_eq, not_true_eq_false]) | (refine pwp_cond ?_; push_cast [eq_self, iff_self, IntWalk.iteOmega, IntWalk.toNatUp, h1, e2, hre, ne_eq, not_true_eq_false]; try (refine ⟨fun h => ?_, fun h => ?_⟩ <;> (try simp only [decide_eq_true_eq, decide_eq_false_iff_not, Bool.not_eq_true', Bool.not_eq_false', Int.not_lt, Int.not_le, Nat.not_lt, Nat.not_le] at h) <;> (try (first | contradiction | (exfalso; omega) | exact nomatch (Eq.trans (Eq.symm h) (by assumption) : true = false) | exact nomatch (Eq.trans (Eq.symm h) (by assumption) : false = true))))))
      refine pwp_weak (weak_frz 0 (by omega)) ?_
      push_cast [eq_self, iff_self, IntWalk.iteOmega, IntWalk.toNatUp, htk]
      (apply pwp_loop3 (α := Nat) 6 [] (fun k => [(5, .c (.v (.int .i64 k)))]) (fun k => []) (fun k => k ≤ l.length ∧ (l.take k).all validS = true) (fun k => l.length - k) (0); (focus ((try push_cast [eq_self, iff_self, IntWalk.iteOmega, IntWalk.toNatUp]); rfl)); (focus exact ⟨by omega, rfl⟩); (focus ((refine weak_fg ?_; try push_cast [eq_self, iff_self, IntWalk.iteOmega, IntWalk.toNatUp]))))
      rintro k ⟨hk, ha⟩
      push_cast [eq_self, iff_self, IntWalk.iteOmega, IntWalk.toNatUp]
      by_cases hlt : k < l.length
      · have hm : l.getD k default ∈ l := by rw [getD_lt l hlt]; exact List.getElem_mem _
        have hvp := rvalid_pure (l.getD k default) (by have := hpm _ hm; omega)
        cases hv : validS (l.getD k default)
        · rw [hv] at hvp
          have hal : l.all validS = false := List.all_eq_false.2 ⟨_, hm, by rw [hv]; decide⟩
          rw [hal] at hsp
          simp only [Bool.false_eq_true, if_false] at hsp
          repeat' (first |  (refine pl_call2 false [] rfl rfl (by kernel_rfl) (hvp) ?_ nofun ?_; push_cast [eq_self, iff_self, IntWalk.iteOmega, IntWalk.toNatUp]; rintro r os ⟨rfl, rfl⟩; refine pl_of_pops ?_; push_cast [eq_self, iff_self, IntWalk.iteOmega, IntWalk.toNatUp])  | (refine Kont.use (by assumption) ?_) | (refine pwp_seq fun K hK => ?_) | (refine pwp_block ?_) | (refine pwp_scope ?_) | ((first | (refine pwp_cut 6 [] ?_; first | refine pwp_region ?_ | refine pwp_quiet (by kernel_rfl) (by kernel_rfl) ?_) | refine pwp_exit ?_ | refine pwp_ret ?_ | refine pwp_skip ?_); push_cast [eq_self, iff_self, IntWalk.iteOmega, IntWalk.toNatUp]) | (refine pwp_cond ?_; push_cast [eq_self, iff_self, IntWalk.iteOmega, IntWalk.toNatUp]; try (refine ⟨fun h => ?_, fun h => ?_⟩ <;> (try simp only [decide_eq_true_eq, decide_eq_false_iff_not, Bool.not_eq_true', Bool.not_eq_false', Int.not_lt, Int.not_le, Nat.not_lt, Nat.not_le] at h) <;> (try (first | contradiction | (exfalso; omega) | exact nomatch (Eq.trans (Eq.symm h) (by assumption) : true = false) | exact nomatch (Eq.trans (Eq.symm h) (by assumption) : false = true))))))
          rw [hsp]
          (refine retK_of [] ?_; push_cast [eq_self, iff_self, IntWalk.iteOmega, IntWalk.toNatUp])
        · rw [hv] at hvp
          repeat' (first |  (refine pl_call2 false [] rfl rfl (by kernel_rfl) (hvp) ?_ nofun ?_; push_cast [eq_self, iff_self, IntWalk.iteOmega, IntWalk.toNatUp]; rintro r os ⟨rfl, rfl⟩; refine pl_of_pops ?_; push_cast [eq_self, iff_self, IntWalk.iteOmega, IntWalk.toNatUp])  | (refine Kont.use (by assumption) ?_) | (refine pwp_seq fun K hK => ?_) | (refine pwp_block ?_) | (refine pwp_scope ?_) | ((first | (refine pwp_cut 6 [] ?_; first | refine pwp_region ?_ | refine pwp_quiet (by kernel_rfl) (by kernel_rfl) ?_) | refine pwp_exit ?_ | refine pwp_ret ?_ | refine pwp_skip ?_); push_cast [eq_self, iff_self, IntWalk.iteOmega, IntWalk.toNatUp]) | (refine pwp_cond ?_; push_cast [eq_self, iff_self, IntWalk.iteOmega, IntWalk.toNatUp]; try (refine ⟨fun h => ?_, fun h => ?_⟩ <;> (try simp only [decide_eq_true_eq, decide_eq_false_iff_not, Bool.not_eq_true', Bool.not_eq_false', Int.not_lt, Int.not_le, Nat.not_lt, Nat.not_le] at h) <;> (try (first | contradiction | (exfalso; omega) | exact nomatch (Eq.trans (Eq.symm h) (by assumption) : true = false) | exact nomatch (Eq.trans (Eq.symm h) (by assumption) : false = true))))))
          refine ⟨k + 1, ⟨by omega, ?_⟩, by (refine weak_fg ?_; push_cast [eq_self, iff_self, IntWalk.iteOmega, IntWalk.toNatUp]), by omega⟩
          rw [List.take_succ_eq_append_getElem hlt, List.all_append, ha, ← getD_lt l hlt, List.all_cons, hv]; rfl
      · rw [List.take_of_length_le (by omega)] at ha
        rw [ha] at hsp
        simp only [if_true] at hsp
        repeat' (first | (refine Kont.use (by assumption) ?_) | (refine pwp_seq fun K hK => ?_) | (refine pwp_block ?_) | (refine pwp_scope ?_) | ((first | (refine pwp_cut 6 [] ?_; first | refine pwp_region ?_ | refine pwp_quiet (by kernel_rfl) (by kernel_rfl) ?_) | refine pwp_exit ?_ | refine pwp_ret ?_ | refine pwp_skip ?_); push_cast [eq_self, iff_self, IntWalk.iteOmega, IntWalk.toNatUp]) | (refine pwp_cond ?_; push_cast [eq_self, iff_self, IntWalk.iteOmega, IntWalk.toNatUp]; try (refine ⟨fun h => ?_, fun h => ?_⟩ <;> (try simp only [decide_eq_true_eq, decide_eq_false_iff_not, Bool.not_eq_true', Bool.not_eq_false', Int.not_lt, Int.not_le, Nat.not_lt, Nat.not_le] at h) <;> (try (first | contradiction | (exfalso; omega) | exact nomatch (Eq.trans (Eq.symm h) (by assumption) : true = false) | exact nomatch (Eq.trans (Eq.symm h) (by assumption) : false = true))))))
        rw [hsp]
        (refine retK_of [] ?_; push_cast [eq_self, iff_self, IntWalk.iteOmega, IntWalk.toNatUp])
    · rw [decide_eq_false h2] at hsl
      have hsp : splitP s = none := by unfold splitP; rw [if_neg (by rw [hsl]; simp)]
      rw [hsp]
      repeat' (first | (refine Kont.use (by assumption) ?_) | (refine pwp_seq fun K hK => ?_) | (refine pwp_block ?_) | (refine pwp_scope ?_) | ((first | (refine pwp_cut 6 [] ?_; first | refine pwp_region ?_ | refine pwp_quiet (by kernel_rfl) (by kernel_rfl) ?_) | refine pwp_exit ?_ | refine pwp_ret ?_ | refine pwp_skip ?_); push_cast [eq_self, iff_self, IntWalk.iteOmega, IntWalk.toNatUp, h1, h2, ne_eq, not_false_eq_true]) | (refine pwp_cond ?_; push_cast [eq_self, iff_self, IntWalk.iteOmega, IntWalk.toNatUp, h1, h2, ne_eq, not_false_eq_true]; try (refine ⟨fun h => ?_, fun h => ?_⟩ <;> (try simp only [decide_eq_true_eq, decide_eq_false_iff_not, Bool.not_eq_true', Bool.not_eq_false', Int.not_lt, Int.not_le, Nat.not_lt, Nat.not_le] at h) <;> (try (first | contradiction | (exfalso; omega) | exact nomatch (Eq.trans (Eq.symm h) (by assumption) : true = false) | exact nomatch (Eq.trans (Eq.symm h) (by assumption) : false = true))))))
      (refine retK_of [] ?_; push_cast [eq_self, iff_self, IntWalk.iteOmega, IntWalk.toNatUp])
set_option maxHeartbeats 1000000 in
theorem rcompare_pure (l m : List ByteArray) (hl : l.length ≤ 1000000000) (hm : m.length ≤ 1000000000) :
    PCalls Tryd.prog 47 [.c (.sl 1 (l.map strD)), .c (.sl 1 (m.map strD))] [] fun r os => r = .c (.v (.int .i64 (cmpL l m))) ∧ os = [] := by
  refine pcalls_of Tryd.func47 rfl (by simp [Tryd.ntmps47]) ?_
  rw [Tryd.ntmps47, Tryd.results47]
  push_cast [eq_self, iff_self, IntWalk.iteOmega, IntWalk.toNatUp]
  repeat' (first | (refine Kont.use (by assumption) ?_) | (refine pwp_seq fun K hK => ?_) | (refine pwp_block ?_) | (refine pwp_scope ?_) | ((first | (refine pwp_cut 6 [] ?_; first | refine pwp_region ?_ | refine pwp_quiet (by kernel_rfl) (by kernel_rfl) ?_) | refine pwp_exit ?_ | refine pwp_ret ?_ | refine pwp_skip ?_); push_cast [eq_self, iff_self, IntWalk.iteOmega, IntWalk.toNatUp]) | (refine pwp_cond ?_; push_cast [eq_self, iff_self, IntWalk.iteOmega, IntWalk.toNatUp]; try (refine ⟨fun h => ?_, fun h => ?_⟩ <;> (try simp only [decide_eq_true_eq, decide_eq_false_iff_not, Bool.not_eq_true', Bool.not_eq_false', Int.not_lt, Int.not_le, Nat.not_lt, Nat.not_le] at h) <;> (try (first | contradiction | (exfalso; omega) | exact nomatch (Eq.trans (Eq.symm h) (by assumption) : true = false) | exact nomatch (Eq.trans (Eq.symm h) (by assumption) : false = true))))))
  (apply pwp_loop3 (α := Nat) 6 [] (fun k => [(5, .c (.v (.int .i64 k)))]) (fun k => []) (fun k => k ≤ l.length ∧ k ≤ m.length ∧ l.take k = m.take k) (fun k => l.length - k) (0); (focus ((try push_cast [eq_self, iff_self, IntWalk.iteOmega, IntWalk.toNatUp]); rfl)); (focus exact ⟨by omega, by omega, rfl⟩); (focus ((refine weak_fg ?_; try push_cast [eq_self, iff_self, IntWalk.iteOmega, IntWalk.toNatUp]))))
  rintro k ⟨hk, hk2, he⟩
  push_cast [eq_self, iff_self, IntWalk.iteOmega, IntWalk.toNatUp]
  by_cases h1 : k < l.length
  · by_cases h2 : k < m.length
    · have hst := cmpL_step h1 h2 he
      by_cases e : l.getD k default = m.getD k default
      · have e2 := eq_true e
        repeat' (first | (refine Kont.use (by assumption) ?_) | (refine pwp_seq fun K hK => ?_) | (refine pwp_block ?_) | (refine pwp_scope ?_) | ((first | (refine pwp_cut 6 [] ?_; first | refine pwp_region ?_ | refine pwp_quiet (by kernel_rfl) (by kernel_rfl) ?_) | refine pwp_exit ?_ | refine pwp_ret ?_ | refine pwp_skip ?_); push_cast [eq_self, iff_self, IntWalk.iteOmega, IntWalk.toNatUp, e2, ne_eq, not_true_eq_false]) | (refine pwp_cond ?_; push_cast [eq_self, iff_self, IntWalk.iteOmega, IntWalk.toNatUp, e2, ne_eq, not_true_eq_false]; try (refine ⟨fun h => ?_, fun h => ?_⟩ <;> (try simp only [decide_eq_true_eq, decide_eq_false_iff_not, Bool.not_eq_true', Bool.not_eq_false', Int.not_lt, Int.not_le, Nat.not_lt, Nat.not_le] at h) <;> (try (first | contradiction | (exfalso; omega) | exact nomatch (Eq.trans (Eq.symm h) (by assumption) : true = false) | exact nomatch (Eq.trans (Eq.symm h) (by assumption) : false = true))))))
        refine ⟨k + 1, ⟨by omega, by omega, ?_⟩, by (refine weak_fg ?_; push_cast [eq_self, iff_self, IntWalk.iteOmega, IntWalk.toNatUp]), by omega⟩
        rw [List.take_succ_eq_append_getElem h1, List.take_succ_eq_append_getElem h2, he, ← getD_lt l h1, ← getD_lt m h2, e]
      · rw [if_neg e] at hst
        repeat' (first | ((refine ql_call2 false rfl rfl (by kernel_rfl) (scmp_pure (l.getD k default) (m.getD k default)) (fun r os h => h.1) rfl ?_ ?_; push_cast [eq_self, iff_self, IntWalk.iteOmega, IntWalk.toNatUp, e, ne_eq, not_false_eq_true]; refine ql_of_qops ?_; push_cast [eq_self, iff_self, IntWalk.iteOmega, IntWalk.toNatUp, e, ne_eq, not_false_eq_true])) | (refine Kont.use (by assumption) ?_) | (refine pwp_seq fun K hK => ?_) | (refine pwp_block ?_) | (refine pwp_scope ?_) | ((first | (refine pwp_cut 6 [] ?_; first | refine pwp_region ?_ | refine pwp_quiet (by kernel_rfl) (by kernel_rfl) ?_) | refine pwp_exit ?_ | refine pwp_ret ?_ | refine pwp_skip ?_); push_cast [eq_self, iff_self, IntWalk.iteOmega, IntWalk.toNatUp, e, ne_eq, not_false_eq_true]) | (refine pwp_cond ?_; push_cast [eq_self, iff_self, IntWalk.iteOmega, IntWalk.toNatUp, e, ne_eq, not_false_eq_true]; try (refine ⟨fun h => ?_, fun h => ?_⟩ <;> (try simp only [decide_eq_true_eq, decide_eq_false_iff_not, Bool.not_eq_true', Bool.not_eq_false', Int.not_lt, Int.not_le, Nat.not_lt, Nat.not_le] at h) <;> (try (first | contradiction | (exfalso; omega) | exact nomatch (Eq.trans (Eq.symm h) (by assumption) : true = false) | exact nomatch (Eq.trans (Eq.symm h) (by assumption) : false = true))))))
        (refine retK_of [] ?_; push_cast [eq_self, iff_self, IntWalk.iteOmega, IntWalk.toNatUp])
        rw [hst]
    · have hke : k = m.length := by omega
      have hcl : cmpL l m = 1 := by
        have hz : m.drop k = [] := List.drop_eq_nil_of_le (by omega)
        rw [cmpL_at (by omega) (by omega) he, hz, List.drop_eq_getElem_cons h1]; rfl
      repeat' (first | (refine Kont.use (by assumption) ?_) | (refine pwp_seq fun K hK => ?_) | (refine pwp_block ?_) | (refine pwp_scope ?_) | ((first | (refine pwp_cut 6 [] ?_; first | refine pwp_region ?_ | refine pwp_quiet (by kernel_rfl) (by kernel_rfl) ?_) | refine pwp_exit ?_ | refine pwp_ret ?_ | refine pwp_skip ?_); push_cast [eq_self, iff_self, IntWalk.iteOmega, IntWalk.toNatUp]) | (refine pwp_cond ?_; push_cast [eq_self, iff_self, IntWalk.iteOmega, IntWalk.toNatUp]; try (refine ⟨fun h => ?_, fun h => ?_⟩ <;> (try simp only [decide_eq_true_eq, decide_eq_false_iff_not, Bool.not_eq_true', Bool.not_eq_false', Int.not_lt, Int.not_le, Nat.not_lt, Nat.not_le] at h) <;> (try (first | contradiction | (exfalso; omega) | exact nomatch (Eq.trans (Eq.symm h) (by assumption) : true = false) | exact nomatch (Eq.trans (Eq.symm h) (by assumption) : false = true))))))
      (refine retK_of [] ?_; push_cast [eq_self, iff_self, IntWalk.iteOmega, IntWalk.toNatUp])
      rw [hcl]
  · have hke : k = l.length := by omega
    by_cases h2 : k < m.length
    · have hcl : cmpL l m = -1 := by
        have hz : l.drop k = [] := List.drop_eq_nil_of_le (by omega)
        rw [cmpL_at (by omega) (by omega) he, hz, List.drop_eq_getElem_cons h2]; rfl
      repeat' (first | (refine Kont.use (by assumption) ?_) | (refine pwp_seq fun K hK => ?_) | (refine pwp_block ?_) | (refine pwp_scope ?_) | ((first | (refine pwp_cut 6 [] ?_; first | refine pwp_region ?_ | refine pwp_quiet (by kernel_rfl) (by kernel_rfl) ?_) | refine pwp_exit ?_ | refine pwp_ret ?_ | refine pwp_skip ?_); push_cast [eq_self, iff_self, IntWalk.iteOmega, IntWalk.toNatUp]) | (refine pwp_cond ?_; push_cast [eq_self, iff_self, IntWalk.iteOmega, IntWalk.toNatUp]; try (refine ⟨fun h => ?_, fun h => ?_⟩ <;> (try simp only [decide_eq_true_eq, decide_eq_false_iff_not, Bool.not_eq_true', Bool.not_eq_false', Int.not_lt, Int.not_le, Nat.not_lt, Nat.not_le] at h) <;> (try (first | contradiction | (exfalso; omega) | exact nomatch (Eq.trans (Eq.symm h) (by assumption) : true = false) | exact nomatch (Eq.trans (Eq.symm h) (by assumption) : false = true))))))
      (refine retK_of [] ?_; push_cast [eq_self, iff_self, IntWalk.iteOmega, IntWalk.toNatUp])
      rw [hcl]
    · have hcl : cmpL l m = 0 := by
        rw [cmpL_at (by omega) (by omega) he, List.drop_eq_nil_of_le (by omega), List.drop_eq_nil_of_le (by omega)]; rfl
      repeat' (first | (refine Kont.use (by assumption) ?_) | (refine pwp_seq fun K hK => ?_) | (refine pwp_block ?_) | (refine pwp_scope ?_) | ((first | (refine pwp_cut 6 [] ?_; first | refine pwp_region ?_ | refine pwp_quiet (by kernel_rfl) (by kernel_rfl) ?_) | refine pwp_exit ?_ | refine pwp_ret ?_ | refine pwp_skip ?_); push_cast [eq_self, iff_self, IntWalk.iteOmega, IntWalk.toNatUp]) | (refine pwp_cond ?_; push_cast [eq_self, iff_self, IntWalk.iteOmega, IntWalk.toNatUp]; try (refine ⟨fun h => ?_, fun h => ?_⟩ <;> (try simp only [decide_eq_true_eq, decide_eq_false_iff_not, Bool.not_eq_true', Bool.not_eq_false', Int.not_lt, Int.not_le, Nat.not_lt, Nat.not_le] at h) <;> (try (first | contradiction | (exfalso; omega) | exact nomatch (Eq.trans (Eq.symm h) (by assumption) : true = false) | exact nomatch (Eq.trans (Eq.symm h) (by assumption) : false = true))))))
      (refine retK_of [] ?_; push_cast [eq_self, iff_self, IntWalk.iteOmega, IntWalk.toNatUp])
      rw [hcl]
set_option maxHeartbeats 1000000 in
theorem rorder_pure (a b : ByteArray) (ha : a.size ≤ 100000000) (hb : b.size ≤ 100000000) :
    PCalls Tryd.prog 36 [.c (.v (.string a)), .c (.v (.string b))] [] fun r os => r = .c (.v (.int .i64 (cmpL (parts a) (parts b)))) ∧ os = [] := by
  have h1 := split_pure a (by omega)
  have h2 := split_pure b (by omega)
  have p1 := parts_size (s := a)
  have p2 := parts_size (s := b)
  obtain ⟨l, hl⟩ : ∃ l, parts a = l := ⟨_, rfl⟩
  obtain ⟨m, hm⟩ : ∃ l, parts b = l := ⟨_, rfl⟩
  rw [hl] at h1 p1 ⊢
  rw [hm] at h2 p2 ⊢
  refine pcalls_of Tryd.func36 rfl (by simp [Tryd.ntmps36]) ?_
  rw [Tryd.ntmps36, Tryd.results36]
  push_cast [eq_self, iff_self, IntWalk.iteOmega, IntWalk.toNatUp]
  repeat' (first |  (refine pl_call2 false [] rfl rfl (by kernel_rfl) (h1) ?_ nofun ?_; push_cast [eq_self, iff_self, IntWalk.iteOmega, IntWalk.toNatUp]; rintro r os ⟨rfl, rfl⟩; refine pl_of_pops ?_; push_cast [eq_self, iff_self, IntWalk.iteOmega, IntWalk.toNatUp]) | (refine pl_call2 false [] rfl rfl (by kernel_rfl) (h2) ?_ nofun ?_; push_cast [eq_self, iff_self, IntWalk.iteOmega, IntWalk.toNatUp]; rintro r os ⟨rfl, rfl⟩; refine pl_of_pops ?_; push_cast [eq_self, iff_self, IntWalk.iteOmega, IntWalk.toNatUp]) | (refine pl_call2 true [] rfl rfl (by kernel_rfl) (rcompare_pure l m (by omega) (by omega)) ?_ ?_ ?_; push_cast [eq_self, iff_self, IntWalk.iteOmega, IntWalk.toNatUp]; (intro _ r os; rintro ⟨rfl, rfl⟩; push_cast [eq_self, iff_self, IntWalk.iteOmega, IntWalk.toNatUp]); rintro r os ⟨rfl, rfl⟩; refine pl_of_pops ?_; push_cast [eq_self, iff_self, IntWalk.iteOmega, IntWalk.toNatUp])  | (refine Kont.use (by assumption) ?_) | (refine pwp_seq fun K hK => ?_) | (refine pwp_block ?_) | (refine pwp_scope ?_) | ((first | refine pwp_region ?_ | refine pwp_quiet (by kernel_rfl) (by kernel_rfl) ?_ | refine pwp_exit ?_ | refine pwp_ret ?_ | refine pwp_skip ?_); push_cast [eq_self, iff_self, IntWalk.iteOmega, IntWalk.toNatUp]) | (refine pwp_cond ?_; push_cast [eq_self, iff_self, IntWalk.iteOmega, IntWalk.toNatUp]; try (refine ⟨fun h => ?_, fun h => ?_⟩ <;> (try simp only [decide_eq_true_eq, decide_eq_false_iff_not, Bool.not_eq_true', Bool.not_eq_false', Int.not_lt, Int.not_le, Nat.not_lt, Nat.not_le] at h) <;> (try (first | contradiction | (exfalso; omega) | exact nomatch (Eq.trans (Eq.symm h) (by assumption) : true = false) | exact nomatch (Eq.trans (Eq.symm h) (by assumption) : false = true))))))
  (refine retK_of [] ?_; push_cast [eq_self, iff_self, IntWalk.iteOmega, IntWalk.toNatUp])
end Go.Proofs.YtipgjpcbmnlbhaaDoor
