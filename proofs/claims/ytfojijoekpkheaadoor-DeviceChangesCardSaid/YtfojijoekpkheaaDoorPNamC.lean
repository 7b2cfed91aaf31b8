/- Texts, interface names, link names: the program's walks. -/
import Derived.Test.YtfojijoekpkheaaDoorPNam
import Derived.Test.YtfojijoekpkheaaDoorPIdxT
namespace Go.Proofs.YtfojijoekpkheaaDoor
attribute [local irreducible] PL QL PWP PCalls Weak RetK Kont PA
open Go.RowKit
set_option linter.unusedVariables false
set_option linter.unusedSimpArgs false
def textB (b : UInt8) : Bool := decide (32 ≤ b.toNat) && decide (b.toNat ≤ 126)
/-- a text of at most 256 letters -/
def textS (s : ByteArray) : Bool := s.data.toList.all textB && decide (s.size ≤ 256)
theorem getD_byte {s : ByteArray} {k : Nat} (h : k < s.size) : ∃ h' : k < s.data.toList.length, s.data.toList.getD k 0 = s.data.toList[k] := ⟨h, by rw [List.getD_eq_getElem?_getD, List.getElem?_eq_getElem (show k < s.data.toList.length from h)]; rfl⟩
theorem all_next {p : UInt8 → Bool} {s : ByteArray} {k : Nat} (h : k < s.size) (ha : (s.data.toList.take k).all p = true) (hp : p (s.data.toList.getD k 0) = true) : (s.data.toList.take (k + 1)).all p = true := by
  obtain ⟨h', e⟩ := getD_byte h
  rw [List.take_succ_eq_append_getElem h', List.all_append, ha, ← e, List.all_cons, hp]; rfl
theorem all_not {p : UInt8 → Bool} {s : ByteArray} {k : Nat} (h : k < s.size) (hp : p (s.data.toList.getD k 0) = false) : s.data.toList.all p = false := by
  obtain ⟨h', e⟩ := getD_byte h
  exact List.all_eq_false.2 ⟨s.data.toList.getD k 0, by rw [e]; exact List.getElem_mem _, by rw [hp]; decide⟩
set_option maxHeartbeats 1000000 in
theorem text_pure (s : ByteArray) (hs : s.size ≤ 9223372036854775807) : PCalls Tryd.prog 57 [.c (.v (.string s))] [] fun r os => r = .c (.v (.bool (textS s))) ∧ os = [] := by
  refine pcalls_of Tryd.func57 rfl (by simp [Tryd.ntmps57]) ?_
  rw [Tryd.ntmps57, Tryd.results57]
  push_cast [eq_self, iff_self, IntWalk.iteOmega, IntWalk.toNatUp]
  repeat' (first | (refine Kont.use (by assumption) ?_) | (refine pwp_seq fun K hK => ?_) | (refine pwp_block ?_) | (refine pwp_scope ?_) | ((first | (refine pwp_cut 7 [] ?_; first | refine pwp_region ?_ | refine pwp_quiet (by kernel_rfl) (by kernel_rfl) ?_) | refine pwp_exit ?_ | refine pwp_ret ?_ | refine pwp_skip ?_); push_cast [eq_self, iff_self, IntWalk.iteOmega, IntWalk.toNatUp]) | (refine pwp_cond ?_; push_cast [eq_self, iff_self, IntWalk.iteOmega, IntWalk.toNatUp]; try (refine ⟨fun h => ?_, fun h => ?_⟩ <;> (try simp only [decide_eq_true_eq, decide_eq_false_iff_not, Bool.not_eq_true', Bool.not_eq_false', Int.not_lt, Int.not_le, Nat.not_lt, Nat.not_le] at h) <;> (try (first | contradiction | (exfalso; omega) | exact nomatch (Eq.trans (Eq.symm h) (by assumption) : true = false) | exact nomatch (Eq.trans (Eq.symm h) (by assumption) : false = true))))))
  (apply pwp_loop3 (α := Nat) 7 [] (fun k => [(6, .c (.v (.int .i64 k)))]) (fun k => []) (fun k => k ≤ s.size ∧ (s.data.toList.take k).all textB = true) (fun k => s.size - k) (0); (focus ((try push_cast [eq_self, iff_self, IntWalk.iteOmega, IntWalk.toNatUp]); rfl)); (focus exact ⟨by omega, rfl⟩); (focus ((refine weak_fg ?_; try push_cast [eq_self, iff_self, IntWalk.iteOmega, IntWalk.toNatUp]))))
  rintro k ⟨hk, ha⟩
  push_cast [eq_self, iff_self, IntWalk.iteOmega, IntWalk.toNatUp]
  by_cases hlt : k < s.size
  · by_cases h1 : ((s.data.toList.getD k 0).toNat : Int) < 32
    · have e := all_not hlt (p := textB) (by unfold textB; rw [decide_eq_false (by omega)]; rfl)
      repeat' (first | (refine Kont.use (by assumption) ?_) | (refine pwp_seq fun K hK => ?_) | (refine pwp_block ?_) | (refine pwp_scope ?_) | ((first | (refine pwp_cut 7 [] ?_; first | refine pwp_region ?_ | refine pwp_quiet (by kernel_rfl) (by kernel_rfl) ?_) | refine pwp_exit ?_ | refine pwp_ret ?_ | refine pwp_skip ?_); push_cast [eq_self, iff_self, IntWalk.iteOmega, IntWalk.toNatUp, h1]) | (refine pwp_cond ?_; push_cast [eq_self, iff_self, IntWalk.iteOmega, IntWalk.toNatUp, h1]; try (refine ⟨fun h => ?_, fun h => ?_⟩ <;> (try simp only [decide_eq_true_eq, decide_eq_false_iff_not, Bool.not_eq_true', Bool.not_eq_false', Int.not_lt, Int.not_le, Nat.not_lt, Nat.not_le] at h) <;> (try (first | contradiction | (exfalso; omega) | exact nomatch (Eq.trans (Eq.symm h) (by assumption) : true = false) | exact nomatch (Eq.trans (Eq.symm h) (by assumption) : false = true))))))
      (refine retK_of [] ?_; push_cast [eq_self, iff_self, IntWalk.iteOmega, IntWalk.toNatUp])
      rw [textS, e]; rfl
    · by_cases h2 : (126 : Int) < ((s.data.toList.getD k 0).toNat : Int)
      · have e := all_not hlt (p := textB) (by unfold textB; rw [decide_eq_false (p := (s.data.toList.getD k 0).toNat ≤ 126) (by omega), Bool.and_false])
        repeat' (first | (refine Kont.use (by assumption) ?_) | (refine pwp_seq fun K hK => ?_) | (refine pwp_block ?_) | (refine pwp_scope ?_) | ((first | (refine pwp_cut 7 [] ?_; first | refine pwp_region ?_ | refine pwp_quiet (by kernel_rfl) (by kernel_rfl) ?_) | refine pwp_exit ?_ | refine pwp_ret ?_ | refine pwp_skip ?_); push_cast [eq_self, iff_self, IntWalk.iteOmega, IntWalk.toNatUp, h1, h2]) | (refine pwp_cond ?_; push_cast [eq_self, iff_self, IntWalk.iteOmega, IntWalk.toNatUp, h1, h2]; try (refine ⟨fun h => ?_, fun h => ?_⟩ <;> (try simp only [decide_eq_true_eq, decide_eq_false_iff_not, Bool.not_eq_true', Bool.not_eq_false', Int.not_lt, Int.not_le, Nat.not_lt, Nat.not_le] at h) <;> (try (first | contradiction | (exfalso; omega) | exact nomatch (Eq.trans (Eq.symm h) (by assumption) : true = false) | exact nomatch (Eq.trans (Eq.symm h) (by assumption) : false = true))))))
        (refine retK_of [] ?_; push_cast [eq_self, iff_self, IntWalk.iteOmega, IntWalk.toNatUp])
        rw [textS, e]; rfl
      · have e := all_next hlt ha (by unfold textB; rw [decide_eq_true (by omega), decide_eq_true (by omega)]; rfl)
        repeat' (first | (refine Kont.use (by assumption) ?_) | (refine pwp_seq fun K hK => ?_) | (refine pwp_block ?_) | (refine pwp_scope ?_) | ((first | (refine pwp_cut 7 [] ?_; first | refine pwp_region ?_ | refine pwp_quiet (by kernel_rfl) (by kernel_rfl) ?_) | refine pwp_exit ?_ | refine pwp_ret ?_ | refine pwp_skip ?_); push_cast [eq_self, iff_self, IntWalk.iteOmega, IntWalk.toNatUp, h1, h2]) | (refine pwp_cond ?_; push_cast [eq_self, iff_self, IntWalk.iteOmega, IntWalk.toNatUp, h1, h2]; try (refine ⟨fun h => ?_, fun h => ?_⟩ <;> (try simp only [decide_eq_true_eq, decide_eq_false_iff_not, Bool.not_eq_true', Bool.not_eq_false', Int.not_lt, Int.not_le, Nat.not_lt, Nat.not_le] at h) <;> (try (first | contradiction | (exfalso; omega) | exact nomatch (Eq.trans (Eq.symm h) (by assumption) : true = false) | exact nomatch (Eq.trans (Eq.symm h) (by assumption) : false = true))))))
        exact ⟨k + 1, ⟨by omega, e⟩, by (refine weak_fg ?_; push_cast [eq_self, iff_self, IntWalk.iteOmega, IntWalk.toNatUp]), by omega⟩
  · have hk2 : k = s.size := by omega
    subst hk2
    have he : s.data.toList.take s.size = s.data.toList := List.take_of_length_le (Nat.le_refl _)
    rw [he] at ha
    have hd : decide ((s.size : Int) ≤ 256) = decide (s.size ≤ 256) := decide_eq_decide.2 (by omega)
    repeat' (first | (refine Kont.use (by assumption) ?_) | (refine pwp_seq fun K hK => ?_) | (refine pwp_block ?_) | (refine pwp_scope ?_) | ((first | (refine pwp_cut 7 [] ?_; first | refine pwp_region ?_ | refine pwp_quiet (by kernel_rfl) (by kernel_rfl) ?_) | refine pwp_exit ?_ | refine pwp_ret ?_ | refine pwp_skip ?_); push_cast [eq_self, iff_self, IntWalk.iteOmega, IntWalk.toNatUp]) | (refine pwp_cond ?_; push_cast [eq_self, iff_self, IntWalk.iteOmega, IntWalk.toNatUp]; try (refine ⟨fun h => ?_, fun h => ?_⟩ <;> (try simp only [decide_eq_true_eq, decide_eq_false_iff_not, Bool.not_eq_true', Bool.not_eq_false', Int.not_lt, Int.not_le, Nat.not_lt, Nat.not_le] at h) <;> (try (first | contradiction | (exfalso; omega) | exact nomatch (Eq.trans (Eq.symm h) (by assumption) : true = false) | exact nomatch (Eq.trans (Eq.symm h) (by assumption) : false = true))))))
    (refine retK_of [] ?_; push_cast [eq_self, iff_self, IntWalk.iteOmega, IntWalk.toNatUp])
    rw [textS, ha, Bool.true_and, ← hd]
/-- an interface name -/
def ifaceS (s : ByteArray) : Bool := (validS s && decide (s.size ≤ 15)) && !(s.data.toList.contains 58 || s.data.toList.contains 33)
theorem nameB_ascii (b : UInt8) (h : nameB b = true) : b.toNat < 128 := by
  have : ∀ b ∈ nameT, b.toNat < 128 := by decide
  exact this b (by unfold nameB at h; exact List.contains_iff_mem.1 h)
theorem valid_ascii {s : ByteArray} (h : validS s = true) : ∀ (j : Nat) b, s.data.toList[j]? = some b → b.toNat < 128 := fun j b hb => by
  unfold validS at h
  simp only [Bool.and_eq_true] at h
  exact nameB_ascii b (List.all_eq_true.1 h.2 b (List.mem_of_getElem? hb))
theorem valid_size {s : ByteArray} (h : validS s = true) : s.size ≤ 32 := by
  unfold validS at h
  simp only [Bool.and_eq_true, decide_eq_true_eq] at h
  exact h.1.1.2
set_option maxHeartbeats 1000000 in
theorem iface_pure (s : ByteArray) (hs : s.size ≤ 9223372036854775807) : PCalls Tryd.prog 58 [.c (.v (.string s))] [] fun r os => r = .c (.v (.bool (ifaceS s))) ∧ os = [] := by
  have hv := valid_pure s hs
  have hz := valid_size (s := s)
  have ha := valid_ascii (s := s)
  unfold ifaceS
  obtain ⟨b, hb⟩ : ∃ b, validS s = b := ⟨_, rfl⟩
  rw [hb] at hv hz ha ⊢
  refine pcalls_of Tryd.func58 rfl (by simp [Tryd.ntmps58]) ?_
  rw [Tryd.ntmps58, Tryd.results58]
  cases b
  · push_cast [eq_self, iff_self, IntWalk.iteOmega, IntWalk.toNatUp]
    repeat' (first |  (refine pl_call2 false [] rfl rfl (by kernel_rfl) (hv) ?_ nofun ?_; push_cast [eq_self, iff_self, IntWalk.iteOmega, IntWalk.toNatUp]; rintro r os ⟨rfl, rfl⟩; refine pl_of_pops ?_; push_cast [eq_self, iff_self, IntWalk.iteOmega, IntWalk.toNatUp])  | (refine Kont.use (by assumption) ?_) | (refine pwp_seq fun K hK => ?_) | (refine pwp_block ?_) | (refine pwp_scope ?_) | ((first | refine pwp_region ?_ | refine pwp_quiet (by kernel_rfl) (by kernel_rfl) ?_ | refine pwp_exit ?_ | refine pwp_ret ?_ | refine pwp_skip ?_); push_cast [eq_self, iff_self, IntWalk.iteOmega, IntWalk.toNatUp]) | (refine pwp_cond ?_; push_cast [eq_self, iff_self, IntWalk.iteOmega, IntWalk.toNatUp]; try (refine ⟨fun h => ?_, fun h => ?_⟩ <;> (try simp only [decide_eq_true_eq, decide_eq_false_iff_not, Bool.not_eq_true', Bool.not_eq_false', Int.not_lt, Int.not_le, Nat.not_lt, Nat.not_le] at h) <;> (try (first | contradiction | (exfalso; omega) | exact nomatch (Eq.trans (Eq.symm h) (by assumption) : true = false) | exact nomatch (Eq.trans (Eq.symm h) (by assumption) : false = true))))))
    (refine retK_of [] ?_; push_cast [eq_self, iff_self, IntWalk.iteOmega, IntWalk.toNatUp])
    all_goals rfl
  · by_cases h1 : s.size ≤ 15
    · have h1' : (s.size : Int) ≤ 15 := by omega
      have hc := containsAny_pure s (by omega) (ha rfl)
      push_cast [eq_self, iff_self, IntWalk.iteOmega, IntWalk.toNatUp]
      repeat' (first | (refine pl_call2 false [] rfl rfl (by kernel_rfl) (hv) ?_ nofun ?_; push_cast [eq_self, iff_self, IntWalk.iteOmega, IntWalk.toNatUp, h1']; rintro r os ⟨rfl, rfl⟩; refine pl_of_pops ?_; push_cast [eq_self, iff_self, IntWalk.iteOmega, IntWalk.toNatUp, h1']) | (refine pl_call2 false [] rfl rfl (by kernel_rfl) (hc) ?_ nofun ?_; push_cast [eq_self, iff_self, IntWalk.iteOmega, IntWalk.toNatUp, h1']; rintro r os ⟨rfl, rfl⟩; refine pl_of_pops ?_; push_cast [eq_self, iff_self, IntWalk.iteOmega, IntWalk.toNatUp, h1']) | (refine Kont.use (by assumption) ?_) | (refine pwp_seq fun K hK => ?_) | (refine pwp_block ?_) | (refine pwp_scope ?_) | ((first | refine pwp_region ?_ | refine pwp_quiet (by kernel_rfl) (by kernel_rfl) ?_ | refine pwp_exit ?_ | refine pwp_ret ?_ | refine pwp_skip ?_); push_cast [eq_self, iff_self, IntWalk.iteOmega, IntWalk.toNatUp, h1']) | (refine pwp_cond ?_; push_cast [eq_self, iff_self, IntWalk.iteOmega, IntWalk.toNatUp, h1']; try (refine ⟨fun h => ?_, fun h => ?_⟩ <;> (try simp only [decide_eq_true_eq, decide_eq_false_iff_not, Bool.not_eq_true', Bool.not_eq_false', Int.not_lt, Int.not_le, Nat.not_lt, Nat.not_le] at h) <;> (try (first | contradiction | (exfalso; omega) | exact nomatch (Eq.trans (Eq.symm h) (by assumption) : true = false) | exact nomatch (Eq.trans (Eq.symm h) (by assumption) : false = true))))))
      (refine retK_of [] ?_; push_cast [eq_self, iff_self, IntWalk.iteOmega, IntWalk.toNatUp])
      all_goals simp [h1]
    · have h1' : ¬ (s.size : Int) ≤ 15 := by omega
      push_cast [eq_self, iff_self, IntWalk.iteOmega, IntWalk.toNatUp]
      repeat' (first | (refine pl_call2 false [] rfl rfl (by kernel_rfl) (hv) ?_ nofun ?_; push_cast [eq_self, iff_self, IntWalk.iteOmega, IntWalk.toNatUp, h1']; rintro r os ⟨rfl, rfl⟩; refine pl_of_pops ?_; push_cast [eq_self, iff_self, IntWalk.iteOmega, IntWalk.toNatUp, h1']) | (refine Kont.use (by assumption) ?_) | (refine pwp_seq fun K hK => ?_) | (refine pwp_block ?_) | (refine pwp_scope ?_) | ((first | refine pwp_region ?_ | refine pwp_quiet (by kernel_rfl) (by kernel_rfl) ?_ | refine pwp_exit ?_ | refine pwp_ret ?_ | refine pwp_skip ?_); push_cast [eq_self, iff_self, IntWalk.iteOmega, IntWalk.toNatUp, h1']) | (refine pwp_cond ?_; push_cast [eq_self, iff_self, IntWalk.iteOmega, IntWalk.toNatUp, h1']; try (refine ⟨fun h => ?_, fun h => ?_⟩ <;> (try simp only [decide_eq_true_eq, decide_eq_false_iff_not, Bool.not_eq_true', Bool.not_eq_false', Int.not_lt, Int.not_le, Nat.not_lt, Nat.not_le] at h) <;> (try (first | contradiction | (exfalso; omega) | exact nomatch (Eq.trans (Eq.symm h) (by assumption) : true = false) | exact nomatch (Eq.trans (Eq.symm h) (by assumption) : false = true))))))
      (refine retK_of [] ?_; push_cast [eq_self, iff_self, IntWalk.iteOmega, IntWalk.toNatUp])
      all_goals simp [h1]
def linkL : List Bool := plusL commonL [64, 35, 61, 37]
theorem linkL_len : linkL.length = 256 := by rw [linkL, plusL_len, commonL_len]
/-- a component of a link -/
def linkP (s : ByteArray) : Bool := (decide (s ≠ ⟨#[]⟩) && !dotsS s) && hasL linkL s
/-- a link name -/
def linkS (s : ByteArray) : Bool := decide (s.size ≤ 256) && (parts s).all linkP
set_option maxRecDepth 20000 in
set_option maxHeartbeats 1000000 in
theorem lparts_pure : PCalls Tryd.prog 39 [] [] fun r os => r = .agg (linkL.map boolE) ∧ os = [] := by
  have hp := plus_pure commonL ⟨#[64, 35, 61, 37]⟩ commonL_len (by decide)
  simp only [List.toList_toArray] at hp
  have hl := linkL_len
  change PCalls _ _ _ _ fun r os => r = .agg (linkL.map boolE) ∧ os = [] at hp
  generalize linkL = cs at hp hl ⊢
  refine pcalls_of Tryd.func39 rfl (by simp [Tryd.ntmps39]) ?_
  rw [Tryd.ntmps39, Tryd.results39]
  push_cast [eq_self, iff_self, IntWalk.iteOmega, IntWalk.toNatUp]
  repeat' (first |  (refine pl_call2 false [] rfl rfl (by kernel_rfl) (common_pure) ?_ nofun ?_; push_cast [eq_self, iff_self, IntWalk.iteOmega, IntWalk.toNatUp]; rintro r os ⟨rfl, rfl⟩; refine pl_of_pops ?_; push_cast [eq_self, iff_self, IntWalk.iteOmega, IntWalk.toNatUp]) | (refine pl_call2 false [] rfl rfl (by kernel_rfl) (hp) ?_ nofun ?_; push_cast [eq_self, iff_self, IntWalk.iteOmega, IntWalk.toNatUp]; rintro r os ⟨rfl, rfl⟩; refine pl_of_pops ?_; push_cast [eq_self, iff_self, IntWalk.iteOmega, IntWalk.toNatUp])  | (refine Kont.use (by assumption) ?_) | (refine pwp_seq fun K hK => ?_) | (refine pwp_block ?_) | (refine pwp_scope ?_) | ((first | refine pwp_region ?_ | refine pwp_quiet (by kernel_rfl) (by kernel_rfl) ?_ | refine pwp_exit ?_ | refine pwp_ret ?_ | refine pwp_skip ?_); push_cast [eq_self, iff_self, IntWalk.iteOmega, IntWalk.toNatUp]) | (refine pwp_cond ?_; push_cast [eq_self, iff_self, IntWalk.iteOmega, IntWalk.toNatUp]; try (refine ⟨fun h => ?_, fun h => ?_⟩ <;> (try simp only [decide_eq_true_eq, decide_eq_false_iff_not, Bool.not_eq_true', Bool.not_eq_false', Int.not_lt, Int.not_le, Nat.not_lt, Nat.not_le] at h) <;> (try (first | contradiction | (exfalso; omega) | exact nomatch (Eq.trans (Eq.symm h) (by assumption) : true = false) | exact nomatch (Eq.trans (Eq.symm h) (by assumption) : false = true))))))
  (refine retK_of [] ?_; push_cast [eq_self, iff_self, IntWalk.iteOmega, IntWalk.toNatUp, hl])
def lbox : Ob := .box 63 (linkL.map boolE)
set_option maxRecDepth 20000 in
set_option maxHeartbeats 1000000 in
theorem linkF_pure (cs : List Bool) (hcs : cs.length = 256) (x : ByteArray) (hx : x.size ≤ 1000000) :
    PCalls Tryd.prog 42 [.c (.v (.string x)), .c (.ptr 0 0)] [.box 63 (cs.map boolE)] fun r os => r = .c (.v (.bool ((decide (x ≠ ⟨#[]⟩) && !dotsS x) && hasL cs x))) ∧ os = [.box 63 (cs.map boolE)] := by
  have hd := dots_pure x
  have hh := has_pure cs x hcs (by omega)
  obtain ⟨b, hb⟩ : ∃ b, dotsS x = b := ⟨_, rfl⟩
  obtain ⟨c, hc⟩ : ∃ c, hasL cs x = c := ⟨_, rfl⟩
  rw [hb] at hd ⊢
  rw [hc] at hh ⊢
  refine pcalls_of Tryd.func42 rfl (by simp [Tryd.ntmps42]) ?_
  rw [Tryd.ntmps42, Tryd.results42]
  by_cases h1 : x = ⟨#[]⟩
  · have e1 := eq_true h1
    push_cast [eq_self, iff_self, IntWalk.iteOmega, IntWalk.toNatUp]
    repeat' (first | (refine Kont.use (by assumption) ?_) | (refine pwp_seq fun K hK => ?_) | (refine pwp_block ?_) | (refine pwp_scope ?_) | ((first | refine pwp_region ?_ | refine pwp_quiet (by kernel_rfl) (by kernel_rfl) ?_ | refine pwp_exit ?_ | refine pwp_ret ?_ | refine pwp_skip ?_); push_cast [eq_self, iff_self, IntWalk.iteOmega, IntWalk.toNatUp, e1, ne_eq, not_true_eq_false]) | (refine pwp_cond ?_; push_cast [eq_self, iff_self, IntWalk.iteOmega, IntWalk.toNatUp, e1, ne_eq, not_true_eq_false]; try (refine ⟨fun h => ?_, fun h => ?_⟩ <;> (try simp only [decide_eq_true_eq, decide_eq_false_iff_not, Bool.not_eq_true', Bool.not_eq_false', Int.not_lt, Int.not_le, Nat.not_lt, Nat.not_le] at h) <;> (try (first | contradiction | (exfalso; omega) | exact nomatch (Eq.trans (Eq.symm h) (by assumption) : true = false) | exact nomatch (Eq.trans (Eq.symm h) (by assumption) : false = true))))))
    (refine retK_of [0] ?_; push_cast [eq_self, iff_self, IntWalk.iteOmega, IntWalk.toNatUp])
    all_goals simp [h1]
  · cases b
    · push_cast [eq_self, iff_self, IntWalk.iteOmega, IntWalk.toNatUp]
      repeat' (first | (refine pl_call2 false [] rfl rfl (by kernel_rfl) (hd) ?_ nofun ?_; push_cast [eq_self, iff_self, IntWalk.iteOmega, IntWalk.toNatUp, h1, ne_eq, not_false_eq_true, hcs]; rintro r os ⟨rfl, rfl⟩; refine pl_of_pops ?_; push_cast [eq_self, iff_self, IntWalk.iteOmega, IntWalk.toNatUp, h1, ne_eq, not_false_eq_true, hcs]) | (refine pl_call2 false [] rfl rfl (by kernel_rfl) (hh) ?_ nofun ?_; push_cast [eq_self, iff_self, IntWalk.iteOmega, IntWalk.toNatUp, h1, ne_eq, not_false_eq_true, hcs]; rintro r os ⟨rfl, rfl⟩; refine pl_of_pops ?_; push_cast [eq_self, iff_self, IntWalk.iteOmega, IntWalk.toNatUp, h1, ne_eq, not_false_eq_true, hcs]) | (refine Kont.use (by assumption) ?_) | (refine pwp_seq fun K hK => ?_) | (refine pwp_block ?_) | (refine pwp_scope ?_) | ((first | refine pwp_region ?_ | refine pwp_quiet (by kernel_rfl) (by kernel_rfl) ?_ | refine pwp_exit ?_ | refine pwp_ret ?_ | refine pwp_skip ?_); push_cast [eq_self, iff_self, IntWalk.iteOmega, IntWalk.toNatUp, h1, ne_eq, not_false_eq_true, hcs]) | (refine pwp_cond ?_; push_cast [eq_self, iff_self, IntWalk.iteOmega, IntWalk.toNatUp, h1, ne_eq, not_false_eq_true, hcs]; try (refine ⟨fun h => ?_, fun h => ?_⟩ <;> (try simp only [decide_eq_true_eq, decide_eq_false_iff_not, Bool.not_eq_true', Bool.not_eq_false', Int.not_lt, Int.not_le, Nat.not_lt, Nat.not_le] at h) <;> (try (first | contradiction | (exfalso; omega) | exact nomatch (Eq.trans (Eq.symm h) (by assumption) : true = false) | exact nomatch (Eq.trans (Eq.symm h) (by assumption) : false = true))))))
      (refine retK_of [0] ?_; push_cast [eq_self, iff_self, IntWalk.iteOmega, IntWalk.toNatUp])
      all_goals simp [h1]
    · push_cast [eq_self, iff_self, IntWalk.iteOmega, IntWalk.toNatUp]
      repeat' (first | (refine pl_call2 false [] rfl rfl (by kernel_rfl) (hd) ?_ nofun ?_; push_cast [eq_self, iff_self, IntWalk.iteOmega, IntWalk.toNatUp, h1, ne_eq, not_false_eq_true, hcs]; rintro r os ⟨rfl, rfl⟩; refine pl_of_pops ?_; push_cast [eq_self, iff_self, IntWalk.iteOmega, IntWalk.toNatUp, h1, ne_eq, not_false_eq_true, hcs]) | (refine Kont.use (by assumption) ?_) | (refine pwp_seq fun K hK => ?_) | (refine pwp_block ?_) | (refine pwp_scope ?_) | ((first | refine pwp_region ?_ | refine pwp_quiet (by kernel_rfl) (by kernel_rfl) ?_ | refine pwp_exit ?_ | refine pwp_ret ?_ | refine pwp_skip ?_); push_cast [eq_self, iff_self, IntWalk.iteOmega, IntWalk.toNatUp, h1, ne_eq, not_false_eq_true, hcs]) | (refine pwp_cond ?_; push_cast [eq_self, iff_self, IntWalk.iteOmega, IntWalk.toNatUp, h1, ne_eq, not_false_eq_true, hcs]; try (refine ⟨fun h => ?_, fun h => ?_⟩ <;> (try simp only [decide_eq_true_eq, decide_eq_false_iff_not, Bool.not_eq_true', Bool.not_eq_false', Int.not_lt, Int.not_le, Nat.not_lt, Nat.not_le] at h) <;> (try (first | contradiction | (exfalso; omega) | exact nomatch (Eq.trans (Eq.symm h) (by assumption) : true = false) | exact nomatch (Eq.trans (Eq.symm h) (by assumption) : false = true))))))
      (refine retK_of [0] ?_; push_cast [eq_self, iff_self, IntWalk.iteOmega, IntWalk.toNatUp])
      all_goals simp
set_option maxHeartbeats 1000000 in
theorem allL_pure (cs : List Bool) (hcs : cs.length = 256) (x : ByteArray) (hx : x.size ≤ 1000000) :
    PCalls Tryd.prog 64 [.c (.v (.string x)), .c (.ptr 1 0)] [.box 63 (cs.map boolE), .box 44 [.fn (.func 42) [] [0]]] fun r os => r = .c (.v (.bool (!((decide (x ≠ ⟨#[]⟩) && !dotsS x) && hasL cs x)))) ∧ os = [.box 63 (cs.map boolE), .box 44 [.fn (.func 42) [] [0]]] := by
  have hf := linkF_pure cs hcs x hx
  obtain ⟨b, hb⟩ : ∃ b, ((decide (x ≠ ⟨#[]⟩) && !dotsS x) && hasL cs x) = b := ⟨_, rfl⟩
  rw [hb] at hf ⊢
  refine pcalls_of Tryd.func64 rfl (by simp [Tryd.ntmps64]) ?_
  rw [Tryd.ntmps64, Tryd.results64]
  push_cast [eq_self, iff_self, IntWalk.iteOmega, IntWalk.toNatUp]
  repeat' (first |  (refine pl_call2 false [0] rfl rfl (by kernel_rfl) (hf) ?_ nofun ?_; push_cast [eq_self, iff_self, IntWalk.iteOmega, IntWalk.toNatUp]; rintro r os ⟨rfl, rfl⟩; refine pl_of_pops ?_; push_cast [eq_self, iff_self, IntWalk.iteOmega, IntWalk.toNatUp])  | (refine Kont.use (by assumption) ?_) | (refine pwp_seq fun K hK => ?_) | (refine pwp_block ?_) | (refine pwp_scope ?_) | ((first | refine pwp_region ?_ | refine pwp_quiet (by kernel_rfl) (by kernel_rfl) ?_ | refine pwp_exit ?_ | refine pwp_ret ?_ | refine pwp_skip ?_); push_cast [eq_self, iff_self, IntWalk.iteOmega, IntWalk.toNatUp]) | (refine pwp_cond ?_; push_cast [eq_self, iff_self, IntWalk.iteOmega, IntWalk.toNatUp]; try (refine ⟨fun h => ?_, fun h => ?_⟩ <;> (try simp only [decide_eq_true_eq, decide_eq_false_iff_not, Bool.not_eq_true', Bool.not_eq_false', Int.not_lt, Int.not_le, Nat.not_lt, Nat.not_le] at h) <;> (try (first | contradiction | (exfalso; omega) | exact nomatch (Eq.trans (Eq.symm h) (by assumption) : true = false) | exact nomatch (Eq.trans (Eq.symm h) (by assumption) : false = true))))))
  (refine retK_of [0, 1] ?_; push_cast [eq_self, iff_self, IntWalk.iteOmega, IntWalk.toNatUp])
set_option maxHeartbeats 1000000 in
theorem all2_pure (cs : List Bool) (hcs : cs.length = 256) (l : List ByteArray) (hl : l.length ≤ 1000000000) (hz : ∀ x ∈ l, x.size ≤ 1000000) :
    PCalls Tryd.prog 40 [.c (.sl 1 (l.map strD)), .c (.fn (.func 42) [] [0])] [.box 63 (cs.map boolE)] fun r os => r = .c (.v (.bool (l.all fun x => (decide (x ≠ ⟨#[]⟩) && !dotsS x) && hasL cs x))) ∧ os = [.box 63 (cs.map boolE)] := by
  have hc := containsFuncS_pure l hl 64 [1] [.box 63 (cs.map boolE), .box 44 [.fn (.func 42) [] [0]]] (fun x => !((decide (x ≠ ⟨#[]⟩) && !dotsS x) && hasL cs x)) ⟨by kernel_rfl, fun x hx => allL_pure cs hcs x (hz x hx)⟩
  have e : (!(l.any fun x => !((decide (x ≠ ⟨#[]⟩) && !dotsS x) && hasL cs x))) = l.all fun x => (decide (x ≠ ⟨#[]⟩) && !dotsS x) && hasL cs x := by rw [List.all_eq_not_any_not]
  obtain ⟨b, hb⟩ : ∃ b, (l.any fun x => !((decide (x ≠ ⟨#[]⟩) && !dotsS x) && hasL cs x)) = b := ⟨_, rfl⟩
  rw [hb] at hc e
  rw [← e]
  refine pcalls_of Tryd.func40 rfl (by simp [Tryd.ntmps40]) ?_
  rw [Tryd.ntmps40, Tryd.results40]
  push_cast [eq_self, iff_self, IntWalk.iteOmega, IntWalk.toNatUp]
  repeat' (first |  (refine pl_call2 false [0, 1] rfl rfl (by kernel_rfl) (hc) ?_ nofun ?_; push_cast [eq_self, iff_self, IntWalk.iteOmega, IntWalk.toNatUp]; rintro r os ⟨rfl, rfl⟩; refine pl_of_pops ?_; push_cast [eq_self, iff_self, IntWalk.iteOmega, IntWalk.toNatUp])  | (refine Kont.use (by assumption) ?_) | (refine pwp_seq fun K hK => ?_) | (refine pwp_block ?_) | (refine pwp_scope ?_) | ((first | refine pwp_region ?_ | refine pwp_quiet (by kernel_rfl) (by kernel_rfl) ?_ | refine pwp_exit ?_ | refine pwp_ret ?_ | refine pwp_skip ?_); push_cast [eq_self, iff_self, IntWalk.iteOmega, IntWalk.toNatUp]) | (refine pwp_cond ?_; push_cast [eq_self, iff_self, IntWalk.iteOmega, IntWalk.toNatUp]; try (refine ⟨fun h => ?_, fun h => ?_⟩ <;> (try simp only [decide_eq_true_eq, decide_eq_false_iff_not, Bool.not_eq_true', Bool.not_eq_false', Int.not_lt, Int.not_le, Nat.not_lt, Nat.not_le] at h) <;> (try (first | contradiction | (exfalso; omega) | exact nomatch (Eq.trans (Eq.symm h) (by assumption) : true = false) | exact nomatch (Eq.trans (Eq.symm h) (by assumption) : false = true))))))
  (refine retK_of [0] ?_; push_cast [eq_self, iff_self, IntWalk.iteOmega, IntWalk.toNatUp])
theorem part_size {s x : ByteArray} (h : x ∈ parts s) : x.size ≤ s.size := by
  have spl_mem : ∀ {l x : List UInt8}, x ∈ spl l → x.length ≤ l.length := by
    intro l
    induction l with
    | nil => intro x h; simp [spl] at h; subst h; simp
    | cons b l ih =>
      intro x h
      rw [spl] at h
      split at h
      · rcases List.mem_cons.1 h with rfl | h
        · simp
        · have := ih h; simp only [List.length_cons]; omega
      · split at h
        · rename_i e; simp at h; subst h; simp
        · rename_i y t e
          have hy : y ∈ spl l := by rw [e]; simp
          rcases List.mem_cons.1 h with rfl | h
          · have := ih hy; simp only [List.length_cons]; omega
          · have hx : x ∈ spl l := by rw [e]; simp [h]
            have := ih hx; simp only [List.length_cons]; omega
  unfold parts at h
  obtain ⟨y, hy, rfl⟩ := List.mem_map.1 h
  exact spl_mem hy
set_option maxRecDepth 20000 in
set_option maxHeartbeats 1000000 in
theorem link_pure (s : ByteArray) : PCalls Tryd.prog 18 [.c (.v (.string s))] [] fun r os => r = .c (.v (.bool (linkS s))) ∧ os = [] := by
  have hps := parts_size (s := s)
  have hpm := fun x hx => part_size (s := s) (x := x) hx
  have hlp := lparts_pure
  have hlen := linkL_len
  have e : linkS s = (decide (s.size ≤ 256) && (parts s).all fun x => (decide (x ≠ ⟨#[]⟩) && !dotsS x) && hasL linkL x) := rfl
  rw [e]
  generalize linkL = cs at hlp hlen ⊢
  refine pcalls_of Tryd.func18 rfl (by simp [Tryd.ntmps18]) ?_
  rw [Tryd.ntmps18, Tryd.results18]
  by_cases h1 : s.size ≤ 256
  · have h1' : (s.size : Int) ≤ 256 := by omega
    have hsp := split_pure s (by omega)
    obtain ⟨l, hl⟩ : ∃ l, parts s = l := ⟨_, rfl⟩
    rw [hl] at hps hsp ⊢
    simp only [hl] at hpm
    have hal := all2_pure cs hlen l (by omega) (fun x hx => by have := hpm x hx; omega)
    push_cast [eq_self, iff_self, IntWalk.iteOmega, IntWalk.toNatUp]
    repeat' (first | (refine pl_call2 false [] rfl rfl (by kernel_rfl) (hlp) ?_ nofun ?_; push_cast [eq_self, iff_self, IntWalk.iteOmega, IntWalk.toNatUp, h1', hlen]; rintro r os ⟨rfl, rfl⟩; refine pl_of_pops ?_; push_cast [eq_self, iff_self, IntWalk.iteOmega, IntWalk.toNatUp, h1', hlen]) | (refine pl_call2 false [] rfl rfl (by kernel_rfl) (hsp) ?_ nofun ?_; push_cast [eq_self, iff_self, IntWalk.iteOmega, IntWalk.toNatUp, h1', hlen]; rintro r os ⟨rfl, rfl⟩; refine pl_of_pops ?_; push_cast [eq_self, iff_self, IntWalk.iteOmega, IntWalk.toNatUp, h1', hlen]) | (refine pl_call2 true [0] rfl rfl (by kernel_rfl) (hal) ?_ ?_ ?_; push_cast [eq_self, iff_self, IntWalk.iteOmega, IntWalk.toNatUp, h1', hlen]; (intro _ r os; rintro ⟨rfl, rfl⟩; push_cast [eq_self, iff_self, IntWalk.iteOmega, IntWalk.toNatUp, h1', hlen]); rintro r os ⟨rfl, rfl⟩; refine pl_of_pops ?_; push_cast [eq_self, iff_self, IntWalk.iteOmega, IntWalk.toNatUp, h1', hlen]) | (refine Kont.use (by assumption) ?_) | (refine pwp_seq fun K hK => ?_) | (refine pwp_block ?_) | (refine pwp_scope ?_) | ((first | refine pwp_region ?_ | refine pwp_quiet (by kernel_rfl) (by kernel_rfl) ?_ | refine pwp_exit ?_ | refine pwp_ret ?_ | refine pwp_skip ?_); push_cast [eq_self, iff_self, IntWalk.iteOmega, IntWalk.toNatUp, h1', hlen]) | (refine pwp_cond ?_; push_cast [eq_self, iff_self, IntWalk.iteOmega, IntWalk.toNatUp, h1', hlen]; try (refine ⟨fun h => ?_, fun h => ?_⟩ <;> (try simp only [decide_eq_true_eq, decide_eq_false_iff_not, Bool.not_eq_true', Bool.not_eq_false', Int.not_lt, Int.not_le, Nat.not_lt, Nat.not_le] at h) <;> (try (first | contradiction | (exfalso; omega) | exact nomatch (Eq.trans (Eq.symm h) (by assumption) : true = false) | exact nomatch (Eq.trans (Eq.symm h) (by assumption) : false = true))))))
    (refine retK_of [] ?_; push_cast [eq_self, iff_self, IntWalk.iteOmega, IntWalk.toNatUp])
    all_goals simp [h1]
  · have h1' : ¬ (s.size : Int) ≤ 256 := by omega
    push_cast [eq_self, iff_self, IntWalk.iteOmega, IntWalk.toNatUp]
    repeat' (first | (refine pl_call2 false [] rfl rfl (by kernel_rfl) (hlp) ?_ nofun ?_; push_cast [eq_self, iff_self, IntWalk.iteOmega, IntWalk.toNatUp, h1', hlen]; rintro r os ⟨rfl, rfl⟩; refine pl_of_pops ?_; push_cast [eq_self, iff_self, IntWalk.iteOmega, IntWalk.toNatUp, h1', hlen]) | (refine Kont.use (by assumption) ?_) | (refine pwp_seq fun K hK => ?_) | (refine pwp_block ?_) | (refine pwp_scope ?_) | ((first | refine pwp_region ?_ | refine pwp_quiet (by kernel_rfl) (by kernel_rfl) ?_ | refine pwp_exit ?_ | refine pwp_ret ?_ | refine pwp_skip ?_); push_cast [eq_self, iff_self, IntWalk.iteOmega, IntWalk.toNatUp, h1', hlen]) | (refine pwp_cond ?_; push_cast [eq_self, iff_self, IntWalk.iteOmega, IntWalk.toNatUp, h1', hlen]; try (refine ⟨fun h => ?_, fun h => ?_⟩ <;> (try simp only [decide_eq_true_eq, decide_eq_false_iff_not, Bool.not_eq_true', Bool.not_eq_false', Int.not_lt, Int.not_le, Nat.not_lt, Nat.not_le] at h) <;> (try (first | contradiction | (exfalso; omega) | exact nomatch (Eq.trans (Eq.symm h) (by assumption) : true = false) | exact nomatch (Eq.trans (Eq.symm h) (by assumption) : false = true))))))
    (refine retK_of [] ?_; push_cast [eq_self, iff_self, IntWalk.iteOmega, IntWalk.toNatUp])
    all_goals simp [h1]
end Go.Proofs.YtfojijoekpkheaaDoor
