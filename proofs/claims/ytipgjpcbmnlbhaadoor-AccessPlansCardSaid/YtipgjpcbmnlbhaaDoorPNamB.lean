/- Paths: the program's walks. -/
import Derived.Test.YtipgjpcbmnlbhaaDoorPNam
import Derived.Test.YtipgjpcbmnlbhaaDoorPIdxT
namespace Go.Proofs.YtipgjpcbmnlbhaaDoor
attribute [local irreducible] PL QL PWP PCalls Weak RetK Kont PA
open Go.RowKit
set_option linter.unusedVariables false
set_option linter.unusedSimpArgs false
set_option maxHeartbeats 1000000 in
/-- name.all's own function: not kind -/
theorem allF_pure (x : ByteArray) (hx : x.size ≤ 9223372036854775807) :
    PCalls Tryd.prog 51 [.c (.v (.string x)), .c (.ptr 0 0)] [.box 74 [.fn (.func 41) [] []]] fun r os => r = .c (.v (.bool (!validS x))) ∧ os = [.box 74 [.fn (.func 41) [] []]] := by
  refine pcalls_of Tryd.func51 rfl (by simp [Tryd.ntmps51]) ?_
  rw [Tryd.ntmps51, Tryd.results51]
  push_cast [eq_self, iff_self, IntWalk.iteOmega, IntWalk.toNatUp]
  repeat' (first |  (refine pl_call2 false [] rfl rfl (by kernel_rfl) (valid_pure x hx) ?_ nofun ?_; push_cast [eq_self, iff_self, IntWalk.iteOmega, IntWalk.toNatUp]; rintro r os ⟨rfl, rfl⟩; refine pl_of_pops ?_; push_cast [eq_self, iff_self, IntWalk.iteOmega, IntWalk.toNatUp])  | (refine Kont.use (by assumption) ?_) | (refine pwp_seq fun K hK => ?_) | (refine pwp_block ?_) | (refine pwp_scope ?_) | ((first | refine pwp_region ?_ | refine pwp_quiet (by kernel_rfl) (by kernel_rfl) ?_ | refine pwp_exit ?_ | refine pwp_ret ?_ | refine pwp_skip ?_); push_cast [eq_self, iff_self, IntWalk.iteOmega, IntWalk.toNatUp]) | (refine pwp_cond ?_; push_cast [eq_self, iff_self, IntWalk.iteOmega, IntWalk.toNatUp]; try (refine ⟨fun h => ?_, fun h => ?_⟩ <;> (try simp only [decide_eq_true_eq, decide_eq_false_iff_not, Bool.not_eq_true', Bool.not_eq_false', Int.not_lt, Int.not_le, Nat.not_lt, Nat.not_le] at h) <;> (try (first | contradiction | (exfalso; omega) | exact nomatch (Eq.trans (Eq.symm h) (by assumption) : true = false) | exact nomatch (Eq.trans (Eq.symm h) (by assumption) : false = true))))))
  (refine retK_of [0] ?_; push_cast [eq_self, iff_self, IntWalk.iteOmega, IntWalk.toNatUp])
set_option maxHeartbeats 1000000 in
theorem all_pure (l : List ByteArray) (hl : l.length ≤ 1000000000) (hz : ∀ x ∈ l, x.size ≤ 9223372036854775807) :
    PCalls Tryd.prog 40 [.c (.sl 1 (l.map strD)), .c (.fn (.func 41) [] [])] [] fun r os => r = .c (.v (.bool (l.all validS))) ∧ os = [] := by
  have hc := containsFuncS_pure l hl 51 [0] [.box 74 [.fn (.func 41) [] []]] (fun x => !validS x) ⟨by kernel_rfl, fun x hx => allF_pure x (hz x hx)⟩
  have e : (!(l.any fun x => !validS x)) = l.all validS := by rw [List.all_eq_not_any_not]
  refine pcalls_of Tryd.func40 rfl (by simp [Tryd.ntmps40]) ?_
  rw [Tryd.ntmps40, Tryd.results40]
  push_cast [eq_self, iff_self, IntWalk.iteOmega, IntWalk.toNatUp]
  repeat' (first |  (refine pl_call2 false [0] rfl rfl (by kernel_rfl) (hc) ?_ nofun ?_; push_cast [eq_self, iff_self, IntWalk.iteOmega, IntWalk.toNatUp]; rintro r os ⟨rfl, rfl⟩; refine pl_of_pops ?_; push_cast [eq_self, iff_self, IntWalk.iteOmega, IntWalk.toNatUp])  | (refine Kont.use (by assumption) ?_) | (refine pwp_seq fun K hK => ?_) | (refine pwp_block ?_) | (refine pwp_scope ?_) | ((first | refine pwp_region ?_ | refine pwp_quiet (by kernel_rfl) (by kernel_rfl) ?_ | refine pwp_exit ?_ | refine pwp_ret ?_ | refine pwp_skip ?_); push_cast [eq_self, iff_self, IntWalk.iteOmega, IntWalk.toNatUp]) | (refine pwp_cond ?_; push_cast [eq_self, iff_self, IntWalk.iteOmega, IntWalk.toNatUp]; try (refine ⟨fun h => ?_, fun h => ?_⟩ <;> (try simp only [decide_eq_true_eq, decide_eq_false_iff_not, Bool.not_eq_true', Bool.not_eq_false', Int.not_lt, Int.not_le, Nat.not_lt, Nat.not_le] at h) <;> (try (first | contradiction | (exfalso; omega) | exact nomatch (Eq.trans (Eq.symm h) (by assumption) : true = false) | exact nomatch (Eq.trans (Eq.symm h) (by assumption) : false = true))))))
  (refine retK_of [] ?_; push_cast [eq_self, iff_self, IntWalk.iteOmega, IntWalk.toNatUp, e])
theorem extract_size (s : ByteArray) : (s.extract 1 s.size).size = s.size - 1 := by
  have h := congrArg List.length (Lib.extract_to_end s 1)
  rw [List.length_drop] at h
  exact h
theorem rest_size (s : ByteArray) : (restS s).size ≤ s.size := by
  unfold restS
  split
  · rw [extract_size]; omega
  · exact Nat.le_refl _
theorem spl_mem : ∀ {l x : List UInt8}, x ∈ spl l → x.length ≤ l.length
  | [], x, h => by simp [spl] at h; subst h; simp
  | b :: l, x, h => by
    rw [spl] at h
    split at h
    · rcases List.mem_cons.1 h with rfl | h
      · simp
      · have := spl_mem h; simp only [List.length_cons]; omega
    · split at h
      · rename_i e; simp at h; subst h; simp
      · rename_i y t e
        have hy : y ∈ spl l := by rw [e]; simp
        rcases List.mem_cons.1 h with rfl | h
        · have := spl_mem hy; simp only [List.length_cons]; omega
        · have hx : x ∈ spl l := by rw [e]; simp [h]
          have := spl_mem hx; simp only [List.length_cons]; omega
theorem parts_mem {s x : ByteArray} (h : x ∈ parts s) : x.size ≤ s.size := by
  unfold parts at h
  obtain ⟨y, hy, rfl⟩ := List.mem_map.1 h
  have := spl_mem hy
  exact this
/-- what name.Split returns -/
def splitR : Option (List ByteArray) → PV
  | some l => .two (.c (.sl 1 (l.map strD))) (.c (.v (.int .i64 0)))
  | none => .two (.c (.v (.slice none 0 0))) (.c (.v (.int .i64 10)))
attribute [push_cast] splitR
set_option maxHeartbeats 1000000 in
theorem nsplit_pure (s : ByteArray) (hs : s.size ≤ 100000000) :
    PCalls Tryd.prog 26 [.c (.v (.string s))] [] fun r os => r = splitR (splitP s) ∧ os = [] := by
  have hrs := rest_size s
  have hps := parts_size (s := restS s)
  have hsp := split_pure (restS s) (by omega)
  have hpm := fun x hx => parts_mem (s := restS s) (x := x) hx
  unfold splitP
  obtain ⟨l, hl⟩ : ∃ l, parts (restS s) = l := ⟨_, rfl⟩
  rw [hl] at hps hsp ⊢
  simp only [hl] at hpm
  have hal := all_pure l (by omega) (fun x hx => by have := hpm x hx; omega)
  have htk := List.take_of_length_le (l := l.map strD) (i := l.length) (by simp)
  refine pcalls_of Tryd.func26 rfl (by simp [Tryd.ntmps26]) ?_
  rw [Tryd.ntmps26, Tryd.results26]
  have hcp := cutp_pure s
  obtain ⟨b, hb⟩ : ∃ b, slashS s = b := ⟨_, rfl⟩
  obtain ⟨c, hc⟩ : ∃ c, l.all validS = c := ⟨_, rfl⟩
  rw [hb] at hcp ⊢
  rw [hc] at hal ⊢
  cases b <;> cases c
  all_goals push_cast [eq_self, iff_self, IntWalk.iteOmega, IntWalk.toNatUp]
  all_goals repeat' (first |  (refine pl_call2 false [] rfl rfl (by kernel_rfl) (hcp) ?_ nofun ?_; push_cast [eq_self, iff_self, IntWalk.iteOmega, IntWalk.toNatUp]; rintro r os ⟨rfl, rfl⟩; refine pl_of_pops ?_; push_cast [eq_self, iff_self, IntWalk.iteOmega, IntWalk.toNatUp]) | (refine pl_call2 false [] rfl rfl (by kernel_rfl) (hsp) ?_ nofun ?_; push_cast [eq_self, iff_self, IntWalk.iteOmega, IntWalk.toNatUp]; rintro r os ⟨rfl, rfl⟩; refine pl_of_pops ?_; push_cast [eq_self, iff_self, IntWalk.iteOmega, IntWalk.toNatUp]) | (refine pl_call2 true [] rfl rfl (by kernel_rfl) (hal) ?_ ?_ ?_; push_cast [eq_self, iff_self, IntWalk.iteOmega, IntWalk.toNatUp]; (intro _ r os; rintro ⟨rfl, rfl⟩; push_cast [eq_self, iff_self, IntWalk.iteOmega, IntWalk.toNatUp]); rintro r os ⟨rfl, rfl⟩; refine pl_of_pops ?_; push_cast [eq_self, iff_self, IntWalk.iteOmega, IntWalk.toNatUp])  | (refine Kont.use (by assumption) ?_) | (refine pwp_seq fun K hK => ?_) | (refine pwp_block ?_) | (refine pwp_scope ?_) | ((first | refine pwp_region ?_ | refine pwp_quiet (by kernel_rfl) (by kernel_rfl) ?_ | refine pwp_exit ?_ | refine pwp_ret ?_ | refine pwp_skip ?_); push_cast [eq_self, iff_self, IntWalk.iteOmega, IntWalk.toNatUp]) | (refine pwp_cond ?_; push_cast [eq_self, iff_self, IntWalk.iteOmega, IntWalk.toNatUp]; try (refine ⟨fun h => ?_, fun h => ?_⟩ <;> (try simp only [decide_eq_true_eq, decide_eq_false_iff_not, Bool.not_eq_true', Bool.not_eq_false', Int.not_lt, Int.not_le, Nat.not_lt, Nat.not_le] at h) <;> (try (first | contradiction | (exfalso; omega) | exact nomatch (Eq.trans (Eq.symm h) (by assumption) : true = false) | exact nomatch (Eq.trans (Eq.symm h) (by assumption) : false = true))))))
  all_goals (refine retK_of [] ?_; push_cast [eq_self, iff_self, IntWalk.iteOmega, IntWalk.toNatUp, htk, and_self, and_false, false_and, Bool.false_eq_true])
theorem isnan_pure (s : ByteArray) : PCalls Tryd.prog 80 [.c (.v (.string s))] [] fun r os => r = .c (.v (.bool false)) ∧ os = [] := by
  refine pcalls_of Tryd.func80 rfl (by simp [Tryd.ntmps80]) ?_
  rw [Tryd.ntmps80, Tryd.results80]
  push_cast [eq_self, iff_self, IntWalk.iteOmega, IntWalk.toNatUp]
  repeat' (first | (refine Kont.use (by assumption) ?_) | (refine pwp_seq fun K hK => ?_) | (refine pwp_block ?_) | (refine pwp_scope ?_) | ((first | refine pwp_region ?_ | refine pwp_quiet (by kernel_rfl) (by kernel_rfl) ?_ | refine pwp_exit ?_ | refine pwp_ret ?_ | refine pwp_skip ?_); push_cast [eq_self, iff_self, IntWalk.iteOmega, IntWalk.toNatUp, ne_eq, not_true_eq_false]) | (refine pwp_cond ?_; push_cast [eq_self, iff_self, IntWalk.iteOmega, IntWalk.toNatUp, ne_eq, not_true_eq_false]; try (refine ⟨fun h => ?_, fun h => ?_⟩ <;> (try simp only [decide_eq_true_eq, decide_eq_false_iff_not, Bool.not_eq_true', Bool.not_eq_false', Int.not_lt, Int.not_le, Nat.not_lt, Nat.not_le] at h) <;> (try (first | contradiction | (exfalso; omega) | exact nomatch (Eq.trans (Eq.symm h) (by assumption) : true = false) | exact nomatch (Eq.trans (Eq.symm h) (by assumption) : false = true))))))
  (refine retK_of [] ?_; push_cast [eq_self, iff_self, IntWalk.iteOmega, IntWalk.toNatUp])
theorem ccmp_pure (a b : ByteArray) : PCalls Tryd.prog 66 [.c (.v (.string a)), .c (.v (.string b))] [] fun r os => r = .c (.v (.int .i64 (cmpS a b))) ∧ os = [] := by
  refine pcalls_of Tryd.func66 rfl (by simp [Tryd.ntmps66]) ?_
  rw [Tryd.ntmps66, Tryd.results66]
  unfold cmpS
  obtain ⟨x, hx⟩ : ∃ x, bless a b = x := ⟨_, rfl⟩
  obtain ⟨y, hy⟩ : ∃ y, bless b a = y := ⟨_, rfl⟩
  rw [hx, hy]
  cases x <;> cases y
  all_goals push_cast [eq_self, iff_self, IntWalk.iteOmega, IntWalk.toNatUp]
  all_goals repeat' (first | (refine pl_call2 false [] rfl rfl (by kernel_rfl) (isnan_pure a) ?_ nofun ?_; push_cast [eq_self, iff_self, IntWalk.iteOmega, IntWalk.toNatUp, hx, hy]; rintro r os ⟨rfl, rfl⟩; refine pl_of_pops ?_; push_cast [eq_self, iff_self, IntWalk.iteOmega, IntWalk.toNatUp, hx, hy]) | (refine pl_call2 false [] rfl rfl (by kernel_rfl) (isnan_pure b) ?_ nofun ?_; push_cast [eq_self, iff_self, IntWalk.iteOmega, IntWalk.toNatUp, hx, hy]; rintro r os ⟨rfl, rfl⟩; refine pl_of_pops ?_; push_cast [eq_self, iff_self, IntWalk.iteOmega, IntWalk.toNatUp, hx, hy]) | (refine Kont.use (by assumption) ?_) | (refine pwp_seq fun K hK => ?_) | (refine pwp_block ?_) | (refine pwp_scope ?_) | ((first | refine pwp_region ?_ | refine pwp_quiet (by kernel_rfl) (by kernel_rfl) ?_ | refine pwp_exit ?_ | refine pwp_ret ?_ | refine pwp_skip ?_); push_cast [eq_self, iff_self, IntWalk.iteOmega, IntWalk.toNatUp, hx, hy]) | (refine pwp_cond ?_; push_cast [eq_self, iff_self, IntWalk.iteOmega, IntWalk.toNatUp, hx, hy]; try (refine ⟨fun h => ?_, fun h => ?_⟩ <;> (try simp only [decide_eq_true_eq, decide_eq_false_iff_not, Bool.not_eq_true', Bool.not_eq_false', Int.not_lt, Int.not_le, Nat.not_lt, Nat.not_le] at h) <;> (try (first | contradiction | (exfalso; omega) | exact nomatch (Eq.trans (Eq.symm h) (by assumption) : true = false) | exact nomatch (Eq.trans (Eq.symm h) (by assumption) : false = true))))))
  all_goals (refine retK_of [] ?_; push_cast [eq_self, iff_self, IntWalk.iteOmega, IntWalk.toNatUp])
theorem cmpL_at : ∀ {l m : List ByteArray} {k : Nat}, k ≤ l.length → k ≤ m.length → l.take k = m.take k → cmpL l m = cmpL (l.drop k) (m.drop k)
  | l, m, 0, _, _, _ => by simp
  | [], m, k + 1, h, _, _ => by simp at h
  | a :: l, [], k + 1, _, h, _ => by simp at h
  | a :: l, b :: m, k + 1, h1, h2, h3 => by
    simp only [List.take_succ_cons, List.cons.injEq] at h3
    obtain ⟨rfl, h3⟩ := h3
    rw [cmpL, if_pos rfl]
    simp only [List.drop_succ_cons]
    exact cmpL_at (by simpa using h1) (by simpa using h2) h3
theorem cmpL_step {l m : List ByteArray} {k : Nat} (h1 : k < l.length) (h2 : k < m.length) (h3 : l.take k = m.take k) : cmpL l m = if l.getD k default = m.getD k default then cmpL (l.drop (k + 1)) (m.drop (k + 1)) else cmpS (l.getD k default) (m.getD k default) := by
  rw [cmpL_at (by omega) (by omega) h3, List.drop_eq_getElem_cons h1, List.drop_eq_getElem_cons h2, cmpL, getD_lt l h1, getD_lt m h2]
set_option maxHeartbeats 1000000 in
theorem scompare_pure (l m : List ByteArray) (hl : l.length ≤ 1000000000) (hm : m.length ≤ 1000000000) :
    PCalls Tryd.prog 56 [.c (.sl 1 (l.map strD)), .c (.sl 1 (m.map strD))] [] fun r os => r = .c (.v (.int .i64 (cmpL l m))) ∧ os = [] := by
  refine pcalls_of Tryd.func56 rfl (by simp [Tryd.ntmps56]) ?_
  rw [Tryd.ntmps56, Tryd.results56]
  push_cast [eq_self, iff_self, IntWalk.iteOmega, IntWalk.toNatUp]
  repeat' (first | (refine Kont.use (by assumption) ?_) | (refine pwp_seq fun K hK => ?_) | (refine pwp_block ?_) | (refine pwp_scope ?_) | ((first | (refine pwp_cut 12 [] ?_; first | refine pwp_region ?_ | refine pwp_quiet (by kernel_rfl) (by kernel_rfl) ?_) | refine pwp_exit ?_ | refine pwp_ret ?_ | refine pwp_skip ?_); push_cast [eq_self, iff_self, IntWalk.iteOmega, IntWalk.toNatUp]) | (refine pwp_cond ?_; push_cast [eq_self, iff_self, IntWalk.iteOmega, IntWalk.toNatUp]; try (refine ⟨fun h => ?_, fun h => ?_⟩ <;> (try simp only [decide_eq_true_eq, decide_eq_false_iff_not, Bool.not_eq_true', Bool.not_eq_false', Int.not_lt, Int.not_le, Nat.not_lt, Nat.not_le] at h) <;> (try (first | contradiction | (exfalso; omega) | exact nomatch (Eq.trans (Eq.symm h) (by assumption) : true = false) | exact nomatch (Eq.trans (Eq.symm h) (by assumption) : false = true))))))
  (apply pwp_loop3 (α := Nat) 12 [] (fun k => [(11, .c (.v (.int .i64 k)))]) (fun k => []) (fun k => k ≤ l.length ∧ k ≤ m.length ∧ l.take k = m.take k) (fun k => l.length - k) (0); (focus ((try push_cast [eq_self, iff_self, IntWalk.iteOmega, IntWalk.toNatUp]); rfl)); (focus exact ⟨by omega, by omega, rfl⟩); (focus ((refine weak_fg ?_; try push_cast [eq_self, iff_self, IntWalk.iteOmega, IntWalk.toNatUp]))))
  rintro k ⟨hk, hk2, he⟩
  push_cast [eq_self, iff_self, IntWalk.iteOmega, IntWalk.toNatUp]
  by_cases h1 : k < l.length
  · by_cases h2 : k < m.length
    · have hst := cmpL_step h1 h2 he
      by_cases e : l.getD k default = m.getD k default
      · have hc : cmpS (l.getD k default) (m.getD k default) = 0 := cmpS_eq.2 e
        repeat' (first | (refine pl_call2 false [] rfl rfl (by kernel_rfl) (ccmp_pure (l.getD k default) (m.getD k default)) ?_ nofun ?_; push_cast [eq_self, iff_self, IntWalk.iteOmega, IntWalk.toNatUp, hc]; rintro r os ⟨rfl, rfl⟩; refine pl_of_pops ?_; push_cast [eq_self, iff_self, IntWalk.iteOmega, IntWalk.toNatUp, hc]) | (refine Kont.use (by assumption) ?_) | (refine pwp_seq fun K hK => ?_) | (refine pwp_block ?_) | (refine pwp_scope ?_) | ((first | (refine pwp_cut 12 [] ?_; first | refine pwp_region ?_ | refine pwp_quiet (by kernel_rfl) (by kernel_rfl) ?_) | refine pwp_exit ?_ | refine pwp_ret ?_ | refine pwp_skip ?_); push_cast [eq_self, iff_self, IntWalk.iteOmega, IntWalk.toNatUp, hc]) | (refine pwp_cond ?_; push_cast [eq_self, iff_self, IntWalk.iteOmega, IntWalk.toNatUp, hc]; try (refine ⟨fun h => ?_, fun h => ?_⟩ <;> (try simp only [decide_eq_true_eq, decide_eq_false_iff_not, Bool.not_eq_true', Bool.not_eq_false', Int.not_lt, Int.not_le, Nat.not_lt, Nat.not_le] at h) <;> (try (first | contradiction | (exfalso; omega) | exact nomatch (Eq.trans (Eq.symm h) (by assumption) : true = false) | exact nomatch (Eq.trans (Eq.symm h) (by assumption) : false = true))))))
        refine ⟨k + 1, ⟨by omega, by omega, ?_⟩, by (refine weak_fg ?_; push_cast [eq_self, iff_self, IntWalk.iteOmega, IntWalk.toNatUp]), by omega⟩
        rw [List.take_succ_eq_append_getElem h1, List.take_succ_eq_append_getElem h2, he, ← getD_lt l h1, ← getD_lt m h2, e]
      · have hc : ¬ cmpS (l.getD k default) (m.getD k default) = 0 := fun h => e (cmpS_eq.1 h)
        rw [if_neg e] at hst
        repeat' (first | (refine pl_call2 false [] rfl rfl (by kernel_rfl) (ccmp_pure (l.getD k default) (m.getD k default)) ?_ nofun ?_; push_cast [eq_self, iff_self, IntWalk.iteOmega, IntWalk.toNatUp, hc]; rintro r os ⟨rfl, rfl⟩; refine pl_of_pops ?_; push_cast [eq_self, iff_self, IntWalk.iteOmega, IntWalk.toNatUp, hc]) | (refine Kont.use (by assumption) ?_) | (refine pwp_seq fun K hK => ?_) | (refine pwp_block ?_) | (refine pwp_scope ?_) | ((first | (refine pwp_cut 12 [] ?_; first | refine pwp_region ?_ | refine pwp_quiet (by kernel_rfl) (by kernel_rfl) ?_) | refine pwp_exit ?_ | refine pwp_ret ?_ | refine pwp_skip ?_); push_cast [eq_self, iff_self, IntWalk.iteOmega, IntWalk.toNatUp, hc]) | (refine pwp_cond ?_; push_cast [eq_self, iff_self, IntWalk.iteOmega, IntWalk.toNatUp, hc]; try (refine ⟨fun h => ?_, fun h => ?_⟩ <;> (try simp only [decide_eq_true_eq, decide_eq_false_iff_not, Bool.not_eq_true', Bool.not_eq_false', Int.not_lt, Int.not_le, Nat.not_lt, Nat.not_le] at h) <;> (try (first | contradiction | (exfalso; omega) | exact nomatch (Eq.trans (Eq.symm h) (by assumption) : true = false) | exact nomatch (Eq.trans (Eq.symm h) (by assumption) : false = true))))))
        (refine retK_of [] ?_; push_cast [eq_self, iff_self, IntWalk.iteOmega, IntWalk.toNatUp])
        rw [hst]
    · have hke : k = m.length := by omega
      have hcl : cmpL l m = 1 := by
        have hz : m.drop k = [] := List.drop_eq_nil_of_le (by omega)
        rw [cmpL_at (by omega) (by omega) he, hz, List.drop_eq_getElem_cons h1]; rfl
      repeat' (first | (refine Kont.use (by assumption) ?_) | (refine pwp_seq fun K hK => ?_) | (refine pwp_block ?_) | (refine pwp_scope ?_) | ((first | (refine pwp_cut 12 [] ?_; first | refine pwp_region ?_ | refine pwp_quiet (by kernel_rfl) (by kernel_rfl) ?_) | refine pwp_exit ?_ | refine pwp_ret ?_ | refine pwp_skip ?_); push_cast [eq_self, iff_self, IntWalk.iteOmega, IntWalk.toNatUp]) | (refine pwp_cond ?_; push_cast [eq_self, iff_self, IntWalk.iteOmega, IntWalk.toNatUp]; try (refine ⟨fun h => ?_, fun h => ?_⟩ <;> (try simp only [decide_eq_true_eq, decide_eq_false_iff_not, Bool.not_eq_true', Bool.not_eq_false', Int.not_lt, Int.not_le, Nat.not_lt, Nat.not_le] at h) <;> (try (first | contradiction | (exfalso; omega) | exact nomatch (Eq.trans (Eq.symm h) (by assumption) : true = false) | exact nomatch (Eq.trans (Eq.symm h) (by assumption) : false = true))))))
      (refine retK_of [] ?_; push_cast [eq_self, iff_self, IntWalk.iteOmega, IntWalk.toNatUp])
      rw [hcl]
  · have hke : k = l.length := by omega
    by_cases h2 : k < m.length
    · have hcl : cmpL l m = -1 := by
        have hz : l.drop k = [] := List.drop_eq_nil_of_le (by omega)
        rw [cmpL_at (by omega) (by omega) he, hz, List.drop_eq_getElem_cons h2]; rfl
      repeat' (first | (refine Kont.use (by assumption) ?_) | (refine pwp_seq fun K hK => ?_) | (refine pwp_block ?_) | (refine pwp_scope ?_) | ((first | (refine pwp_cut 12 [] ?_; first | refine pwp_region ?_ | refine pwp_quiet (by kernel_rfl) (by kernel_rfl) ?_) | refine pwp_exit ?_ | refine pwp_ret ?_ | refine pwp_skip ?_); push_cast [eq_self, iff_self, IntWalk.iteOmega, IntWalk.toNatUp]) | (refine pwp_cond ?_; push_cast [eq_self, iff_self, IntWalk.iteOmega, IntWalk.toNatUp]; try (refine ⟨fun h => ?_, fun h => ?_⟩ <;> (try simp only [decide_eq_true_eq, decide_eq_false_iff_not, Bool.not_eq_true', Bool.not_eq_false', Int.not_lt, Int.not_le, Nat.not_lt, Nat.not_le] at h) <;> (try (first | contradiction | (exfalso; omega) | exact nomatch (Eq.trans (Eq.symm h) (by assumption) : true = false) | exact nomatch (Eq.trans (Eq.symm h) (by assumption) : false = true))))))
      (refine retK_of [] ?_; push_cast [eq_self, iff_self, IntWalk.iteOmega, IntWalk.toNatUp])
      rw [hcl]
    · have hcl : cmpL l m = 0 := by
        rw [cmpL_at (by omega) (by omega) he, List.drop_eq_nil_of_le (by omega), List.drop_eq_nil_of_le (by omega)]; rfl
      repeat' (first | (refine Kont.use (by assumption) ?_) | (refine pwp_seq fun K hK => ?_) | (refine pwp_block ?_) | (refine pwp_scope ?_) | ((first | (refine pwp_cut 12 [] ?_; first | refine pwp_region ?_ | refine pwp_quiet (by kernel_rfl) (by kernel_rfl) ?_) | refine pwp_exit ?_ | refine pwp_ret ?_ | refine pwp_skip ?_); push_cast [eq_self, iff_self, IntWalk.iteOmega, IntWalk.toNatUp]) | (refine pwp_cond ?_; push_cast [eq_self, iff_self, IntWalk.iteOmega, IntWalk.toNatUp]; try (refine ⟨fun h => ?_, fun h => ?_⟩ <;> (try simp only [decide_eq_true_eq, decide_eq_false_iff_not, Bool.not_eq_true', Bool.not_eq_false', Int.not_lt, Int.not_le, Nat.not_lt, Nat.not_le] at h) <;> (try (first | contradiction | (exfalso; omega) | exact nomatch (Eq.trans (Eq.symm h) (by assumption) : true = false) | exact nomatch (Eq.trans (Eq.symm h) (by assumption) : false = true))))))
      (refine retK_of [] ?_; push_cast [eq_self, iff_self, IntWalk.iteOmega, IntWalk.toNatUp])
      rw [hcl]
/-- what name.Compare returns -/
def cmpR (a b : ByteArray) : PV := match splitP a, splitP b with
  | some l, some m => .two (.c (.v (.int .i64 (cmpL l m)))) (.c (.v (.int .i64 0)))
  | _, _ => .two (.c (.v (.int .i64 0))) (.c (.v (.int .i64 10)))
theorem splitP_size {s : ByteArray} {l : List ByteArray} (h : splitP s = some l) : l.length ≤ s.size + 1 := by
  unfold splitP at h
  split at h
  · cases h; have := rest_size s; have := parts_size (s := restS s); omega
  · cases h
set_option maxHeartbeats 1000000 in
theorem ncompare_pure (a b : ByteArray) (ha : a.size ≤ 100000000) (hb : b.size ≤ 100000000) :
    PCalls Tryd.prog 42 [.c (.v (.string a)), .c (.v (.string b))] [] fun r os => r = cmpR a b ∧ os = [] := by
  have h1 := nsplit_pure a ha
  have h2 := nsplit_pure b hb
  unfold cmpR
  refine pcalls_of Tryd.func42 rfl (by simp [Tryd.ntmps42]) ?_
  rw [Tryd.ntmps42, Tryd.results42]
  cases e1 : splitP a with
  | none =>
    rw [e1] at h1
    cases e2 : splitP b with
    | none =>
      rw [e2] at h2
      push_cast [eq_self, iff_self, IntWalk.iteOmega, IntWalk.toNatUp]
      repeat' (first |  (refine pl_call2 false [] rfl rfl (by kernel_rfl) (h1) ?_ nofun ?_; push_cast [eq_self, iff_self, IntWalk.iteOmega, IntWalk.toNatUp]; rintro r os ⟨rfl, rfl⟩; refine pl_of_pops ?_; push_cast [eq_self, iff_self, IntWalk.iteOmega, IntWalk.toNatUp]) | (refine pl_call2 false [] rfl rfl (by kernel_rfl) (h2) ?_ nofun ?_; push_cast [eq_self, iff_self, IntWalk.iteOmega, IntWalk.toNatUp]; rintro r os ⟨rfl, rfl⟩; refine pl_of_pops ?_; push_cast [eq_self, iff_self, IntWalk.iteOmega, IntWalk.toNatUp])  | (refine Kont.use (by assumption) ?_) | (refine pwp_seq fun K hK => ?_) | (refine pwp_block ?_) | (refine pwp_scope ?_) | ((first | refine pwp_region ?_ | refine pwp_quiet (by kernel_rfl) (by kernel_rfl) ?_ | refine pwp_exit ?_ | refine pwp_ret ?_ | refine pwp_skip ?_); push_cast [eq_self, iff_self, IntWalk.iteOmega, IntWalk.toNatUp]) | (refine pwp_cond ?_; push_cast [eq_self, iff_self, IntWalk.iteOmega, IntWalk.toNatUp]; try (refine ⟨fun h => ?_, fun h => ?_⟩ <;> (try simp only [decide_eq_true_eq, decide_eq_false_iff_not, Bool.not_eq_true', Bool.not_eq_false', Int.not_lt, Int.not_le, Nat.not_lt, Nat.not_le] at h) <;> (try (first | contradiction | (exfalso; omega) | exact nomatch (Eq.trans (Eq.symm h) (by assumption) : true = false) | exact nomatch (Eq.trans (Eq.symm h) (by assumption) : false = true))))))
      (refine retK_of [] ?_; push_cast [eq_self, iff_self, IntWalk.iteOmega, IntWalk.toNatUp])
    | some m =>
      rw [e2] at h2
      push_cast [eq_self, iff_self, IntWalk.iteOmega, IntWalk.toNatUp]
      repeat' (first |  (refine pl_call2 false [] rfl rfl (by kernel_rfl) (h1) ?_ nofun ?_; push_cast [eq_self, iff_self, IntWalk.iteOmega, IntWalk.toNatUp]; rintro r os ⟨rfl, rfl⟩; refine pl_of_pops ?_; push_cast [eq_self, iff_self, IntWalk.iteOmega, IntWalk.toNatUp]) | (refine pl_call2 false [] rfl rfl (by kernel_rfl) (h2) ?_ nofun ?_; push_cast [eq_self, iff_self, IntWalk.iteOmega, IntWalk.toNatUp]; rintro r os ⟨rfl, rfl⟩; refine pl_of_pops ?_; push_cast [eq_self, iff_self, IntWalk.iteOmega, IntWalk.toNatUp])  | (refine Kont.use (by assumption) ?_) | (refine pwp_seq fun K hK => ?_) | (refine pwp_block ?_) | (refine pwp_scope ?_) | ((first | refine pwp_region ?_ | refine pwp_quiet (by kernel_rfl) (by kernel_rfl) ?_ | refine pwp_exit ?_ | refine pwp_ret ?_ | refine pwp_skip ?_); push_cast [eq_self, iff_self, IntWalk.iteOmega, IntWalk.toNatUp]) | (refine pwp_cond ?_; push_cast [eq_self, iff_self, IntWalk.iteOmega, IntWalk.toNatUp]; try (refine ⟨fun h => ?_, fun h => ?_⟩ <;> (try simp only [decide_eq_true_eq, decide_eq_false_iff_not, Bool.not_eq_true', Bool.not_eq_false', Int.not_lt, Int.not_le, Nat.not_lt, Nat.not_le] at h) <;> (try (first | contradiction | (exfalso; omega) | exact nomatch (Eq.trans (Eq.symm h) (by assumption) : true = false) | exact nomatch (Eq.trans (Eq.symm h) (by assumption) : false = true))))))
      (refine retK_of [] ?_; push_cast [eq_self, iff_self, IntWalk.iteOmega, IntWalk.toNatUp])
  | some l =>
    rw [e1] at h1
    cases e2 : splitP b with
    | none =>
      rw [e2] at h2
      push_cast [eq_self, iff_self, IntWalk.iteOmega, IntWalk.toNatUp]
      repeat' (first |  (refine pl_call2 false [] rfl rfl (by kernel_rfl) (h1) ?_ nofun ?_; push_cast [eq_self, iff_self, IntWalk.iteOmega, IntWalk.toNatUp]; rintro r os ⟨rfl, rfl⟩; refine pl_of_pops ?_; push_cast [eq_self, iff_self, IntWalk.iteOmega, IntWalk.toNatUp]) | (refine pl_call2 false [] rfl rfl (by kernel_rfl) (h2) ?_ nofun ?_; push_cast [eq_self, iff_self, IntWalk.iteOmega, IntWalk.toNatUp]; rintro r os ⟨rfl, rfl⟩; refine pl_of_pops ?_; push_cast [eq_self, iff_self, IntWalk.iteOmega, IntWalk.toNatUp])  | (refine Kont.use (by assumption) ?_) | (refine pwp_seq fun K hK => ?_) | (refine pwp_block ?_) | (refine pwp_scope ?_) | ((first | refine pwp_region ?_ | refine pwp_quiet (by kernel_rfl) (by kernel_rfl) ?_ | refine pwp_exit ?_ | refine pwp_ret ?_ | refine pwp_skip ?_); push_cast [eq_self, iff_self, IntWalk.iteOmega, IntWalk.toNatUp]) | (refine pwp_cond ?_; push_cast [eq_self, iff_self, IntWalk.iteOmega, IntWalk.toNatUp]; try (refine ⟨fun h => ?_, fun h => ?_⟩ <;> (try simp only [decide_eq_true_eq, decide_eq_false_iff_not, Bool.not_eq_true', Bool.not_eq_false', Int.not_lt, Int.not_le, Nat.not_lt, Nat.not_le] at h) <;> (try (first | contradiction | (exfalso; omega) | exact nomatch (Eq.trans (Eq.symm h) (by assumption) : true = false) | exact nomatch (Eq.trans (Eq.symm h) (by assumption) : false = true))))))
      (refine retK_of [] ?_; push_cast [eq_self, iff_self, IntWalk.iteOmega, IntWalk.toNatUp])
    | some m =>
      rw [e2] at h2
      have := splitP_size e1
      have := splitP_size e2
      push_cast [eq_self, iff_self, IntWalk.iteOmega, IntWalk.toNatUp]
      repeat' (first |  (refine pl_call2 false [] rfl rfl (by kernel_rfl) (h1) ?_ nofun ?_; push_cast [eq_self, iff_self, IntWalk.iteOmega, IntWalk.toNatUp]; rintro r os ⟨rfl, rfl⟩; refine pl_of_pops ?_; push_cast [eq_self, iff_self, IntWalk.iteOmega, IntWalk.toNatUp]) | (refine pl_call2 false [] rfl rfl (by kernel_rfl) (h2) ?_ nofun ?_; push_cast [eq_self, iff_self, IntWalk.iteOmega, IntWalk.toNatUp]; rintro r os ⟨rfl, rfl⟩; refine pl_of_pops ?_; push_cast [eq_self, iff_self, IntWalk.iteOmega, IntWalk.toNatUp]) | (refine pl_call2 false [] rfl rfl (by kernel_rfl) (scompare_pure l m (by omega) (by omega)) ?_ nofun ?_; push_cast [eq_self, iff_self, IntWalk.iteOmega, IntWalk.toNatUp]; rintro r os ⟨rfl, rfl⟩; refine pl_of_pops ?_; push_cast [eq_self, iff_self, IntWalk.iteOmega, IntWalk.toNatUp])  | (refine Kont.use (by assumption) ?_) | (refine pwp_seq fun K hK => ?_) | (refine pwp_block ?_) | (refine pwp_scope ?_) | ((first | refine pwp_region ?_ | refine pwp_quiet (by kernel_rfl) (by kernel_rfl) ?_ | refine pwp_exit ?_ | refine pwp_ret ?_ | refine pwp_skip ?_); push_cast [eq_self, iff_self, IntWalk.iteOmega, IntWalk.toNatUp]) | (refine pwp_cond ?_; push_cast [eq_self, iff_self, IntWalk.iteOmega, IntWalk.toNatUp]; try (refine ⟨fun h => ?_, fun h => ?_⟩ <;> (try simp only [decide_eq_true_eq, decide_eq_false_iff_not, Bool.not_eq_true', Bool.not_eq_false', Int.not_lt, Int.not_le, Nat.not_lt, Nat.not_le] at h) <;> (try (first | contradiction | (exfalso; omega) | exact nomatch (Eq.trans (Eq.symm h) (by assumption) : true = false) | exact nomatch (Eq.trans (Eq.symm h) (by assumption) : false = true))))))
      (refine retK_of [] ?_; push_cast [eq_self, iff_self, IntWalk.iteOmega, IntWalk.toNatUp])
end Go.Proofs.YtipgjpcbmnlbhaaDoor
