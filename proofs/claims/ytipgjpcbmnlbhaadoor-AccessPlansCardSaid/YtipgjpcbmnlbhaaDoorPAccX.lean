/- Accesses: the order, searching. -/
import Derived.Test.YtipgjpcbmnlbhaaDoorPAccW
import Derived.Test.YtipgjpcbmnlbhaaDoorPLibA
namespace Go.Proofs.YtipgjpcbmnlbhaaDoor
attribute [local irreducible] PL QL PWP PCalls Weak RetK Kont PA
open Go.RowKit
set_option linter.unusedVariables false
set_option linter.unusedSimpArgs false
theorem cmpR_eq (a b : ByteArray) : ∃ e : Int, cmpR a b = .two (.c (.v (.int .i64 (cmpP a b)))) (.c (.v (.int .i64 e))) := by
  unfold cmpR cmpP
  cases splitP a <;> cases splitP b <;> exact ⟨_, rfl⟩
theorem compare_pure (a b : Acc) (ha : a.path.size ≤ 100000000) (hb : b.path.size ≤ 100000000) :
    PCalls Tryd.prog 28 [.agg a.e, .agg b.e] [] fun r os => r = .c (.v (.int .i64 (cmpP a.path b.path))) ∧ os = [] := by
  have h := ncompare_pure a.path b.path ha hb
  obtain ⟨e, he⟩ := cmpR_eq a.path b.path
  rw [he] at h
  refine pcalls_of Tryd.func28 rfl (by simp [Tryd.ntmps28]) ?_
  rw [Tryd.ntmps28, Tryd.results28]
  push_cast [eq_self, iff_self, IntWalk.iteOmega, IntWalk.toNatUp]
  repeat' (first |  (refine pl_call2 false [] rfl rfl (by kernel_rfl) (h) ?_ nofun ?_; push_cast [eq_self, iff_self, IntWalk.iteOmega, IntWalk.toNatUp]; rintro r os ⟨rfl, rfl⟩; refine pl_of_pops ?_; push_cast [eq_self, iff_self, IntWalk.iteOmega, IntWalk.toNatUp])  | (refine Kont.use (by assumption) ?_) | (refine pwp_seq fun K hK => ?_) | (refine pwp_block ?_) | (refine pwp_scope ?_) | ((first | refine pwp_region ?_ | refine pwp_quiet (by kernel_rfl) (by kernel_rfl) ?_ | refine pwp_exit ?_ | refine pwp_ret ?_ | refine pwp_skip ?_); push_cast [eq_self, iff_self, IntWalk.iteOmega, IntWalk.toNatUp]) | (refine pwp_cond ?_; push_cast [eq_self, iff_self, IntWalk.iteOmega, IntWalk.toNatUp]; try (refine ⟨fun h => ?_, fun h => ?_⟩ <;> (try simp only [decide_eq_true_eq, decide_eq_false_iff_not, Bool.not_eq_true', Bool.not_eq_false', Int.not_lt, Int.not_le, Nat.not_lt, Nat.not_le] at h) <;> (try (first | contradiction | (exfalso; omega) | exact nomatch (Eq.trans (Eq.symm h) (by assumption) : true = false) | exact nomatch (Eq.trans (Eq.symm h) (by assumption) : false = true))))))
  (refine retK_of [] ?_; push_cast [eq_self, iff_self, IntWalk.iteOmega, IntWalk.toNatUp])
def clashA (x y : Acc) : Bool := decide (y.path = x.path) || decide (y.node = x.node)
theorem applyF_pure (x y : Acc) :
    PCalls Tryd.prog 25 [.agg y.e, .c (.ptr 0 0)] [.box 31 x.e] fun r os => r = .c (.v (.bool (clashA x y))) ∧ os = [.box 31 x.e] := by
  unfold clashA
  refine pcalls_of Tryd.func25 rfl (by simp [Tryd.ntmps25]) ?_
  rw [Tryd.ntmps25, Tryd.results25]
  by_cases h1 : y.path = x.path
  · have e1 := eq_true h1
    push_cast [eq_self, iff_self, IntWalk.iteOmega, IntWalk.toNatUp]
    repeat' (first | (refine Kont.use (by assumption) ?_) | (refine pwp_seq fun K hK => ?_) | (refine pwp_block ?_) | (refine pwp_scope ?_) | ((first | refine pwp_region ?_ | refine pwp_quiet (by kernel_rfl) (by kernel_rfl) ?_ | refine pwp_exit ?_ | refine pwp_ret ?_ | refine pwp_skip ?_); push_cast [eq_self, iff_self, IntWalk.iteOmega, IntWalk.toNatUp, e1]) | (refine pwp_cond ?_; push_cast [eq_self, iff_self, IntWalk.iteOmega, IntWalk.toNatUp, e1]; try (refine ⟨fun h => ?_, fun h => ?_⟩ <;> (try simp only [decide_eq_true_eq, decide_eq_false_iff_not, Bool.not_eq_true', Bool.not_eq_false', Int.not_lt, Int.not_le, Nat.not_lt, Nat.not_le] at h) <;> (try (first | contradiction | (exfalso; omega) | exact nomatch (Eq.trans (Eq.symm h) (by assumption) : true = false) | exact nomatch (Eq.trans (Eq.symm h) (by assumption) : false = true))))))
    (refine retK_of [0] ?_; push_cast [eq_self, iff_self, IntWalk.iteOmega, IntWalk.toNatUp])
  · push_cast [eq_self, iff_self, IntWalk.iteOmega, IntWalk.toNatUp]
    repeat' (first | (refine Kont.use (by assumption) ?_) | (refine pwp_seq fun K hK => ?_) | (refine pwp_block ?_) | (refine pwp_scope ?_) | ((first | refine pwp_region ?_ | refine pwp_quiet (by kernel_rfl) (by kernel_rfl) ?_ | refine pwp_exit ?_ | refine pwp_ret ?_ | refine pwp_skip ?_); push_cast [eq_self, iff_self, IntWalk.iteOmega, IntWalk.toNatUp, h1]) | (refine pwp_cond ?_; push_cast [eq_self, iff_self, IntWalk.iteOmega, IntWalk.toNatUp, h1]; try (refine ⟨fun h => ?_, fun h => ?_⟩ <;> (try simp only [decide_eq_true_eq, decide_eq_false_iff_not, Bool.not_eq_true', Bool.not_eq_false', Int.not_lt, Int.not_le, Nat.not_lt, Nat.not_le] at h) <;> (try (first | contradiction | (exfalso; omega) | exact nomatch (Eq.trans (Eq.symm h) (by assumption) : true = false) | exact nomatch (Eq.trans (Eq.symm h) (by assumption) : false = true))))))
    (refine retK_of [0] ?_; push_cast [eq_self, iff_self, IntWalk.iteOmega, IntWalk.toNatUp])
set_option maxHeartbeats 1000000 in
theorem aindex_pure (l : List Acc) (x : Acc) (hl : l.length ≤ 1000000000) :
    PCalls Tryd.prog 21 [.c (.sl 3 (l.map Acc.d)), .agg x.e] [] fun r os => ∃ k, idxA (fun y => decide (y = x)) l k ∧ r = .c (.v (.int .i64 k)) ∧ os = [] := by
  refine pcalls_of Tryd.func21 rfl (by simp [Tryd.ntmps21]) ?_
  rw [Tryd.ntmps21, Tryd.results21]
  push_cast [eq_self, iff_self, IntWalk.iteOmega, IntWalk.toNatUp]
  repeat' (first | (refine Kont.use (by assumption) ?_) | (refine pwp_seq fun K hK => ?_) | (refine pwp_block ?_) | (refine pwp_scope ?_) | ((first | (refine pwp_cut 9 [] ?_; first | refine pwp_region ?_ | refine pwp_quiet (by kernel_rfl) (by kernel_rfl) ?_) | refine pwp_exit ?_ | refine pwp_ret ?_ | refine pwp_skip ?_); push_cast [eq_self, iff_self, IntWalk.iteOmega, IntWalk.toNatUp]) | (refine pwp_cond ?_; push_cast [eq_self, iff_self, IntWalk.iteOmega, IntWalk.toNatUp]; try (refine ⟨fun h => ?_, fun h => ?_⟩ <;> (try simp only [decide_eq_true_eq, decide_eq_false_iff_not, Bool.not_eq_true', Bool.not_eq_false', Int.not_lt, Int.not_le, Nat.not_lt, Nat.not_le] at h) <;> (try (first | contradiction | (exfalso; omega) | exact nomatch (Eq.trans (Eq.symm h) (by assumption) : true = false) | exact nomatch (Eq.trans (Eq.symm h) (by assumption) : false = true))))))
  (apply pwp_loop3 (α := Nat) 9 [] (fun k => [(8, .c (.v (.int .i64 k)))]) (fun k => []) (fun k => k ≤ l.length ∧ ∀ y ∈ l.take k, decide (y = x) = false) (fun k => l.length - k) (0); (focus ((try push_cast [eq_self, iff_self, IntWalk.iteOmega, IntWalk.toNatUp]); rfl)); (focus exact ⟨by omega, by simp⟩); (focus ((refine weak_fg ?_; try push_cast [eq_self, iff_self, IntWalk.iteOmega, IntWalk.toNatUp]))))
  rintro k ⟨hk, hn⟩
  push_cast [eq_self, iff_self, IntWalk.iteOmega, IntWalk.toNatUp]
  by_cases hlt : k < l.length
  · have hb := acc_beq x (l.getD k default)
    by_cases he : x = l.getD k default
    · rw [decide_eq_true he] at hb
      repeat' (first | (refine Kont.use (by assumption) ?_) | (refine pwp_seq fun K hK => ?_) | (refine pwp_block ?_) | (refine pwp_scope ?_) | ((first | (refine pwp_cut 9 [] ?_; first | refine pwp_region ?_ | refine pwp_quiet (by kernel_rfl) (by kernel_rfl) ?_) | refine pwp_exit ?_ | refine pwp_ret ?_ | refine pwp_skip ?_); push_cast [eq_self, iff_self, IntWalk.iteOmega, IntWalk.toNatUp, hb]) | (refine pwp_cond ?_; push_cast [eq_self, iff_self, IntWalk.iteOmega, IntWalk.toNatUp, hb]; try (refine ⟨fun h => ?_, fun h => ?_⟩ <;> (try simp only [decide_eq_true_eq, decide_eq_false_iff_not, Bool.not_eq_true', Bool.not_eq_false', Int.not_lt, Int.not_le, Nat.not_lt, Nat.not_le] at h) <;> (try (first | contradiction | (exfalso; omega) | exact nomatch (Eq.trans (Eq.symm h) (by assumption) : true = false) | exact nomatch (Eq.trans (Eq.symm h) (by assumption) : false = true))))))
      (refine retK_of [] ?_; push_cast [eq_self, iff_self, IntWalk.iteOmega, IntWalk.toNatUp])
      exact ⟨_, _, leP_refl _, leOs_refl _, (k : Int), .inr ⟨k, rfl, hlt, by simp [he], hn⟩, rfl, rfl⟩
    · rw [decide_eq_false he] at hb
      repeat' (first | (refine Kont.use (by assumption) ?_) | (refine pwp_seq fun K hK => ?_) | (refine pwp_block ?_) | (refine pwp_scope ?_) | ((first | (refine pwp_cut 9 [] ?_; first | refine pwp_region ?_ | refine pwp_quiet (by kernel_rfl) (by kernel_rfl) ?_) | refine pwp_exit ?_ | refine pwp_ret ?_ | refine pwp_skip ?_); push_cast [eq_self, iff_self, IntWalk.iteOmega, IntWalk.toNatUp, hb]) | (refine pwp_cond ?_; push_cast [eq_self, iff_self, IntWalk.iteOmega, IntWalk.toNatUp, hb]; try (refine ⟨fun h => ?_, fun h => ?_⟩ <;> (try simp only [decide_eq_true_eq, decide_eq_false_iff_not, Bool.not_eq_true', Bool.not_eq_false', Int.not_lt, Int.not_le, Nat.not_lt, Nat.not_le] at h) <;> (try (first | contradiction | (exfalso; omega) | exact nomatch (Eq.trans (Eq.symm h) (by assumption) : true = false) | exact nomatch (Eq.trans (Eq.symm h) (by assumption) : false = true))))))
      refine ⟨k + 1, ⟨by omega, fun y hy => ?_⟩, by (refine weak_fg ?_; push_cast [eq_self, iff_self, IntWalk.iteOmega, IntWalk.toNatUp]), by omega⟩
      rw [List.take_succ_eq_append_getElem hlt] at hy
      rcases List.mem_append.1 hy with hy | hy
      · exact hn y hy
      · rw [List.mem_singleton.1 hy, ← getD_lt l hlt]; exact decide_eq_false (Ne.symm he)
  · rw [List.take_of_length_le (by omega)] at hn
    repeat' (first | (refine Kont.use (by assumption) ?_) | (refine pwp_seq fun K hK => ?_) | (refine pwp_block ?_) | (refine pwp_scope ?_) | ((first | (refine pwp_cut 9 [] ?_; first | refine pwp_region ?_ | refine pwp_quiet (by kernel_rfl) (by kernel_rfl) ?_) | refine pwp_exit ?_ | refine pwp_ret ?_ | refine pwp_skip ?_); push_cast [eq_self, iff_self, IntWalk.iteOmega, IntWalk.toNatUp]) | (refine pwp_cond ?_; push_cast [eq_self, iff_self, IntWalk.iteOmega, IntWalk.toNatUp]; try (refine ⟨fun h => ?_, fun h => ?_⟩ <;> (try simp only [decide_eq_true_eq, decide_eq_false_iff_not, Bool.not_eq_true', Bool.not_eq_false', Int.not_lt, Int.not_le, Nat.not_lt, Nat.not_le] at h) <;> (try (first | contradiction | (exfalso; omega) | exact nomatch (Eq.trans (Eq.symm h) (by assumption) : true = false) | exact nomatch (Eq.trans (Eq.symm h) (by assumption) : false = true))))))
    (refine retK_of [] ?_; push_cast [eq_self, iff_self, IntWalk.iteOmega, IntWalk.toNatUp])
    exact ⟨_, _, leP_refl _, leOs_refl _, -1, .inl ⟨rfl, hn⟩, rfl, rfl⟩
theorem pos_eq {l : List Acc} {x : Acc} : ∀ {i : Nat}, i ≤ l.length → (∀ y ∈ l.take i, ltA y x) → (∀ y ∈ l.drop i, ¬ ltA y x) → posA x l = i := by
  induction l with
  | nil => intro i h _ _; simp at h; subst h; rfl
  | cons a l ih =>
    intro i h h1 h2
    unfold posA
    cases i with
    | zero => rw [List.takeWhile_cons_of_neg (by simpa using h2 a (by simp))]; rfl
    | succ i =>
      rw [List.takeWhile_cons_of_pos (by simpa using h1 a (by simp)), List.length_cons]
      exact congrArg (· + 1) (ih (by simpa using h) (fun y hy => h1 y (by simp [hy])) (fun y hy => h2 y (by simpa using hy)))
def foundA (x : Acc) (l : List Acc) : Bool := decide (posA x l < l.length) && decide (cmpP (l.getD (posA x l) default).path x.path = 0)
set_option maxHeartbeats 2000000 in
theorem bsearch_pure (l : List Acc) (x : Acc) (hl : l.length ≤ 1000000000) (ha : l.Pairwise ltA) (hz : ∀ y ∈ l, y.path.size ≤ 100000000) (hx : x.path.size ≤ 100000000) :
    PCalls Tryd.prog 27 [.c (.sl 3 (l.map Acc.d)), .agg x.e, .c (.fn (.func 28) [] [])] [] fun r os => r = .two (.c (.v (.int .i64 (posA x l)))) (.c (.v (.bool (foundA x l)))) ∧ os = [] := by
  refine pcalls_of Tryd.func27 rfl (by simp [Tryd.ntmps27]) ?_
  rw [Tryd.ntmps27, Tryd.results27]
  push_cast [eq_self, iff_self, IntWalk.iteOmega, IntWalk.toNatUp]
  repeat' (first | (refine Kont.use (by assumption) ?_) | (refine pwp_seq fun K hK => ?_) | (refine pwp_block ?_) | (refine pwp_scope ?_) | ((first | (refine pwp_cut 12 [] ?_; first | refine pwp_region ?_ | refine pwp_quiet (by kernel_rfl) (by kernel_rfl) ?_) | refine pwp_exit ?_ | refine pwp_ret ?_ | refine pwp_skip ?_); push_cast [eq_self, iff_self, IntWalk.iteOmega, IntWalk.toNatUp]) | (refine pwp_cond ?_; push_cast [eq_self, iff_self, IntWalk.iteOmega, IntWalk.toNatUp]; try (refine ⟨fun h => ?_, fun h => ?_⟩ <;> (try simp only [decide_eq_true_eq, decide_eq_false_iff_not, Bool.not_eq_true', Bool.not_eq_false', Int.not_lt, Int.not_le, Nat.not_lt, Nat.not_le] at h) <;> (try (first | contradiction | (exfalso; omega) | exact nomatch (Eq.trans (Eq.symm h) (by assumption) : true = false) | exact nomatch (Eq.trans (Eq.symm h) (by assumption) : false = true))))))
  (apply pwp_loop3 (α := Nat × Nat) 12 [] (fun z => [(9, .c (.v (.int .i64 z.1))), (10, .c (.v (.int .i64 z.2)))]) (fun z => []) (fun z => z.1 ≤ z.2 ∧ z.2 ≤ l.length ∧ (∀ y ∈ l.take z.1, ltA y x) ∧ ∀ y ∈ l.drop z.2, ¬ ltA y x) (fun z => z.2 - z.1) ((0, l.length)); (focus ((try push_cast [eq_self, iff_self, IntWalk.iteOmega, IntWalk.toNatUp]); rfl)); (focus exact ⟨by simp, by simp, by simp, by simp⟩); (focus ((refine weak_fg ?_; try push_cast [eq_self, iff_self, IntWalk.iteOmega, IntWalk.toNatUp]))))
  rintro ⟨i, j⟩ ⟨h1, h2, h3, h4⟩
  simp only at h1 h2 h3 h4
  push_cast [eq_self, iff_self, IntWalk.iteOmega, IntWalk.toNatUp]
  by_cases hlt : i < j
  · obtain ⟨md, hh⟩ : ∃ md, (i + j) / 2 = md := ⟨_, rfl⟩
    have hh2 : ((i : Int) + j) / 2 = (md : Int) := by omega
    have hhl : md < l.length := by omega
    have hm : l.getD md default ∈ l := by rw [getD_lt l hhl]; exact List.getElem_mem _
    have hc := compare_pure (l.getD md default) x (hz _ hm) hx
    have hsort : ∀ y ∈ l.take md, ltA y (l.getD md default) := by
      have hp := ha
      rw [take_drop hhl] at hp
      intro y hy
      rw [getD_lt l hhl]
      exact (List.pairwise_append.1 hp).2.2 y hy _ List.mem_cons_self
    have hsort2 : ∀ y ∈ l.drop (md + 1), ltA (l.getD md default) y := by
      have hp := ha
      rw [take_drop hhl] at hp
      intro y hy
      rw [getD_lt l hhl]
      exact (List.pairwise_cons.1 (List.pairwise_append.1 hp).2.1).1 y hy
    by_cases hl2 : ltA (l.getD md default) x
    · have e := eq_true (show cmpP (l.getD md default).path x.path < 0 from hl2)
      repeat' (first | ((refine ql_call2 false rfl rfl (by kernel_rfl) (hc) (fun r os h => h.1) rfl ?_ ?_; push_cast [eq_self, iff_self, IntWalk.iteOmega, IntWalk.toNatUp, hh2, e]; refine ql_of_qops ?_; push_cast [eq_self, iff_self, IntWalk.iteOmega, IntWalk.toNatUp, hh2, e])) | (refine Kont.use (by assumption) ?_) | (refine pwp_seq fun K hK => ?_) | (refine pwp_block ?_) | (refine pwp_scope ?_) | ((first | (refine pwp_cut 12 [] ?_; first | refine pwp_region ?_ | refine pwp_quiet (by kernel_rfl) (by kernel_rfl) ?_) | refine pwp_exit ?_ | refine pwp_ret ?_ | refine pwp_skip ?_); push_cast [eq_self, iff_self, IntWalk.iteOmega, IntWalk.toNatUp, hh2, e]) | (refine pwp_cond ?_; push_cast [eq_self, iff_self, IntWalk.iteOmega, IntWalk.toNatUp, hh2, e]; try (refine ⟨fun h => ?_, fun h => ?_⟩ <;> (try simp only [decide_eq_true_eq, decide_eq_false_iff_not, Bool.not_eq_true', Bool.not_eq_false', Int.not_lt, Int.not_le, Nat.not_lt, Nat.not_le] at h) <;> (try (first | contradiction | (exfalso; omega) | exact nomatch (Eq.trans (Eq.symm h) (by assumption) : true = false) | exact nomatch (Eq.trans (Eq.symm h) (by assumption) : false = true))))))
      refine ⟨(md + 1, j), ⟨by simp only; omega, h2, fun y hy => ?_, h4⟩, by (refine weak_fg ?_; push_cast [eq_self, iff_self, IntWalk.iteOmega, IntWalk.toNatUp]), by simp only; omega⟩
      simp only at hy
      rw [List.take_succ_eq_append_getElem hhl] at hy
      rcases List.mem_append.1 hy with hy | hy
      · exact ltA_trans (hsort y hy) hl2
      · rw [List.mem_singleton.1 hy, ← getD_lt l hhl]; exact hl2
    · have e : ¬ (cmpP (l.getD md default).path x.path < 0) := hl2
      repeat' (first | ((refine ql_call2 false rfl rfl (by kernel_rfl) (hc) (fun r os h => h.1) rfl ?_ ?_; push_cast [eq_self, iff_self, IntWalk.iteOmega, IntWalk.toNatUp, hh2, e]; refine ql_of_qops ?_; push_cast [eq_self, iff_self, IntWalk.iteOmega, IntWalk.toNatUp, hh2, e])) | (refine Kont.use (by assumption) ?_) | (refine pwp_seq fun K hK => ?_) | (refine pwp_block ?_) | (refine pwp_scope ?_) | ((first | (refine pwp_cut 12 [] ?_; first | refine pwp_region ?_ | refine pwp_quiet (by kernel_rfl) (by kernel_rfl) ?_) | refine pwp_exit ?_ | refine pwp_ret ?_ | refine pwp_skip ?_); push_cast [eq_self, iff_self, IntWalk.iteOmega, IntWalk.toNatUp, hh2, e]) | (refine pwp_cond ?_; push_cast [eq_self, iff_self, IntWalk.iteOmega, IntWalk.toNatUp, hh2, e]; try (refine ⟨fun h => ?_, fun h => ?_⟩ <;> (try simp only [decide_eq_true_eq, decide_eq_false_iff_not, Bool.not_eq_true', Bool.not_eq_false', Int.not_lt, Int.not_le, Nat.not_lt, Nat.not_le] at h) <;> (try (first | contradiction | (exfalso; omega) | exact nomatch (Eq.trans (Eq.symm h) (by assumption) : true = false) | exact nomatch (Eq.trans (Eq.symm h) (by assumption) : false = true))))))
      refine ⟨(i, md), ⟨by simp only; omega, by simp only; omega, h3, fun y hy => ?_⟩, by (refine weak_fg ?_; push_cast [eq_self, iff_self, IntWalk.iteOmega, IntWalk.toNatUp]), by simp only; omega⟩
      simp only at hy
      rw [List.drop_eq_getElem_cons hhl] at hy
      rcases List.mem_cons.1 hy with e2 | hy
      · rw [e2, ← getD_lt l hhl]; exact hl2
      · exact fun hc2 => hl2 (ltA_trans (hsort2 y hy) hc2)
  · have hij : i = j := by omega
    subst hij
    have hp := pos_eq (x := x) h2 h3 h4
    by_cases hn : i < l.length
    · have hm : l.getD i default ∈ l := by rw [getD_lt l hn]; exact List.getElem_mem _
      have hc := compare_pure (l.getD i default) x (hz _ hm) hx
      obtain ⟨b, hb⟩ : ∃ b, decide (cmpP (l.getD i default).path x.path = 0) = b := ⟨_, rfl⟩
      repeat' (first | ((refine ql_call2 false rfl rfl (by kernel_rfl) (hc) (fun r os h => h.1) rfl ?_ ?_; push_cast [eq_self, iff_self, IntWalk.iteOmega, IntWalk.toNatUp, hb]; refine ql_of_qops ?_; push_cast [eq_self, iff_self, IntWalk.iteOmega, IntWalk.toNatUp, hb])) | (refine Kont.use (by assumption) ?_) | (refine pwp_seq fun K hK => ?_) | (refine pwp_block ?_) | (refine pwp_scope ?_) | ((first | (refine pwp_cut 12 [] ?_; first | refine pwp_region ?_ | refine pwp_quiet (by kernel_rfl) (by kernel_rfl) ?_) | refine pwp_exit ?_ | refine pwp_ret ?_ | refine pwp_skip ?_); push_cast [eq_self, iff_self, IntWalk.iteOmega, IntWalk.toNatUp, hb]) | (refine pwp_cond ?_; push_cast [eq_self, iff_self, IntWalk.iteOmega, IntWalk.toNatUp, hb]; try (refine ⟨fun h => ?_, fun h => ?_⟩ <;> (try simp only [decide_eq_true_eq, decide_eq_false_iff_not, Bool.not_eq_true', Bool.not_eq_false', Int.not_lt, Int.not_le, Nat.not_lt, Nat.not_le] at h) <;> (try (first | contradiction | (exfalso; omega) | exact nomatch (Eq.trans (Eq.symm h) (by assumption) : true = false) | exact nomatch (Eq.trans (Eq.symm h) (by assumption) : false = true))))))
      (refine retK_of [] ?_; push_cast [eq_self, iff_self, IntWalk.iteOmega, IntWalk.toNatUp])
      unfold foundA
      rw [hp, hb, decide_eq_true hn]
      exact ⟨rfl, rfl⟩
    · repeat' (first | (refine Kont.use (by assumption) ?_) | (refine pwp_seq fun K hK => ?_) | (refine pwp_block ?_) | (refine pwp_scope ?_) | ((first | (refine pwp_cut 12 [] ?_; first | refine pwp_region ?_ | refine pwp_quiet (by kernel_rfl) (by kernel_rfl) ?_) | refine pwp_exit ?_ | refine pwp_ret ?_ | refine pwp_skip ?_); push_cast [eq_self, iff_self, IntWalk.iteOmega, IntWalk.toNatUp]) | (refine pwp_cond ?_; push_cast [eq_self, iff_self, IntWalk.iteOmega, IntWalk.toNatUp]; try (refine ⟨fun h => ?_, fun h => ?_⟩ <;> (try simp only [decide_eq_true_eq, decide_eq_false_iff_not, Bool.not_eq_true', Bool.not_eq_false', Int.not_lt, Int.not_le, Nat.not_lt, Nat.not_le] at h) <;> (try (first | contradiction | (exfalso; omega) | exact nomatch (Eq.trans (Eq.symm h) (by assumption) : true = false) | exact nomatch (Eq.trans (Eq.symm h) (by assumption) : false = true))))))
      (refine retK_of [] ?_; push_cast [eq_self, iff_self, IntWalk.iteOmega, IntWalk.toNatUp])
      unfold foundA
      rw [hp]
      simp [hn]
end Go.Proofs.YtipgjpcbmnlbhaaDoor
