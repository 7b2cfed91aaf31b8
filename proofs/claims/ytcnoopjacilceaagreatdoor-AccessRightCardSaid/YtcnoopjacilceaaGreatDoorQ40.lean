/- What the program computes, and the plain laws of it, part 40. -/
import Derived.Test.YtcnoopjacilceaaGreatDoorQ38
import Derived.Test.YtcnoopjacilceaaGreatDoorQ39
namespace Go.Proofs.YtcnoopjacilceaaGreatDoor
attribute [local irreducible] PL QL PWPr PCalls Weak RetK Kontr PA
open Go.RowKit
open IntWalk renaming iteOmega → iO, toNatUp → tN
set_option linter.unusedVariables false
set_option linter.unusedSimpArgs false
set_option maxRecDepth 20000
theorem slash_nil : slashS ⟨#[]⟩ = false := by decide
theorem slash_get {s : ByteArray} (h : s ≠ ⟨#[]⟩) : slashS s = decide ((((s.data.toList.getD 0 0).toNat : Nat) : Int) = 47) := by
  unfold slashS Lib.hasPrefix
  cases e : s.data.toList with
  | nil => exact absurd (by cases s; simp only at e; congr; exact Array.toList_inj.1 e) h
  | cons b l =>
    rw [Bool.eq_iff_iff]
    simp only [List.isPrefixOf, Bool.and_true, beq_iff_eq, decide_eq_true_eq, List.getD_cons_zero]
    constructor
    · rintro rfl; rfl
    · intro h
      have : b.toNat = 47 := by omega
      exact (UInt8.toNat_inj.1 this).symm
theorem size_pos {s : ByteArray} (h : s ≠ ⟨#[]⟩) : 0 < s.size := by
  rcases Nat.eq_zero_or_pos s.size with h0 | h0
  · exact absurd (by obtain ⟨⟨l⟩⟩ := s; cases l with
      | nil => rfl
      | cons b l => simp [ByteArray.size] at h0) h
  · exact h0
def rsplitR : Option (List ByteArray) → PV
  | some l => .two (.c (.sl 1 (l.map strD))) (.c (.v (.bool true)))
  | none => .two (.c (.v (.slice none 0 0))) (.c (.v (.bool false)))
attribute [push_cast] rsplitR
set_option maxHeartbeats 1000000 in
theorem rsplit_pure (s : ByteArray) (hs : s.size ≤ 100000000) :
    PCalls Tryz.prog 43 [.c (.v (.string s))] [] fun r os => r = rsplitR (splitP s) ∧ os = [] := by
  have hrs := rest_size s
  have hps := parts_size (s := restS s)
  have hpm := fun x hx => parts_mem (s := restS s) (x := x) hx
  refine pcalls_of Tryz.func43 rfl (by simp [Tryz.ntmps43]) ?_
  rw [Tryz.ntmps43, Tryz.results43]
  push_cast [iO, tN]
  have cB : CutB 6 [] := trivial
  by_cases h1 : s = ⟨#[]⟩
  · have e1 := eq_true h1
    have hsp : splitP s = none := by unfold splitP; rw [if_neg (by rw [h1, slash_nil]; simp)]
    rw [hsp]
    repeat' (first | ((first | refine pC ?_ | refine pQC ?_ | refine pU ?_); push_cast [iO, tN, e1]) | (refine pif (fun h => ?_) (fun h => ?_) <;> first | exact pN h | push_cast [iO, tN, e1]))
    (refine retK_of [] ?_; push_cast [iO, tN])
  · have hpos := size_pos h1
    have hsl := slash_get h1
    by_cases h2 : (((s.data.toList.getD 0 0).toNat : Nat) : Int) = 47
    · rw [decide_eq_true h2] at hsl
      have hre : s.extract 1 s.size = restS s := by unfold restS; rw [if_pos hsl]
      have hsp : splitP s = if (parts (restS s)).all validS = true then some (parts (restS s)) else none := by unfold splitP; rw [hsl]; simp
      obtain ⟨l, hl⟩ : ∃ l, parts (restS s) = l := ⟨_, rfl⟩
      have hspl := split_pure (restS s) (by omega)
      rw [hl] at hps hspl hsp
      simp only [hl] at hpm
      have htk := List.take_of_length_le (l := l.map strD) (i := l.length) (by simp)
      have e2 := eq_true h2
      repeat' (first | (refine plc [] (hspl) ?_ ?_; push_cast [iO, tN, h1, e2, hre, ne_eq, not_true_eq_false]; rintro r os ⟨rfl, rfl⟩; push_cast [iO, tN, h1, e2, hre, ne_eq, not_true_eq_false]) | ((first | refine pC ?_ | refine pQC ?_ | refine pU ?_); push_cast [iO, tN, h1, e2, hre, ne_eq, not_true_eq_false]) | (refine pif (fun h => ?_) (fun h => ?_) <;> first | exact pN h | push_cast [iO, tN, h1, e2, hre, ne_eq, not_true_eq_false]))
      refine pwp_weak (weak_frz 0 (by omega)) ?_
      push_cast [iO, tN, htk]
      (apply pwp_loop3 (α := Nat) 6 [] (fun k => [(5, .c (.v (.int .i64 k)))]) (fun k => []) (fun k => k ≤ l.length ∧ (l.take k).all validS = true) (fun k => l.length - k) (0); (focus ((try push_cast [iO, tN]); rfl)); (focus exact ⟨by omega, rfl⟩); (focus ((refine weak_fg ?_; try push_cast [iO, tN]))))
      rintro k ⟨hk, ha⟩
      push_cast [iO, tN]
      by_cases hlt : k < l.length
      · have hm : l.getD k default ∈ l := by rw [getD_lt l hlt]; exact List.getElem_mem _
        have hvp := rvalid_pure (l.getD k default) (by have := hpm _ hm; omega)
        cases hv : validS (l.getD k default)
        · rw [hv] at hvp
          have hal : l.all validS = false := List.all_eq_false.2 ⟨_, hm, by rw [hv]; decide⟩
          rw [hal] at hsp
          simp only [Bool.false_eq_true, if_false] at hsp
          repeat' (first |  (refine plc [] (hvp) ?_ ?_; push_cast [iO, tN]; rintro r os ⟨rfl, rfl⟩; push_cast [iO, tN])  | ((first | refine pC ?_ | refine pQC ?_ | refine pU ?_); push_cast [iO, tN]) | (refine pif (fun h => ?_) (fun h => ?_) <;> first | exact pN h | push_cast [iO, tN]))
          rw [hsp]
          (refine retK_of [] ?_; push_cast [iO, tN])
        · rw [hv] at hvp
          repeat' (first |  (refine plc [] (hvp) ?_ ?_; push_cast [iO, tN]; rintro r os ⟨rfl, rfl⟩; push_cast [iO, tN])  | ((first | refine pC ?_ | refine pQC ?_ | refine pU ?_); push_cast [iO, tN]) | (refine pif (fun h => ?_) (fun h => ?_) <;> first | exact pN h | push_cast [iO, tN]))
          refine ⟨k + 1, ⟨by omega, ?_⟩, by (refine weak_fg ?_; push_cast [iO, tN]), by omega⟩
          rw [List.take_succ_eq_append_getElem hlt, List.all_append, ha, ← getD_lt l hlt, List.all_cons, hv]; rfl
      · rw [List.take_of_length_le (by omega)] at ha
        rw [ha] at hsp
        simp only [if_true] at hsp
        repeat' (first | ((first | refine pC ?_ | refine pQC ?_ | refine pU ?_); push_cast [iO, tN]) | (refine pif (fun h => ?_) (fun h => ?_) <;> first | exact pN h | push_cast [iO, tN]))
        rw [hsp]
        (refine retK_of [] ?_; push_cast [iO, tN])
    · rw [decide_eq_false h2] at hsl
      have hsp : splitP s = none := by unfold splitP; rw [if_neg (by rw [hsl]; simp)]
      rw [hsp]
      repeat' (first | ((first | refine pC ?_ | refine pQC ?_ | refine pU ?_); push_cast [iO, tN, h1, h2, ne_eq, not_false_eq_true]) | (refine pif (fun h => ?_) (fun h => ?_) <;> first | exact pN h | push_cast [iO, tN, h1, h2, ne_eq, not_false_eq_true]))
      (refine retK_of [] ?_; push_cast [iO, tN])
set_option maxHeartbeats 1000000 in
theorem rcompareN_pure (l m : List ByteArray) (hl : l.length ≤ 1000000000) (hm : m.length ≤ 1000000000) :
    PCalls Tryz.prog 89 [.c (.sl 1 (l.map strD)), .c (.sl 1 (m.map strD))] [] fun r os => r = .c (.v (.int .i64 (cmpL l m))) ∧ os = [] := by
  refine pcalls_of Tryz.func89 rfl (by simp [Tryz.ntmps89]) ?_
  rw [Tryz.ntmps89, Tryz.results89]
  push_cast [iO, tN]
  have cB : CutB 6 [] := trivial
  repeat' (first | ((first | refine pC ?_ | refine pQC ?_ | refine pU ?_); push_cast [iO, tN]) | (refine pif (fun h => ?_) (fun h => ?_) <;> first | exact pN h | push_cast [iO, tN]))
  (apply pwp_loop3 (α := Nat) 6 [] (fun k => [(5, .c (.v (.int .i64 k)))]) (fun k => []) (fun k => k ≤ l.length ∧ k ≤ m.length ∧ l.take k = m.take k) (fun k => l.length - k) (0); (focus ((try push_cast [iO, tN]); rfl)); (focus exact ⟨by omega, by omega, rfl⟩); (focus ((refine weak_fg ?_; try push_cast [iO, tN]))))
  rintro k ⟨hk, hk2, he⟩
  push_cast [iO, tN]
  by_cases h1 : k < l.length
  · by_cases h2 : k < m.length
    · have hst := cmpL_stepN h1 h2 he
      by_cases e : l.getD k default = m.getD k default
      · have e2 := eq_true e
        repeat' (first | ((first | refine pC ?_ | refine pQC ?_ | refine pU ?_); push_cast [iO, tN, e2, ne_eq, not_true_eq_false]) | (refine pif (fun h => ?_) (fun h => ?_) <;> first | exact pN h | push_cast [iO, tN, e2, ne_eq, not_true_eq_false]))
        refine ⟨k + 1, ⟨by omega, by omega, ?_⟩, by (refine weak_fg ?_; push_cast [iO, tN]), by omega⟩
        rw [List.take_succ_eq_append_getElem h1, List.take_succ_eq_append_getElem h2, he, ← getD_lt l h1, ← getD_lt m h2, e]
      · rw [if_neg e] at hst
        repeat' (first | ((refine ql_call2 false rfl rfl (by kernel_rfl) (scmp_pure (l.getD k default) (m.getD k default)) (fun r os h => h.1) rfl ?_ ?_; push_cast [iO, tN, e, ne_eq, not_false_eq_true]; refine ql_of_qops ?_; push_cast [iO, tN, e, ne_eq, not_false_eq_true])) | ((first | refine pC ?_ | refine pQC ?_ | refine pU ?_); push_cast [iO, tN, e, ne_eq, not_false_eq_true]) | (refine pif (fun h => ?_) (fun h => ?_) <;> first | exact pN h | push_cast [iO, tN, e, ne_eq, not_false_eq_true]))
        (refine retK_of [] ?_; push_cast [iO, tN])
        rw [hst]
    · have hke : k = m.length := by omega
      have hcl : cmpL l m = 1 := by
        have hz : m.drop k = [] := List.drop_eq_nil_of_le (by omega)
        rw [cmpL_atN (by omega) (by omega) he, hz, List.drop_eq_getElem_cons h1]; rfl
      repeat' (first | ((first | refine pC ?_ | refine pQC ?_ | refine pU ?_); push_cast [iO, tN]) | (refine pif (fun h => ?_) (fun h => ?_) <;> first | exact pN h | push_cast [iO, tN]))
      (refine retK_of [] ?_; push_cast [iO, tN])
      rw [hcl]
  · have hke : k = l.length := by omega
    by_cases h2 : k < m.length
    · have hcl : cmpL l m = -1 := by
        have hz : l.drop k = [] := List.drop_eq_nil_of_le (by omega)
        rw [cmpL_atN (by omega) (by omega) he, hz, List.drop_eq_getElem_cons h2]; rfl
      repeat' (first | ((first | refine pC ?_ | refine pQC ?_ | refine pU ?_); push_cast [iO, tN]) | (refine pif (fun h => ?_) (fun h => ?_) <;> first | exact pN h | push_cast [iO, tN]))
      (refine retK_of [] ?_; push_cast [iO, tN])
      rw [hcl]
    · have hcl : cmpL l m = 0 := by
        rw [cmpL_atN (by omega) (by omega) he, List.drop_eq_nil_of_le (by omega), List.drop_eq_nil_of_le (by omega)]; rfl
      repeat' (first | ((first | refine pC ?_ | refine pQC ?_ | refine pU ?_); push_cast [iO, tN]) | (refine pif (fun h => ?_) (fun h => ?_) <;> first | exact pN h | push_cast [iO, tN]))
      (refine retK_of [] ?_; push_cast [iO, tN])
      rw [hcl]
set_option maxHeartbeats 1000000 in
theorem rorder_pure (a b : ByteArray) (ha : a.size ≤ 100000000) (hb : b.size ≤ 100000000) :
    PCalls Tryz.prog 44 [.c (.v (.string a)), .c (.v (.string b))] [] fun r os => r = .c (.v (.int .i64 (cmpL (parts a) (parts b)))) ∧ os = [] := by
  have h1 := split_pure a (by omega)
  have h2 := split_pure b (by omega)
  have p1 := parts_size (s := a)
  have p2 := parts_size (s := b)
  obtain ⟨l, hl⟩ : ∃ l, parts a = l := ⟨_, rfl⟩
  obtain ⟨m, hm⟩ : ∃ l, parts b = l := ⟨_, rfl⟩
  rw [hl] at h1 p1 ⊢
  rw [hm] at h2 p2 ⊢
  refine pcalls_of Tryz.func44 rfl (by simp [Tryz.ntmps44]) ?_
  rw [Tryz.ntmps44, Tryz.results44]
  push_cast [iO, tN]
  repeat' (first |  (refine plc [] (h1) ?_ ?_; push_cast [iO, tN]; rintro r os ⟨rfl, rfl⟩; push_cast [iO, tN]) | (refine plc [] (h2) ?_ ?_; push_cast [iO, tN]; rintro r os ⟨rfl, rfl⟩; push_cast [iO, tN]) | (refine pl_call2 true [] rfl rfl (by kernel_rfl) (rcompareN_pure l m (by omega) (by omega)) ?_ ?_ ?_; push_cast [iO, tN]; (intro _ r os; rintro ⟨rfl, rfl⟩; push_cast [iO, tN]); rintro r os ⟨rfl, rfl⟩; refine pl_of_pops ?_; push_cast [iO, tN])  | ((first | refine pG ?_ | refine pQ ?_ | refine pU ?_); push_cast [iO, tN]) | (refine pif (fun h => ?_) (fun h => ?_) <;> first | exact pN h | push_cast [iO, tN]))
  (refine retK_of [] ?_; push_cast [iO, tN])
end Go.Proofs.YtcnoopjacilceaaGreatDoor
namespace Go.Proofs.YtcnoopjacilceaaGreatDoor
attribute [local irreducible] PL QL PWPr PCalls Weak RetK Kontr PA
open Go.RowKit
open IntWalk renaming iteOmega → iO, toNatUp → tN
set_option linter.unusedVariables false
set_option linter.unusedSimpArgs false
set_option maxRecDepth 20000
theorem acc_eta (a : Acc) : (⟨a.path, a.node, a.user⟩ : Acc) = a := rfl
theorem acc_eq {a b : Acc} : a = b ↔ a.path = b.path ∧ a.node = b.node ∧ a.user = b.user := by
  constructor
  · rintro rfl; exact ⟨rfl, rfl, rfl⟩
  · obtain ⟨p, n, u⟩ := a
    obtain ⟨p', n', u'⟩ := b
    rintro ⟨h1, h2, h3⟩
    simp only at h1 h2 h3
    subst h1; subst h2; subst h3; rfl
theorem acc_beq (a b : Acc) : (decide (a.path = b.path) && (decide (a.node = b.node) && decide (a.user = b.user))) = decide (a = b) := by
  rw [Bool.eq_iff_iff]
  simp only [Bool.and_eq_true, decide_eq_true_eq, acc_eq]
def ofT (l : List Acc) (u : ByteArray) (k : Nat) : List ByteArray := ((l.take k).filter fun a => decide (a.user = u)).map Acc.node
def ofA (l : List Acc) (u : ByteArray) : List ByteArray := (l.filter fun a => decide (a.user = u)).map Acc.node
theorem ofT_end {l : List Acc} {u : ByteArray} {k : Nat} (h : ¬ k < l.length) : ofT l u k = ofA l u := by rw [ofT, List.take_of_length_le (by omega), ofA]
theorem ofT_zero (l : List Acc) (u : ByteArray) : ofT l u 0 = [] := rfl
theorem ofT_t {l : List Acc} {u : ByteArray} {k : Nat} (hk : k < l.length) (h : (l.getD k default).user = u) : ofT l u (k + 1) = ofT l u k ++ [(l.getD k default).node] := by
  rw [getD_lt l hk] at h ⊢
  rw [ofT, List.take_succ_eq_append_getElem hk, List.filter_append, List.filter_cons_of_pos (by simpa using h), List.map_append]; rfl
theorem ofT_f {l : List Acc} {u : ByteArray} {k : Nat} (hk : k < l.length) (h : ¬ (l.getD k default).user = u) : ofT l u (k + 1) = ofT l u k := by
  rw [getD_lt l hk] at h
  rw [ofT, List.take_succ_eq_append_getElem hk, List.filter_append, List.filter_cons_of_neg (by simpa using h), List.map_append]; simp [ofT]
theorem ofT_len (l : List Acc) (u : ByteArray) (k : Nat) : (ofT l u k).length ≤ l.length := by
  have := List.length_filter_le (fun a : Acc => decide (a.user = u)) (l.take k)
  rw [List.length_take] at this
  rw [ofT, List.length_map]; omega
set_option maxHeartbeats 1000000 in
theorem of_pure (l : List Acc) (u : ByteArray) (hl : l.length ≤ 1000000000) :
    PCalls Tryz.prog 33 [.c (.sl 3 (l.map Acc.d)), .c (.v (.string u))] [] fun r os => r = .c (.own 0 ((ofA l u).length)) ∧ os = [.arr 9 1 ((ofA l u).map strD)] := by
  refine pcalls_of Tryz.func33 rfl (by simp [Tryz.ntmps33]) ?_
  rw [Tryz.ntmps33, Tryz.results33]
  push_cast [iO, tN]
  have cB : CutB 11 [] := trivial
  repeat' (first | ((first | refine pC ?_ | refine pQC ?_ | refine pU ?_); push_cast [iO, tN]) | (refine pif (fun h => ?_) (fun h => ?_) <;> first | exact pN h | push_cast [iO, tN]))
  refine pwp_weak (weak_adopt 5 9 1 (by omega) (by push_cast [iO, tN])) ?_
  push_cast [iO, tN]
  (apply pwp_loop3 (α := Nat) 11 [] (fun k => [(10, .c (.v (.int .i64 k))), (5, .c (.own 0 ((ofT l u k).length)))]) (fun k => [(0, .arr 9 1 ((ofT l u k).map strD))]) (fun k => k ≤ l.length) (fun k => l.length - k) (0); (focus ((try push_cast [iO, tN]); rfl)); (focus exact (by omega)); (focus ((refine weak_fg ?_; try push_cast [iO, tN]); (try (exact ⟨rfl, rfl⟩)))))
  intro k hk
  push_cast [iO, tN]
  have hol := ofT_len l u k
  by_cases hlt : k < l.length
  · by_cases hu : (l.getD k default).user = u
    · have hs := ofT_t hlt hu
      have hu' := eq_true hu
      repeat' (first | ((first | refine pC ?_ | refine pQC ?_ | refine pU ?_); push_cast [iO, tN, hu']) | (refine pif (fun h => ?_) (fun h => ?_) <;> first | exact pN h | push_cast [iO, tN, hu']))
      exact ⟨k + 1, by omega, by (refine weak_fg ?_; push_cast [iO, tN, hs]), by omega⟩
    · have hs := ofT_f hlt hu
      repeat' (first | ((first | refine pC ?_ | refine pQC ?_ | refine pU ?_); push_cast [iO, tN, hu]) | (refine pif (fun h => ?_) (fun h => ?_) <;> first | exact pN h | push_cast [iO, tN, hu]))
      exact ⟨k + 1, by omega, by (refine weak_fg ?_; push_cast [iO, tN, hs]), by omega⟩
  · rw [ofT_end hlt]
    repeat' (first | ((first | refine pC ?_ | refine pQC ?_ | refine pU ?_); push_cast [iO, tN]) | (refine pif (fun h => ?_) (fun h => ?_) <;> first | exact pN h | push_cast [iO, tN]))
    (refine retK_of [0] ?_; push_cast [iO, tN])
theorem not_take_mem {l : List Acc} {x : Acc} {k : Nat} (hk : k < l.length) (h : x ∉ l.take k) (h2 : ¬ l.getD k default = x) : x ∉ l.take (k + 1) := by
  rw [getD_lt l hk] at h2
  rw [List.take_succ_eq_append_getElem hk, List.mem_append, List.mem_singleton]
  rintro (h3 | h3)
  · exact h h3
  · exact h2 h3.symm
set_option maxHeartbeats 1000000 in
theorem same38_pure (l m : List Acc) (hl : l.length ≤ 1000000000) (hm : m.length ≤ 1000000000) :
    PCalls Tryz.prog 8 [.c (.sl 3 (l.map Acc.d)), .c (.sl 3 (m.map Acc.d))] [] fun r os => r = .c (.v (.bool (decide (l = m)))) ∧ os = [] := by
  refine pcalls_of Tryz.func8 rfl (by simp [Tryz.ntmps8]) ?_
  rw [Tryz.ntmps8, Tryz.results8]
  push_cast [iO, tN]
  have cB : CutB 6 [] := trivial
  by_cases hlm : l.length = m.length
  · have hlm' : ((l.length : Int) = m.length) = True := eq_true (by omega)
    repeat' (first | ((first | refine pC ?_ | refine pQC ?_ | refine pU ?_); push_cast [iO, tN, hlm', ne_eq, not_true_eq_false]) | (refine pif (fun h => ?_) (fun h => ?_) <;> first | exact pN h | push_cast [iO, tN, hlm', ne_eq, not_true_eq_false]))
    (apply pwp_loop3 (α := Nat) 6 [] (fun k => [(5, .c (.v (.int .i64 k)))]) (fun k => []) (fun k => k ≤ l.length ∧ l.take k = m.take k) (fun k => l.length - k) (0); (focus ((try push_cast [iO, tN]); rfl)); (focus exact ⟨by omega, rfl⟩); (focus ((refine weak_fg ?_; try push_cast [iO, tN]))))
    rintro k ⟨hk, hn⟩
    push_cast [iO, tN]
    by_cases hlt : k < l.length
    · have hlt2 : k < m.length := by omega
      have hb := acc_beq (l.getD k default) (m.getD k default)
      by_cases he : l.getD k default = m.getD k default
      · rw [decide_eq_true he] at hb
        repeat' (first | ((first | refine pC ?_ | refine pQC ?_ | refine pU ?_); push_cast [iO, tN, hb]) | (refine pif (fun h => ?_) (fun h => ?_) <;> first | exact pN h | push_cast [iO, tN, hb]))
        refine ⟨k + 1, ⟨by omega, ?_⟩, by (refine weak_fg ?_; push_cast [iO, tN]), by omega⟩
        rw [List.take_succ_eq_append_getElem hlt, List.take_succ_eq_append_getElem hlt2, hn, ← getD_lt l hlt, ← getD_lt m hlt2, he]
      · rw [decide_eq_false he] at hb
        repeat' (first | ((first | refine pC ?_ | refine pQC ?_ | refine pU ?_); push_cast [iO, tN, hb]) | (refine pif (fun h => ?_) (fun h => ?_) <;> first | exact pN h | push_cast [iO, tN, hb]))
        (refine retK_of [] ?_; push_cast [iO, tN])
        rw [decide_eq_false]
        rintro rfl
        exact he rfl
    · rw [List.take_of_length_le (by omega), List.take_of_length_le (by omega)] at hn
      repeat' (first | ((first | refine pC ?_ | refine pQC ?_ | refine pU ?_); push_cast [iO, tN]) | (refine pif (fun h => ?_) (fun h => ?_) <;> first | exact pN h | push_cast [iO, tN]))
      (refine retK_of [] ?_; push_cast [iO, tN])
      rw [decide_eq_true hn]
  · have hlm' : ¬ ((l.length : Int) = m.length) := by omega
    repeat' (first | ((first | refine pC ?_ | refine pQC ?_ | refine pU ?_); push_cast [iO, tN, hlm', ne_eq, not_false_eq_true]) | (refine pif (fun h => ?_) (fun h => ?_) <;> first | exact pN h | push_cast [iO, tN, hlm', ne_eq, not_false_eq_true]))
    (refine retK_of [] ?_; push_cast [iO, tN])
    rw [decide_eq_false]
    rintro rfl
    exact hlm rfl
end Go.Proofs.YtcnoopjacilceaaGreatDoor
namespace Go.Proofs.YtcnoopjacilceaaGreatDoor
attribute [local irreducible] PL QL PWPr PCalls Weak RetK Kontr PA
open Go.RowKit
open IntWalk renaming iteOmega → iO, toNatUp → tN
set_option linter.unusedVariables false
set_option linter.unusedSimpArgs false
set_option maxRecDepth 20000
theorem clone_pure (l : List Acc) (hl : l.length ≤ 1000000000) :
    PCalls Tryz.prog 70 [.c (.sl 3 (l.map Acc.d))] [] fun r os => r = .c (.own 0 l.length) ∧ os = [.arr 43 3 (l.map Acc.d)] := by
  refine pcalls_adopt (R := fun r os => (r = .c (.own 0 l.length) ∧ os = [.arr 43 3 (l.map Acc.d)]) ∨ (r = .c (.v (.slice none 0 0)) ∧ os = [] ∧ l = [])) 43 3 (by omega) ?_ (by
    rintro r os (h | ⟨rfl, rfl, rfl⟩)
    · exact .inl h
    · exact .inr ⟨rfl, rfl, rfl⟩)
  by_cases h0 : l = []
  · subst h0
    refine pcalls_split0 (l1 := []) (l2 := []) fun A c => ?_
    cases A with
    | none =>
      refine PCalls.mono (R := fun r os => r = .c (.v (.slice none 0 0)) ∧ os = []) ?_ (fun r os h => .inr ⟨h.1, h.2, rfl⟩)
      refine pcalls_of Tryz.func70 rfl (by simp [Tryz.ntmps70]) ?_
      rw [Tryz.ntmps70, Tryz.results70]
      push_cast [iO, tN]
      repeat' (first | ((first | refine pG ?_ | refine pQ ?_ | refine pU ?_); push_cast [iO, tN]) | (refine pif (fun h => ?_) (fun h => ?_) <;> first | exact pN h | push_cast [iO, tN]))
      (refine retK_of [] ?_; push_cast [iO, tN])
    | some a =>
      refine PCalls.mono (R := fun r os => r = .c (.own 0 0) ∧ os = [.arr 43 3 []]) ?_ (fun r os h => .inl h)
      refine pcalls_of Tryz.func70 rfl (by simp [Tryz.ntmps70]) ?_
      rw [Tryz.ntmps70, Tryz.results70]
      push_cast [iO, tN]
      repeat' (first | ((first | refine pG ?_ | refine pQ ?_ | refine pU ?_); push_cast [iO, tN]) | (refine pif (fun h => ?_) (fun h => ?_) <;> first | exact pN h | push_cast [iO, tN]))
      (refine retK_of [0] ?_; push_cast [iO, tN])
  · have h1 : 0 < l.length := List.length_pos_iff.2 h0
    refine PCalls.mono (R := fun r os => r = .c (.own 0 l.length) ∧ os = [.arr 43 3 (l.map Acc.d)]) ?_ (fun r os h => .inl h)
    refine pcalls_of Tryz.func70 rfl (by simp [Tryz.ntmps70]) ?_
    rw [Tryz.ntmps70, Tryz.results70]
    push_cast [iO, tN]
    repeat' (first | ((first | refine pG ?_ | refine pQ ?_ | refine pU ?_); push_cast [iO, tN]) | (refine pif (fun h => ?_) (fun h => ?_) <;> first | exact pN h | push_cast [iO, tN]))
    (refine retK_of [0] ?_; push_cast [iO, tN])
theorem delete_pure (l : List Acc) (i : Nat) (hi : i < l.length) (hl : l.length ≤ 1000000000) :
    PCalls Tryz.prog 69 [.c (.own 0 l.length), .c (.v (.int .i64 i)), .c (.v (.int .i64 (i + 1)))] [.arr 43 3 (l.map Acc.d)] fun r os => r = .c (.own 0 (l.length - 1)) ∧ os = [.arr 43 3 ((l.take i ++ (l.drop (i + 1) ++ [(default : Acc)])).map Acc.d)] := by
  refine pcalls_of Tryz.func69 rfl (by simp [Tryz.ntmps69]) ?_
  rw [Tryz.ntmps69, Tryz.results69]
  have e1 : i + (l.length - (i + 1)) = l.length - 1 := by omega
  push_cast [iO, tN]
  repeat' (first | ((refine pwp_drawn_to ⟨[(7, .c (.v (.int .i64 l.length))), (0, .c (.own 0 (l.length - 1)))], [.arr 43 3 ((l.map Acc.d).take i ++ ((l.map Acc.d).drop (i + 1) ++ (l.map Acc.d).drop (l.length - 1)))]⟩ (by kernel_rfl) ?_ ?_; (focus (simp only [List.length_cons, List.length_nil, Nat.reduceAdd]; (repeat' first | ((first | refine pah 0 ?_ | refine pah 1 ?_ | refine pah 2 ?_ | refine pah 3 ?_ | refine pah 4 ?_ | refine pah 5 ?_ | refine pah 7 ?_); push_cast [iO, tN,  e1 ]) | (refine pad ?_; refine weak_fg ?_; push_cast [iO, tN,  e1 ]) | ((first | refine pas [6] ?_); push_cast [iO, tN,  e1 ])); done)); push_cast [iO, tN,  e1 ])) | ((first | refine pG ?_ | refine pQ ?_ | refine pU ?_); push_cast [iO, tN, e1]) | (refine pif (fun h => ?_) (fun h => ?_) <;> first | exact pN h | push_cast [iO, tN, e1]))
  (refine retK_of [0] ?_; push_cast [iO, tN])
  have h1 : l.length - (l.length - 1) = 1 := by omega
  have h2 : ((l.map Acc.d).take i ++ (l.map Acc.d).drop (i + 1)).length = l.length - 1 := by simp; omega
  have h3 : ((l.map Acc.d).take i ++ ((l.map Acc.d).drop (i + 1) ++ (l.map Acc.d).drop (l.length - 1))) = ((l.map Acc.d).take i ++ (l.map Acc.d).drop (i + 1)) ++ (l.map Acc.d).drop (l.length - 1) := by rw [List.append_assoc]
  have h4 : (((l.map Acc.d).take i ++ (l.map Acc.d).drop (i + 1)) ++ (l.map Acc.d).drop (l.length - 1)).drop (l.length - 1 + 1) = [] := List.drop_eq_nil_of_le (by simp only [List.length_append, List.length_take, List.length_drop, List.length_map]; omega)
  rw [h1, h3, List.take_left' h2, h4]
  simp [List.map_take, List.map_drop, List.append_assoc, Acc.d]
  all_goals (first | done | exact ⟨rfl, rfl, rfl⟩)
end Go.Proofs.YtcnoopjacilceaaGreatDoor
