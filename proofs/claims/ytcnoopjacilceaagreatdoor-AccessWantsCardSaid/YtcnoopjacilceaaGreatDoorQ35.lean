/- What the program computes, and the plain laws of it, part 35. -/
import Derived.Test.YtcnoopjacilceaaGreatDoorQ23
import Derived.Test.YtcnoopjacilceaaGreatDoorQ34
namespace Go.Proofs.YtcnoopjacilceaaGreatDoor
attribute [local irreducible] PL QL PWPr PCalls Weak RetK Kontr PA
open Go.RowKit
open IntWalk renaming iteOmega → iO, toNatUp → tN
set_option linter.unusedVariables false
set_option linter.unusedSimpArgs false
set_option maxRecDepth 20000
set_option maxHeartbeats 1000000 in
theorem allF_pure (x : ByteArray) (hx : x.size ≤ 9223372036854775807) :
    PCalls Tryz.prog 130 [.c (.v (.string x)), .c (.ptr 0 0)] [.box 85 [.fn (.func 42) [] []]] fun r os => r = .c (.v (.bool (!validS x))) ∧ os = [.box 85 [.fn (.func 42) [] []]] := by
  refine pcalls_of Tryz.func130 rfl (by simp [Tryz.ntmps130]) ?_
  rw [Tryz.ntmps130, Tryz.results130]
  push_cast [iO, tN]
  repeat' (first |  (refine plc [] (valid_pure x hx) ?_ ?_; push_cast [iO, tN]; rintro r os ⟨rfl, rfl⟩; push_cast [iO, tN])  | ((first | refine pG ?_ | refine pQ ?_ | refine pU ?_); push_cast [iO, tN]) | (refine pif (fun h => ?_) (fun h => ?_) <;> first | exact pN h | push_cast [iO, tN]))
  (refine retK_of [0] ?_; push_cast [iO, tN])
set_option maxHeartbeats 1000000 in
theorem all_pure (l : List ByteArray) (hl : l.length ≤ 1000000000) (hz : ∀ x ∈ l, x.size ≤ 9223372036854775807) :
    PCalls Tryz.prog 104 [.c (.sl 1 (l.map strD)), .c (.fn (.func 42) [] [])] [] fun r os => r = .c (.v (.bool (l.all validS))) ∧ os = [] := by
  have hc := containsFuncS_pure l hl 130 [0] [.box 85 [.fn (.func 42) [] []]] (fun x => !validS x) ⟨by kernel_rfl, fun x hx => allF_pure x (hz x hx)⟩
  have e : (!(l.any fun x => !validS x)) = l.all validS := by rw [List.all_eq_not_any_not]
  refine pcalls_of Tryz.func104 rfl (by simp [Tryz.ntmps104]) ?_
  rw [Tryz.ntmps104, Tryz.results104]
  push_cast [iO, tN]
  repeat' (first |  (refine plc [0] (hc) ?_ ?_; push_cast [iO, tN]; rintro r os ⟨rfl, rfl⟩; push_cast [iO, tN])  | ((first | refine pG ?_ | refine pQ ?_ | refine pU ?_); push_cast [iO, tN]) | (refine pif (fun h => ?_) (fun h => ?_) <;> first | exact pN h | push_cast [iO, tN]))
  (refine retK_of [] ?_; push_cast [iO, tN, e])
theorem extract_size (s : ByteArray) : (s.extract 1 s.size).size = s.size - 1 := by
  have h := congrArg List.length (Lib.extract_to_end s 1)
  rw [List.length_drop] at h
  exact h
theorem rest_size (s : ByteArray) : (restS s).size ≤ s.size := by
  unfold restS
  split
  · rw [extract_size]; omega
  · exact Nat.le_refl _
theorem spl_mem : ∀ {l x : List UInt8}, x ∈ spl l → x.length ≤ l.length
  | [], x, h => by simp [spl] at h; subst h; simp
  | b :: l, x, h => by
    rw [spl] at h
    split at h
    · rcases List.mem_cons.1 h with rfl | h
      · simp
      · have := spl_mem h; simp only [List.length_cons]; omega
    · split at h
      · rename_i e; simp at h; subst h; simp
      · rename_i y t e
        have hy : y ∈ spl l := by rw [e]; simp
        rcases List.mem_cons.1 h with rfl | h
        · have := spl_mem hy; simp only [List.length_cons]; omega
        · have hx : x ∈ spl l := by rw [e]; simp [h]
          have := spl_mem hx; simp only [List.length_cons]; omega
theorem parts_mem {s x : ByteArray} (h : x ∈ parts s) : x.size ≤ s.size := by
  unfold parts at h
  obtain ⟨y, hy, rfl⟩ := List.mem_map.1 h
  have := spl_mem hy
  exact this
def splitR : Option (List ByteArray) → PV
  | some l => .two (.c (.sl 1 (l.map strD))) (.c (.v (.int .i64 0)))
  | none => .two (.c (.v (.slice none 0 0))) (.c (.v (.int .i64 10)))
attribute [push_cast] splitR
set_option maxHeartbeats 1000000 in
theorem nsplit_pure (s : ByteArray) (hs : s.size ≤ 100000000) :
    PCalls Tryz.prog 73 [.c (.v (.string s))] [] fun r os => r = splitR (splitP s) ∧ os = [] := by
  have hrs := rest_size s
  have hps := parts_size (s := restS s)
  have hsp := split_pure (restS s) (by omega)
  have hpm := fun x hx => parts_mem (s := restS s) (x := x) hx
  unfold splitP
  obtain ⟨l, hl⟩ : ∃ l, parts (restS s) = l := ⟨_, rfl⟩
  rw [hl] at hps hsp ⊢
  simp only [hl] at hpm
  have hal := all_pure l (by omega) (fun x hx => by have := hpm x hx; omega)
  have htk := List.take_of_length_le (l := l.map strD) (i := l.length) (by simp)
  refine pcalls_of Tryz.func73 rfl (by simp [Tryz.ntmps73]) ?_
  rw [Tryz.ntmps73, Tryz.results73]
  have hcp := cutp_pure s
  obtain ⟨b, hb⟩ : ∃ b, slashS s = b := ⟨_, rfl⟩
  obtain ⟨c, hc⟩ : ∃ c, l.all validS = c := ⟨_, rfl⟩
  rw [hb] at hcp ⊢
  rw [hc] at hal ⊢
  cases b <;> cases c
  all_goals push_cast [iO, tN]
  all_goals repeat' (first |  (refine plc [] (hcp) ?_ ?_; push_cast [iO, tN]; rintro r os ⟨rfl, rfl⟩; push_cast [iO, tN]) | (refine plc [] (hsp) ?_ ?_; push_cast [iO, tN]; rintro r os ⟨rfl, rfl⟩; push_cast [iO, tN]) | (refine pl_call2 true [] rfl rfl (by kernel_rfl) (hal) ?_ ?_ ?_; push_cast [iO, tN]; (intro _ r os; rintro ⟨rfl, rfl⟩; push_cast [iO, tN]); rintro r os ⟨rfl, rfl⟩; refine pl_of_pops ?_; push_cast [iO, tN])  | ((first | refine pG ?_ | refine pQ ?_ | refine pU ?_); push_cast [iO, tN]) | (refine pif (fun h => ?_) (fun h => ?_) <;> first | exact pN h | push_cast [iO, tN]))
  all_goals (refine retK_of [] ?_; push_cast [iO, tN, htk, and_self, and_false, false_and, Bool.false_eq_true])
theorem isnan_pure (s : ByteArray) : PCalls Tryz.prog 168 [.c (.v (.string s))] [] fun r os => r = .c (.v (.bool false)) ∧ os = [] := by
  refine pcalls_of Tryz.func168 rfl (by simp [Tryz.ntmps168]) ?_
  rw [Tryz.ntmps168, Tryz.results168]
  push_cast [iO, tN]
  repeat' (first | ((first | refine pG ?_ | refine pQ ?_ | refine pU ?_); push_cast [iO, tN, ne_eq, not_true_eq_false]) | (refine pif (fun h => ?_) (fun h => ?_) <;> first | exact pN h | push_cast [iO, tN, ne_eq, not_true_eq_false]))
  (refine retK_of [] ?_; push_cast [iO, tN])
theorem ccmp_pure (a b : ByteArray) : PCalls Tryz.prog 151 [.c (.v (.string a)), .c (.v (.string b))] [] fun r os => r = .c (.v (.int .i64 (cmpS a b))) ∧ os = [] := by
  refine pcalls_of Tryz.func151 rfl (by simp [Tryz.ntmps151]) ?_
  rw [Tryz.ntmps151, Tryz.results151]
  unfold cmpS
  obtain ⟨x, hx⟩ : ∃ x, bless a b = x := ⟨_, rfl⟩
  obtain ⟨y, hy⟩ : ∃ y, bless b a = y := ⟨_, rfl⟩
  rw [hx, hy]
  cases x <;> cases y
  all_goals push_cast [iO, tN]
  all_goals repeat' (first | (refine plc [] (isnan_pure a) ?_ ?_; push_cast [iO, tN, hx, hy]; rintro r os ⟨rfl, rfl⟩; push_cast [iO, tN, hx, hy]) | (refine plc [] (isnan_pure b) ?_ ?_; push_cast [iO, tN, hx, hy]; rintro r os ⟨rfl, rfl⟩; push_cast [iO, tN, hx, hy]) | ((first | refine pG ?_ | refine pQ ?_ | refine pU ?_); push_cast [iO, tN, hx, hy]) | (refine pif (fun h => ?_) (fun h => ?_) <;> first | exact pN h | push_cast [iO, tN, hx, hy]))
  all_goals (refine retK_of [] ?_; push_cast [iO, tN])
theorem cmpL_atN : ∀ {l m : List ByteArray} {k : Nat}, k ≤ l.length → k ≤ m.length → l.take k = m.take k → cmpL l m = cmpL (l.drop k) (m.drop k)
  | l, m, 0, _, _, _ => by simp
  | [], m, k + 1, h, _, _ => by simp at h
  | a :: l, [], k + 1, _, h, _ => by simp at h
  | a :: l, b :: m, k + 1, h1, h2, h3 => by
    simp only [List.take_succ_cons, List.cons.injEq] at h3
    obtain ⟨rfl, h3⟩ := h3
    rw [cmpL, if_pos rfl]
    simp only [List.drop_succ_cons]
    exact cmpL_atN (by simpa using h1) (by simpa using h2) h3
theorem cmpL_stepN {l m : List ByteArray} {k : Nat} (h1 : k < l.length) (h2 : k < m.length) (h3 : l.take k = m.take k) : cmpL l m = if l.getD k default = m.getD k default then cmpL (l.drop (k + 1)) (m.drop (k + 1)) else cmpS (l.getD k default) (m.getD k default) := by
  rw [cmpL_atN (by omega) (by omega) h3, List.drop_eq_getElem_cons h1, List.drop_eq_getElem_cons h2, cmpL, getD_lt l h1, getD_lt m h2]
set_option maxHeartbeats 1000000 in
theorem scompare_pure (l m : List ByteArray) (hl : l.length ≤ 1000000000) (hm : m.length ≤ 1000000000) :
    PCalls Tryz.prog 131 [.c (.sl 1 (l.map strD)), .c (.sl 1 (m.map strD))] [] fun r os => r = .c (.v (.int .i64 (cmpL l m))) ∧ os = [] := by
  refine pcalls_of Tryz.func131 rfl (by simp [Tryz.ntmps131]) ?_
  rw [Tryz.ntmps131, Tryz.results131]
  push_cast [iO, tN]
  have cB : CutB 12 [] := trivial
  repeat' (first | ((first | refine pC ?_ | refine pQC ?_ | refine pU ?_); push_cast [iO, tN]) | (refine pif (fun h => ?_) (fun h => ?_) <;> first | exact pN h | push_cast [iO, tN]))
  (apply pwp_loop3 (α := Nat) 12 [] (fun k => [(11, .c (.v (.int .i64 k)))]) (fun k => []) (fun k => k ≤ l.length ∧ k ≤ m.length ∧ l.take k = m.take k) (fun k => l.length - k) (0); (focus ((try push_cast [iO, tN]); rfl)); (focus exact ⟨by omega, by omega, rfl⟩); (focus ((refine weak_fg ?_; try push_cast [iO, tN]))))
  rintro k ⟨hk, hk2, he⟩
  push_cast [iO, tN]
  by_cases h1 : k < l.length
  · by_cases h2 : k < m.length
    · have hst := cmpL_stepN h1 h2 he
      by_cases e : l.getD k default = m.getD k default
      · have hc : cmpS (l.getD k default) (m.getD k default) = 0 := cmpS_eq.2 e
        repeat' (first | (refine plc [] (ccmp_pure (l.getD k default) (m.getD k default)) ?_ ?_; push_cast [iO, tN, hc]; rintro r os ⟨rfl, rfl⟩; push_cast [iO, tN, hc]) | ((first | refine pC ?_ | refine pQC ?_ | refine pU ?_); push_cast [iO, tN, hc]) | (refine pif (fun h => ?_) (fun h => ?_) <;> first | exact pN h | push_cast [iO, tN, hc]))
        refine ⟨k + 1, ⟨by omega, by omega, ?_⟩, by (refine weak_fg ?_; push_cast [iO, tN]), by omega⟩
        rw [List.take_succ_eq_append_getElem h1, List.take_succ_eq_append_getElem h2, he, ← getD_lt l h1, ← getD_lt m h2, e]
      · have hc : ¬ cmpS (l.getD k default) (m.getD k default) = 0 := fun h => e (cmpS_eq.1 h)
        rw [if_neg e] at hst
        repeat' (first | (refine plc [] (ccmp_pure (l.getD k default) (m.getD k default)) ?_ ?_; push_cast [iO, tN, hc]; rintro r os ⟨rfl, rfl⟩; push_cast [iO, tN, hc]) | ((first | refine pC ?_ | refine pQC ?_ | refine pU ?_); push_cast [iO, tN, hc]) | (refine pif (fun h => ?_) (fun h => ?_) <;> first | exact pN h | push_cast [iO, tN, hc]))
        (refine retK_of [] ?_; push_cast [iO, tN])
        rw [hst]
    · have hke : k = m.length := by omega
      have hcl : cmpL l m = 1 := by
        have hz : m.drop k = [] := List.drop_eq_nil_of_le (by omega)
        rw [cmpL_atN (by omega) (by omega) he, hz, List.drop_eq_getElem_cons h1]; rfl
      repeat' (first | ((first | refine pC ?_ | refine pQC ?_ | refine pU ?_); push_cast [iO, tN]) | (refine pif (fun h => ?_) (fun h => ?_) <;> first | exact pN h | push_cast [iO, tN]))
      (refine retK_of [] ?_; push_cast [iO, tN])
      rw [hcl]
  · have hke : k = l.length := by omega
    by_cases h2 : k < m.length
    · have hcl : cmpL l m = -1 := by
        have hz : l.drop k = [] := List.drop_eq_nil_of_le (by omega)
        rw [cmpL_atN (by omega) (by omega) he, hz, List.drop_eq_getElem_cons h2]; rfl
      repeat' (first | ((first | refine pC ?_ | refine pQC ?_ | refine pU ?_); push_cast [iO, tN]) | (refine pif (fun h => ?_) (fun h => ?_) <;> first | exact pN h | push_cast [iO, tN]))
      (refine retK_of [] ?_; push_cast [iO, tN])
      rw [hcl]
    · have hcl : cmpL l m = 0 := by
        rw [cmpL_atN (by omega) (by omega) he, List.drop_eq_nil_of_le (by omega), List.drop_eq_nil_of_le (by omega)]; rfl
      repeat' (first | ((first | refine pC ?_ | refine pQC ?_ | refine pU ?_); push_cast [iO, tN]) | (refine pif (fun h => ?_) (fun h => ?_) <;> first | exact pN h | push_cast [iO, tN]))
      (refine retK_of [] ?_; push_cast [iO, tN])
      rw [hcl]
def cmpR (a b : ByteArray) : PV := match splitP a, splitP b with
  | some l, some m => .two (.c (.v (.int .i64 (cmpL l m)))) (.c (.v (.int .i64 0)))
  | _, _ => .two (.c (.v (.int .i64 0))) (.c (.v (.int .i64 10)))
theorem splitP_size {s : ByteArray} {l : List ByteArray} (h : splitP s = some l) : l.length ≤ s.size + 1 := by
  unfold splitP at h
  split at h
  · cases h; have := rest_size s; have := parts_size (s := restS s); omega
  · cases h
set_option maxHeartbeats 1000000 in
theorem ncompare_pure (a b : ByteArray) (ha : a.size ≤ 100000000) (hb : b.size ≤ 100000000) :
    PCalls Tryz.prog 105 [.c (.v (.string a)), .c (.v (.string b))] [] fun r os => r = cmpR a b ∧ os = [] := by
  have h1 := nsplit_pure a ha
  have h2 := nsplit_pure b hb
  unfold cmpR
  refine pcalls_of Tryz.func105 rfl (by simp [Tryz.ntmps105]) ?_
  rw [Tryz.ntmps105, Tryz.results105]
  cases e1 : splitP a with
  | none =>
    rw [e1] at h1
    cases e2 : splitP b with
    | none =>
      rw [e2] at h2
      push_cast [iO, tN]
      repeat' (first |  (refine plc [] (h1) ?_ ?_; push_cast [iO, tN]; rintro r os ⟨rfl, rfl⟩; push_cast [iO, tN]) | (refine plc [] (h2) ?_ ?_; push_cast [iO, tN]; rintro r os ⟨rfl, rfl⟩; push_cast [iO, tN])  | ((first | refine pG ?_ | refine pQ ?_ | refine pU ?_); push_cast [iO, tN]) | (refine pif (fun h => ?_) (fun h => ?_) <;> first | exact pN h | push_cast [iO, tN]))
      (refine retK_of [] ?_; push_cast [iO, tN])
    | some m =>
      rw [e2] at h2
      push_cast [iO, tN]
      repeat' (first |  (refine plc [] (h1) ?_ ?_; push_cast [iO, tN]; rintro r os ⟨rfl, rfl⟩; push_cast [iO, tN]) | (refine plc [] (h2) ?_ ?_; push_cast [iO, tN]; rintro r os ⟨rfl, rfl⟩; push_cast [iO, tN])  | ((first | refine pG ?_ | refine pQ ?_ | refine pU ?_); push_cast [iO, tN]) | (refine pif (fun h => ?_) (fun h => ?_) <;> first | exact pN h | push_cast [iO, tN]))
      (refine retK_of [] ?_; push_cast [iO, tN])
  | some l =>
    rw [e1] at h1
    cases e2 : splitP b with
    | none =>
      rw [e2] at h2
      push_cast [iO, tN]
      repeat' (first |  (refine plc [] (h1) ?_ ?_; push_cast [iO, tN]; rintro r os ⟨rfl, rfl⟩; push_cast [iO, tN]) | (refine plc [] (h2) ?_ ?_; push_cast [iO, tN]; rintro r os ⟨rfl, rfl⟩; push_cast [iO, tN])  | ((first | refine pG ?_ | refine pQ ?_ | refine pU ?_); push_cast [iO, tN]) | (refine pif (fun h => ?_) (fun h => ?_) <;> first | exact pN h | push_cast [iO, tN]))
      (refine retK_of [] ?_; push_cast [iO, tN])
    | some m =>
      rw [e2] at h2
      have := splitP_size e1
      have := splitP_size e2
      push_cast [iO, tN]
      repeat' (first |  (refine plc [] (h1) ?_ ?_; push_cast [iO, tN]; rintro r os ⟨rfl, rfl⟩; push_cast [iO, tN]) | (refine plc [] (h2) ?_ ?_; push_cast [iO, tN]; rintro r os ⟨rfl, rfl⟩; push_cast [iO, tN]) | (refine plc [] (scompare_pure l m (by omega) (by omega)) ?_ ?_; push_cast [iO, tN]; rintro r os ⟨rfl, rfl⟩; push_cast [iO, tN])  | ((first | refine pG ?_ | refine pQ ?_ | refine pU ?_); push_cast [iO, tN]) | (refine pif (fun h => ?_) (fun h => ?_) <;> first | exact pN h | push_cast [iO, tN]))
      (refine retK_of [] ?_; push_cast [iO, tN])
end Go.Proofs.YtcnoopjacilceaaGreatDoor
namespace Go.Proofs.YtcnoopjacilceaaGreatDoor
attribute [local irreducible] PL QL PWPr PCalls Weak RetK Kontr PA
open Go.RowKit
open IntWalk renaming iteOmega → iO, toNatUp → tN
set_option linter.unusedVariables false
set_option linter.unusedSimpArgs false
set_option maxRecDepth 20000
def rsplitR : Option (List ByteArray) → PV
  | some l => .two (.c (.sl 1 (l.map strD))) (.c (.v (.bool true)))
  | none => .two (.c (.v (.slice none 0 0))) (.c (.v (.bool false)))
attribute [push_cast] rsplitR
end Go.Proofs.YtcnoopjacilceaaGreatDoor
namespace Go.Proofs.YtcnoopjacilceaaGreatDoor
attribute [local irreducible] PL QL PWPr PCalls Weak RetK Kontr PA
open Go.RowKit
open IntWalk renaming iteOmega → iO, toNatUp → tN
set_option linter.unusedVariables false
set_option linter.unusedSimpArgs false
set_option maxRecDepth 20000
theorem acc_eq {a b : Acc} : a = b ↔ a.path = b.path ∧ a.node = b.node ∧ a.user = b.user := by
  constructor
  · rintro rfl; exact ⟨rfl, rfl, rfl⟩
  · obtain ⟨p, n, u⟩ := a
    obtain ⟨p', n', u'⟩ := b
    rintro ⟨h1, h2, h3⟩
    simp only at h1 h2 h3
    subst h1; subst h2; subst h3; rfl
theorem acc_beq (a b : Acc) : (decide (a.path = b.path) && (decide (a.node = b.node) && decide (a.user = b.user))) = decide (a = b) := by
  rw [Bool.eq_iff_iff]
  simp only [Bool.and_eq_true, decide_eq_true_eq, acc_eq]
def ofT (l : List Acc) (u : ByteArray) (k : Nat) : List ByteArray := ((l.take k).filter fun a => decide (a.user = u)).map Acc.node
def ofA (l : List Acc) (u : ByteArray) : List ByteArray := (l.filter fun a => decide (a.user = u)).map Acc.node
theorem ofT_end {l : List Acc} {u : ByteArray} {k : Nat} (h : ¬ k < l.length) : ofT l u k = ofA l u := by rw [ofT, List.take_of_length_le (by omega), ofA]
theorem ofT_t {l : List Acc} {u : ByteArray} {k : Nat} (hk : k < l.length) (h : (l.getD k default).user = u) : ofT l u (k + 1) = ofT l u k ++ [(l.getD k default).node] := by
  rw [getD_lt l hk] at h ⊢
  rw [ofT, List.take_succ_eq_append_getElem hk, List.filter_append, List.filter_cons_of_pos (by simpa using h), List.map_append]; rfl
theorem ofT_f {l : List Acc} {u : ByteArray} {k : Nat} (hk : k < l.length) (h : ¬ (l.getD k default).user = u) : ofT l u (k + 1) = ofT l u k := by
  rw [getD_lt l hk] at h
  rw [ofT, List.take_succ_eq_append_getElem hk, List.filter_append, List.filter_cons_of_neg (by simpa using h), List.map_append]; simp [ofT]
theorem ofT_len (l : List Acc) (u : ByteArray) (k : Nat) : (ofT l u k).length ≤ l.length := by
  have := List.length_filter_le (fun a : Acc => decide (a.user = u)) (l.take k)
  rw [List.length_take] at this
  rw [ofT, List.length_map]; omega
set_option maxHeartbeats 1000000 in
theorem same38_pure (l m : List Acc) (hl : l.length ≤ 1000000000) (hm : m.length ≤ 1000000000) :
    PCalls Tryz.prog 8 [.c (.sl 3 (l.map Acc.d)), .c (.sl 3 (m.map Acc.d))] [] fun r os => r = .c (.v (.bool (decide (l = m)))) ∧ os = [] := by
  refine pcalls_of Tryz.func8 rfl (by simp [Tryz.ntmps8]) ?_
  rw [Tryz.ntmps8, Tryz.results8]
  push_cast [iO, tN]
  have cB : CutB 6 [] := trivial
  by_cases hlm : l.length = m.length
  · have hlm' : ((l.length : Int) = m.length) = True := eq_true (by omega)
    repeat' (first | ((first | refine pC ?_ | refine pQC ?_ | refine pU ?_); push_cast [iO, tN, hlm', ne_eq, not_true_eq_false]) | (refine pif (fun h => ?_) (fun h => ?_) <;> first | exact pN h | push_cast [iO, tN, hlm', ne_eq, not_true_eq_false]))
    (apply pwp_loop3 (α := Nat) 6 [] (fun k => [(5, .c (.v (.int .i64 k)))]) (fun k => []) (fun k => k ≤ l.length ∧ l.take k = m.take k) (fun k => l.length - k) (0); (focus ((try push_cast [iO, tN]); rfl)); (focus exact ⟨by omega, rfl⟩); (focus ((refine weak_fg ?_; try push_cast [iO, tN]))))
    rintro k ⟨hk, hn⟩
    push_cast [iO, tN]
    by_cases hlt : k < l.length
    · have hlt2 : k < m.length := by omega
      have hb := acc_beq (l.getD k default) (m.getD k default)
      by_cases he : l.getD k default = m.getD k default
      · rw [decide_eq_true he] at hb
        repeat' (first | ((first | refine pC ?_ | refine pQC ?_ | refine pU ?_); push_cast [iO, tN, hb]) | (refine pif (fun h => ?_) (fun h => ?_) <;> first | exact pN h | push_cast [iO, tN, hb]))
        refine ⟨k + 1, ⟨by omega, ?_⟩, by (refine weak_fg ?_; push_cast [iO, tN]), by omega⟩
        rw [List.take_succ_eq_append_getElem hlt, List.take_succ_eq_append_getElem hlt2, hn, ← getD_lt l hlt, ← getD_lt m hlt2, he]
      · rw [decide_eq_false he] at hb
        repeat' (first | ((first | refine pC ?_ | refine pQC ?_ | refine pU ?_); push_cast [iO, tN, hb]) | (refine pif (fun h => ?_) (fun h => ?_) <;> first | exact pN h | push_cast [iO, tN, hb]))
        (refine retK_of [] ?_; push_cast [iO, tN])
        rw [decide_eq_false]
        rintro rfl
        exact he rfl
    · rw [List.take_of_length_le (by omega), List.take_of_length_le (by omega)] at hn
      repeat' (first | ((first | refine pC ?_ | refine pQC ?_ | refine pU ?_); push_cast [iO, tN]) | (refine pif (fun h => ?_) (fun h => ?_) <;> first | exact pN h | push_cast [iO, tN]))
      (refine retK_of [] ?_; push_cast [iO, tN])
      rw [decide_eq_true hn]
  · have hlm' : ¬ ((l.length : Int) = m.length) := by omega
    repeat' (first | ((first | refine pC ?_ | refine pQC ?_ | refine pU ?_); push_cast [iO, tN, hlm', ne_eq, not_false_eq_true]) | (refine pif (fun h => ?_) (fun h => ?_) <;> first | exact pN h | push_cast [iO, tN, hlm', ne_eq, not_false_eq_true]))
    (refine retK_of [] ?_; push_cast [iO, tN])
    rw [decide_eq_false]
    rintro rfl
    exact hlm rfl
end Go.Proofs.YtcnoopjacilceaaGreatDoor
namespace Go.Proofs.YtcnoopjacilceaaGreatDoor
attribute [local irreducible] PL QL PWPr PCalls Weak RetK Kontr PA
open Go.RowKit
open IntWalk renaming iteOmega → iO, toNatUp → tN
set_option linter.unusedVariables false
set_option linter.unusedSimpArgs false
set_option maxRecDepth 20000
theorem clone_pure (l : List Acc) (hl : l.length ≤ 1000000000) :
    PCalls Tryz.prog 70 [.c (.sl 3 (l.map Acc.d))] [] fun r os => r = .c (.own 0 l.length) ∧ os = [.arr 43 3 (l.map Acc.d)] := by
  refine pcalls_adopt (R := fun r os => (r = .c (.own 0 l.length) ∧ os = [.arr 43 3 (l.map Acc.d)]) ∨ (r = .c (.v (.slice none 0 0)) ∧ os = [] ∧ l = [])) 43 3 (by omega) ?_ (by
    rintro r os (h | ⟨rfl, rfl, rfl⟩)
    · exact .inl h
    · exact .inr ⟨rfl, rfl, rfl⟩)
  by_cases h0 : l = []
  · subst h0
    refine pcalls_split0 (l1 := []) (l2 := []) fun A c => ?_
    cases A with
    | none =>
      refine PCalls.mono (R := fun r os => r = .c (.v (.slice none 0 0)) ∧ os = []) ?_ (fun r os h => .inr ⟨h.1, h.2, rfl⟩)
      refine pcalls_of Tryz.func70 rfl (by simp [Tryz.ntmps70]) ?_
      rw [Tryz.ntmps70, Tryz.results70]
      push_cast [iO, tN]
      repeat' (first | ((first | refine pG ?_ | refine pQ ?_ | refine pU ?_); push_cast [iO, tN]) | (refine pif (fun h => ?_) (fun h => ?_) <;> first | exact pN h | push_cast [iO, tN]))
      (refine retK_of [] ?_; push_cast [iO, tN])
    | some a =>
      refine PCalls.mono (R := fun r os => r = .c (.own 0 0) ∧ os = [.arr 43 3 []]) ?_ (fun r os h => .inl h)
      refine pcalls_of Tryz.func70 rfl (by simp [Tryz.ntmps70]) ?_
      rw [Tryz.ntmps70, Tryz.results70]
      push_cast [iO, tN]
      repeat' (first | ((first | refine pG ?_ | refine pQ ?_ | refine pU ?_); push_cast [iO, tN]) | (refine pif (fun h => ?_) (fun h => ?_) <;> first | exact pN h | push_cast [iO, tN]))
      (refine retK_of [0] ?_; push_cast [iO, tN])
  · have h1 : 0 < l.length := List.length_pos_iff.2 h0
    refine PCalls.mono (R := fun r os => r = .c (.own 0 l.length) ∧ os = [.arr 43 3 (l.map Acc.d)]) ?_ (fun r os h => .inl h)
    refine pcalls_of Tryz.func70 rfl (by simp [Tryz.ntmps70]) ?_
    rw [Tryz.ntmps70, Tryz.results70]
    push_cast [iO, tN]
    repeat' (first | ((first | refine pG ?_ | refine pQ ?_ | refine pU ?_); push_cast [iO, tN]) | (refine pif (fun h => ?_) (fun h => ?_) <;> first | exact pN h | push_cast [iO, tN]))
    (refine retK_of [0] ?_; push_cast [iO, tN])
theorem delete_pure (l : List Acc) (i : Nat) (hi : i < l.length) (hl : l.length ≤ 1000000000) :
    PCalls Tryz.prog 69 [.c (.own 0 l.length), .c (.v (.int .i64 i)), .c (.v (.int .i64 (i + 1)))] [.arr 43 3 (l.map Acc.d)] fun r os => r = .c (.own 0 (l.length - 1)) ∧ os = [.arr 43 3 ((l.take i ++ (l.drop (i + 1) ++ [(default : Acc)])).map Acc.d)] := by
  refine pcalls_of Tryz.func69 rfl (by simp [Tryz.ntmps69]) ?_
  rw [Tryz.ntmps69, Tryz.results69]
  have e1 : i + (l.length - (i + 1)) = l.length - 1 := by omega
  push_cast [iO, tN]
  repeat' (first | ((refine pwp_drawn_to ⟨[(7, .c (.v (.int .i64 l.length))), (0, .c (.own 0 (l.length - 1)))], [.arr 43 3 ((l.map Acc.d).take i ++ ((l.map Acc.d).drop (i + 1) ++ (l.map Acc.d).drop (l.length - 1)))]⟩ (by kernel_rfl) ?_ ?_; (focus (simp only [List.length_cons, List.length_nil, Nat.reduceAdd]; (repeat' first | ((first | refine pah 0 ?_ | refine pah 1 ?_ | refine pah 2 ?_ | refine pah 3 ?_ | refine pah 4 ?_ | refine pah 5 ?_ | refine pah 7 ?_); push_cast [iO, tN,  e1 ]) | (refine pad ?_; refine weak_fg ?_; push_cast [iO, tN,  e1 ]) | ((first | refine pas [6] ?_); push_cast [iO, tN,  e1 ])); done)); push_cast [iO, tN,  e1 ])) | ((first | refine pG ?_ | refine pQ ?_ | refine pU ?_); push_cast [iO, tN, e1]) | (refine pif (fun h => ?_) (fun h => ?_) <;> first | exact pN h | push_cast [iO, tN, e1]))
  (refine retK_of [0] ?_; push_cast [iO, tN])
  have h1 : l.length - (l.length - 1) = 1 := by omega
  have h2 : ((l.map Acc.d).take i ++ (l.map Acc.d).drop (i + 1)).length = l.length - 1 := by simp; omega
  have h3 : ((l.map Acc.d).take i ++ ((l.map Acc.d).drop (i + 1) ++ (l.map Acc.d).drop (l.length - 1))) = ((l.map Acc.d).take i ++ (l.map Acc.d).drop (i + 1)) ++ (l.map Acc.d).drop (l.length - 1) := by rw [List.append_assoc]
  have h4 : (((l.map Acc.d).take i ++ (l.map Acc.d).drop (i + 1)) ++ (l.map Acc.d).drop (l.length - 1)).drop (l.length - 1 + 1) = [] := List.drop_eq_nil_of_le (by simp only [List.length_append, List.length_take, List.length_drop, List.length_map]; omega)
  rw [h1, h3, List.take_left' h2, h4]
  simp [List.map_take, List.map_drop, List.append_assoc, Acc.d]
  all_goals (first | done | exact ⟨rfl, rfl, rfl⟩)
end Go.Proofs.YtcnoopjacilceaaGreatDoor
namespace Go.Proofs.YtcnoopjacilceaaGreatDoor
attribute [local irreducible] PL QL PWPr PCalls Weak RetK Kontr PA
open Go.RowKit
open IntWalk renaming iteOmega → iO, toNatUp → tN
set_option linter.unusedVariables false
set_option linter.unusedSimpArgs false
set_option maxRecDepth 20000
theorem cmpR_eq (a b : ByteArray) : ∃ e : Int, cmpR a b = .two (.c (.v (.int .i64 (cmpP a b)))) (.c (.v (.int .i64 e))) := by
  unfold cmpR cmpP
  cases splitP a <;> cases splitP b <;> exact ⟨_, rfl⟩
theorem compare_pure (a b : Acc) (ha : a.path.size ≤ 100000000) (hb : b.path.size ≤ 100000000) :
    PCalls Tryz.prog 75 [.agg a.e, .agg b.e] [] fun r os => r = .c (.v (.int .i64 (cmpP a.path b.path))) ∧ os = [] := by
  have h := ncompare_pure a.path b.path ha hb
  obtain ⟨e, he⟩ := cmpR_eq a.path b.path
  rw [he] at h
  refine pcalls_of Tryz.func75 rfl (by simp [Tryz.ntmps75]) ?_
  rw [Tryz.ntmps75, Tryz.results75]
  push_cast [iO, tN]
  repeat' (first |  (refine plc [] (h) ?_ ?_; push_cast [iO, tN]; rintro r os ⟨rfl, rfl⟩; push_cast [iO, tN])  | ((first | refine pG ?_ | refine pQ ?_ | refine pU ?_); push_cast [iO, tN]) | (refine pif (fun h => ?_) (fun h => ?_) <;> first | exact pN h | push_cast [iO, tN]))
  (refine retK_of [] ?_; push_cast [iO, tN])
def clashA (x y : Acc) : Bool := decide (y.path = x.path) || decide (y.node = x.node)
theorem applyF_pure (x y : Acc) :
    PCalls Tryz.prog 72 [.agg y.e, .c (.ptr 0 0)] [.box 43 x.e] fun r os => r = .c (.v (.bool (clashA x y))) ∧ os = [.box 43 x.e] := by
  unfold clashA
  refine pcalls_of Tryz.func72 rfl (by simp [Tryz.ntmps72]) ?_
  rw [Tryz.ntmps72, Tryz.results72]
  by_cases h1 : y.path = x.path
  · have e1 := eq_true h1
    push_cast [iO, tN]
    repeat' (first | ((first | refine pG ?_ | refine pQ ?_ | refine pU ?_); push_cast [iO, tN, e1]) | (refine pif (fun h => ?_) (fun h => ?_) <;> first | exact pN h | push_cast [iO, tN, e1]))
    (refine retK_of [0] ?_; push_cast [iO, tN])
  · push_cast [iO, tN]
    repeat' (first | ((first | refine pG ?_ | refine pQ ?_ | refine pU ?_); push_cast [iO, tN, h1]) | (refine pif (fun h => ?_) (fun h => ?_) <;> first | exact pN h | push_cast [iO, tN, h1]))
    (refine retK_of [0] ?_; push_cast [iO, tN])
set_option maxHeartbeats 1000000 in
theorem aindex_pure (l : List Acc) (x : Acc) (hl : l.length ≤ 1000000000) :
    PCalls Tryz.prog 68 [.c (.sl 3 (l.map Acc.d)), .agg x.e] [] fun r os => ∃ k, idxA (fun y => decide (y = x)) l k ∧ r = .c (.v (.int .i64 k)) ∧ os = [] := by
  refine pcalls_of Tryz.func68 rfl (by simp [Tryz.ntmps68]) ?_
  rw [Tryz.ntmps68, Tryz.results68]
  push_cast [iO, tN]
  have cB : CutB 9 [] := trivial
  repeat' (first | ((first | refine pC ?_ | refine pQC ?_ | refine pU ?_); push_cast [iO, tN]) | (refine pif (fun h => ?_) (fun h => ?_) <;> first | exact pN h | push_cast [iO, tN]))
  (apply pwp_loop3 (α := Nat) 9 [] (fun k => [(8, .c (.v (.int .i64 k)))]) (fun k => []) (fun k => k ≤ l.length ∧ ∀ y ∈ l.take k, decide (y = x) = false) (fun k => l.length - k) (0); (focus ((try push_cast [iO, tN]); rfl)); (focus exact ⟨by omega, by simp⟩); (focus ((refine weak_fg ?_; try push_cast [iO, tN]))))
  rintro k ⟨hk, hn⟩
  push_cast [iO, tN]
  by_cases hlt : k < l.length
  · have hb := acc_beq x (l.getD k default)
    by_cases he : x = l.getD k default
    · rw [decide_eq_true he] at hb
      repeat' (first | ((first | refine pC ?_ | refine pQC ?_ | refine pU ?_); push_cast [iO, tN, hb]) | (refine pif (fun h => ?_) (fun h => ?_) <;> first | exact pN h | push_cast [iO, tN, hb]))
      (refine retK_of [] ?_; push_cast [iO, tN])
      exact ⟨_, _, leP_refl _, leOs_refl _, (k : Int), .inr ⟨k, rfl, hlt, by simp [he], hn⟩, rfl, rfl⟩
    · rw [decide_eq_false he] at hb
      repeat' (first | ((first | refine pC ?_ | refine pQC ?_ | refine pU ?_); push_cast [iO, tN, hb]) | (refine pif (fun h => ?_) (fun h => ?_) <;> first | exact pN h | push_cast [iO, tN, hb]))
      refine ⟨k + 1, ⟨by omega, fun y hy => ?_⟩, by (refine weak_fg ?_; push_cast [iO, tN]), by omega⟩
      rw [List.take_succ_eq_append_getElem hlt] at hy
      rcases List.mem_append.1 hy with hy | hy
      · exact hn y hy
      · rw [List.mem_singleton.1 hy, ← getD_lt l hlt]; exact decide_eq_false (Ne.symm he)
  · rw [List.take_of_length_le (by omega)] at hn
    repeat' (first | ((first | refine pC ?_ | refine pQC ?_ | refine pU ?_); push_cast [iO, tN]) | (refine pif (fun h => ?_) (fun h => ?_) <;> first | exact pN h | push_cast [iO, tN]))
    (refine retK_of [] ?_; push_cast [iO, tN])
    exact ⟨_, _, leP_refl _, leOs_refl _, -1, .inl ⟨rfl, hn⟩, rfl, rfl⟩
end Go.Proofs.YtcnoopjacilceaaGreatDoor
