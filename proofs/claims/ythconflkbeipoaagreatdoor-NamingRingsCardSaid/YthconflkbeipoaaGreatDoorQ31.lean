/- What the program computes, and the plain laws of it, part 31. -/
import Derived.Test.YthconflkbeipoaaGreatDoorQ30
namespace Go.Proofs.YthconflkbeipoaaGreatDoor
attribute [local irreducible] PL QL PWPr PCalls Weak RetK Kontr PA
open Go.RowKit
open IntWalk renaming iteOmega → iO, toNatUp → tN
set_option linter.unusedVariables false
set_option linter.unusedSimpArgs false
set_option maxRecDepth 20000
set_option maxHeartbeats 1000000 in
theorem allF_pure (x : ByteArray) (hx : x.size ≤ 9223372036854775807) :
    PCalls Tryz.prog 147 [.c (.v (.string x)), .c (.ptr 0 0)] [.box 97 [.fn (.func 117) [] []]] fun r os => r = .c (.v (.bool (!validS x))) ∧ os = [.box 97 [.fn (.func 117) [] []]] := by
  refine pcalls_of Tryz.func147 rfl (by simp [Tryz.ntmps147]) ?_
  rw [Tryz.ntmps147, Tryz.results147]
  push_cast [iO, tN]
  repeat' (first |  (refine plc [] (valid_pure x hx) ?_ ?_; push_cast [iO, tN]; rintro r os ⟨rfl, rfl⟩; push_cast [iO, tN])  | ((first | refine pG ?_ | refine pQ ?_ | refine pU ?_); push_cast [iO, tN]) | (refine pif (fun h => ?_) (fun h => ?_) <;> first | exact pN h | push_cast [iO, tN]))
  (refine retK_of [0] ?_; push_cast [iO, tN])
set_option maxHeartbeats 1000000 in
theorem all_pure (l : List ByteArray) (hl : l.length ≤ 1000000000) (hz : ∀ x ∈ l, x.size ≤ 9223372036854775807) :
    PCalls Tryz.prog 116 [.c (.sl 1 (l.map strD)), .c (.fn (.func 117) [] [])] [] fun r os => r = .c (.v (.bool (l.all validS))) ∧ os = [] := by
  have hc := containsFuncS_pure l hl 147 [0] [.box 97 [.fn (.func 117) [] []]] (fun x => !validS x) ⟨by kernel_rfl, fun x hx => allF_pure x (hz x hx)⟩
  have e : (!(l.any fun x => !validS x)) = l.all validS := by rw [List.all_eq_not_any_not]
  refine pcalls_of Tryz.func116 rfl (by simp [Tryz.ntmps116]) ?_
  rw [Tryz.ntmps116, Tryz.results116]
  push_cast [iO, tN]
  repeat' (first |  (refine plc [0] (hc) ?_ ?_; push_cast [iO, tN]; rintro r os ⟨rfl, rfl⟩; push_cast [iO, tN])  | ((first | refine pG ?_ | refine pQ ?_ | refine pU ?_); push_cast [iO, tN]) | (refine pif (fun h => ?_) (fun h => ?_) <;> first | exact pN h | push_cast [iO, tN]))
  (refine retK_of [] ?_; push_cast [iO, tN, e])
theorem extract_size (s : ByteArray) : (s.extract 1 s.size).size = s.size - 1 := by
  have h := congrArg List.length (Lib.extract_to_end s 1)
  rw [List.length_drop] at h
  exact h
theorem rest_size (s : ByteArray) : (restS s).size ≤ s.size := by
  unfold restS
  split
  · rw [extract_size]; omega
  · exact Nat.le_refl _
theorem spl_mem : ∀ {l x : List UInt8}, x ∈ spl l → x.length ≤ l.length
  | [], x, h => by simp [spl] at h; subst h; simp
  | b :: l, x, h => by
    rw [spl] at h
    split at h
    · rcases List.mem_cons.1 h with rfl | h
      · simp
      · have := spl_mem h; simp only [List.length_cons]; omega
    · split at h
      · rename_i e; simp at h; subst h; simp
      · rename_i y t e
        have hy : y ∈ spl l := by rw [e]; simp
        rcases List.mem_cons.1 h with rfl | h
        · have := spl_mem hy; simp only [List.length_cons]; omega
        · have hx : x ∈ spl l := by rw [e]; simp [h]
          have := spl_mem hx; simp only [List.length_cons]; omega
theorem parts_mem {s x : ByteArray} (h : x ∈ parts s) : x.size ≤ s.size := by
  unfold parts at h
  obtain ⟨y, hy, rfl⟩ := List.mem_map.1 h
  have := spl_mem hy
  exact this
def splitR : Option (List ByteArray) → PV
  | some l => .two (.c (.sl 1 (l.map strD))) (.c (.v (.int .i64 0)))
  | none => .two (.c (.v (.slice none 0 0))) (.c (.v (.int .i64 10)))
attribute [push_cast] splitR
set_option maxHeartbeats 1000000 in
theorem nsplit_pure (s : ByteArray) (hs : s.size ≤ 100000000) :
    PCalls Tryz.prog 65 [.c (.v (.string s))] [] fun r os => r = splitR (splitP s) ∧ os = [] := by
  have hrs := rest_size s
  have hps := parts_size (s := restS s)
  have hsp := split_pure (restS s) (by omega)
  have hpm := fun x hx => parts_mem (s := restS s) (x := x) hx
  unfold splitP
  obtain ⟨l, hl⟩ : ∃ l, parts (restS s) = l := ⟨_, rfl⟩
  rw [hl] at hps hsp ⊢
  simp only [hl] at hpm
  have hal := all_pure l (by omega) (fun x hx => by have := hpm x hx; omega)
  have htk := List.take_of_length_le (l := l.map strD) (i := l.length) (by simp)
  refine pcalls_of Tryz.func65 rfl (by simp [Tryz.ntmps65]) ?_
  rw [Tryz.ntmps65, Tryz.results65]
  have hcp := cutp_pure s
  obtain ⟨b, hb⟩ : ∃ b, slashS s = b := ⟨_, rfl⟩
  obtain ⟨c, hc⟩ : ∃ c, l.all validS = c := ⟨_, rfl⟩
  rw [hb] at hcp ⊢
  rw [hc] at hal ⊢
  cases b <;> cases c
  all_goals push_cast [iO, tN]
  all_goals repeat' (first |  (refine plc [] (hcp) ?_ ?_; push_cast [iO, tN]; rintro r os ⟨rfl, rfl⟩; push_cast [iO, tN]) | (refine plc [] (hsp) ?_ ?_; push_cast [iO, tN]; rintro r os ⟨rfl, rfl⟩; push_cast [iO, tN]) | (refine pl_call2 true [] rfl rfl (by kernel_rfl) (hal) ?_ ?_ ?_; push_cast [iO, tN]; (intro _ r os; rintro ⟨rfl, rfl⟩; push_cast [iO, tN]); rintro r os ⟨rfl, rfl⟩; refine pl_of_pops ?_; push_cast [iO, tN])  | ((first | refine pG ?_ | refine pQ ?_ | refine pU ?_); push_cast [iO, tN]) | (refine pif (fun h => ?_) (fun h => ?_) <;> first | exact pN h | push_cast [iO, tN]))
  all_goals (refine retK_of [] ?_; push_cast [iO, tN, htk, and_self, and_false, false_and, Bool.false_eq_true])
theorem isnan_pure (s : ByteArray) : PCalls Tryz.prog 173 [.c (.v (.string s))] [] fun r os => r = .c (.v (.bool false)) ∧ os = [] := by
  refine pcalls_of Tryz.func173 rfl (by simp [Tryz.ntmps173]) ?_
  rw [Tryz.ntmps173, Tryz.results173]
  push_cast [iO, tN]
  repeat' (first | ((first | refine pG ?_ | refine pQ ?_ | refine pU ?_); push_cast [iO, tN, ne_eq, not_true_eq_false]) | (refine pif (fun h => ?_) (fun h => ?_) <;> first | exact pN h | push_cast [iO, tN, ne_eq, not_true_eq_false]))
  (refine retK_of [] ?_; push_cast [iO, tN])
theorem ccmp_pure (a b : ByteArray) : PCalls Tryz.prog 150 [.c (.v (.string a)), .c (.v (.string b))] [] fun r os => r = .c (.v (.int .i64 (cmpS a b))) ∧ os = [] := by
  refine pcalls_of Tryz.func150 rfl (by simp [Tryz.ntmps150]) ?_
  rw [Tryz.ntmps150, Tryz.results150]
  unfold cmpS
  obtain ⟨x, hx⟩ : ∃ x, bless a b = x := ⟨_, rfl⟩
  obtain ⟨y, hy⟩ : ∃ y, bless b a = y := ⟨_, rfl⟩
  rw [hx, hy]
  cases x <;> cases y
  all_goals push_cast [iO, tN]
  all_goals repeat' (first | (refine plc [] (isnan_pure a) ?_ ?_; push_cast [iO, tN, hx, hy]; rintro r os ⟨rfl, rfl⟩; push_cast [iO, tN, hx, hy]) | (refine plc [] (isnan_pure b) ?_ ?_; push_cast [iO, tN, hx, hy]; rintro r os ⟨rfl, rfl⟩; push_cast [iO, tN, hx, hy]) | ((first | refine pG ?_ | refine pQ ?_ | refine pU ?_); push_cast [iO, tN, hx, hy]) | (refine pif (fun h => ?_) (fun h => ?_) <;> first | exact pN h | push_cast [iO, tN, hx, hy]))
  all_goals (refine retK_of [] ?_; push_cast [iO, tN])
theorem cmpL_atN : ∀ {l m : List ByteArray} {k : Nat}, k ≤ l.length → k ≤ m.length → l.take k = m.take k → cmpL l m = cmpL (l.drop k) (m.drop k)
  | l, m, 0, _, _, _ => by simp
  | [], m, k + 1, h, _, _ => by simp at h
  | a :: l, [], k + 1, _, h, _ => by simp at h
  | a :: l, b :: m, k + 1, h1, h2, h3 => by
    simp only [List.take_succ_cons, List.cons.injEq] at h3
    obtain ⟨rfl, h3⟩ := h3
    rw [cmpL, if_pos rfl]
    simp only [List.drop_succ_cons]
    exact cmpL_atN (by simpa using h1) (by simpa using h2) h3
theorem cmpL_stepN {l m : List ByteArray} {k : Nat} (h1 : k < l.length) (h2 : k < m.length) (h3 : l.take k = m.take k) : cmpL l m = if l.getD k default = m.getD k default then cmpL (l.drop (k + 1)) (m.drop (k + 1)) else cmpS (l.getD k default) (m.getD k default) := by
  rw [cmpL_atN (by omega) (by omega) h3, List.drop_eq_getElem_cons h1, List.drop_eq_getElem_cons h2, cmpL, getD_lt l h1, getD_lt m h2]
set_option maxHeartbeats 1000000 in
theorem scompare_pure (l m : List ByteArray) (hl : l.length ≤ 1000000000) (hm : m.length ≤ 1000000000) :
    PCalls Tryz.prog 118 [.c (.sl 1 (l.map strD)), .c (.sl 1 (m.map strD))] [] fun r os => r = .c (.v (.int .i64 (cmpL l m))) ∧ os = [] := by
  refine pcalls_of Tryz.func118 rfl (by simp [Tryz.ntmps118]) ?_
  rw [Tryz.ntmps118, Tryz.results118]
  push_cast [iO, tN]
  have cB : CutB 12 [] := trivial
  repeat' (first | ((first | refine pC ?_ | refine pQC ?_ | refine pU ?_); push_cast [iO, tN]) | (refine pif (fun h => ?_) (fun h => ?_) <;> first | exact pN h | push_cast [iO, tN]))
  (apply pwp_loop3 (α := Nat) 12 [] (fun k => [(11, .c (.v (.int .i64 k)))]) (fun k => []) (fun k => k ≤ l.length ∧ k ≤ m.length ∧ l.take k = m.take k) (fun k => l.length - k) (0); (focus ((try push_cast [iO, tN]); rfl)); (focus exact ⟨by omega, by omega, rfl⟩); (focus ((refine weak_fg ?_; try push_cast [iO, tN]))))
  rintro k ⟨hk, hk2, he⟩
  push_cast [iO, tN]
  by_cases h1 : k < l.length
  · by_cases h2 : k < m.length
    · have hst := cmpL_stepN h1 h2 he
      by_cases e : l.getD k default = m.getD k default
      · have hc : cmpS (l.getD k default) (m.getD k default) = 0 := cmpS_eq.2 e
        repeat' (first | (refine plc [] (ccmp_pure (l.getD k default) (m.getD k default)) ?_ ?_; push_cast [iO, tN, hc]; rintro r os ⟨rfl, rfl⟩; push_cast [iO, tN, hc]) | ((first | refine pC ?_ | refine pQC ?_ | refine pU ?_); push_cast [iO, tN, hc]) | (refine pif (fun h => ?_) (fun h => ?_) <;> first | exact pN h | push_cast [iO, tN, hc]))
        refine ⟨k + 1, ⟨by omega, by omega, ?_⟩, by (refine weak_fg ?_; push_cast [iO, tN]), by omega⟩
        rw [List.take_succ_eq_append_getElem h1, List.take_succ_eq_append_getElem h2, he, ← getD_lt l h1, ← getD_lt m h2, e]
      · have hc : ¬ cmpS (l.getD k default) (m.getD k default) = 0 := fun h => e (cmpS_eq.1 h)
        rw [if_neg e] at hst
        repeat' (first | (refine plc [] (ccmp_pure (l.getD k default) (m.getD k default)) ?_ ?_; push_cast [iO, tN, hc]; rintro r os ⟨rfl, rfl⟩; push_cast [iO, tN, hc]) | ((first | refine pC ?_ | refine pQC ?_ | refine pU ?_); push_cast [iO, tN, hc]) | (refine pif (fun h => ?_) (fun h => ?_) <;> first | exact pN h | push_cast [iO, tN, hc]))
        (refine retK_of [] ?_; push_cast [iO, tN])
        rw [hst]
    · have hke : k = m.length := by omega
      have hcl : cmpL l m = 1 := by
        have hz : m.drop k = [] := List.drop_eq_nil_of_le (by omega)
        rw [cmpL_atN (by omega) (by omega) he, hz, List.drop_eq_getElem_cons h1]; rfl
      repeat' (first | ((first | refine pC ?_ | refine pQC ?_ | refine pU ?_); push_cast [iO, tN]) | (refine pif (fun h => ?_) (fun h => ?_) <;> first | exact pN h | push_cast [iO, tN]))
      (refine retK_of [] ?_; push_cast [iO, tN])
      rw [hcl]
  · have hke : k = l.length := by omega
    by_cases h2 : k < m.length
    · have hcl : cmpL l m = -1 := by
        have hz : l.drop k = [] := List.drop_eq_nil_of_le (by omega)
        rw [cmpL_atN (by omega) (by omega) he, hz, List.drop_eq_getElem_cons h2]; rfl
      repeat' (first | ((first | refine pC ?_ | refine pQC ?_ | refine pU ?_); push_cast [iO, tN]) | (refine pif (fun h => ?_) (fun h => ?_) <;> first | exact pN h | push_cast [iO, tN]))
      (refine retK_of [] ?_; push_cast [iO, tN])
      rw [hcl]
    · have hcl : cmpL l m = 0 := by
        rw [cmpL_atN (by omega) (by omega) he, List.drop_eq_nil_of_le (by omega), List.drop_eq_nil_of_le (by omega)]; rfl
      repeat' (first | ((first | refine pC ?_ | refine pQC ?_ | refine pU ?_); push_cast [iO, tN]) | (refine pif (fun h => ?_) (fun h => ?_) <;> first | exact pN h | push_cast [iO, tN]))
      (refine retK_of [] ?_; push_cast [iO, tN])
      rw [hcl]
def cmpR (a b : ByteArray) : PV := match splitP a, splitP b with
  | some l, some m => .two (.c (.v (.int .i64 (cmpL l m)))) (.c (.v (.int .i64 0)))
  | _, _ => .two (.c (.v (.int .i64 0))) (.c (.v (.int .i64 10)))
theorem splitP_size {s : ByteArray} {l : List ByteArray} (h : splitP s = some l) : l.length ≤ s.size + 1 := by
  unfold splitP at h
  split at h
  · cases h; have := rest_size s; have := parts_size (s := restS s); omega
  · cases h
set_option maxHeartbeats 1000000 in
theorem ncompare_pure (a b : ByteArray) (ha : a.size ≤ 100000000) (hb : b.size ≤ 100000000) :
    PCalls Tryz.prog 66 [.c (.v (.string a)), .c (.v (.string b))] [] fun r os => r = cmpR a b ∧ os = [] := by
  have h1 := nsplit_pure a ha
  have h2 := nsplit_pure b hb
  unfold cmpR
  refine pcalls_of Tryz.func66 rfl (by simp [Tryz.ntmps66]) ?_
  rw [Tryz.ntmps66, Tryz.results66]
  cases e1 : splitP a with
  | none =>
    rw [e1] at h1
    cases e2 : splitP b with
    | none =>
      rw [e2] at h2
      push_cast [iO, tN]
      repeat' (first |  (refine plc [] (h1) ?_ ?_; push_cast [iO, tN]; rintro r os ⟨rfl, rfl⟩; push_cast [iO, tN]) | (refine plc [] (h2) ?_ ?_; push_cast [iO, tN]; rintro r os ⟨rfl, rfl⟩; push_cast [iO, tN])  | ((first | refine pG ?_ | refine pQ ?_ | refine pU ?_); push_cast [iO, tN]) | (refine pif (fun h => ?_) (fun h => ?_) <;> first | exact pN h | push_cast [iO, tN]))
      (refine retK_of [] ?_; push_cast [iO, tN])
    | some m =>
      rw [e2] at h2
      push_cast [iO, tN]
      repeat' (first |  (refine plc [] (h1) ?_ ?_; push_cast [iO, tN]; rintro r os ⟨rfl, rfl⟩; push_cast [iO, tN]) | (refine plc [] (h2) ?_ ?_; push_cast [iO, tN]; rintro r os ⟨rfl, rfl⟩; push_cast [iO, tN])  | ((first | refine pG ?_ | refine pQ ?_ | refine pU ?_); push_cast [iO, tN]) | (refine pif (fun h => ?_) (fun h => ?_) <;> first | exact pN h | push_cast [iO, tN]))
      (refine retK_of [] ?_; push_cast [iO, tN])
  | some l =>
    rw [e1] at h1
    cases e2 : splitP b with
    | none =>
      rw [e2] at h2
      push_cast [iO, tN]
      repeat' (first |  (refine plc [] (h1) ?_ ?_; push_cast [iO, tN]; rintro r os ⟨rfl, rfl⟩; push_cast [iO, tN]) | (refine plc [] (h2) ?_ ?_; push_cast [iO, tN]; rintro r os ⟨rfl, rfl⟩; push_cast [iO, tN])  | ((first | refine pG ?_ | refine pQ ?_ | refine pU ?_); push_cast [iO, tN]) | (refine pif (fun h => ?_) (fun h => ?_) <;> first | exact pN h | push_cast [iO, tN]))
      (refine retK_of [] ?_; push_cast [iO, tN])
    | some m =>
      rw [e2] at h2
      have := splitP_size e1
      have := splitP_size e2
      push_cast [iO, tN]
      repeat' (first |  (refine plc [] (h1) ?_ ?_; push_cast [iO, tN]; rintro r os ⟨rfl, rfl⟩; push_cast [iO, tN]) | (refine plc [] (h2) ?_ ?_; push_cast [iO, tN]; rintro r os ⟨rfl, rfl⟩; push_cast [iO, tN]) | (refine plc [] (scompare_pure l m (by omega) (by omega)) ?_ ?_; push_cast [iO, tN]; rintro r os ⟨rfl, rfl⟩; push_cast [iO, tN])  | ((first | refine pG ?_ | refine pQ ?_ | refine pU ?_); push_cast [iO, tN]) | (refine pif (fun h => ?_) (fun h => ?_) <;> first | exact pN h | push_cast [iO, tN]))
      (refine retK_of [] ?_; push_cast [iO, tN])
end Go.Proofs.YthconflkbeipoaaGreatDoor
namespace Go.Proofs.YthconflkbeipoaaGreatDoor
attribute [local irreducible] PL QL PWPr PCalls Weak RetK Kontr PA
open Go.RowKit
open IntWalk renaming iteOmega → iO, toNatUp → tN
set_option linter.unusedVariables false
set_option linter.unusedSimpArgs false
set_option maxRecDepth 20000
set_option maxHeartbeats 1000000 in
theorem text_pure (s : ByteArray) (hs : s.size ≤ 9223372036854775807) : PCalls Tryz.prog 135 [.c (.v (.string s))] [] fun r os => r = .c (.v (.bool (textS s))) ∧ os = [] := by
  refine pcalls_of Tryz.func135 rfl (by simp [Tryz.ntmps135]) ?_
  rw [Tryz.ntmps135, Tryz.results135]
  push_cast [iO, tN]
  have cB : CutB 7 [] := trivial
  repeat' (first | ((first | refine pC ?_ | refine pQC ?_ | refine pU ?_); push_cast [iO, tN]) | (refine pif (fun h => ?_) (fun h => ?_) <;> first | exact pN h | push_cast [iO, tN]))
  (apply pwp_loop3 (α := Nat) 7 [] (fun k => [(6, .c (.v (.int .i64 k)))]) (fun k => []) (fun k => k ≤ s.size ∧ (s.data.toList.take k).all textB = true) (fun k => s.size - k) (0); (focus ((try push_cast [iO, tN]); rfl)); (focus exact ⟨by omega, rfl⟩); (focus ((refine weak_fg ?_; try push_cast [iO, tN]))))
  rintro k ⟨hk, ha⟩
  push_cast [iO, tN]
  by_cases hlt : k < s.size
  · by_cases h1 : ((s.data.toList.getD k 0).toNat : Int) < 32
    · have e := all_not hlt (p := textB) (by unfold textB; rw [decide_eq_false (by omega)]; rfl)
      repeat' (first | ((first | refine pC ?_ | refine pQC ?_ | refine pU ?_); push_cast [iO, tN, h1]) | (refine pif (fun h => ?_) (fun h => ?_) <;> first | exact pN h | push_cast [iO, tN, h1]))
      (refine retK_of [] ?_; push_cast [iO, tN])
      rw [textS, e]; rfl
    · by_cases h2 : (126 : Int) < ((s.data.toList.getD k 0).toNat : Int)
      · have e := all_not hlt (p := textB) (by unfold textB; rw [decide_eq_false (p := (s.data.toList.getD k 0).toNat ≤ 126) (by omega), Bool.and_false])
        repeat' (first | ((first | refine pC ?_ | refine pQC ?_ | refine pU ?_); push_cast [iO, tN, h1, h2]) | (refine pif (fun h => ?_) (fun h => ?_) <;> first | exact pN h | push_cast [iO, tN, h1, h2]))
        (refine retK_of [] ?_; push_cast [iO, tN])
        rw [textS, e]; rfl
      · have e := all_next hlt ha (by unfold textB; rw [decide_eq_true (by omega), decide_eq_true (by omega)]; rfl)
        repeat' (first | ((first | refine pC ?_ | refine pQC ?_ | refine pU ?_); push_cast [iO, tN, h1, h2]) | (refine pif (fun h => ?_) (fun h => ?_) <;> first | exact pN h | push_cast [iO, tN, h1, h2]))
        exact ⟨k + 1, ⟨by omega, e⟩, by (refine weak_fg ?_; push_cast [iO, tN]), by omega⟩
  · have hk2 : k = s.size := by omega
    subst hk2
    have he : s.data.toList.take s.size = s.data.toList := List.take_of_length_le (Nat.le_refl _)
    rw [he] at ha
    have hd : decide ((s.size : Int) ≤ 256) = decide (s.size ≤ 256) := decide_eq_decide.2 (by omega)
    repeat' (first | ((first | refine pC ?_ | refine pQC ?_ | refine pU ?_); push_cast [iO, tN]) | (refine pif (fun h => ?_) (fun h => ?_) <;> first | exact pN h | push_cast [iO, tN]))
    (refine retK_of [] ?_; push_cast [iO, tN])
    rw [textS, ha, Bool.true_and, ← hd]
end Go.Proofs.YthconflkbeipoaaGreatDoor
namespace Go.Proofs.YthconflkbeipoaaGreatDoor
open Go.RowKit
open IntWalk renaming iteOmega → iO, toNatUp → tN
set_option linter.unusedVariables false
set_option linter.unusedSimpArgs false
theorem lcontainsAny_two (c d : UInt8) : ∀ l : List UInt8, Lib.containsAny l [c, d] = (l.contains c || l.contains d)
  | [] => rfl
  | b :: l => by
    have ih := lcontainsAny_two c d l
    have hg := Lib.indexAny_ge [c, d] l
    unfold Lib.containsAny at ih ⊢
    rw [Lib.indexAny]
    by_cases h1 : c = b
    · subst h1; simp
    · by_cases h2 : d = b
      · subst h2; simp
      · rw [if_neg (by simp [Ne.symm h1, Ne.symm h2])]
        have e1 : (b :: l).contains c = l.contains c := by rw [List.contains_cons]; simp [h1]
        have e2 : (b :: l).contains d = l.contains d := by rw [List.contains_cons]; simp [h2]
        rw [e1, e2, ← ih]
        split
        · rename_i h3; simp at h3; rw [h3]
        · rename_i h3; simp at h3; exact decide_eq_decide.2 (by omega)
theorem containsAny_pure (s : ByteArray) (hs : s.size < 4294967281) (ha : ∀ (j : Nat) b, s.data.toList[j]? = some b → b.toNat < 128) : PCalls Tryz.prog 119 [.c (.v (.string s)), .c (.v (.string ⟨#[58, 33]⟩))] [] fun r os => r = .c (.v (.bool (s.data.toList.contains 58 || s.data.toList.contains 33))) ∧ os = [] :=
  pcalls_plain [.string s, .string ⟨#[58, 33]⟩] _ rfl fun w _ => by
    refine (strings_ContainsAny_laid s ⟨#[58, 33]⟩ w hs (by decide) ha (fun j b hb => by
      have : ∀ b ∈ ([58, 33] : List UInt8), b.toNat < 128 := by decide
      exact this b (List.mem_of_getElem? hb))).mono fun e w' ⟨he, hw⟩ => ?_
    rw [he]
    exact ⟨by rw [show (⟨#[58, 33]⟩ : ByteArray).data.toList = [58, 33] from rfl, lcontainsAny_two], hw⟩
end Go.Proofs.YthconflkbeipoaaGreatDoor
