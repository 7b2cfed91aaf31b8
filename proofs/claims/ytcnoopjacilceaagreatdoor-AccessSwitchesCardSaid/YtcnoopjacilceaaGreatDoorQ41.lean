/- What the program computes, and the plain laws of it, part 41. -/
import Derived.Lib.AppendZerosOnto
import Derived.Test.YtcnoopjacilceaaGreatDoorQ40
namespace Go.Proofs.YtcnoopjacilceaaGreatDoor
attribute [local irreducible] PL QL PWPr PCalls Weak RetK Kontr PA
open Go.RowKit
open IntWalk renaming iteOmega → iO, toNatUp → tN
set_option linter.unusedVariables false
set_option linter.unusedSimpArgs false
set_option maxRecDepth 20000
theorem cmpR_eq (a b : ByteArray) : ∃ e : Int, cmpR a b = .two (.c (.v (.int .i64 (cmpP a b)))) (.c (.v (.int .i64 e))) := by
  unfold cmpR cmpP
  cases splitP a <;> cases splitP b <;> exact ⟨_, rfl⟩
theorem compare_pure (a b : Acc) (ha : a.path.size ≤ 100000000) (hb : b.path.size ≤ 100000000) :
    PCalls Tryz.prog 75 [.agg a.e, .agg b.e] [] fun r os => r = .c (.v (.int .i64 (cmpP a.path b.path))) ∧ os = [] := by
  have h := ncompare_pure a.path b.path ha hb
  obtain ⟨e, he⟩ := cmpR_eq a.path b.path
  rw [he] at h
  refine pcalls_of Tryz.func75 rfl (by simp [Tryz.ntmps75]) ?_
  rw [Tryz.ntmps75, Tryz.results75]
  push_cast [iO, tN]
  repeat' (first |  (refine plc [] (h) ?_ ?_; push_cast [iO, tN]; rintro r os ⟨rfl, rfl⟩; push_cast [iO, tN])  | ((first | refine pG ?_ | refine pQ ?_ | refine pU ?_); push_cast [iO, tN]) | (refine pif (fun h => ?_) (fun h => ?_) <;> first | exact pN h | push_cast [iO, tN]))
  (refine retK_of [] ?_; push_cast [iO, tN])
def clashA (x y : Acc) : Bool := decide (y.path = x.path) || decide (y.node = x.node)
theorem applyF_pure (x y : Acc) :
    PCalls Tryz.prog 72 [.agg y.e, .c (.ptr 0 0)] [.box 43 x.e] fun r os => r = .c (.v (.bool (clashA x y))) ∧ os = [.box 43 x.e] := by
  unfold clashA
  refine pcalls_of Tryz.func72 rfl (by simp [Tryz.ntmps72]) ?_
  rw [Tryz.ntmps72, Tryz.results72]
  by_cases h1 : y.path = x.path
  · have e1 := eq_true h1
    push_cast [iO, tN]
    repeat' (first | ((first | refine pG ?_ | refine pQ ?_ | refine pU ?_); push_cast [iO, tN, e1]) | (refine pif (fun h => ?_) (fun h => ?_) <;> first | exact pN h | push_cast [iO, tN, e1]))
    (refine retK_of [0] ?_; push_cast [iO, tN])
  · push_cast [iO, tN]
    repeat' (first | ((first | refine pG ?_ | refine pQ ?_ | refine pU ?_); push_cast [iO, tN, h1]) | (refine pif (fun h => ?_) (fun h => ?_) <;> first | exact pN h | push_cast [iO, tN, h1]))
    (refine retK_of [0] ?_; push_cast [iO, tN])
set_option maxHeartbeats 1000000 in
theorem aindex_pure (l : List Acc) (x : Acc) (hl : l.length ≤ 1000000000) :
    PCalls Tryz.prog 68 [.c (.sl 3 (l.map Acc.d)), .agg x.e] [] fun r os => ∃ k, idxA (fun y => decide (y = x)) l k ∧ r = .c (.v (.int .i64 k)) ∧ os = [] := by
  refine pcalls_of Tryz.func68 rfl (by simp [Tryz.ntmps68]) ?_
  rw [Tryz.ntmps68, Tryz.results68]
  push_cast [iO, tN]
  have cB : CutB 9 [] := trivial
  repeat' (first | ((first | refine pC ?_ | refine pQC ?_ | refine pU ?_); push_cast [iO, tN]) | (refine pif (fun h => ?_) (fun h => ?_) <;> first | exact pN h | push_cast [iO, tN]))
  (apply pwp_loop3 (α := Nat) 9 [] (fun k => [(8, .c (.v (.int .i64 k)))]) (fun k => []) (fun k => k ≤ l.length ∧ ∀ y ∈ l.take k, decide (y = x) = false) (fun k => l.length - k) (0); (focus ((try push_cast [iO, tN]); rfl)); (focus exact ⟨by omega, by simp⟩); (focus ((refine weak_fg ?_; try push_cast [iO, tN]))))
  rintro k ⟨hk, hn⟩
  push_cast [iO, tN]
  by_cases hlt : k < l.length
  · have hb := acc_beq x (l.getD k default)
    by_cases he : x = l.getD k default
    · rw [decide_eq_true he] at hb
      repeat' (first | ((first | refine pC ?_ | refine pQC ?_ | refine pU ?_); push_cast [iO, tN, hb]) | (refine pif (fun h => ?_) (fun h => ?_) <;> first | exact pN h | push_cast [iO, tN, hb]))
      (refine retK_of [] ?_; push_cast [iO, tN])
      exact ⟨_, _, leP_refl _, leOs_refl _, (k : Int), .inr ⟨k, rfl, hlt, by simp [he], hn⟩, rfl, rfl⟩
    · rw [decide_eq_false he] at hb
      repeat' (first | ((first | refine pC ?_ | refine pQC ?_ | refine pU ?_); push_cast [iO, tN, hb]) | (refine pif (fun h => ?_) (fun h => ?_) <;> first | exact pN h | push_cast [iO, tN, hb]))
      refine ⟨k + 1, ⟨by omega, fun y hy => ?_⟩, by (refine weak_fg ?_; push_cast [iO, tN]), by omega⟩
      rw [List.take_succ_eq_append_getElem hlt] at hy
      rcases List.mem_append.1 hy with hy | hy
      · exact hn y hy
      · rw [List.mem_singleton.1 hy, ← getD_lt l hlt]; exact decide_eq_false (Ne.symm he)
  · rw [List.take_of_length_le (by omega)] at hn
    repeat' (first | ((first | refine pC ?_ | refine pQC ?_ | refine pU ?_); push_cast [iO, tN]) | (refine pif (fun h => ?_) (fun h => ?_) <;> first | exact pN h | push_cast [iO, tN]))
    (refine retK_of [] ?_; push_cast [iO, tN])
    exact ⟨_, _, leP_refl _, leOs_refl _, -1, .inl ⟨rfl, hn⟩, rfl, rfl⟩
theorem pos_eq {l : List Acc} {x : Acc} : ∀ {i : Nat}, i ≤ l.length → (∀ y ∈ l.take i, ltA y x) → (∀ y ∈ l.drop i, ¬ ltA y x) → posA x l = i := by
  induction l with
  | nil => intro i h _ _; simp at h; subst h; rfl
  | cons a l ih =>
    intro i h h1 h2
    unfold posA
    cases i with
    | zero => rw [List.takeWhile_cons_of_neg (by simpa using h2 a (by simp))]; rfl
    | succ i =>
      rw [List.takeWhile_cons_of_pos (by simpa using h1 a (by simp)), List.length_cons]
      exact congrArg (· + 1) (ih (by simpa using h) (fun y hy => h1 y (by simp [hy])) (fun y hy => h2 y (by simpa using hy)))
def foundA (x : Acc) (l : List Acc) : Bool := decide (posA x l < l.length) && decide (cmpP (l.getD (posA x l) default).path x.path = 0)
set_option maxHeartbeats 2000000 in
theorem bsearch_pure (l : List Acc) (x : Acc) (hl : l.length ≤ 1000000000) (ha : l.Pairwise ltA) (hz : ∀ y ∈ l, y.path.size ≤ 100000000) (hx : x.path.size ≤ 100000000) :
    PCalls Tryz.prog 74 [.c (.sl 3 (l.map Acc.d)), .agg x.e, .c (.fn (.func 75) [] [])] [] fun r os => r = .two (.c (.v (.int .i64 (posA x l)))) (.c (.v (.bool (foundA x l)))) ∧ os = [] := by
  refine pcalls_of Tryz.func74 rfl (by simp [Tryz.ntmps74]) ?_
  rw [Tryz.ntmps74, Tryz.results74]
  push_cast [iO, tN]
  have cB : CutB 12 [] := trivial
  repeat' (first | ((first | refine pC ?_ | refine pQC ?_ | refine pU ?_); push_cast [iO, tN]) | (refine pif (fun h => ?_) (fun h => ?_) <;> first | exact pN h | push_cast [iO, tN]))
  (apply pwp_loop3 (α := Nat × Nat) 12 [] (fun z => [(9, .c (.v (.int .i64 z.1))), (10, .c (.v (.int .i64 z.2)))]) (fun z => []) (fun z => z.1 ≤ z.2 ∧ z.2 ≤ l.length ∧ (∀ y ∈ l.take z.1, ltA y x) ∧ ∀ y ∈ l.drop z.2, ¬ ltA y x) (fun z => z.2 - z.1) ((0, l.length)); (focus ((try push_cast [iO, tN]); rfl)); (focus exact ⟨by simp, by simp, by simp, by simp⟩); (focus ((refine weak_fg ?_; try push_cast [iO, tN]))))
  rintro ⟨i, j⟩ ⟨h1, h2, h3, h4⟩
  simp only at h1 h2 h3 h4
  push_cast [iO, tN]
  by_cases hlt : i < j
  · obtain ⟨md, hh⟩ : ∃ md, (i + j) / 2 = md := ⟨_, rfl⟩
    have hh2 : ((i : Int) + j) / 2 = (md : Int) := by omega
    have hhl : md < l.length := by omega
    have hm : l.getD md default ∈ l := by rw [getD_lt l hhl]; exact List.getElem_mem _
    have hc := compare_pure (l.getD md default) x (hz _ hm) hx
    have hsort : ∀ y ∈ l.take md, ltA y (l.getD md default) := by
      have hp := ha
      rw [take_drop hhl] at hp
      intro y hy
      rw [getD_lt l hhl]
      exact (List.pairwise_append.1 hp).2.2 y hy _ List.mem_cons_self
    have hsort2 : ∀ y ∈ l.drop (md + 1), ltA (l.getD md default) y := by
      have hp := ha
      rw [take_drop hhl] at hp
      intro y hy
      rw [getD_lt l hhl]
      exact (List.pairwise_cons.1 (List.pairwise_append.1 hp).2.1).1 y hy
    by_cases hl2 : ltA (l.getD md default) x
    · have e := eq_true (show cmpP (l.getD md default).path x.path < 0 from hl2)
      repeat' (first | ((refine ql_call2 false rfl rfl (by kernel_rfl) (hc) (fun r os h => h.1) rfl ?_ ?_; push_cast [iO, tN, hh2, e]; refine ql_of_qops ?_; push_cast [iO, tN, hh2, e])) | ((first | refine pC ?_ | refine pQC ?_ | refine pU ?_); push_cast [iO, tN, hh2, e]) | (refine pif (fun h => ?_) (fun h => ?_) <;> first | exact pN h | push_cast [iO, tN, hh2, e]))
      refine ⟨(md + 1, j), ⟨by simp only; omega, h2, fun y hy => ?_, h4⟩, by (refine weak_fg ?_; push_cast [iO, tN]), by simp only; omega⟩
      simp only at hy
      rw [List.take_succ_eq_append_getElem hhl] at hy
      rcases List.mem_append.1 hy with hy | hy
      · exact ltA_trans (hsort y hy) hl2
      · rw [List.mem_singleton.1 hy, ← getD_lt l hhl]; exact hl2
    · have e : ¬ (cmpP (l.getD md default).path x.path < 0) := hl2
      repeat' (first | ((refine ql_call2 false rfl rfl (by kernel_rfl) (hc) (fun r os h => h.1) rfl ?_ ?_; push_cast [iO, tN, hh2, e]; refine ql_of_qops ?_; push_cast [iO, tN, hh2, e])) | ((first | refine pC ?_ | refine pQC ?_ | refine pU ?_); push_cast [iO, tN, hh2, e]) | (refine pif (fun h => ?_) (fun h => ?_) <;> first | exact pN h | push_cast [iO, tN, hh2, e]))
      refine ⟨(i, md), ⟨by simp only; omega, by simp only; omega, h3, fun y hy => ?_⟩, by (refine weak_fg ?_; push_cast [iO, tN]), by simp only; omega⟩
      simp only at hy
      rw [List.drop_eq_getElem_cons hhl] at hy
      rcases List.mem_cons.1 hy with e2 | hy
      · rw [e2, ← getD_lt l hhl]; exact hl2
      · exact fun hc2 => hl2 (ltA_trans (hsort2 y hy) hc2)
  · have hij : i = j := by omega
    subst hij
    have hp := pos_eq (x := x) h2 h3 h4
    by_cases hn : i < l.length
    · have hm : l.getD i default ∈ l := by rw [getD_lt l hn]; exact List.getElem_mem _
      have hc := compare_pure (l.getD i default) x (hz _ hm) hx
      obtain ⟨b, hb⟩ : ∃ b, decide (cmpP (l.getD i default).path x.path = 0) = b := ⟨_, rfl⟩
      repeat' (first | ((refine ql_call2 false rfl rfl (by kernel_rfl) (hc) (fun r os h => h.1) rfl ?_ ?_; push_cast [iO, tN, hb]; refine ql_of_qops ?_; push_cast [iO, tN, hb])) | ((first | refine pC ?_ | refine pQC ?_ | refine pU ?_); push_cast [iO, tN, hb]) | (refine pif (fun h => ?_) (fun h => ?_) <;> first | exact pN h | push_cast [iO, tN, hb]))
      (refine retK_of [] ?_; push_cast [iO, tN])
      unfold foundA
      rw [hp, hb, decide_eq_true hn]
      exact ⟨rfl, rfl⟩
    · repeat' (first | ((first | refine pC ?_ | refine pQC ?_ | refine pU ?_); push_cast [iO, tN]) | (refine pif (fun h => ?_) (fun h => ?_) <;> first | exact pN h | push_cast [iO, tN]))
      (refine retK_of [] ?_; push_cast [iO, tN])
      unfold foundA
      rw [hp]
      simp [hn]
end Go.Proofs.YtcnoopjacilceaaGreatDoor
namespace Go.Proofs.YtcnoopjacilceaaGreatDoor
attribute [local irreducible] PL QL PWPr PCalls Weak RetK Kontr PA
open Go.RowKit
open IntWalk renaming iteOmega → iO, toNatUp → tN
set_option linter.unusedVariables false
set_option linter.unusedSimpArgs false
set_option maxRecDepth 20000
theorem idx_none {l : List Acc} {x : Acc} {k : Int} (h : idxA (fun y => decide (y = x)) l k) (hx : x ∉ l) : k = -1 := by
  rcases h with ⟨h, _⟩ | ⟨i, _, hi, hq, _⟩
  · exact h
  · rw [getD_lt l hi] at hq
    exact absurd (by rw [← of_decide_eq_true hq]; exact List.getElem_mem _) hx
theorem idx_some {l : List Acc} {x : Acc} {k : Int} (h : idxA (fun y => decide (y = x)) l k) (hx : x ∈ l) (hn : l.Nodup) : ∃ i : Nat, k = i ∧ i < l.length ∧ l.take i ++ l.drop (i + 1) = l.filter fun y => decide (y ≠ x) := by
  rcases h with ⟨_, h⟩ | ⟨i, h, hi, hq, _⟩
  · exact absurd (h x hx) (by simp)
  · refine ⟨i, h, hi, ?_⟩
    rw [getD_lt l hi] at hq
    have hq := of_decide_eq_true hq
    have e := take_drop hi
    rw [hq] at e
    have hn2 := hn
    rw [e, List.nodup_append] at hn2
    obtain ⟨_, n2, n3⟩ := hn2
    obtain ⟨n4, _⟩ := List.nodup_cons.1 n2
    conv => rhs; rw [e]
    rw [List.filter_append, List.filter_cons_of_neg (by simp)]
    congr 1
    · exact (List.filter_eq_self.2 fun y hy => by simp only [ne_eq, decide_not, Bool.not_eq_true', decide_eq_false_iff_not]; intro he; exact n3 _ hy _ List.mem_cons_self he).symm
    · exact (List.filter_eq_self.2 fun y hy => by simp only [ne_eq, decide_not, Bool.not_eq_true', decide_eq_false_iff_not]; intro he; subst he; exact n4 hy).symm
theorem clash_any (x : Acc) (l : List Acc) : (l.any fun y => clashA x y) = decide (∃ y ∈ l, y.path = x.path ∨ y.node = x.node) := by
  rw [Bool.eq_iff_iff]
  simp [clashA]
set_option maxHeartbeats 1000000 in
theorem apply_taken (l : List Acc) (x : Acc) (hl : l.length ≤ 1000000) (h : ∃ y ∈ l, y.path = x.path ∨ y.node = x.node) :
    PCalls Tryz.prog 31 [.c (.sl 3 (l.map Acc.d)), .agg (Chg.mk 2 x).e] [] fun r os => r = (.two (.c (.v (.slice none 0 0))) (.c (.v (.int .i64 382)))) ∧ os = [] := by
  have hp : PredA Tryz.prog 72 [0] [.box 43 x.e] l (clashA x) := ⟨by kernel_rfl, fun y _ => applyF_pure x y⟩
  have hc := containsFuncA_pure l (by omega) 72 [0] _ (clashA x) hp
  rw [clash_any, decide_eq_true h] at hc
  refine pcalls_of Tryz.func31 rfl (by simp [Tryz.ntmps31]) ?_
  rw [Tryz.ntmps31, Tryz.results31]
  push_cast [iO, tN]
  have cB : CutB 12 [] := trivial
  repeat' (first |  (refine plc [1] (hc) ?_ ?_; push_cast [iO, tN]; rintro r os ⟨rfl, rfl⟩; push_cast [iO, tN])  | ((first | refine pC ?_ | refine pQC ?_ | refine pU ?_); push_cast [iO, tN]) | (refine pif (fun h => ?_) (fun h => ?_) <;> first | exact pN h | push_cast [iO, tN]))
  (refine retK_of [] ?_; push_cast [iO, tN])
set_option maxHeartbeats 1000000 in
theorem apply_rev_pure (l : List Acc) (x : Acc) (hl : l.length ≤ 1000000) (h : x ∈ l) (hn : l.Nodup) :
    PCalls Tryz.prog 31 [.c (.sl 3 (l.map Acc.d)), .agg (Chg.mk 1 x).e] [] fun r os => r = (.two (.c (.own 0 ((l.filter fun y => decide (y ≠ x)).length))) (.c (.v (.int .i64 0)))) ∧ os = [.arr 43 3 ((l.filter fun y => decide (y ≠ x)).map Acc.d)] := by
  have hx := (aindex_pure l x (by omega)).mono (R' := fun r os => ∃ i : Nat, (i < l.length ∧ l.take i ++ l.drop (i + 1) = l.filter fun y => decide (y ≠ x)) ∧ r = .c (.v (.int .i64 ((i : Int)))) ∧ os = []) (by
    rintro r os ⟨k, hk, rfl, rfl⟩
    obtain ⟨i, rfl, h1, h2⟩ := idx_some hk h hn
    exact ⟨i, ⟨h1, h2⟩, rfl, rfl⟩)
  have hc := clone_pure l (by omega)
  generalize l.filter (fun y => decide (y ≠ x)) = m at *
  refine pcalls_of Tryz.func31 rfl (by simp [Tryz.ntmps31]) ?_
  rw [Tryz.ntmps31, Tryz.results31]
  push_cast [iO, tN]
  have cB : CutB 12 [] := trivial
  repeat' (first |  (refine plc [] (hx) ?_ ?_; push_cast [iO, tN]; rintro r os ⟨i, ⟨hi, he⟩, rfl, rfl⟩; push_cast [iO, tN]) | (refine plc [] (hc) ?_ ?_; push_cast [iO, tN]; rintro r os ⟨rfl, rfl⟩; push_cast [iO, tN]) | (refine pl_call2 false [2] rfl rfl (by kernel_rfl) (delete_pure l i hi (by omega)) ?_ nofun ?_; push_cast [iO, tN]; rintro r os ⟨rfl, rfl⟩; refine pl_weak (weak_cutS 12 [33, 37] _) ?_; push_cast [iO, tN]; refine pl_weak (weak_trim 2 (l.length - 1) rfl) ?_; push_cast [iO, tN]; refine pl_of_pops ?_; push_cast [iO, tN])  | ((first | refine pC ?_ | refine pQC ?_ | refine pU ?_); push_cast [iO, tN]) | (refine pif (fun h => ?_) (fun h => ?_) <;> first | exact pN h | push_cast [iO, tN]))
  have hml : l.length - 1 = m.length := by rw [← he, List.length_append, List.length_take, List.length_drop]; omega
  have ht : ∀ z, List.take m.length (List.map Acc.d (List.take i l) ++ (List.map Acc.d (List.drop (i + 1) l) ++ z)) = m.map Acc.d := fun z => by
    rw [← List.append_assoc, ← List.map_append, he]
    exact List.take_left' (by rw [List.length_map])
  rw [hml, ht]
  (refine retK_of [2] ?_; push_cast [iO, tN])
end Go.Proofs.YtcnoopjacilceaaGreatDoor
namespace Go.Proofs.YtcnoopjacilceaaGreatDoor
open Go.RowKit
open IntWalk renaming iteOmega → iO, toNatUp → tN
set_option linter.unusedVariables false
set_option linter.unusedSimpArgs false
theorem infoGr : (Tryz.prog.info? 51).map (fun i => (i.zero, i.size, i.bytes)) = some (some (Value.agg #[.int .i64 0, .string ByteArray.empty, .string ByteArray.empty, .string ByteArray.empty]), 4, 56) := by kernel_rfl
set_option maxRecDepth 1000000 in
theorem grow_walk (n : Nat) (w : World) (hn : n ≤ 1099511627776) :
    Calls Tryz.prog 90 #[.slice none 0 0, .int .i64 (n : Int)] w fun e w' => ∃ vs, e = .returned vs ∧ w'.ownsRow w.heap.size 51 4 vs 0 [] ∧ Ext No w w' := by
  by_cases h0 : n = 0
  · subst h0
    go_enter Tryz.func90, Tryz.ntmps90
    go_wp2
    go_ret
    exact ⟨_, rfl, own_nil _ _ _ _, Ext.refl _ _⟩
  · obtain ⟨i, hi, hz, hs, hb⟩ := info_parts infoGr
    have hrun := Lib.run_append_nil_zeros (P := Tryz.prog) w 48 3 48 51 i _ .i64 .i64 Tryz.underlying48 Tryz.underlying3 hi hz n (by omega) (by rw [hs]; decide) (by omega) (by rw [hb]; omega)
    have hown : (w.drew.alloc (.cells (Builtin.zeroCells (Value.agg #[.int .i64 0, .string ByteArray.empty, .string ByteArray.empty, .string ByteArray.empty]).cells n ++ Builtin.zeroCells (Value.agg #[.int .i64 0, .string ByteArray.empty, .string ByteArray.empty, .string ByteArray.empty]).cells (grownCap w n 0 51 - n)) 51)).ownsRow w.heap.size 51 4 (.slice (some ⟨w.heap.size, 0, none⟩) 0 (grownCap w n 0 51)) 0 [] := by
      have hge := grownCap_ge w n 0 51
      have hcm : grownCap w n 0 51 ≤ maxLen := grownCap_le_maxLen w n 0 51 (by simp only [maxLen]; omega)
      refine ⟨rfl, .inr ⟨w.heap.size, _, _, rfl, Nat.le_refl _, heap_alloc_new w.drew _, Nat.zero_le _, hcm, ?_, by simp⟩⟩
      simp only [Array.size_append, size_zeroCells]
      show n * 4 + (grownCap w n 0 51 - n) * 4 = _
      omega
    have hE : Ext No w (w.drew.alloc (.cells (Builtin.zeroCells (Value.agg #[.int .i64 0, .string ByteArray.empty, .string ByteArray.empty, .string ByteArray.empty]).cells n ++ Builtin.zeroCells (Value.agg #[.int .i64 0, .string ByteArray.empty, .string ByteArray.empty, .string ByteArray.empty]).cells (grownCap w n 0 51 - n)) 51)) := (Ext.refl No w).drew.alloc _
    generalize w.drew.alloc (.cells (Builtin.zeroCells (Value.agg #[.int .i64 0, .string ByteArray.empty, .string ByteArray.empty, .string ByteArray.empty]).cells n ++ Builtin.zeroCells (Value.agg #[.int .i64 0, .string ByteArray.empty, .string ByteArray.empty, .string ByteArray.empty]).cells (grownCap w n 0 51 - n)) 51) = W1 at hrun hown hE
    have hcap := grownCap_ge w n 0 51
    generalize grownCap w n 0 51 = cap at hrun hown hcap
    have HR := Lib.hid hrun
    have HO := Lib.hid hown
    have HE := Lib.hid hE
    clear hrun hown hE hi hz hs hb
    go_enter Tryz.func90, Tryz.ntmps90
    go_wp2_with (at_builtin; refine Lib.wpList_append_run _ rfl (.tmp 20) (.tmp 21) 48 3 rfl (.slice none 0 0) (.int .i64 (n : Int)) rfl rfl _ W1 HR.out ?_)
    go_ret
    exact ⟨_, rfl, HO.out, HE.out⟩
theorem grow_pure (n : Nat) (hn : n ≤ 1000000000) :
    PCalls Tryz.prog 90 [.c (.v (.slice none 0 0)), .c (.v (.int .i64 n))] [] fun r os => r = .c (.own 0 0) ∧ os = [.arr 51 4 []] := fun Γ w xs hm hx => by
  have hxs := rp_vals (vs := [.slice none 0 0, .int .i64 (n : Int)]) hx
  rw [hxs]
  refine (grow_walk n w (by omega)).mono ?_
  rintro e w' ⟨v, rfl, hrow, hE⟩
  have hS := Same.of_ext hE
  have hn0 : Γ.n = 0 := hm.n
  obtain ⟨_, h2⟩ := hrow
  have fin : ∀ (b c : Nat) (v : Value), RO w' (Γ.push b c) Γ.n (.arr 51 4 []) → (0 < c → w.heap.size ≤ b) → OwnRep (Γ.push b c) Γ.n 0 v →
      ∃ r os' Γ' y, Ending.returned v = .returned y ∧ (r = .c (.own 0 0) ∧ os' = [.arr 51 4 []]) ∧ RP w' Γ' r y ∧ ([] : List Ob).length ≤ os'.length ∧ MemOk Γ' os' w' ∧ Grow ([] : List Ob).length Γ w Γ' w' := by
    intro b c v hro hb hrep
    rw [hn0] at hrep
    exact ⟨_, _, Γ.push b c, v, rfl, ⟨rfl, rfl⟩, ⟨by simp [G.push, hn0], hrep⟩, by simp, hm.push hS _ b c hro hb, grow_push hm hE b c hb (Nat.zero_le _)⟩
  rcases h2 with ⟨rfl, _⟩ | ⟨g, cap, cur, rfl, hb, hg, _, hcm, hsz, _⟩
  · exact fin 0 0 _ ⟨by simp, by omega, fun _ => rfl, fun h => absurd h (by simp [G.push, upd_same])⟩ (fun h => absurd h (by omega)) (.inl ⟨by simp [G.push, upd_same], ⟨none, rfl⟩, rfl⟩)
  · rcases Nat.eq_zero_or_pos cap with h0 | h0
    · subst h0
      exact fin 0 0 _ ⟨by simp, by omega, fun _ => rfl, fun h => absurd h (by simp [G.push, upd_same])⟩ (fun h => absurd h (by omega)) (.inl ⟨by simp [G.push, upd_same], ⟨_, rfl⟩, rfl⟩)
    · refine fin g cap _ ⟨by simp, by omega, fun _ => rfl, fun _ => ⟨cur, by simp only [G.push, upd_same]; exact hg, by simp only [G.push, upd_same]; exact hsz, by simp, by simp only [G.push, upd_same]; exact hcm, by simp [All2]⟩⟩ (fun _ => hb) (.inr ⟨by simp [G.push, upd_same, h0], by simp [G.push, upd_same], by simp⟩)
end Go.Proofs.YtcnoopjacilceaaGreatDoor
