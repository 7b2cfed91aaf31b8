/- What the program computes, and the plain laws of it, part 22. -/
import Derived.Test.YtbonfcphabnlpabGreatDoorQ21
namespace Go.Proofs.YtbonfcphabnlpabGreatDoor
attribute [local irreducible] PL QL PWPr PCalls Weak RetK Kontr PA
open Go.RowKit
open IntWalk renaming iteOmega → iO, toNatUp → tN
set_option linter.unusedVariables false
set_option linter.unusedSimpArgs false
set_option maxRecDepth 20000
theorem filter_take {α : Type} [Inhabited α] (q : α → Bool) (l : List α) {k : Nat} (h : k < l.length) : (l.take (k + 1)).filter q = if q (l.getD k default) then (l.take k).filter q ++ [l.getD k default] else (l.take k).filter q := by
  rw [List.take_succ_eq_append_getElem h, List.filter_append, ← getD_lt l h]
  cases hq : q (l.getD k default) <;> simp only [List.filter_cons, List.filter_nil, hq, if_true, Bool.false_eq_true, if_false, List.append_nil]
theorem filter_len {α : Type} (q : α → Bool) (l : List α) (k : Nat) : ((l.take k).filter q).length ≤ l.length := Nat.le_trans (List.length_filter_le _ _) (by rw [List.length_take]; omega)
def intD (n : Int) : List D := [.v (.int .i64 n)]
attribute [push_cast] intD
set_option maxHeartbeats 1000000 in
theorem filOther (p : ByteArray) (l : List Req) (hl : l.length ≤ 1000000) (q : Req → Bool) (hq : ∀ x ∈ l, PCalls Tryz.prog 23 (([.c (E.v (.string p))] : List PV) ++ .agg (x.d.map D.e) :: []) [] fun r os => r = .c (.v (.bool (q x))) ∧ os = []) :
    PCalls Tryz.prog 22 [.c (.sl 3 (l.map Req.d)), .c (.fn (.func 23) [D.v (.string p)] [])] [] fun r os => r = .c (.own 0 (l.filter q).length) ∧ os = [.arr 37 3 ((l.filter q).map Req.d)] := by
  refine pcalls_of Tryz.func22 rfl (by simp [Tryz.ntmps22]) ?_
  rw [Tryz.ntmps22, Tryz.results22]
  push_cast [iO, tN]
  have cB : CutB 8 [8, 9, 10] := trivial
  repeat' (first | ((first | refine pC ?_ | refine pQC ?_ | refine pU ?_); push_cast [iO, tN]) | (refine pif (fun h => ?_) (fun h => ?_) <;> first | exact pN h | push_cast [iO, tN]))
  refine pwp_weak (weak_adopt 5 37 3 (by omega) (by push_cast [iO, tN])) ?_
  push_cast [iO, tN]
  (apply pwp_loop3 (α := Nat) 8 [8, 9, 10] (fun k => [(10, .c (.v (.int .i64 k))), (5, .c (.own 0 ((l.take k).filter q).length))]) (fun k => [(0, .arr 37 3 (((l.take k).filter q).map Req.d))]) (fun k => k ≤ l.length) (fun k => l.length - k) (0); (focus ((try push_cast [iO, tN]); rfl)); (focus exact (Nat.zero_le _)); (focus ((refine weak_fg ?_; try push_cast [iO, tN]); (try (exact ⟨rfl, rfl⟩)))))
  intro k hk
  push_cast [iO, tN]
  by_cases hlt : k < l.length
  · have hm : l.getD k default ∈ l := by rw [getD_lt l hlt]; exact List.getElem_mem _
    have hc := hq _ hm
    have hft := filter_take q l hlt
    have hfl := filter_len q l k
    have hmem : (0 ∈ ([] : List Nat)) = False := eq_false (by simp)
    obtain ⟨u, hu⟩ : ∃ u, (l.take k).filter q = u := ⟨_, rfl⟩
    rw [hu] at hft hfl ⊢
    cases hqx : q (l.getD k default) with
    | false =>
      rw [hqx] at hc hft
      simp only [Bool.false_eq_true, if_false] at hft
      repeat' (first |  (refine plc [] (hc) ?_ ?_; push_cast [iO, tN]; rintro r os ⟨rfl, rfl⟩; push_cast [iO, tN])  | ((first | refine pC ?_ | refine pQC ?_ | refine pU ?_); push_cast [iO, tN]) | (refine pif (fun h => ?_) (fun h => ?_) <;> first | exact pN h | push_cast [iO, tN]))
      exact ⟨k + 1, by omega, by (refine weak_fg ?_; push_cast [iO, tN, hft, hmem]), by omega⟩
    | true =>
      rw [hqx] at hc hft
      simp only [if_true] at hft
      repeat' (first |  (refine plc [] (hc) ?_ ?_; push_cast [iO, tN]; rintro r os ⟨rfl, rfl⟩; push_cast [iO, tN])  | ((first | refine pC ?_ | refine pQC ?_ | refine pU ?_); push_cast [iO, tN]) | (refine pif (fun h => ?_) (fun h => ?_) <;> first | exact pN h | push_cast [iO, tN]))
      exact ⟨k + 1, by omega, by (refine weak_fg ?_; push_cast [iO, tN, hft, hmem]), by omega⟩
  · have hk2 : l.take k = l := List.take_of_length_le (by omega)
    rw [hk2]
    repeat' (first | ((first | refine pC ?_ | refine pQC ?_ | refine pU ?_); push_cast [iO, tN]) | (refine pif (fun h => ?_) (fun h => ?_) <;> first | exact pN h | push_cast [iO, tN]))
    (refine retK_of [0] ?_; push_cast [iO, tN])
set_option maxHeartbeats 1000000 in
theorem filDel (now : Int) (rq : Req) (l : List Ihb) (hl : l.length ≤ 1000000) (q : Ihb → Bool) (hq : ∀ x ∈ l, PCalls Tryz.prog 57 (([] : List PV) ++ .agg (x.d.map D.e) :: [.c (.ptr 0 0), .c (.ptr 1 0)]) [.box 3 [.v (.int .i64 now)], .box 37 (rq.d.map D.e)] fun r os => r = .c (.v (.bool (q x))) ∧ os = [.box 3 [.v (.int .i64 now)], .box 37 (rq.d.map D.e)]) :
    PCalls Tryz.prog 56 [.c (.sl 4 (l.map Ihb.d)), .c (.fn (.func 57) [] [0, 1])] [.box 3 [.v (.int .i64 now)], .box 37 (rq.d.map D.e)] fun r os => r = .c (.own 2 (l.filter q).length) ∧ os = [.box 3 [.v (.int .i64 now)], .box 37 (rq.d.map D.e), .arr 68 4 ((l.filter q).map Ihb.d)] := by
  refine pcalls_of Tryz.func56 rfl (by simp [Tryz.ntmps56]) ?_
  rw [Tryz.ntmps56, Tryz.results56]
  push_cast [iO, tN]
  have cB : CutB 8 [8, 9, 10] := trivial
  repeat' (first | ((first | refine pC ?_ | refine pQC ?_ | refine pU ?_); push_cast [iO, tN]) | (refine pif (fun h => ?_) (fun h => ?_) <;> first | exact pN h | push_cast [iO, tN]))
  refine pwp_weak (weak_adopt 5 68 4 (by omega) (by push_cast [iO, tN])) ?_
  push_cast [iO, tN]
  (apply pwp_loop3 (α := Nat) 8 [8, 9, 10] (fun k => [(10, .c (.v (.int .i64 k))), (5, .c (.own 2 ((l.take k).filter q).length))]) (fun k => [(2, .arr 68 4 (((l.take k).filter q).map Ihb.d))]) (fun k => k ≤ l.length) (fun k => l.length - k) (0); (focus ((try push_cast [iO, tN]); rfl)); (focus exact (Nat.zero_le _)); (focus ((refine weak_fg ?_; try push_cast [iO, tN]); (try (exact ⟨rfl, rfl⟩)))))
  intro k hk
  push_cast [iO, tN]
  by_cases hlt : k < l.length
  · have hm : l.getD k default ∈ l := by rw [getD_lt l hlt]; exact List.getElem_mem _
    have hc := hq _ hm
    have hft := filter_take q l hlt
    have hfl := filter_len q l k
    have hmem : (2 ∈ ([0, 1] : List Nat)) = False := eq_false (by simp)
    obtain ⟨u, hu⟩ : ∃ u, (l.take k).filter q = u := ⟨_, rfl⟩
    rw [hu] at hft hfl ⊢
    cases hqx : q (l.getD k default) with
    | false =>
      rw [hqx] at hc hft
      simp only [Bool.false_eq_true, if_false] at hft
      repeat' (first |  (refine plc [0, 1] (hc) ?_ ?_; push_cast [iO, tN]; rintro r os ⟨rfl, rfl⟩; push_cast [iO, tN])  | ((first | refine pC ?_ | refine pQC ?_ | refine pU ?_); push_cast [iO, tN]) | (refine pif (fun h => ?_) (fun h => ?_) <;> first | exact pN h | push_cast [iO, tN]))
      exact ⟨k + 1, by omega, by (refine weak_fg ?_; push_cast [iO, tN, hft, hmem]), by omega⟩
    | true =>
      rw [hqx] at hc hft
      simp only [if_true] at hft
      repeat' (first |  (refine plc [0, 1] (hc) ?_ ?_; push_cast [iO, tN]; rintro r os ⟨rfl, rfl⟩; push_cast [iO, tN])  | ((first | refine pC ?_ | refine pQC ?_ | refine pU ?_); push_cast [iO, tN]) | (refine pif (fun h => ?_) (fun h => ?_) <;> first | exact pN h | push_cast [iO, tN]))
      exact ⟨k + 1, by omega, by (refine weak_fg ?_; push_cast [iO, tN, hft, hmem]), by omega⟩
  · have hk2 : l.take k = l := List.take_of_length_le (by omega)
    rw [hk2]
    repeat' (first | ((first | refine pC ?_ | refine pQC ?_ | refine pU ?_); push_cast [iO, tN]) | (refine pif (fun h => ?_) (fun h => ?_) <;> first | exact pN h | push_cast [iO, tN]))
    (refine retK_of [0, 1, 2] ?_; push_cast [iO, tN])
set_option maxHeartbeats 1000000 in
theorem filDue (now : Int) (s : Inh) (l : List Req) (hl : l.length ≤ 1000000) (q : Req → Bool) (hq : ∀ x ∈ l, PCalls Tryz.prog 65 (([] : List PV) ++ .agg (x.d.map D.e) :: [.c (.ptr 0 0), .c (.ptr 1 0)]) [.box 29 s.e, .box 3 [.v (.int .i64 now)]] fun r os => r = .c (.v (.bool (q x))) ∧ os = [.box 29 s.e, .box 3 [.v (.int .i64 now)]]) :
    PCalls Tryz.prog 22 [.c (.sl 3 (l.map Req.d)), .c (.fn (.func 65) [] [0, 1])] [.box 29 s.e, .box 3 [.v (.int .i64 now)]] fun r os => r = .c (.own 2 (l.filter q).length) ∧ os = [.box 29 s.e, .box 3 [.v (.int .i64 now)], .arr 37 3 ((l.filter q).map Req.d)] := by
  refine pcalls_of Tryz.func22 rfl (by simp [Tryz.ntmps22]) ?_
  rw [Tryz.ntmps22, Tryz.results22]
  push_cast [iO, tN]
  have cB : CutB 8 [8, 9, 10] := trivial
  repeat' (first | ((first | refine pC ?_ | refine pQC ?_ | refine pU ?_); push_cast [iO, tN]) | (refine pif (fun h => ?_) (fun h => ?_) <;> first | exact pN h | push_cast [iO, tN]))
  refine pwp_weak (weak_adopt 5 37 3 (by omega) (by push_cast [iO, tN])) ?_
  push_cast [iO, tN]
  (apply pwp_loop3 (α := Nat) 8 [8, 9, 10] (fun k => [(10, .c (.v (.int .i64 k))), (5, .c (.own 2 ((l.take k).filter q).length))]) (fun k => [(2, .arr 37 3 (((l.take k).filter q).map Req.d))]) (fun k => k ≤ l.length) (fun k => l.length - k) (0); (focus ((try push_cast [iO, tN]); rfl)); (focus exact (Nat.zero_le _)); (focus ((refine weak_fg ?_; try push_cast [iO, tN]); (try (exact ⟨rfl, rfl⟩)))))
  intro k hk
  push_cast [iO, tN]
  by_cases hlt : k < l.length
  · have hm : l.getD k default ∈ l := by rw [getD_lt l hlt]; exact List.getElem_mem _
    have hc := hq _ hm
    have hft := filter_take q l hlt
    have hfl := filter_len q l k
    have hmem : (2 ∈ ([0, 1] : List Nat)) = False := eq_false (by simp)
    obtain ⟨u, hu⟩ : ∃ u, (l.take k).filter q = u := ⟨_, rfl⟩
    rw [hu] at hft hfl ⊢
    cases hqx : q (l.getD k default) with
    | false =>
      rw [hqx] at hc hft
      simp only [Bool.false_eq_true, if_false] at hft
      repeat' (first |  (refine plc [0, 1] (hc) ?_ ?_; push_cast [iO, tN]; rintro r os ⟨rfl, rfl⟩; push_cast [iO, tN])  | ((first | refine pC ?_ | refine pQC ?_ | refine pU ?_); push_cast [iO, tN]) | (refine pif (fun h => ?_) (fun h => ?_) <;> first | exact pN h | push_cast [iO, tN]))
      exact ⟨k + 1, by omega, by (refine weak_fg ?_; push_cast [iO, tN, hft, hmem]), by omega⟩
    | true =>
      rw [hqx] at hc hft
      simp only [if_true] at hft
      repeat' (first |  (refine plc [0, 1] (hc) ?_ ?_; push_cast [iO, tN]; rintro r os ⟨rfl, rfl⟩; push_cast [iO, tN])  | ((first | refine pC ?_ | refine pQC ?_ | refine pU ?_); push_cast [iO, tN]) | (refine pif (fun h => ?_) (fun h => ?_) <;> first | exact pN h | push_cast [iO, tN]))
      exact ⟨k + 1, by omega, by (refine weak_fg ?_; push_cast [iO, tN, hft, hmem]), by omega⟩
  · have hk2 : l.take k = l := List.take_of_length_le (by omega)
    rw [hk2]
    repeat' (first | ((first | refine pC ?_ | refine pQC ?_ | refine pU ?_); push_cast [iO, tN]) | (refine pif (fun h => ?_) (fun h => ?_) <;> first | exact pN h | push_cast [iO, tN]))
    (refine retK_of [0, 1, 2] ?_; push_cast [iO, tN])
set_option maxHeartbeats 1000000 in
theorem filOtherD (p : ByteArray) (l : List Req) (hl : l.length ≤ 1000000) (q : Req → Bool) (hq : ∀ x ∈ l, PCalls Tryz.prog 23 (([.c (E.v (.string p))] : List PV) ++ .agg (x.d.map D.e) :: []) [] fun r os => r = .c (.v (.bool (q x))) ∧ os = []) :
    PCalls Tryz.prog 22 [.c (.sl 3 (l.map Req.d)), .c (.fn (.func 23) [D.v (.string p)] [])] [] fun r os => r = .c (.sl 3 ((l.filter q).map Req.d)) ∧ os = [] := by
  refine pcalls_of Tryz.func22 rfl (by simp [Tryz.ntmps22]) ?_
  rw [Tryz.ntmps22, Tryz.results22]
  push_cast [iO, tN]
  have cB : CutB 8 [8, 9, 10] := trivial
  repeat' (first | ((first | refine pC ?_ | refine pQC ?_ | refine pU ?_); push_cast [iO, tN]) | (refine pif (fun h => ?_) (fun h => ?_) <;> first | exact pN h | push_cast [iO, tN]))
  refine pwp_weak (weak_adopt 5 37 3 (by omega) (by push_cast [iO, tN])) ?_
  push_cast [iO, tN]
  (apply pwp_loop3 (α := Nat) 8 [8, 9, 10] (fun k => [(10, .c (.v (.int .i64 k))), (5, .c (.own 0 ((l.take k).filter q).length))]) (fun k => [(0, .arr 37 3 (((l.take k).filter q).map Req.d))]) (fun k => k ≤ l.length) (fun k => l.length - k) (0); (focus ((try push_cast [iO, tN]); rfl)); (focus exact (Nat.zero_le _)); (focus ((refine weak_fg ?_; try push_cast [iO, tN]); (try (exact ⟨rfl, rfl⟩)))))
  intro k hk
  push_cast [iO, tN]
  by_cases hlt : k < l.length
  · have hm : l.getD k default ∈ l := by rw [getD_lt l hlt]; exact List.getElem_mem _
    have hc := hq _ hm
    have hft := filter_take q l hlt
    have hfl := filter_len q l k
    have hmem : (0 ∈ ([] : List Nat)) = False := eq_false (by simp)
    obtain ⟨u, hu⟩ : ∃ u, (l.take k).filter q = u := ⟨_, rfl⟩
    rw [hu] at hft hfl ⊢
    cases hqx : q (l.getD k default) with
    | false =>
      rw [hqx] at hc hft
      simp only [Bool.false_eq_true, if_false] at hft
      repeat' (first |  (refine plc [] (hc) ?_ ?_; push_cast [iO, tN]; rintro r os ⟨rfl, rfl⟩; push_cast [iO, tN])  | ((first | refine pC ?_ | refine pQC ?_ | refine pU ?_); push_cast [iO, tN]) | (refine pif (fun h => ?_) (fun h => ?_) <;> first | exact pN h | push_cast [iO, tN]))
      exact ⟨k + 1, by omega, by (refine weak_fg ?_; push_cast [iO, tN, hft, hmem]), by omega⟩
    | true =>
      rw [hqx] at hc hft
      simp only [if_true] at hft
      repeat' (first |  (refine plc [] (hc) ?_ ?_; push_cast [iO, tN]; rintro r os ⟨rfl, rfl⟩; push_cast [iO, tN])  | ((first | refine pC ?_ | refine pQC ?_ | refine pU ?_); push_cast [iO, tN]) | (refine pif (fun h => ?_) (fun h => ?_) <;> first | exact pN h | push_cast [iO, tN]))
      exact ⟨k + 1, by omega, by (refine weak_fg ?_; push_cast [iO, tN, hft, hmem]), by omega⟩
  · have hk2 : l.take k = l := List.take_of_length_le (by omega)
    rw [hk2]
    repeat' (first | ((first | refine pC ?_ | refine pQC ?_ | refine pU ?_); push_cast [iO, tN]) | (refine pif (fun h => ?_) (fun h => ?_) <;> first | exact pN h | push_cast [iO, tN]))
    (refine retK_of [] ?_; push_cast [iO, tN])
set_option maxHeartbeats 1000000 in
theorem filRelD (id : Int) (l : List Ihb) (hl : l.length ≤ 1000000) (q : Ihb → Bool) (hq : ∀ x ∈ l, PCalls Tryz.prog 77 (([] : List PV) ++ .agg (x.d.map D.e) :: [.c (.ptr 0 0)]) [.box 3 [.v (.int .i64 id)]] fun r os => r = .c (.v (.bool (q x))) ∧ os = [.box 3 [.v (.int .i64 id)]]) :
    PCalls Tryz.prog 56 [.c (.sl 4 (l.map Ihb.d)), .c (.fn (.func 77) [] [0])] [.box 3 [.v (.int .i64 id)]] fun r os => r = .c (.sl 4 ((l.filter q).map Ihb.d)) ∧ os = [.box 3 [.v (.int .i64 id)]] := by
  refine pcalls_of Tryz.func56 rfl (by simp [Tryz.ntmps56]) ?_
  rw [Tryz.ntmps56, Tryz.results56]
  push_cast [iO, tN]
  have cB : CutB 8 [8, 9, 10] := trivial
  repeat' (first | ((first | refine pC ?_ | refine pQC ?_ | refine pU ?_); push_cast [iO, tN]) | (refine pif (fun h => ?_) (fun h => ?_) <;> first | exact pN h | push_cast [iO, tN]))
  refine pwp_weak (weak_adopt 5 68 4 (by omega) (by push_cast [iO, tN])) ?_
  push_cast [iO, tN]
  (apply pwp_loop3 (α := Nat) 8 [8, 9, 10] (fun k => [(10, .c (.v (.int .i64 k))), (5, .c (.own 1 ((l.take k).filter q).length))]) (fun k => [(1, .arr 68 4 (((l.take k).filter q).map Ihb.d))]) (fun k => k ≤ l.length) (fun k => l.length - k) (0); (focus ((try push_cast [iO, tN]); rfl)); (focus exact (Nat.zero_le _)); (focus ((refine weak_fg ?_; try push_cast [iO, tN]); (try (exact ⟨rfl, rfl⟩)))))
  intro k hk
  push_cast [iO, tN]
  by_cases hlt : k < l.length
  · have hm : l.getD k default ∈ l := by rw [getD_lt l hlt]; exact List.getElem_mem _
    have hc := hq _ hm
    have hft := filter_take q l hlt
    have hfl := filter_len q l k
    have hmem : (1 ∈ ([0] : List Nat)) = False := eq_false (by simp)
    obtain ⟨u, hu⟩ : ∃ u, (l.take k).filter q = u := ⟨_, rfl⟩
    rw [hu] at hft hfl ⊢
    cases hqx : q (l.getD k default) with
    | false =>
      rw [hqx] at hc hft
      simp only [Bool.false_eq_true, if_false] at hft
      repeat' (first |  (refine plc [0] (hc) ?_ ?_; push_cast [iO, tN]; rintro r os ⟨rfl, rfl⟩; push_cast [iO, tN])  | ((first | refine pC ?_ | refine pQC ?_ | refine pU ?_); push_cast [iO, tN]) | (refine pif (fun h => ?_) (fun h => ?_) <;> first | exact pN h | push_cast [iO, tN]))
      exact ⟨k + 1, by omega, by (refine weak_fg ?_; push_cast [iO, tN, hft, hmem]), by omega⟩
    | true =>
      rw [hqx] at hc hft
      simp only [if_true] at hft
      repeat' (first |  (refine plc [0] (hc) ?_ ?_; push_cast [iO, tN]; rintro r os ⟨rfl, rfl⟩; push_cast [iO, tN])  | ((first | refine pC ?_ | refine pQC ?_ | refine pU ?_); push_cast [iO, tN]) | (refine pif (fun h => ?_) (fun h => ?_) <;> first | exact pN h | push_cast [iO, tN]))
      exact ⟨k + 1, by omega, by (refine weak_fg ?_; push_cast [iO, tN, hft, hmem]), by omega⟩
  · have hk2 : l.take k = l := List.take_of_length_le (by omega)
    rw [hk2]
    repeat' (first | ((first | refine pC ?_ | refine pQC ?_ | refine pU ?_); push_cast [iO, tN]) | (refine pif (fun h => ?_) (fun h => ?_) <;> first | exact pN h | push_cast [iO, tN]))
    (refine retK_of [0] ?_; push_cast [iO, tN])
set_option maxHeartbeats 1000000 in
theorem filFallD (t : List Dev) (l : List Req) (hl : l.length ≤ 1000000) (q : Req → Bool) (hq : ∀ x ∈ l, PCalls Tryz.prog 40 (([] : List PV) ++ .agg (x.d.map D.e) :: [.c (.ptr 0 0)]) [.box 34 (trE t)] fun r os => r = .c (.v (.bool (q x))) ∧ os = [.box 34 (trE t)]) :
    PCalls Tryz.prog 22 [.c (.sl 3 (l.map Req.d)), .c (.fn (.func 40) [] [0])] [.box 34 (trE t)] fun r os => r = .c (.sl 3 ((l.filter q).map Req.d)) ∧ os = [.box 34 (trE t)] := by
  refine pcalls_of Tryz.func22 rfl (by simp [Tryz.ntmps22]) ?_
  rw [Tryz.ntmps22, Tryz.results22]
  push_cast [iO, tN]
  have cB : CutB 8 [8, 9, 10] := trivial
  repeat' (first | ((first | refine pC ?_ | refine pQC ?_ | refine pU ?_); push_cast [iO, tN]) | (refine pif (fun h => ?_) (fun h => ?_) <;> first | exact pN h | push_cast [iO, tN]))
  refine pwp_weak (weak_adopt 5 37 3 (by omega) (by push_cast [iO, tN])) ?_
  push_cast [iO, tN]
  (apply pwp_loop3 (α := Nat) 8 [8, 9, 10] (fun k => [(10, .c (.v (.int .i64 k))), (5, .c (.own 1 ((l.take k).filter q).length))]) (fun k => [(1, .arr 37 3 (((l.take k).filter q).map Req.d))]) (fun k => k ≤ l.length) (fun k => l.length - k) (0); (focus ((try push_cast [iO, tN]); rfl)); (focus exact (Nat.zero_le _)); (focus ((refine weak_fg ?_; try push_cast [iO, tN]); (try (exact ⟨rfl, rfl⟩)))))
  intro k hk
  push_cast [iO, tN]
  by_cases hlt : k < l.length
  · have hm : l.getD k default ∈ l := by rw [getD_lt l hlt]; exact List.getElem_mem _
    have hc := hq _ hm
    have hft := filter_take q l hlt
    have hfl := filter_len q l k
    have hmem : (1 ∈ ([0] : List Nat)) = False := eq_false (by simp)
    obtain ⟨u, hu⟩ : ∃ u, (l.take k).filter q = u := ⟨_, rfl⟩
    rw [hu] at hft hfl ⊢
    cases hqx : q (l.getD k default) with
    | false =>
      rw [hqx] at hc hft
      simp only [Bool.false_eq_true, if_false] at hft
      repeat' (first |  (refine plc [0] (hc) ?_ ?_; push_cast [iO, tN]; rintro r os ⟨rfl, rfl⟩; push_cast [iO, tN])  | ((first | refine pC ?_ | refine pQC ?_ | refine pU ?_); push_cast [iO, tN]) | (refine pif (fun h => ?_) (fun h => ?_) <;> first | exact pN h | push_cast [iO, tN]))
      exact ⟨k + 1, by omega, by (refine weak_fg ?_; push_cast [iO, tN, hft, hmem]), by omega⟩
    | true =>
      rw [hqx] at hc hft
      simp only [if_true] at hft
      repeat' (first |  (refine plc [0] (hc) ?_ ?_; push_cast [iO, tN]; rintro r os ⟨rfl, rfl⟩; push_cast [iO, tN])  | ((first | refine pC ?_ | refine pQC ?_ | refine pU ?_); push_cast [iO, tN]) | (refine pif (fun h => ?_) (fun h => ?_) <;> first | exact pN h | push_cast [iO, tN]))
      exact ⟨k + 1, by omega, by (refine weak_fg ?_; push_cast [iO, tN, hft, hmem]), by omega⟩
  · have hk2 : l.take k = l := List.take_of_length_le (by omega)
    rw [hk2]
    repeat' (first | ((first | refine pC ?_ | refine pQC ?_ | refine pU ?_); push_cast [iO, tN]) | (refine pif (fun h => ?_) (fun h => ?_) <;> first | exact pN h | push_cast [iO, tN]))
    (refine retK_of [0] ?_; push_cast [iO, tN])
set_option maxHeartbeats 1000000 in
theorem filNextD (now : Int) (l : List Int) (hl : l.length ≤ 1000000) (q : Int → Bool) (hq : ∀ x ∈ l, PCalls Tryz.prog 63 (([] : List PV) ++ .c (.v (.int .i64 x)) :: [.c (.ptr 0 0)]) [.box 3 [.v (.int .i64 now)]] fun r os => r = .c (.v (.bool (q x))) ∧ os = [.box 3 [.v (.int .i64 now)]]) :
    PCalls Tryz.prog 62 [.c (.sl 1 (l.map intD)), .c (.fn (.func 63) [] [0])] [.box 3 [.v (.int .i64 now)]] fun r os => r = .c (.sl 1 ((l.filter q).map intD)) ∧ os = [.box 3 [.v (.int .i64 now)]] := by
  refine pcalls_of Tryz.func62 rfl (by simp [Tryz.ntmps62]) ?_
  rw [Tryz.ntmps62, Tryz.results62]
  push_cast [iO, tN]
  have cB : CutB 8 [8, 9, 10] := trivial
  repeat' (first | ((first | refine pC ?_ | refine pQC ?_ | refine pU ?_); push_cast [iO, tN]) | (refine pif (fun h => ?_) (fun h => ?_) <;> first | exact pN h | push_cast [iO, tN]))
  refine pwp_weak (weak_adopt 5 3 1 (by omega) (by push_cast [iO, tN])) ?_
  push_cast [iO, tN]
  (apply pwp_loop3 (α := Nat) 8 [8, 9, 10] (fun k => [(10, .c (.v (.int .i64 k))), (5, .c (.own 1 ((l.take k).filter q).length))]) (fun k => [(1, .arr 3 1 (((l.take k).filter q).map intD))]) (fun k => k ≤ l.length) (fun k => l.length - k) (0); (focus ((try push_cast [iO, tN]); rfl)); (focus exact (Nat.zero_le _)); (focus ((refine weak_fg ?_; try push_cast [iO, tN]); (try (exact ⟨rfl, rfl⟩)))))
  intro k hk
  push_cast [iO, tN]
  by_cases hlt : k < l.length
  · have hm : l.getD k default ∈ l := by rw [getD_lt l hlt]; exact List.getElem_mem _
    have hc := hq _ hm
    have hft := filter_take q l hlt
    have hfl := filter_len q l k
    have hmem : (1 ∈ ([0] : List Nat)) = False := eq_false (by simp)
    obtain ⟨u, hu⟩ : ∃ u, (l.take k).filter q = u := ⟨_, rfl⟩
    rw [hu] at hft hfl ⊢
    cases hqx : q (l.getD k default) with
    | false =>
      rw [hqx] at hc hft
      simp only [Bool.false_eq_true, if_false] at hft
      repeat' (first |  (refine plc [0] (hc) ?_ ?_; push_cast [iO, tN]; rintro r os ⟨rfl, rfl⟩; push_cast [iO, tN])  | ((first | refine pC ?_ | refine pQC ?_ | refine pU ?_); push_cast [iO, tN]) | (refine pif (fun h => ?_) (fun h => ?_) <;> first | exact pN h | push_cast [iO, tN]))
      exact ⟨k + 1, by omega, by (refine weak_fg ?_; push_cast [iO, tN, hft, hmem]), by omega⟩
    | true =>
      rw [hqx] at hc hft
      simp only [if_true] at hft
      repeat' (first |  (refine plc [0] (hc) ?_ ?_; push_cast [iO, tN]; rintro r os ⟨rfl, rfl⟩; push_cast [iO, tN])  | ((first | refine pC ?_ | refine pQC ?_ | refine pU ?_); push_cast [iO, tN]) | (refine pif (fun h => ?_) (fun h => ?_) <;> first | exact pN h | push_cast [iO, tN]))
      exact ⟨k + 1, by omega, by (refine weak_fg ?_; push_cast [iO, tN, hft, hmem]), by omega⟩
  · have hk2 : l.take k = l := List.take_of_length_le (by omega)
    rw [hk2]
    repeat' (first | ((first | refine pC ?_ | refine pQC ?_ | refine pU ?_); push_cast [iO, tN]) | (refine pif (fun h => ?_) (fun h => ?_) <;> first | exact pN h | push_cast [iO, tN]))
    (refine retK_of [0] ?_; push_cast [iO, tN])
end Go.Proofs.YtbonfcphabnlpabGreatDoor
namespace Go.Proofs.YtbonfcphabnlpabGreatDoor
attribute [local irreducible] PL QL PWPr PCalls Weak RetK Kontr PA
open Go.RowKit
open IntWalk renaming iteOmega → iO, toNatUp → tN
set_option linter.unusedVariables false
set_option linter.unusedSimpArgs false
set_option maxRecDepth 20000
theorem cloneH_pure (l : List Ihb) (hl : l.length ≤ 1000000000) :
    PCalls Tryz.prog 55 [.c (.sl 4 (l.map Ihb.d))] [] fun r os => r = .c (.own 0 l.length) ∧ os = [.arr 68 4 (l.map Ihb.d)] := by
  refine pcalls_adopt (R := fun r os => (r = .c (.own 0 l.length) ∧ os = [.arr 68 4 (l.map Ihb.d)]) ∨ (r = .c (.v (.slice none 0 0)) ∧ os = [] ∧ l = [])) 68 4 (by omega) ?_ (by
    rintro r os (h | ⟨rfl, rfl, rfl⟩)
    · exact .inl h
    · exact .inr ⟨rfl, rfl, rfl⟩)
  by_cases h0 : l = []
  · subst h0
    refine pcalls_split0 (l1 := []) (l2 := []) fun A c => ?_
    cases A with
    | none =>
      refine PCalls.mono (R := fun r os => r = .c (.v (.slice none 0 0)) ∧ os = []) ?_ (fun r os h => .inr ⟨h.1, h.2, rfl⟩)
      refine pcalls_of Tryz.func55 rfl (by simp [Tryz.ntmps55]) ?_
      rw [Tryz.ntmps55, Tryz.results55]
      push_cast [iO, tN]
      repeat' (first | ((first | refine pG ?_ | refine pQ ?_ | refine pU ?_); push_cast [iO, tN]) | (refine pif (fun h => ?_) (fun h => ?_) <;> first | exact pN h | push_cast [iO, tN]))
      (refine retK_of [] ?_; push_cast [iO, tN])
    | some a =>
      refine PCalls.mono (R := fun r os => r = .c (.own 0 0) ∧ os = [.arr 68 4 []]) ?_ (fun r os h => .inl h)
      refine pcalls_of Tryz.func55 rfl (by simp [Tryz.ntmps55]) ?_
      rw [Tryz.ntmps55, Tryz.results55]
      push_cast [iO, tN]
      repeat' (first | ((first | refine pG ?_ | refine pQ ?_ | refine pU ?_); push_cast [iO, tN]) | (refine pif (fun h => ?_) (fun h => ?_) <;> first | exact pN h | push_cast [iO, tN]))
      (refine retK_of [0] ?_; push_cast [iO, tN])
  · have h1 : 0 < l.length := List.length_pos_iff.2 h0
    refine PCalls.mono (R := fun r os => r = .c (.own 0 l.length) ∧ os = [.arr 68 4 (l.map Ihb.d)]) ?_ (fun r os h => .inl h)
    refine pcalls_of Tryz.func55 rfl (by simp [Tryz.ntmps55]) ?_
    rw [Tryz.ntmps55, Tryz.results55]
    push_cast [iO, tN]
    repeat' (first | ((first | refine pG ?_ | refine pQ ?_ | refine pU ?_); push_cast [iO, tN]) | (refine pif (fun h => ?_) (fun h => ?_) <;> first | exact pN h | push_cast [iO, tN]))
    (refine retK_of [0] ?_; push_cast [iO, tN])
end Go.Proofs.YtbonfcphabnlpabGreatDoor
namespace Go.Proofs.YtbonfcphabnlpabGreatDoor
attribute [local irreducible] PL QL PWPr PCalls Weak RetK Kontr PA
open Go.RowKit
open IntWalk renaming iteOmega → iO, toNatUp → tN
set_option linter.unusedVariables false
set_option linter.unusedSimpArgs false
set_option maxRecDepth 20000
theorem cloneR_pure (l : List Req) (hl : l.length ≤ 1000000000) :
    PCalls Tryz.prog 61 [.c (.sl 3 (l.map Req.d))] [] fun r os => r = .c (.own 0 l.length) ∧ os = [.arr 37 3 (l.map Req.d)] := by
  refine pcalls_adopt (R := fun r os => (r = .c (.own 0 l.length) ∧ os = [.arr 37 3 (l.map Req.d)]) ∨ (r = .c (.v (.slice none 0 0)) ∧ os = [] ∧ l = [])) 37 3 (by omega) ?_ (by
    rintro r os (h | ⟨rfl, rfl, rfl⟩)
    · exact .inl h
    · exact .inr ⟨rfl, rfl, rfl⟩)
  by_cases h0 : l = []
  · subst h0
    refine pcalls_split0 (l1 := []) (l2 := []) fun A c => ?_
    cases A with
    | none =>
      refine PCalls.mono (R := fun r os => r = .c (.v (.slice none 0 0)) ∧ os = []) ?_ (fun r os h => .inr ⟨h.1, h.2, rfl⟩)
      refine pcalls_of Tryz.func61 rfl (by simp [Tryz.ntmps61]) ?_
      rw [Tryz.ntmps61, Tryz.results61]
      push_cast [iO, tN]
      repeat' (first | ((first | refine pG ?_ | refine pQ ?_ | refine pU ?_); push_cast [iO, tN]) | (refine pif (fun h => ?_) (fun h => ?_) <;> first | exact pN h | push_cast [iO, tN]))
      (refine retK_of [] ?_; push_cast [iO, tN])
    | some a =>
      refine PCalls.mono (R := fun r os => r = .c (.own 0 0) ∧ os = [.arr 37 3 []]) ?_ (fun r os h => .inl h)
      refine pcalls_of Tryz.func61 rfl (by simp [Tryz.ntmps61]) ?_
      rw [Tryz.ntmps61, Tryz.results61]
      push_cast [iO, tN]
      repeat' (first | ((first | refine pG ?_ | refine pQ ?_ | refine pU ?_); push_cast [iO, tN]) | (refine pif (fun h => ?_) (fun h => ?_) <;> first | exact pN h | push_cast [iO, tN]))
      (refine retK_of [0] ?_; push_cast [iO, tN])
  · have h1 : 0 < l.length := List.length_pos_iff.2 h0
    refine PCalls.mono (R := fun r os => r = .c (.own 0 l.length) ∧ os = [.arr 37 3 (l.map Req.d)]) ?_ (fun r os h => .inl h)
    refine pcalls_of Tryz.func61 rfl (by simp [Tryz.ntmps61]) ?_
    rw [Tryz.ntmps61, Tryz.results61]
    push_cast [iO, tN]
    repeat' (first | ((first | refine pG ?_ | refine pQ ?_ | refine pU ?_); push_cast [iO, tN]) | (refine pif (fun h => ?_) (fun h => ?_) <;> first | exact pN h | push_cast [iO, tN]))
    (refine retK_of [0] ?_; push_cast [iO, tN])
end Go.Proofs.YtbonfcphabnlpabGreatDoor
