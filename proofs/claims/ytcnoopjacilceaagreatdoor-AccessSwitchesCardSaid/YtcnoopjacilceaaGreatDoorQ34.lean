/- What the program computes, and the plain laws of it, part 34. -/
import Derived.Test.YtcnoopjacilceaaGreatDoorQ33
namespace Go.Proofs.YtcnoopjacilceaaGreatDoor
attribute [local irreducible] PL QL PWPr PCalls Weak RetK Kontr PA
open Go.RowKit
open IntWalk renaming iteOmega → iO, toNatUp → tN
set_option linter.unusedVariables false
set_option linter.unusedSimpArgs false
set_option maxRecDepth 20000
abbrev boxR (n : Int) (p : ByteArray) : List Ob := [.box 3 [.v (.int .i64 n)], .box 9 [.v (.string p)]]
theorem findR1_pure (n : Int) (p : ByteArray) (r : Rec) : PCalls Tryz.prog 58 [.agg (r.d.map D.e), .c (.ptr 0 0), .c (.ptr 1 0)] (boxR n p) fun x os => x = .c (.v (.bool (decide (r.index = n) && decide (r.path = p)))) ∧ os = boxR n p := by
  by_cases h1 : r.index = n <;> by_cases h2 : r.path = p
  all_goals
    refine pcalls_of Tryz.func58 rfl (by simp [Tryz.ntmps58]) ?_
    rw [Tryz.ntmps58, Tryz.results58]
    push_cast [iO, tN]
    repeat' (first | ((first | refine pG ?_ | refine pQ ?_ | refine pU ?_); push_cast [iO, tN, h1, h2]) | (refine pif (fun h => ?_) (fun h => ?_) <;> first | exact pN h | push_cast [iO, tN, h1, h2]))
    (refine retK_of [0, 1] ?_; push_cast [iO, tN, h1, h2])
theorem findR_pure (rs : List Rec) (n : Int) (p : ByteArray) (hl : rs.length ≤ 1000000000) :
    PCalls Tryz.prog 24 [.c (.sl 12 (rs.map Rec.d)), .c (.v (.int .i64 n)), .c (.v (.string p))] [] fun r os => r = .two (.agg ((recF rs n p).getD default).e) (.c (.v (.bool ((recF rs n p).isSome)))) ∧ os = [] := by
  have hi := indexFuncRc_pure rs hl 58 [0, 1] (boxR n p) (fun r => decide (r.index = n) && decide (r.path = p)) ⟨by kernel_rfl, fun x _ => findR1_pure n p x⟩
  refine pcalls_of Tryz.func24 rfl (by simp [Tryz.ntmps24]) ?_
  rw [Tryz.ntmps24, Tryz.results24]
  push_cast [iO, tN]
  repeat' (first | ((first | refine pG ?_ | refine pQ ?_ | refine pU ?_); push_cast [iO, tN]) | (refine pif (fun h => ?_) (fun h => ?_) <;> first | exact pN h | push_cast [iO, tN]))
  (refine plc [0, 1] (hi) ?_ ?_; push_cast [iO, tN]; rintro r os ⟨k, hk, rfl, rfl⟩; push_cast [iO, tN])
  rcases hk with ⟨rfl, hn⟩ | ⟨i, rfl, hi2, hq, hpre⟩
  · have hR : recF rs n p = none := find_no hn
    repeat' (first | ((first | refine pG ?_ | refine pQ ?_ | refine pU ?_); push_cast [iO, tN]) | (refine pif (fun h => ?_) (fun h => ?_) <;> first | exact pN h | push_cast [iO, tN]))
    (refine retK_of [] ?_; push_cast [iO, tN, hR, Option.getD_none, Option.isSome_none])
    repeat' (first | exact rfl | exact leOs_refl _ | exact trivial | refine ⟨?_, ?_⟩)
  · have hR : recF rs n p = some (rs.getD i default) := find_at hi2 hq hpre
    repeat' (first | ((first | refine pG ?_ | refine pQ ?_ | refine pU ?_); push_cast [iO, tN]) | (refine pif (fun h => ?_) (fun h => ?_) <;> first | exact pN h | push_cast [iO, tN]))
    (refine retK_of [] ?_; push_cast [iO, tN, hR, Option.getD_some, Option.isSome_some])
    all_goals exact ⟨_, _, leP_refl _, leOs_refl _, rfl, rfl⟩
theorem get_pure (r : Rec) (s : ByteArray) (hl : r.props.length ≤ 1000000000) :
    PCalls Tryz.prog 41 [.agg r.e, .c (.v (.string s))] [] fun x os => x = .c (.v (.string (getP r.props s))) ∧ os = [] := by
  refine pcalls_of Tryz.func41 rfl (by simp [Tryz.ntmps41]) ?_
  rw [Tryz.ntmps41, Tryz.results41]
  push_cast [iO, tN]
  have cB : CutB 7 [8, 9, 10] := trivial
  repeat' (first | ((first | refine pC ?_ | refine pQC ?_ | refine pU ?_); push_cast [iO, tN]) | (refine pif (fun h => ?_) (fun h => ?_) <;> first | exact pN h | push_cast [iO, tN]))
  (apply pwp_loop3 (α := Nat) 7 [8, 9, 10] (fun k => [(10, .c (.v (.int .i64 k)))]) (fun k => []) (fun k => k ≤ r.props.length ∧ ∀ x ∈ r.props.take k, (fun a : Atr => decide (a.name = s)) x = false) (fun k => r.props.length - k) (0); (focus ((try push_cast [iO, tN]); rfl)); (focus exact ⟨Nat.zero_le _, by simp⟩); (focus ((refine weak_fg ?_; try push_cast [iO, tN]))))
  rintro k ⟨hk, hpre⟩
  push_cast [iO, tN]
  by_cases hlt : k < r.props.length
  · by_cases hq : (r.props.getD k default).name = s
    · have hg := getP_at hlt hpre hq
      repeat' (first | ((first | refine pC ?_ | refine pQC ?_ | refine pU ?_); push_cast [iO, tN, hq]) | (refine pif (fun h => ?_) (fun h => ?_) <;> first | exact pN h | push_cast [iO, tN, hq]))
      (refine retK_of [] ?_; push_cast [iO, tN, hg])
    · repeat' (first | ((first | refine pC ?_ | refine pQC ?_ | refine pU ?_); push_cast [iO, tN, hq]) | (refine pif (fun h => ?_) (fun h => ?_) <;> first | exact pN h | push_cast [iO, tN, hq]))
      exact ⟨k + 1, ⟨by omega, take_next hlt hpre (decide_eq_false hq)⟩, by (refine weak_fg ?_; push_cast [iO, tN]), by omega⟩
  · rw [List.take_of_length_le (by omega)] at hpre
    have hg := getP_no hpre
    repeat' (first | ((first | refine pC ?_ | refine pQC ?_ | refine pU ?_); push_cast [iO, tN]) | (refine pif (fun h => ?_) (fun h => ?_) <;> first | exact pN h | push_cast [iO, tN]))
    (refine retK_of [] ?_; push_cast [iO, tN, hg])
abbrev boxS (p : ByteArray) : List Ob := [.box 9 [.v (.string p)]]
def sesE (nx : Int) (s : List Ses) : List E := [.v (.int .i64 nx), .sl 4 (s.map Ses.d)]
attribute [push_cast] sesE
theorem of1_pure (p : ByteArray) (x : Ses) : PCalls Tryz.prog 77 [.agg (x.d.map D.e), .c (.ptr 0 0)] (boxS p) fun r os => r = .c (.v (.bool (decide (x.seat = p)))) ∧ os = boxS p := by
  refine pcalls_of Tryz.func77 rfl (by simp [Tryz.ntmps77]) ?_
  rw [Tryz.ntmps77, Tryz.results77]
  push_cast [iO, tN]
  repeat' (first | ((first | refine pG ?_ | refine pQ ?_ | refine pU ?_); push_cast [iO, tN]) | (refine pif (fun h => ?_) (fun h => ?_) <;> first | exact pN h | push_cast [iO, tN]))
  (refine retK_of [0] ?_; push_cast [iO, tN])
theorem filt_take {α : Type} [Inhabited α] (q : α → Bool) (l : List α) {k : Nat} (h : k < l.length) : (l.take (k + 1)).filter q = if q (l.getD k default) then (l.take k).filter q ++ [l.getD k default] else (l.take k).filter q := by
  rw [List.take_succ_eq_append_getElem h, List.filter_append, ← getD_lt l h]
  cases hq : q (l.getD k default) <;> simp only [List.filter_cons, List.filter_nil, hq, if_true, Bool.false_eq_true, if_false, List.append_nil]
theorem filt_len {α : Type} (q : α → Bool) (l : List α) (k : Nat) : ((l.take k).filter q).length ≤ l.length := Nat.le_trans (List.length_filter_le _ _) (by rw [List.length_take]; omega)
set_option maxHeartbeats 1000000 in
theorem filSes (p : ByteArray) (l : List Ses) (hl : l.length ≤ 1000000) (q : Ses → Bool) (hq : ∀ x ∈ l, PCalls Tryz.prog 77 [.agg (x.d.map D.e), .c (.ptr 0 0)] (boxS p) fun r os => r = .c (.v (.bool (q x))) ∧ os = boxS p) :
    PCalls Tryz.prog 48 [.c (.sl 4 (l.map Ses.d)), .c (.fn (.func 77) [] [0])] (boxS p) fun r os => r = .c (.own 1 (l.filter q).length) ∧ os = [.box 9 [.v (.string p)], .arr 81 4 ((l.filter q).map Ses.d)] := by
  refine pcalls_of Tryz.func48 rfl (by simp [Tryz.ntmps48]) ?_
  rw [Tryz.ntmps48, Tryz.results48]
  push_cast [iO, tN]
  have cB : CutB 8 [8, 9, 10] := trivial
  repeat' (first | ((first | refine pC ?_ | refine pQC ?_ | refine pU ?_); push_cast [iO, tN]) | (refine pif (fun h => ?_) (fun h => ?_) <;> first | exact pN h | push_cast [iO, tN]))
  refine pwp_weak (weak_adopt 5 81 4 (by omega) (by push_cast [iO, tN])) ?_
  push_cast [iO, tN]
  (apply pwp_loop3 (α := Nat) 8 [8, 9, 10] (fun k => [(10, .c (.v (.int .i64 k))), (5, .c (.own 1 ((l.take k).filter q).length))]) (fun k => [(1, .arr 81 4 (((l.take k).filter q).map Ses.d))]) (fun k => k ≤ l.length) (fun k => l.length - k) (0); (focus ((try push_cast [iO, tN]); rfl)); (focus exact (Nat.zero_le _)); (focus ((refine weak_fg ?_; try push_cast [iO, tN]); (try (exact ⟨rfl, rfl⟩)))))
  intro k hk
  push_cast [iO, tN]
  by_cases hlt : k < l.length
  · have hm : l.getD k default ∈ l := by rw [getD_lt l hlt]; exact List.getElem_mem _
    have hc := hq _ hm
    have hft := filt_take q l hlt
    have hfl := filt_len q l k
    have hmem : (1 ∈ ([0] : List Nat)) = False := eq_false (by simp)
    obtain ⟨u, hu⟩ : ∃ u, (l.take k).filter q = u := ⟨_, rfl⟩
    rw [hu] at hft hfl ⊢
    cases hqx : q (l.getD k default) with
    | false =>
      rw [hqx] at hc hft
      simp only [Bool.false_eq_true, if_false] at hft
      repeat' (first |  (refine plc [0] (hc) ?_ ?_; push_cast [iO, tN]; rintro r os ⟨rfl, rfl⟩; push_cast [iO, tN])  | ((first | refine pC ?_ | refine pQC ?_ | refine pU ?_); push_cast [iO, tN]) | (refine pif (fun h => ?_) (fun h => ?_) <;> first | exact pN h | push_cast [iO, tN]))
      exact ⟨k + 1, by omega, by (refine weak_fg ?_; push_cast [iO, tN, hft, hmem]), by omega⟩
    | true =>
      rw [hqx] at hc hft
      simp only [if_true] at hft
      repeat' (first |  (refine plc [0] (hc) ?_ ?_; push_cast [iO, tN]; rintro r os ⟨rfl, rfl⟩; push_cast [iO, tN])  | ((first | refine pC ?_ | refine pQC ?_ | refine pU ?_); push_cast [iO, tN]) | (refine pif (fun h => ?_) (fun h => ?_) <;> first | exact pN h | push_cast [iO, tN]))
      exact ⟨k + 1, by omega, by (refine weak_fg ?_; push_cast [iO, tN, hft, hmem]), by omega⟩
  · have hk2 : l.take k = l := List.take_of_length_le (by omega)
    rw [hk2]
    repeat' (first | ((first | refine pC ?_ | refine pQC ?_ | refine pU ?_); push_cast [iO, tN]) | (refine pif (fun h => ?_) (fun h => ?_) <;> first | exact pN h | push_cast [iO, tN]))
    (refine retK_of [0, 1] ?_; push_cast [iO, tN])
theorem sesOf_pure (nx : Int) (s : List Ses) (p : ByteArray) (hl : s.length ≤ 1000000) :
    PCalls Tryz.prog 36 [.agg (sesE nx s), .c (.v (.string p))] [] fun r os => r = .c (.sl 4 ((s.filter fun x => decide (x.seat = p)).map Ses.d)) ∧ os = [] := by
  have hf := filSes p s hl (fun x => decide (x.seat = p)) fun x _ => of1_pure p x
  refine pcalls_of Tryz.func36 rfl (by simp [Tryz.ntmps36]) ?_
  rw [Tryz.ntmps36, Tryz.results36]
  push_cast [iO, tN]
  repeat' (first |  (refine pl_call2 false [1] rfl rfl (by kernel_rfl) hf ?_ nofun ?_; push_cast [iO, tN]; rintro r os ⟨rfl, rfl⟩; refine pl_weak (weak_frz 2 (by omega)) ?_; push_cast [iO, tN]; refine pl_of_pops ?_; push_cast [iO, tN])  | ((first | refine pG ?_ | refine pQ ?_ | refine pU ?_); push_cast [iO, tN]) | (refine pif (fun h => ?_) (fun h => ?_) <;> first | exact pN h | push_cast [iO, tN]))
  (refine retK_of [] ?_; push_cast [iO, tN])
theorem active1_pure (x : Ses) : PCalls Tryz.prog 79 [.agg (x.d.map D.e)] [] fun r os => r = .c (.v (.bool x.active)) ∧ os = [] := by
  refine pcalls_of Tryz.func79 rfl (by simp [Tryz.ntmps79]) ?_
  rw [Tryz.ntmps79, Tryz.results79]
  push_cast [iO, tN]
  repeat' (first | ((first | refine pG ?_ | refine pQ ?_ | refine pU ?_); push_cast [iO, tN]) | (refine pif (fun h => ?_) (fun h => ?_) <;> first | exact pN h | push_cast [iO, tN]))
  (refine retK_of [] ?_; push_cast [iO, tN])
theorem active_pure (l : List Ses) (hl : l.length ≤ 1000000) : PCalls Tryz.prog 37 [.c (.sl 4 (l.map Ses.d))] [] fun r os => ∃ k, idxSe (fun x => x.active) l k ∧ r = .c (.v (.int .i64 k)) ∧ os = [] := by
  have hi := indexFuncSe_pure l (by omega) 79 [] [] (fun x => x.active) ⟨by kernel_rfl, fun x _ => active1_pure x⟩
  refine pcalls_of Tryz.func37 rfl (by simp [Tryz.ntmps37]) ?_
  rw [Tryz.ntmps37, Tryz.results37]
  push_cast [iO, tN]
  repeat' (first | ((first | refine pG ?_ | refine pQ ?_ | refine pU ?_); push_cast [iO, tN]) | (refine pif (fun h => ?_) (fun h => ?_) <;> first | exact pN h | push_cast [iO, tN]))
  (refine plc [] (hi) ?_ ?_; push_cast [iO, tN]; rintro r os ⟨k, hk, rfl, rfl⟩; push_cast [iO, tN])
  repeat' (first | ((first | refine pG ?_ | refine pQ ?_ | refine pU ?_); push_cast [iO, tN]) | (refine pif (fun h => ?_) (fun h => ?_) <;> first | exact pN h | push_cast [iO, tN]))
  (refine retK_of [] ?_; push_cast [iO, tN])
  exact ⟨_, _, leP_refl _, leOs_refl _, k, hk, rfl, rfl⟩
theorem user_pure (nx : Int) (s : List Ses) (p : ByteArray) (hl : s.length ≤ 1000000) : PCalls Tryz.prog 14 [.agg (sesE nx s), .c (.v (.string p))] [] fun r os => r = .c (.v (.string (userM s p))) ∧ os = [] := by
  have ho := sesOf_pure nx s p hl
  have hul := userM_of s p
  have hfl : (s.filter fun x => decide (x.seat = p)).length ≤ 1000000 := Nat.le_trans (List.length_filter_le _ _) hl
  obtain ⟨l, hll⟩ : ∃ l, (s.filter fun x => decide (x.seat = p)) = l := ⟨_, rfl⟩
  rw [hll] at ho hul hfl
  have hac := active_pure l hfl
  refine pcalls_of Tryz.func14 rfl (by simp [Tryz.ntmps14]) ?_
  rw [Tryz.ntmps14, Tryz.results14]
  push_cast [iO, tN]
  repeat' (first | ((first | refine pG ?_ | refine pQ ?_ | refine pU ?_); push_cast [iO, tN]) | (refine pif (fun h => ?_) (fun h => ?_) <;> first | exact pN h | push_cast [iO, tN]))
  (refine plc [] (ho) ?_ ?_; push_cast [iO, tN]; rintro r os ⟨rfl, rfl⟩; push_cast [iO, tN])
  repeat' (first | ((first | refine pG ?_ | refine pQ ?_ | refine pU ?_); push_cast [iO, tN]) | (refine pif (fun h => ?_) (fun h => ?_) <;> first | exact pN h | push_cast [iO, tN]))
  (refine plc [] (hac) ?_ ?_; push_cast [iO, tN]; rintro r os ⟨k, hk, rfl, rfl⟩; push_cast [iO, tN])
  rcases hk with ⟨rfl, hn⟩ | ⟨i, rfl, hi2, hq, hpre⟩
  · have hg : userM s p = ⟨#[]⟩ := by rw [hul, find_no hn]
    repeat' (first | ((first | refine pG ?_ | refine pQ ?_ | refine pU ?_); push_cast [iO, tN]) | (refine pif (fun h => ?_) (fun h => ?_) <;> first | exact pN h | push_cast [iO, tN]))
    (refine retK_of [] ?_; push_cast [iO, tN, hg])
  · have hg : userM s p = (l.getD i default).user := by rw [hul, find_at hi2 hq hpre]
    repeat' (first | ((first | refine pG ?_ | refine pQ ?_ | refine pU ?_); push_cast [iO, tN]) | (refine pif (fun h => ?_) (fun h => ?_) <;> first | exact pN h | push_cast [iO, tN]))
    (refine retK_of [] ?_; push_cast [iO, tN, hg])
theorem sindex_pure (l : List ByteArray) (s : ByteArray) (hl : l.length ≤ 1000000000) :
    PCalls Tryz.prog 61 [.c (.sl 1 (l.map strD)), .c (.v (.string s))] [] fun r os => ∃ k : Int, ((k = -1 ∧ s ∉ l) ∨ ∃ i : Nat, k = i ∧ s ∈ l) ∧ r = .c (.v (.int .i64 k)) ∧ os = [] := by
  refine pcalls_of Tryz.func61 rfl (by simp [Tryz.ntmps61]) ?_
  rw [Tryz.ntmps61, Tryz.results61]
  push_cast [iO, tN]
  have cB : CutB 6 [7, 8] := trivial
  repeat' (first | ((first | refine pC ?_ | refine pQC ?_ | refine pU ?_); push_cast [iO, tN]) | (refine pif (fun h => ?_) (fun h => ?_) <;> first | exact pN h | push_cast [iO, tN]))
  (apply pwp_loop3 (α := Nat) 6 [7, 8] (fun k => [(8, .c (.v (.int .i64 k)))]) (fun k => []) (fun k => k ≤ l.length ∧ s ∉ l.take k) (fun k => l.length - k) (0); (focus ((try push_cast [iO, tN]); rfl)); (focus exact ⟨Nat.zero_le _, by simp⟩); (focus ((refine weak_fg ?_; try push_cast [iO, tN]))))
  rintro k ⟨hk, hpre⟩
  push_cast [iO, tN]
  by_cases hlt : k < l.length
  · by_cases hq : s = l.getD k default
    · repeat' (first | ((first | refine pC ?_ | refine pQC ?_ | refine pU ?_); push_cast [iO, tN, hq]) | (refine pif (fun h => ?_) (fun h => ?_) <;> first | exact pN h | push_cast [iO, tN, hq]))
      (refine retK_of [] ?_; push_cast [iO, tN])
      exact ⟨_, _, leP_refl _, leOs_refl _, _, .inr ⟨k, rfl, by first | (rw [getD_lt l hlt]; exact List.getElem_mem _) | (rw [hq, getD_lt l hlt]; exact List.getElem_mem _)⟩, rfl, rfl⟩
    · repeat' (first | ((first | refine pC ?_ | refine pQC ?_ | refine pU ?_); push_cast [iO, tN, hq]) | (refine pif (fun h => ?_) (fun h => ?_) <;> first | exact pN h | push_cast [iO, tN, hq]))
      refine ⟨k + 1, ⟨by omega, ?_⟩, by (refine weak_fg ?_; push_cast [iO, tN]), by omega⟩
      rw [List.take_succ_eq_append_getElem hlt, List.mem_append, List.mem_singleton]
      rintro (h | h)
      · exact hpre h
      · exact hq (by rw [getD_lt l hlt]; exact h)
  · rw [List.take_of_length_le (by omega)] at hpre
    repeat' (first | ((first | refine pC ?_ | refine pQC ?_ | refine pU ?_); push_cast [iO, tN]) | (refine pif (fun h => ?_) (fun h => ?_) <;> first | exact pN h | push_cast [iO, tN]))
    (refine retK_of [] ?_; push_cast [iO, tN])
    exact ⟨_, _, leP_refl _, leOs_refl _, _, .inl ⟨rfl, hpre⟩, rfl, rfl⟩
theorem scontains_pure (l : List ByteArray) (s : ByteArray) (hl : l.length ≤ 1000000000) :
    PCalls Tryz.prog 26 [.c (.sl 1 (l.map strD)), .c (.v (.string s))] [] fun r os => r = .c (.v (.bool (inM s l))) ∧ os = [] := by
  have hi := sindex_pure l s hl
  refine pcalls_of Tryz.func26 rfl (by simp [Tryz.ntmps26]) ?_
  rw [Tryz.ntmps26, Tryz.results26]
  push_cast [iO, tN]
  repeat' (first | ((first | refine pG ?_ | refine pQ ?_ | refine pU ?_); push_cast [iO, tN]) | (refine pif (fun h => ?_) (fun h => ?_) <;> first | exact pN h | push_cast [iO, tN]))
  (refine plc [] (hi) ?_ ?_; push_cast [iO, tN]; rintro r os ⟨k, hk, rfl, rfl⟩; push_cast [iO, tN])
  rcases hk with ⟨rfl, h⟩ | ⟨i, rfl, h⟩
  · have h := inM_false.2 h
    repeat' (first | ((first | refine pG ?_ | refine pQ ?_ | refine pU ?_); push_cast [iO, tN]) | (refine pif (fun h => ?_) (fun h => ?_) <;> first | exact pN h | push_cast [iO, tN]))
    (refine retK_of [] ?_; push_cast [iO, tN, h])
  · have h := inM_iff.2 h
    repeat' (first | ((first | refine pG ?_ | refine pQ ?_ | refine pU ?_); push_cast [iO, tN]) | (refine pif (fun h => ?_) (fun h => ?_) <;> first | exact pN h | push_cast [iO, tN]))
    (refine retK_of [] ?_; push_cast [iO, tN, h])
    all_goals exact decide_eq_true (Int.natCast_nonneg _)
end Go.Proofs.YtcnoopjacilceaaGreatDoor
namespace Go.Proofs.YtcnoopjacilceaaGreatDoor
attribute [local irreducible] PL QL PWPr PCalls Weak RetK Kontr PA
open Go.RowKit
open IntWalk renaming iteOmega → iO, toNatUp → tN
set_option linter.unusedVariables false
set_option linter.unusedSimpArgs false
set_option maxRecDepth 20000
theorem getD_memX (l : List Dev) {i : Nat} (hi : i < l.length) : l.getD i default ∈ l := by rw [getD_lt l hi]; exact List.getElem_mem _
set_option maxHeartbeats 8000000 in
theorem rwant_pure (l : List Dev) (rs : List Rec) (nx : Int) (s : List Ses) (hl : l.length ≤ 1000) (hz : ∀ d ∈ l, d.original.size ≤ 1000) (hr : RecsOk rs) (hs : s.length ≤ 1000000) :
    PCalls Tryz.prog 10 [.agg (trE l), .c (.sl 12 (rs.map Rec.d)), .agg (sesE nx s)] [] fun r os => r = .c (.sl 3 ((wantM l rs s).map Acc.d)) ∧ os = [] := by
  refine pcalls_of Tryz.func10 rfl (by simp [Tryz.ntmps10]) ?_
  rw [Tryz.ntmps10, Tryz.results10]
  push_cast [iO, tN]
  have cB : CutB 13 [] := trivial
  repeat' (first | ((first | refine pC ?_ | refine pQC ?_ | refine pU ?_); push_cast [iO, tN]) | (refine pif (fun h => ?_) (fun h => ?_) <;> first | exact pN h | push_cast [iO, tN]))
  refine pwp_weak (weak_adopt 7 43 3 (by omega) (by push_cast [iO, tN])) ?_
  push_cast [iO, tN]
  (apply pwp_loop3 (α := Nat) 13 [] (fun k => [(8, .c (.v (.int .i64 k))), (7, .c (.own 2 (wantK l rs s k).length))]) (fun k => [(2, .arr 43 3 ((wantK l rs s k).map Acc.d))]) (fun k => k ≤ l.length) (fun k => l.length - k) (0); (focus ((try push_cast [iO, tN]); rfl)); (focus exact (Nat.zero_le _)); (focus ((refine weak_fg ?_; try push_cast [iO, tN]); (try (exact ⟨rfl, rfl⟩)))))
  intro k hk
  push_cast [iO, tN]
  by_cases hlt : k < l.length
  case neg =>
    have hk2 := wantK_all l rs s (k := k) (by omega)
    have hwl := wantK_len l rs s k
    refine pwp_weak (weak_frz 2 (by omega)) ?_
    push_cast [iO, tN]
    repeat' (first | ((first | refine pC ?_ | refine pQC ?_ | refine pU ?_); push_cast [iO, tN]) | (refine pif (fun h => ?_) (fun h => ?_) <;> first | exact pN h | push_cast [iO, tN]))
    (refine retK_of [] ?_; push_cast [iO, tN, hk2])
  have hm := getD_memX l hlt
  obtain ⟨d, hd⟩ : ∃ d, l.getD k default = d := ⟨_, rfl⟩
  rw [hd] at hm
  have hno := rnode_pure d (by have := hz d hm; omega)
  have hof := rof36_pure l rs d.index hl hz hr
  have hus := ruser37_pure nx s (seatM l rs d.index) (by omega)
  have htg := rtag36_pure l rs d.index ⟨#[117, 97, 99, 99, 101, 115, 115]⟩ hl hz (by have := hr.len; omega) (fun r h => by have := hr.tags r h; omega)
  have hp := rplace_pure l d.index hl hz
  have hwl := wantK_len l rs s k
  have hmem : (2 ∈ ([] : List Nat)) = False := eq_false (by simp)
  have hwt : wantQ l rs s (l.getD k default) = true → wantK l rs s (k + 1) = wantK l rs s k ++ [wantA l rs s (l.getD k default)] := wantK_t hlt
  have hwf : wantQ l rs s (l.getD k default) = false → wantK l rs s (k + 1) = wantK l rs s k := wantK_f hlt
  rw [hd] at hwt hwf
  obtain ⟨u, hu⟩ : ∃ u, wantK l rs s k = u := ⟨_, rfl⟩
  rw [hu] at hwt hwf hwl ⊢
  obtain ⟨us, huss⟩ : ∃ us, userM s (seatM l rs d.index) = us := ⟨_, rfl⟩
  have hA : wantA l rs s d = ⟨placeM l d.index, nodeM d, us⟩ := by unfold wantA; rw [huss]
  have hQ : wantQ l rs s d = ((hasN d && tagQ l rs d.index ⟨#[117, 97, 99, 99, 101, 115, 115]⟩) && !decide (us = ⟨#[]⟩)) := by unfold wantQ; rw [huss]
  rw [huss] at hus
  rw [hA] at hwt
  obtain ⟨st, hst⟩ : ∃ st, seatM l rs d.index = st := ⟨_, rfl⟩
  rw [hst] at hof hus
  obtain ⟨pl, hpl⟩ : ∃ pl, placeM l d.index = pl := ⟨_, rfl⟩
  rw [hpl] at hp hwt
  obtain ⟨nd, hnd⟩ : ∃ nd, nodeM d = nd := ⟨_, rfl⟩
  rw [hnd] at hno hwt
  simp only [Dev.e, Dev.w] at hno
  cases hN : hasN d with
  | false =>
    rw [hN] at hno hQ
    have hw := hwf (by rw [hQ]; rfl)
    repeat' (first | ((refine plc [] (hno) ?_ ?_; push_cast [iO, tN, hd]; rintro r os ⟨rfl, rfl⟩; push_cast [iO, tN, hd])) | ((refine pwp_cut 13 [] ?_; apply pwp_drawn_to; (focus kernel_rfl); (focus (simp only [List.length_cons, List.length_nil, Nat.reduceAdd]; (repeat' first | ((refine plc [] (hof) ?_ ?_; push_cast [iO, tN,  hd]; rintro r os ⟨rfl, rfl⟩; push_cast [iO, tN,  hd])) | ((refine plc [] (hus) ?_ ?_; push_cast [iO, tN,  hd]; rintro r os ⟨rfl, rfl⟩; push_cast [iO, tN,  hd])) | ((first | refine pah 2 ?_ | refine pah 3 ?_ | refine pah 7 ?_); push_cast [iO, tN,  hd]) | (refine pad ?_; first | with_reducible exact weak_cutS 13 [] _ | (refine weak_fg ?_; push_cast [iO, tN,  hd])) | ((first | refine pas [0] ?_ | refine pas [1] ?_ | refine pas [4] ?_ | refine pas [5] ?_ | refine pas [6] ?_); push_cast [iO, tN,  hd]) | ((first | refine pas [0, 1] ?_ | refine pas [0, 4] ?_ | refine pas [0, 5] ?_ | refine pas [1, 4] ?_); push_cast [iO, tN,  hd]; refine ⟨?_, ?_⟩) | ((first | refine pas [0, 1, 4] ?_); push_cast [iO, tN,  hd]; refine ⟨?_, ?_, ?_⟩)); done)); push_cast [iO, tN,  hd])) | ((first | refine pC ?_ | refine pQC ?_ | refine pU ?_); push_cast [iO, tN, hd]) | (refine pif (fun h => ?_) (fun h => ?_) <;> first | exact pN h | push_cast [iO, tN, hd]))
    exact ⟨k + 1, by omega, by (refine weak_fg ?_; push_cast [iO, tN, hw, hmem]), by omega⟩
  | true =>
    rw [hN] at hno hQ
    cases hT : tagQ l rs d.index ⟨#[117, 97, 99, 99, 101, 115, 115]⟩ with
    | false =>
      rw [hT] at htg hQ
      have hw := hwf (by rw [hQ]; rfl)
      repeat' (first | ((refine plc [] (hno) ?_ ?_; push_cast [iO, tN, hd]; rintro r os ⟨rfl, rfl⟩; push_cast [iO, tN, hd])) | ((refine plc [] (htg) ?_ ?_; push_cast [iO, tN, hd]; rintro r os ⟨rfl, rfl⟩; push_cast [iO, tN, hd])) | ((refine pwp_cut 13 [] ?_; apply pwp_drawn_to; (focus kernel_rfl); (focus (simp only [List.length_cons, List.length_nil, Nat.reduceAdd]; (repeat' first | ((refine plc [] (hof) ?_ ?_; push_cast [iO, tN,  hd]; rintro r os ⟨rfl, rfl⟩; push_cast [iO, tN,  hd])) | ((refine plc [] (hus) ?_ ?_; push_cast [iO, tN,  hd]; rintro r os ⟨rfl, rfl⟩; push_cast [iO, tN,  hd])) | ((first | refine pah 2 ?_ | refine pah 3 ?_ | refine pah 7 ?_); push_cast [iO, tN,  hd]) | (refine pad ?_; first | with_reducible exact weak_cutS 13 [] _ | (refine weak_fg ?_; push_cast [iO, tN,  hd])) | ((first | refine pas [0] ?_ | refine pas [1] ?_ | refine pas [4] ?_ | refine pas [5] ?_ | refine pas [6] ?_); push_cast [iO, tN,  hd]) | ((first | refine pas [0, 1] ?_ | refine pas [0, 4] ?_ | refine pas [0, 5] ?_ | refine pas [1, 4] ?_); push_cast [iO, tN,  hd]; refine ⟨?_, ?_⟩) | ((first | refine pas [0, 1, 4] ?_); push_cast [iO, tN,  hd]; refine ⟨?_, ?_, ?_⟩)); done)); push_cast [iO, tN,  hd])) | ((first | refine pC ?_ | refine pQC ?_ | refine pU ?_); push_cast [iO, tN, hd]) | (refine pif (fun h => ?_) (fun h => ?_) <;> first | exact pN h | push_cast [iO, tN, hd]))
      exact ⟨k + 1, by omega, by (refine weak_fg ?_; push_cast [iO, tN, hw, hmem]), by omega⟩
    | true =>
      rw [hT] at htg hQ
      by_cases hU : us = ⟨#[]⟩
      · have hw := hwf (by rw [hQ, decide_eq_true hU]; rfl)
        repeat' (first | ((refine plc [] (hno) ?_ ?_; push_cast [iO, tN, hd, hU]; rintro r os ⟨rfl, rfl⟩; push_cast [iO, tN, hd, hU])) | ((refine plc [] (htg) ?_ ?_; push_cast [iO, tN, hd, hU]; rintro r os ⟨rfl, rfl⟩; push_cast [iO, tN, hd, hU])) | ((refine pwp_cut 13 [] ?_; apply pwp_drawn_to; (focus kernel_rfl); (focus (simp only [List.length_cons, List.length_nil, Nat.reduceAdd]; (repeat' first | ((refine plc [] (hof) ?_ ?_; push_cast [iO, tN,  hd]; rintro r os ⟨rfl, rfl⟩; push_cast [iO, tN,  hd])) | ((refine plc [] (hus) ?_ ?_; push_cast [iO, tN,  hd]; rintro r os ⟨rfl, rfl⟩; push_cast [iO, tN,  hd])) | ((first | refine pah 2 ?_ | refine pah 3 ?_ | refine pah 7 ?_); push_cast [iO, tN,  hd]) | (refine pad ?_; first | with_reducible exact weak_cutS 13 [] _ | (refine weak_fg ?_; push_cast [iO, tN,  hd])) | ((first | refine pas [0] ?_ | refine pas [1] ?_ | refine pas [4] ?_ | refine pas [5] ?_ | refine pas [6] ?_); push_cast [iO, tN,  hd]) | ((first | refine pas [0, 1] ?_ | refine pas [0, 4] ?_ | refine pas [0, 5] ?_ | refine pas [1, 4] ?_); push_cast [iO, tN,  hd]; refine ⟨?_, ?_⟩) | ((first | refine pas [0, 1, 4] ?_); push_cast [iO, tN,  hd]; refine ⟨?_, ?_, ?_⟩)); done)); push_cast [iO, tN,  hd])) | ((first | refine pC ?_ | refine pQC ?_ | refine pU ?_); push_cast [iO, tN, hd, hU]) | (refine pif (fun h => ?_) (fun h => ?_) <;> first | exact pN h | push_cast [iO, tN, hd, hU]))
        exact ⟨k + 1, by omega, by (refine weak_fg ?_; push_cast [iO, tN, hw, hmem]), by omega⟩
      · have hw := hwt (by rw [hQ, decide_eq_false hU]; rfl)
        repeat' (first | ((refine plc [] (hno) ?_ ?_; push_cast [iO, tN, hd, hU]; rintro r os ⟨rfl, rfl⟩; push_cast [iO, tN, hd, hU])) | ((refine plc [] (htg) ?_ ?_; push_cast [iO, tN, hd, hU]; rintro r os ⟨rfl, rfl⟩; push_cast [iO, tN, hd, hU])) | ((refine plc [] (hp) ?_ ?_; push_cast [iO, tN, hd, hU]; rintro r os ⟨rfl, rfl⟩; push_cast [iO, tN, hd, hU])) | ((refine pwp_cut 13 [] ?_; apply pwp_drawn_to; (focus kernel_rfl); (focus (simp only [List.length_cons, List.length_nil, Nat.reduceAdd]; (repeat' first | ((refine plc [] (hof) ?_ ?_; push_cast [iO, tN,  hd]; rintro r os ⟨rfl, rfl⟩; push_cast [iO, tN,  hd])) | ((refine plc [] (hus) ?_ ?_; push_cast [iO, tN,  hd]; rintro r os ⟨rfl, rfl⟩; push_cast [iO, tN,  hd])) | ((first | refine pah 2 ?_ | refine pah 3 ?_ | refine pah 7 ?_); push_cast [iO, tN,  hd]) | (refine pad ?_; first | with_reducible exact weak_cutS 13 [] _ | (refine weak_fg ?_; push_cast [iO, tN,  hd])) | ((first | refine pas [0] ?_ | refine pas [1] ?_ | refine pas [4] ?_ | refine pas [5] ?_ | refine pas [6] ?_); push_cast [iO, tN,  hd]) | ((first | refine pas [0, 1] ?_ | refine pas [0, 4] ?_ | refine pas [0, 5] ?_ | refine pas [1, 4] ?_); push_cast [iO, tN,  hd]; refine ⟨?_, ?_⟩) | ((first | refine pas [0, 1, 4] ?_); push_cast [iO, tN,  hd]; refine ⟨?_, ?_, ?_⟩)); done)); push_cast [iO, tN,  hd])) | ((first | refine pC ?_ | refine pQC ?_ | refine pU ?_); push_cast [iO, tN, hd, hU]) | (refine pif (fun h => ?_) (fun h => ?_) <;> first | exact pN h | push_cast [iO, tN, hd, hU]))
        exact ⟨k + 1, by omega, by (refine weak_fg ?_; push_cast [iO, tN, hw, hmem]), by omega⟩
end Go.Proofs.YtcnoopjacilceaaGreatDoor
