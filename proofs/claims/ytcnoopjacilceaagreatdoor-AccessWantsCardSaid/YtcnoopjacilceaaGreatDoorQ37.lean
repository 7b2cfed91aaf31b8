/- What the program computes, and the plain laws of it, part 37. -/
import Derived.Test.YtcnoopjacilceaaGreatDoorQ36
namespace Go.Proofs.YtcnoopjacilceaaGreatDoor
attribute [local irreducible] PL QL PWPr PCalls Weak RetK Kontr PA
open Go.RowKit
open IntWalk renaming iteOmega → iO, toNatUp → tN
set_option linter.unusedVariables false
set_option linter.unusedSimpArgs false
set_option maxRecDepth 20000
theorem weak_keepT {N p : Nat} {t : List (Nat × PV)} {os : List Ob} (ks : List Nat) (os' : List Ob) (h : keepG true ks ⟨t, os⟩ ⟨t, os'⟩ p) : Weak N p ⟨t, os⟩ ⟨t, os'⟩ := weak_keep true ks h
theorem WI.small {a b : List Acc} {i k : Nat} {r g : List Acc} (h : WI a b i k r g) : r.length ≤ a.length ∧ g.length ≤ b.length := by
  rw [h.r, h.g]
  exact ⟨Nat.le_trans (minus_sub _ _).length_le (by rw [List.length_take]; omega), Nat.le_trans (minus_sub _ _).length_le (by rw [List.length_take]; omega)⟩
theorem wlt {x y : Acc} (hx : okP1 x.path) (hy : okP1 y.path) : (cmpP x.path y.path < 0 ∧ ltA x y) ∨ (¬ cmpP x.path y.path < 0 ∧ 0 < cmpP x.path y.path ∧ ltA y x) ∨ (¬ cmpP x.path y.path < 0 ∧ ¬ 0 < cmpP x.path y.path ∧ x.path = y.path) := by
  rcases cmpP_lt x.path y.path with h | h | h
  · left; exact ⟨by omega, by unfold ltA; omega⟩
  · right; right; exact ⟨by omega, by omega, (cmpP_eq hx hy).1 h⟩
  · right; left; refine ⟨by omega, by omega, ?_⟩
    unfold ltA; rw [cmpP_anti]; omega
def planNil : List Ob := [.box 90 [.v (.slice none 0 0), .v (.slice none 0 0)], .box 89 [.v (.int .i64 1), .v (.int .i64 2)]]
set_option maxHeartbeats 8000000 in
theorem walk_pure (a b : List Acc) (ha : Right a) (hb : Right b) (hal : a.length ≤ 1000000) (hbl : b.length ≤ 1000000) (haz : ∀ y ∈ a, y.path.size ≤ 100000000) (hbz : ∀ y ∈ b, y.path.size ≤ 100000000) :
    PCalls Tryz.prog 45 [.c (.sl 3 (a.map Acc.d)), .c (.sl 3 (b.map Acc.d)), .c (.fn (.func 46) [] [0, 1])] planNil fun y os => y = .undef ∧ os = planOs (minusL a b) (minusL b a) := by
  unfold planNil planOs
  refine pcalls_of Tryz.func45 rfl (by simp [Tryz.ntmps45]) ?_
  rw [Tryz.ntmps45, Tryz.results45]
  push_cast [iO, tN]
  refine pwp_weak (weak_adopt_box 0 0 51 4 (by omega) _ _ rfl rfl) ?_
  push_cast [iO, tN]
  refine pwp_weak (weak_adopt_box 0 1 51 4 (by omega) _ _ rfl rfl) ?_
  push_cast [iO, tN]
  have cB : CutB 8 [] := trivial
  repeat' (first | ((first | refine pC ?_ | refine pQC ?_ | refine pU ?_); push_cast [iO, tN]) | (refine pif (fun h => ?_) (fun h => ?_) <;> first | exact pN h | push_cast [iO, tN]))
  (apply pwp_loop3 (α := Nat × Nat × List Acc × List Acc) 8 [] (fun z => [(6, .c (.v (.int .i64 z.1))), (7, .c (.v (.int .i64 z.2.1)))]) (fun z => [(0, .box 90 [.own 2 z.2.2.1.length, .own 3 z.2.2.2.length]), (2, .arr 51 4 ((z.2.2.1.map (Chg.mk 1)).map Chg.d)), (3, .arr 51 4 ((z.2.2.2.map (Chg.mk 2)).map Chg.d))]) (fun z => WI a b z.1 z.2.1 z.2.2.1 z.2.2.2) (fun z => (a.length - z.1) + (b.length - z.2.1)) ((0, 0, [], [])); (focus ((try push_cast [iO, tN]); rfl)); (focus exact WI.start a b); (focus ((refine weak_fg ?_; try push_cast [iO, tN]))))
  rintro ⟨i, k, r, g⟩ hw
  simp only at hw
  have hs := hw.small
  have hi := hw.hi
  have hk := hw.hk
  push_cast [iO, tN]
  by_cases h1 : i < a.length
  · have ga : a.getD i default = a[i] := getD_lt a h1
    have hai : a.getD i default ∈ a := by rw [ga]; exact List.getElem_mem _
    by_cases h2 : k < b.length
    · have gb : b.getD k default = b[k] := getD_lt b h2
      have hbk : b.getD k default ∈ b := by rw [gb]; exact List.getElem_mem _
      have hc := compare_pure (a.getD i default) (b.getD k default) (haz _ hai) (hbz _ hbk)
      rcases wlt (ha.ok _ hai) (hb.ok _ hbk) with ⟨c1, c2⟩ | ⟨c1, c2, c3⟩ | ⟨c1, c2, c3⟩
      · have hn : WI a b (i + 1) k (r ++ [a.getD i default]) g := by rw [ga]; exact hw.left ha.asc hb.asc h1 fun _ => by rw [← ga, ← gb]; exact c2
        have d1 := eq_true c1
        have hc0 := planF0 r g (a.getD i default) (by omega)
        unfold planR0 planOs at hc0
        push_cast [iO, tN] at hc0
        repeat' (first | ((refine ql_call2 false rfl rfl (by kernel_rfl) (hc) (fun r os h => h.1) rfl ?_ ?_; push_cast [iO, tN, d1]; refine ql_of_qops ?_; push_cast [iO, tN, d1])) | (refine pl_call_all rfl (by push_cast [iO, tN, d1]) rfl (by kernel_rfl) (by push_cast [iO, tN, d1]) ?_ hc0 ?_; (focus (unfold callArgs; push_cast [iO, tN, d1])); (rintro y os ⟨rfl, rfl | rfl⟩ <;> (refine pl_weak (weak_cutS 8 [] _) ?_; push_cast [iO, tN, d1]; try (refine pl_weak (weak_keepT [0, 1, 4, 3] (planOs (r ++ [a.getD i default]) g) ?_) ?_; (focus (unfold planOs; push_cast [iO, tN, d1]; done))))) <;> ((try unfold planOs); refine pl_of_pops ?_; push_cast [iO, tN, d1])) | ((first | refine pC ?_ | refine pQC ?_ | refine pU ?_); push_cast [iO, tN, d1]) | (refine pif (fun h => ?_) (fun h => ?_) <;> first | exact pN h | push_cast [iO, tN, d1]))
        all_goals exact ⟨(i + 1, k, r ++ [a.getD i default], g), hn, by (refine weak_fg ?_; push_cast [iO, tN]), by simp only; omega⟩
      · have hn : WI a b i (k + 1) r (g ++ [b.getD k default]) := by rw [gb]; exact hw.right ha.asc hb.asc h2 fun _ => by rw [← ga, ← gb]; exact c3
        have d2 := eq_true c2
        have hc1 := planF1 r g (b.getD k default) (by omega)
        unfold planR1 planOs at hc1
        push_cast [iO, tN] at hc1
        repeat' (first | ((refine ql_call2 false rfl rfl (by kernel_rfl) (hc) (fun r os h => h.1) rfl ?_ ?_; push_cast [iO, tN, c1, d2]; refine ql_of_qops ?_; push_cast [iO, tN, c1, d2])) | (refine pl_call_all rfl (by push_cast [iO, tN, c1, d2]) rfl (by kernel_rfl) (by push_cast [iO, tN, c1, d2]) ?_ hc1 ?_; (focus (unfold callArgs; push_cast [iO, tN, c1, d2])); (rintro y os ⟨rfl, rfl | rfl⟩ <;> (refine pl_weak (weak_cutS 8 [] _) ?_; push_cast [iO, tN, c1, d2]; try (refine pl_weak (weak_keepT [0, 1, 2, 4] (planOs r (g ++ [b.getD k default])) ?_) ?_; (focus (unfold planOs; push_cast [iO, tN, c1, d2]; done))))) <;> ((try unfold planOs); refine pl_of_pops ?_; push_cast [iO, tN, c1, d2])) | ((first | refine pC ?_ | refine pQC ?_ | refine pU ?_); push_cast [iO, tN, c1, d2]) | (refine pif (fun h => ?_) (fun h => ?_) <;> first | exact pN h | push_cast [iO, tN, c1, d2]))
        all_goals exact ⟨(i, k + 1, r, g ++ [b.getD k default]), hn, by (refine weak_fg ?_; push_cast [iO, tN]), by simp only; omega⟩
      · have hb2 := acc_beq (a.getD i default) (b.getD k default)
        obtain ⟨n1, n2⟩ := hw.both ha.asc hb.asc h1 h2 (by rw [← ga, ← gb]; exact c3)
        by_cases he : a.getD i default = b.getD k default
        · rw [decide_eq_true he] at hb2
          have hn := n1 (by rw [← ga, ← gb]; exact he)
          repeat' (first | ((refine ql_call2 false rfl rfl (by kernel_rfl) (hc) (fun r os h => h.1) rfl ?_ ?_; push_cast [iO, tN, c1, c2, hb2]; refine ql_of_qops ?_; push_cast [iO, tN, c1, c2, hb2])) | ((first | refine pC ?_ | refine pQC ?_ | refine pU ?_); push_cast [iO, tN, c1, c2, hb2]) | (refine pif (fun h => ?_) (fun h => ?_) <;> first | exact pN h | push_cast [iO, tN, c1, c2, hb2]))
          exact ⟨(i + 1, k + 1, r, g), hn, by (refine weak_fg ?_; push_cast [iO, tN]), by simp only; omega⟩
        · rw [decide_eq_false he] at hb2
          have hn := n2 (by rw [← ga, ← gb]; exact he)
          rw [← ga, ← gb] at hn
          have hc0 := planF0 r g (a.getD i default) (by omega)
          unfold planR0 planOs at hc0
          push_cast [iO, tN] at hc0
          have hc2 := planF1 (r ++ [a.getD i default]) g (b.getD k default) (by omega)
          unfold planR1 planOs at hc2
          push_cast [iO, tN] at hc2
          repeat' (first | ((refine ql_call2 false rfl rfl (by kernel_rfl) (hc) (fun r os h => h.1) rfl ?_ ?_; push_cast [iO, tN, c1, c2, hb2]; refine ql_of_qops ?_; push_cast [iO, tN, c1, c2, hb2])) | (refine pl_call_all rfl (by push_cast [iO, tN, c1, c2, hb2]) rfl (by kernel_rfl) (by push_cast [iO, tN, c1, c2, hb2]) ?_ hc0 ?_; (focus (unfold callArgs; push_cast [iO, tN, c1, c2, hb2])); (rintro y os ⟨rfl, rfl | rfl⟩ <;> (refine pl_weak (weak_cutS 8 [] _) ?_; push_cast [iO, tN, c1, c2, hb2]; try (refine pl_weak (weak_keepT [0, 1, 4, 3] (planOs (r ++ [a.getD i default]) g) ?_) ?_; (focus (unfold planOs; push_cast [iO, tN, c1, c2, hb2]; done))))) <;> ((try unfold planOs); refine pl_of_pops ?_; push_cast [iO, tN, c1, c2, hb2])) | (refine pl_call_all rfl (by push_cast [iO, tN, c1, c2, hb2]) rfl (by kernel_rfl) (by push_cast [iO, tN, c1, c2, hb2]) ?_ hc2 ?_; (focus (unfold callArgs; push_cast [iO, tN, c1, c2, hb2])); (rintro y os ⟨rfl, rfl | rfl⟩ <;> (refine pl_weak (weak_cutS 8 [] _) ?_; push_cast [iO, tN, c1, c2, hb2]; try (refine pl_weak (weak_keepT [0, 1, 2, 4] (planOs (r ++ [a.getD i default]) (g ++ [b.getD k default])) ?_) ?_; (focus (unfold planOs; push_cast [iO, tN, c1, c2, hb2]; done))))) <;> ((try unfold planOs); refine pl_of_pops ?_; push_cast [iO, tN, c1, c2, hb2])) | ((first | refine pC ?_ | refine pQC ?_ | refine pU ?_); push_cast [iO, tN, c1, c2, hb2]) | (refine pif (fun h => ?_) (fun h => ?_) <;> first | exact pN h | push_cast [iO, tN, c1, c2, hb2]))
          all_goals exact ⟨(i + 1, k + 1, r ++ [a.getD i default], g ++ [b.getD k default]), hn, by (refine weak_fg ?_; push_cast [iO, tN]), by simp only; omega⟩
    · have hkl : k = b.length := by omega
      have hn : WI a b (i + 1) k (r ++ [a.getD i default]) g := by rw [ga]; exact hw.left ha.asc hb.asc h1 fun h => absurd h h2
      have hc0 := planF0 r g (a.getD i default) (by omega)
      unfold planR0 planOs at hc0
      push_cast [iO, tN] at hc0
      repeat' (first |  (refine pl_call_all rfl (by push_cast [iO, tN]) rfl (by kernel_rfl) (by push_cast [iO, tN]) ?_ hc0 ?_; (focus (unfold callArgs; push_cast [iO, tN])); (rintro y os ⟨rfl, rfl | rfl⟩ <;> (refine pl_weak (weak_cutS 8 [] _) ?_; push_cast [iO, tN]; try (refine pl_weak (weak_keepT [0, 1, 4, 3] (planOs (r ++ [a.getD i default]) g) ?_) ?_; (focus (unfold planOs; push_cast [iO, tN]; done))))) <;> ((try unfold planOs); refine pl_of_pops ?_; push_cast [iO, tN]))  | ((first | refine pC ?_ | refine pQC ?_ | refine pU ?_); push_cast [iO, tN]) | (refine pif (fun h => ?_) (fun h => ?_) <;> first | exact pN h | push_cast [iO, tN]))
      all_goals exact ⟨(i + 1, k, r ++ [a.getD i default], g), hn, by (refine weak_fg ?_; push_cast [iO, tN]), by simp only; omega⟩
  · have hil : i = a.length := by omega
    by_cases h2 : k < b.length
    · have gb : b.getD k default = b[k] := getD_lt b h2
      have hn : WI a b i (k + 1) r (g ++ [b.getD k default]) := by rw [gb]; exact hw.right ha.asc hb.asc h2 fun h => absurd h h1
      have hc1 := planF1 r g (b.getD k default) (by omega)
      unfold planR1 planOs at hc1
      push_cast [iO, tN] at hc1
      repeat' (first |  (refine pl_call_all rfl (by push_cast [iO, tN]) rfl (by kernel_rfl) (by push_cast [iO, tN]) ?_ hc1 ?_; (focus (unfold callArgs; push_cast [iO, tN])); (rintro y os ⟨rfl, rfl | rfl⟩ <;> (refine pl_weak (weak_cutS 8 [] _) ?_; push_cast [iO, tN]; try (refine pl_weak (weak_keepT [0, 1, 2, 4] (planOs r (g ++ [b.getD k default])) ?_) ?_; (focus (unfold planOs; push_cast [iO, tN]; done))))) <;> ((try unfold planOs); refine pl_of_pops ?_; push_cast [iO, tN]))  | ((first | refine pC ?_ | refine pQC ?_ | refine pU ?_); push_cast [iO, tN]) | (refine pif (fun h => ?_) (fun h => ?_) <;> first | exact pN h | push_cast [iO, tN]))
      all_goals exact ⟨(i, k + 1, r, g ++ [b.getD k default]), hn, by (refine weak_fg ?_; push_cast [iO, tN]), by simp only; omega⟩
    · obtain ⟨rfl, rfl⟩ := hw.done h1 h2
      repeat' (first | ((first | refine pC ?_ | refine pQC ?_ | refine pU ?_); push_cast [iO, tN]) | (refine pif (fun h => ?_) (fun h => ?_) <;> first | exact pN h | push_cast [iO, tN]))
      (refine retK_of [0, 1, 2, 3] ?_; push_cast [iO, tN])
end Go.Proofs.YtcnoopjacilceaaGreatDoor
namespace Go.Proofs.YtcnoopjacilceaaGreatDoor
attribute [local irreducible] PL QL PWPr PCalls Weak RetK Kontr PA
open Go.RowKit
open IntWalk renaming iteOmega → iO, toNatUp → tN
set_option linter.unusedVariables false
set_option linter.unusedSimpArgs false
set_option maxRecDepth 20000
set_option maxHeartbeats 1000000 in
theorem plan_pure (a b : List Acc) (ha : Right a) (hb : Right b) (hal : a.length ≤ 1000000) (hbl : b.length ≤ 1000000) (haz : ∀ y ∈ a, y.path.size ≤ 100000000) (hbz : ∀ y ∈ b, y.path.size ≤ 100000000) :
    PCalls Tryz.prog 17 [.c (.sl 3 (a.map Acc.d)), .c (.sl 3 (b.map Acc.d))] [] fun y os => y = .c (.own 0 ((planA a b).length)) ∧ os = [.arr 51 4 ((planA a b).map Chg.d)] := by
  have hA : ((minusL a b).map (Chg.mk 1)).length ≤ 1000000 := by rw [List.length_map]; exact Nat.le_trans (minus_sub a b).length_le hal
  have hB : ((minusL b a).map (Chg.mk 2)).length ≤ 1000000 := by rw [List.length_map]; exact Nat.le_trans (minus_sub b a).length_le hbl
  have hw := walk_pure a b ha hb hal hbl haz hbz
  have hc := concat_pure _ _ hA hB
  unfold planA
  generalize minusL a b = r at *
  generalize minusL b a = g at *
  unfold planNil planOs at hw
  push_cast [iO, tN] at hw
  push_cast [iO, tN] at hc
  refine pcalls_of Tryz.func17 rfl (by simp [Tryz.ntmps17]) ?_
  rw [Tryz.ntmps17, Tryz.results17]
  push_cast [iO, tN]
  have cB : CutB 7 [] := trivial
  repeat' (first |  (refine plc [1, 0] (hw) ?_ ?_; push_cast [iO, tN]; rintro r os ⟨rfl, rfl⟩; push_cast [iO, tN])  | ((first | refine pC ?_ | refine pQC ?_ | refine pU ?_); push_cast [iO, tN]) | (refine pif (fun h => ?_) (fun h => ?_) <;> first | exact pN h | push_cast [iO, tN]))
  refine pl_weak (weak_frz 2 (by omega)) ?_
  push_cast [iO, tN]
  refine pl_weak (weak_frz 3 (by omega)) ?_
  push_cast [iO, tN]
  refine pl_of_pops ?_
  push_cast [iO, tN]
  repeat' (first |  (refine plc [] (hc) ?_ ?_; push_cast [iO, tN]; rintro r os ⟨rfl, rfl⟩; push_cast [iO, tN])  | ((first | refine pC ?_ | refine pQC ?_ | refine pU ?_); push_cast [iO, tN]) | (refine pif (fun h => ?_) (fun h => ?_) <;> first | exact pN h | push_cast [iO, tN]))
  (refine retK_of [4] ?_; push_cast [iO, tN])
end Go.Proofs.YtcnoopjacilceaaGreatDoor
