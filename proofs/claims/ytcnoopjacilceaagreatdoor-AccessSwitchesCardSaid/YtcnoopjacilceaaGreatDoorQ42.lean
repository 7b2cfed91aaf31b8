/- What the program computes, and the plain laws of it, part 42. -/
import Derived.Test.YtcnoopjacilceaaGreatDoorQ41
namespace Go.Proofs.YtcnoopjacilceaaGreatDoor
attribute [local irreducible] PL QL PWPr PCalls Weak RetK Kontr PA
open Go.RowKit
open IntWalk renaming iteOmega → iO, toNatUp → tN
set_option linter.unusedVariables false
set_option linter.unusedSimpArgs false
set_option maxRecDepth 20000
set_option maxHeartbeats 1000000 in
theorem concat_pure (A B : List Chg) (hA : A.length ≤ 1000000) (hB : B.length ≤ 1000000) :
    PCalls Tryz.prog 47 [.c (.sl 1 [[D.sl 4 (A.map Chg.d)], [D.sl 4 (B.map Chg.d)]])] [] fun r os => r = .c (.own 0 ((A ++ B).length)) ∧ os = [.arr 51 4 ((A ++ B).map Chg.d)] := by
  refine pcalls_of Tryz.func47 rfl (by simp [Tryz.ntmps47]) ?_
  rw [Tryz.ntmps47, Tryz.results47]
  push_cast [iO, tN]
  have cB : CutB 12 [25, 26, 27] := trivial
  repeat' (first | (refine Kont.use (by assumption) ?_) | (refine pwp_seq fun K hK => ?_) | (refine pwp_block ?_) | (refine pwp_scope ?_) | ((first | (refine pwp_cut 12 [25, 26, 27] ?_; first | refine pwp_region ?_ | refine pwp_quiet (by kernel_rfl) (by kernel_rfl) ?_) | refine pwp_exit ?_ | refine pwp_ret ?_ | refine pwp_skip ?_); push_cast [iO, tN]) | (refine pwp_cond ?_; push_cast [iO, tN]; try (refine ⟨fun h => ?_, fun h => ?_⟩ <;> (try simp only [decide_eq_true_eq, decide_eq_false_iff_not, cN] at h) <;> (try (first | contradiction | omega | exact cT h (by assumption) | exact cF h (by assumption))))))
  (apply pwp_loop3 (α := Nat) 12 [25, 26, 27] (fun k => [(11, .c (.v (.int .i64 k))), (3, .c (.v (.int .i64 (if k = 0 then 0 else if k = 1 then (A.length : Int) else A.length + B.length))))]) (fun k => []) (fun k => k ≤ 2) (fun k => 2 - k) (0); (focus ((try push_cast [iO, tN]); rfl)); (focus exact (by omega)); (focus ((refine weak_fg ?_; try push_cast [iO, tN]))))
  intro k hk
  have h3 : k = 0 ∨ k = 1 ∨ k = 2 := by omega
  rcases h3 with rfl | rfl | rfl
  · push_cast [iO, tN]
    repeat' (first | (refine Kont.use (by assumption) ?_) | (refine pwp_seq fun K hK => ?_) | (refine pwp_block ?_) | (refine pwp_scope ?_) | ((first | (refine pwp_cut 12 [25, 26, 27] ?_; first | refine pwp_region ?_ | refine pwp_quiet (by kernel_rfl) (by kernel_rfl) ?_) | refine pwp_exit ?_ | refine pwp_ret ?_ | refine pwp_skip ?_); push_cast [iO, tN]) | (refine pwp_cond ?_; push_cast [iO, tN]; try (refine ⟨fun h => ?_, fun h => ?_⟩ <;> (try simp only [decide_eq_true_eq, decide_eq_false_iff_not, cN] at h) <;> (try (first | contradiction | omega | exact cT h (by assumption) | exact cF h (by assumption))))))
    exact ⟨1, by omega, by (refine weak_fg ?_; push_cast [iO, tN]), by omega⟩
  · push_cast [iO, tN]
    repeat' (first | (refine Kont.use (by assumption) ?_) | (refine pwp_seq fun K hK => ?_) | (refine pwp_block ?_) | (refine pwp_scope ?_) | ((first | (refine pwp_cut 12 [25, 26, 27] ?_; first | refine pwp_region ?_ | refine pwp_quiet (by kernel_rfl) (by kernel_rfl) ?_) | refine pwp_exit ?_ | refine pwp_ret ?_ | refine pwp_skip ?_); push_cast [iO, tN]) | (refine pwp_cond ?_; push_cast [iO, tN]; try (refine ⟨fun h => ?_, fun h => ?_⟩ <;> (try simp only [decide_eq_true_eq, decide_eq_false_iff_not, cN] at h) <;> (try (first | contradiction | omega | exact cT h (by assumption) | exact cF h (by assumption))))))
    exact ⟨2, by omega, by (refine weak_fg ?_; push_cast [iO, tN]), by omega⟩
  · have hg := grow_pure (A.length + B.length) (by omega)
    push_cast [iO, tN]
    repeat' (first |  (refine plc [] (hg) ?_ ?_; push_cast [iO, tN]; rintro r os ⟨rfl, rfl⟩; push_cast [iO, tN])  | (refine Kont.use (by assumption) ?_) | (refine pwp_seq fun K hK => ?_) | (refine pwp_block ?_) | (refine pwp_scope ?_) | ((first | (refine pwp_cut 12 [25, 26, 27] ?_; first | refine pwp_region ?_ | refine pwp_quiet (by kernel_rfl) (by kernel_rfl) ?_) | refine pwp_exit ?_ | refine pwp_ret ?_ | refine pwp_skip ?_); push_cast [iO, tN]) | (refine pwp_cond ?_; push_cast [iO, tN]; try (refine ⟨fun h => ?_, fun h => ?_⟩ <;> (try simp only [decide_eq_true_eq, decide_eq_false_iff_not, cN] at h) <;> (try (first | contradiction | omega | exact cT h (by assumption) | exact cF h (by assumption))))))
    (apply pwp_loop3 (α := Nat) 12 [25, 26, 27] (fun k => [(27, .c (.v (.int .i64 k))), (6, .c (.own 0 (if k = 0 then 0 else if k = 1 then A.length else A.length + B.length)))]) (fun k => [(0, .arr 51 4 (if k = 0 then [] else if k = 1 then A.map Chg.d else (A ++ B).map Chg.d))]) (fun k => k ≤ 2) (fun k => 2 - k) (0); (focus ((try push_cast [iO, tN]); rfl)); (focus exact (by omega)); (focus ((refine weak_fg ?_; try push_cast [iO, tN]))))
    intro k hk
    have h3 : k = 0 ∨ k = 1 ∨ k = 2 := by omega
    rcases h3 with rfl | rfl | rfl
    · push_cast [iO, tN]
      repeat' (first | (refine Kont.use (by assumption) ?_) | (refine pwp_seq fun K hK => ?_) | (refine pwp_block ?_) | (refine pwp_scope ?_) | ((first | (refine pwp_cut 12 [25, 26, 27] ?_; first | refine pwp_region ?_ | refine pwp_quiet (by kernel_rfl) (by kernel_rfl) ?_) | refine pwp_exit ?_ | refine pwp_ret ?_ | refine pwp_skip ?_); push_cast [iO, tN]) | (refine pwp_cond ?_; push_cast [iO, tN]; try (refine ⟨fun h => ?_, fun h => ?_⟩ <;> (try simp only [decide_eq_true_eq, decide_eq_false_iff_not, cN] at h) <;> (try (first | contradiction | omega | exact cT h (by assumption) | exact cF h (by assumption))))))
      exact ⟨1, by omega, by (refine weak_fg ?_; push_cast [iO, tN]), by omega⟩
    · push_cast [iO, tN]
      repeat' (first | (refine Kont.use (by assumption) ?_) | (refine pwp_seq fun K hK => ?_) | (refine pwp_block ?_) | (refine pwp_scope ?_) | ((first | (refine pwp_cut 12 [25, 26, 27] ?_; first | refine pwp_region ?_ | refine pwp_quiet (by kernel_rfl) (by kernel_rfl) ?_) | refine pwp_exit ?_ | refine pwp_ret ?_ | refine pwp_skip ?_); push_cast [iO, tN]) | (refine pwp_cond ?_; push_cast [iO, tN]; try (refine ⟨fun h => ?_, fun h => ?_⟩ <;> (try simp only [decide_eq_true_eq, decide_eq_false_iff_not, cN] at h) <;> (try (first | contradiction | omega | exact cT h (by assumption) | exact cF h (by assumption))))))
      exact ⟨2, by omega, by (refine weak_fg ?_; push_cast [iO, tN]), by omega⟩
    · push_cast [iO, tN]
      repeat' (first | (refine Kont.use (by assumption) ?_) | (refine pwp_seq fun K hK => ?_) | (refine pwp_block ?_) | (refine pwp_scope ?_) | ((first | (refine pwp_cut 12 [25, 26, 27] ?_; first | refine pwp_region ?_ | refine pwp_quiet (by kernel_rfl) (by kernel_rfl) ?_) | refine pwp_exit ?_ | refine pwp_ret ?_ | refine pwp_skip ?_); push_cast [iO, tN]) | (refine pwp_cond ?_; push_cast [iO, tN]; try (refine ⟨fun h => ?_, fun h => ?_⟩ <;> (try simp only [decide_eq_true_eq, decide_eq_false_iff_not, cN] at h) <;> (try (first | contradiction | omega | exact cT h (by assumption) | exact cF h (by assumption))))))
      (refine retK_of [0] ?_; push_cast [iO, tN])
def planOs (r g : List Acc) : List Ob := [.box 90 [.own 2 r.length, .own 3 g.length], .box 89 [.v (.int .i64 1), .v (.int .i64 2)], .arr 51 4 ((r.map (Chg.mk 1)).map Chg.d), .arr 51 4 ((g.map (Chg.mk 2)).map Chg.d)]
def planR0 (r g : List Acc) (x : Acc) (y : PV) (os : List Ob) : Prop := y = .undef ∧ (os = planOs (r ++ [x]) g ∨ os = [.box 90 [.own 4 (r.length + 1), .own 3 g.length], .box 89 [.v (.int .i64 1), .v (.int .i64 2)], .arr 51 4 ((r.map (Chg.mk 1)).map Chg.d), .arr 51 4 ((g.map (Chg.mk 2)).map Chg.d), .arr 51 4 (((r ++ [x]).map (Chg.mk 1)).map Chg.d)])
def planR1 (r g : List Acc) (x : Acc) (y : PV) (os : List Ob) : Prop := y = .undef ∧ (os = planOs r (g ++ [x]) ∨ os = [.box 90 [.own 2 r.length, .own 4 (g.length + 1)], .box 89 [.v (.int .i64 1), .v (.int .i64 2)], .arr 51 4 ((r.map (Chg.mk 1)).map Chg.d), .arr 51 4 ((g.map (Chg.mk 2)).map Chg.d), .arr 51 4 (((g ++ [x]).map (Chg.mk 2)).map Chg.d)])
set_option maxHeartbeats 4000000 in
theorem planF0 (r g : List Acc) (x : Acc) (hr : r.length ≤ 1000000) :
    PCalls Tryz.prog 46 [.agg x.e, .c (.v (.int .i64 0)), .c (.ptr 0 0), .c (.ptr 1 0)] (planOs r g) (planR0 r g x) := by
  unfold planOs planR0 planOs
  refine pcalls_of Tryz.func46 rfl (by simp [Tryz.ntmps46]) ?_
  rw [Tryz.ntmps46, Tryz.results46]
  push_cast [iO, tN]
  repeat' (first |  (refine pwp_drawn (by kernel_rfl) ?_)  | (refine Kont.use (by assumption) ?_) | (refine pwp_seq fun K hK => ?_) | (refine pwp_block ?_) | (refine pwp_scope ?_) | ((first | (refine pwp_cut 12 [25, 26, 27] ?_; first | refine pwp_region ?_ | refine pwp_quiet (by kernel_rfl) (by kernel_rfl) ?_) | refine pwp_exit ?_ | refine pwp_ret ?_ | refine pwp_skip ?_); push_cast [iO, tN]) | (refine pwp_cond ?_; push_cast [iO, tN]; try (refine ⟨fun h => ?_, fun h => ?_⟩ <;> (try simp only [decide_eq_true_eq, decide_eq_false_iff_not, cN] at h) <;> (try (first | contradiction | omega | exact cT h (by assumption) | exact cF h (by assumption))))))
  (try simp only [List.length_cons, List.length_nil, Nat.reduceAdd]; repeat' first | (refine pl_app2 (e := 51) (sz := 4) (by' := 56) (rows := (r.map (Chg.mk 1)).map Chg.d) (ys := [(Chg.mk 1 x).d]) 2 rfl (by push_cast [iO, tN]) (by push_cast [iO, tN]) (by push_cast [iO, tN]) (by push_cast [iO, tN]) (by omega) (by push_cast [iO, tN]) (by push_cast [iO, tN]) (by push_cast [iO, tN]) (by push_cast [iO, tN]) (by simp) (by push_cast [iO, tN]; omega) (by push_cast [iO, tN]; omega) ?_ ?_ <;> (refine pl_of_pops ?_; push_cast [iO, tN])) | ((first | refine pah 0 ?_ | refine pah 1 ?_ | refine pah 2 ?_ | refine pah 4 ?_ | refine pah 5 ?_ | refine pah 8 ?_ | refine pah 11 ?_); push_cast [iO, tN]) | (refine pad ?_; try push_cast [iO, tN]) | ((first | refine pas [3] ?_ | refine pas [6] ?_ | refine pas [7] ?_ | refine pas [9] ?_ | refine pas [10] ?_ | refine pas [12] ?_); push_cast [iO, tN]) | ((first | refine pas [3, 6] ?_ | refine pas [3, 7] ?_ | refine pas [3, 9] ?_ | refine pas [3, 10] ?_ | refine pas [3, 12] ?_ | refine pas [6, 7] ?_ | refine pas [6, 9] ?_ | refine pas [6, 10] ?_ | refine pas [6, 12] ?_ | refine pas [7, 9] ?_ | refine pas [7, 10] ?_ | refine pas [7, 12] ?_ | refine pas [9, 10] ?_ | refine pas [9, 12] ?_ | refine pas [10, 12] ?_); push_cast [iO, tN]; refine ⟨?_, ?_⟩) | ((first | refine pas [3, 6, 7] ?_ | refine pas [3, 6, 9] ?_ | refine pas [3, 6, 10] ?_ | refine pas [3, 6, 12] ?_ | refine pas [3, 7, 9] ?_ | refine pas [3, 7, 10] ?_ | refine pas [3, 7, 12] ?_ | refine pas [3, 9, 10] ?_ | refine pas [3, 9, 12] ?_ | refine pas [3, 10, 12] ?_ | refine pas [6, 7, 9] ?_ | refine pas [6, 7, 10] ?_ | refine pas [6, 7, 12] ?_ | refine pas [6, 9, 10] ?_ | refine pas [6, 9, 12] ?_ | refine pas [6, 10, 12] ?_ | refine pas [7, 9, 10] ?_ | refine pas [7, 9, 12] ?_ | refine pas [7, 10, 12] ?_ | refine pas [9, 10, 12] ?_); push_cast [iO, tN]; refine ⟨?_, ?_, ?_⟩))
  all_goals first | (refine retK_of [0, 1, 2, 3, 5] ?_; push_cast [iO, tN]; exact ⟨_, _, leP_refl _, leOs_refl _, rfl, .inr rfl⟩) | (refine retK_of [0, 1, 2, 3] ?_; push_cast [iO, tN]; exact ⟨_, _, leP_refl _, leOs_refl _, rfl, .inl rfl⟩)
set_option maxHeartbeats 4000000 in
theorem planF1 (r g : List Acc) (x : Acc) (hr : g.length ≤ 1000000) :
    PCalls Tryz.prog 46 [.agg x.e, .c (.v (.int .i64 1)), .c (.ptr 0 0), .c (.ptr 1 0)] (planOs r g) (planR1 r g x) := by
  unfold planOs planR1 planOs
  refine pcalls_of Tryz.func46 rfl (by simp [Tryz.ntmps46]) ?_
  rw [Tryz.ntmps46, Tryz.results46]
  push_cast [iO, tN]
  repeat' (first |  (refine pwp_drawn (by kernel_rfl) ?_)  | (refine Kont.use (by assumption) ?_) | (refine pwp_seq fun K hK => ?_) | (refine pwp_block ?_) | (refine pwp_scope ?_) | ((first | (refine pwp_cut 12 [25, 26, 27] ?_; first | refine pwp_region ?_ | refine pwp_quiet (by kernel_rfl) (by kernel_rfl) ?_) | refine pwp_exit ?_ | refine pwp_ret ?_ | refine pwp_skip ?_); push_cast [iO, tN]) | (refine pwp_cond ?_; push_cast [iO, tN]; try (refine ⟨fun h => ?_, fun h => ?_⟩ <;> (try simp only [decide_eq_true_eq, decide_eq_false_iff_not, cN] at h) <;> (try (first | contradiction | omega | exact cT h (by assumption) | exact cF h (by assumption))))))
  (try simp only [List.length_cons, List.length_nil, Nat.reduceAdd]; repeat' first | (refine pl_app2 (e := 51) (sz := 4) (by' := 56) (rows := (g.map (Chg.mk 2)).map Chg.d) (ys := [(Chg.mk 2 x).d]) 3 rfl (by push_cast [iO, tN]) (by push_cast [iO, tN]) (by push_cast [iO, tN]) (by push_cast [iO, tN]) (by omega) (by push_cast [iO, tN]) (by push_cast [iO, tN]) (by push_cast [iO, tN]) (by push_cast [iO, tN]) (by simp) (by push_cast [iO, tN]; omega) (by push_cast [iO, tN]; omega) ?_ ?_ <;> (refine pl_of_pops ?_; push_cast [iO, tN])) | ((first | refine pah 0 ?_ | refine pah 1 ?_ | refine pah 2 ?_ | refine pah 4 ?_ | refine pah 5 ?_ | refine pah 8 ?_ | refine pah 11 ?_); push_cast [iO, tN]) | (refine pad ?_; try push_cast [iO, tN]) | ((first | refine pas [3] ?_ | refine pas [6] ?_ | refine pas [7] ?_ | refine pas [9] ?_ | refine pas [10] ?_ | refine pas [12] ?_); push_cast [iO, tN]) | ((first | refine pas [3, 6] ?_ | refine pas [3, 7] ?_ | refine pas [3, 9] ?_ | refine pas [3, 10] ?_ | refine pas [3, 12] ?_ | refine pas [6, 7] ?_ | refine pas [6, 9] ?_ | refine pas [6, 10] ?_ | refine pas [6, 12] ?_ | refine pas [7, 9] ?_ | refine pas [7, 10] ?_ | refine pas [7, 12] ?_ | refine pas [9, 10] ?_ | refine pas [9, 12] ?_ | refine pas [10, 12] ?_); push_cast [iO, tN]; refine ⟨?_, ?_⟩) | ((first | refine pas [3, 6, 7] ?_ | refine pas [3, 6, 9] ?_ | refine pas [3, 6, 10] ?_ | refine pas [3, 6, 12] ?_ | refine pas [3, 7, 9] ?_ | refine pas [3, 7, 10] ?_ | refine pas [3, 7, 12] ?_ | refine pas [3, 9, 10] ?_ | refine pas [3, 9, 12] ?_ | refine pas [3, 10, 12] ?_ | refine pas [6, 7, 9] ?_ | refine pas [6, 7, 10] ?_ | refine pas [6, 7, 12] ?_ | refine pas [6, 9, 10] ?_ | refine pas [6, 9, 12] ?_ | refine pas [6, 10, 12] ?_ | refine pas [7, 9, 10] ?_ | refine pas [7, 9, 12] ?_ | refine pas [7, 10, 12] ?_ | refine pas [9, 10, 12] ?_); push_cast [iO, tN]; refine ⟨?_, ?_, ?_⟩))
  all_goals first | (refine retK_of [0, 1, 2, 3, 5] ?_; push_cast [iO, tN]; exact ⟨_, _, leP_refl _, leOs_refl _, rfl, .inr rfl⟩) | (refine retK_of [0, 1, 2, 3] ?_; push_cast [iO, tN]; exact ⟨_, _, leP_refl _, leOs_refl _, rfl, .inl rfl⟩)
end Go.Proofs.YtcnoopjacilceaaGreatDoor
namespace Go.Proofs.YtcnoopjacilceaaGreatDoor
attribute [local irreducible] PL QL PWPr PCalls Weak RetK Kontr PA
open Go.RowKit
open IntWalk renaming iteOmega → iO, toNatUp → tN
set_option linter.unusedVariables false
set_option linter.unusedSimpArgs false
set_option maxRecDepth 20000
theorem weak_keepT {N p : Nat} {t : List (Nat × PV)} {os : List Ob} (ks : List Nat) (os' : List Ob) (h : keepG true ks ⟨t, os⟩ ⟨t, os'⟩ p) : Weak N p ⟨t, os⟩ ⟨t, os'⟩ := weak_keep true ks h
theorem WI.small {a b : List Acc} {i k : Nat} {r g : List Acc} (h : WI a b i k r g) : r.length ≤ a.length ∧ g.length ≤ b.length := by
  rw [h.r, h.g]
  exact ⟨Nat.le_trans (minus_sub _ _).length_le (by rw [List.length_take]; omega), Nat.le_trans (minus_sub _ _).length_le (by rw [List.length_take]; omega)⟩
theorem wlt {x y : Acc} (hx : okP1 x.path) (hy : okP1 y.path) : (cmpP x.path y.path < 0 ∧ ltA x y) ∨ (¬ cmpP x.path y.path < 0 ∧ 0 < cmpP x.path y.path ∧ ltA y x) ∨ (¬ cmpP x.path y.path < 0 ∧ ¬ 0 < cmpP x.path y.path ∧ x.path = y.path) := by
  rcases cmpP_lt x.path y.path with h | h | h
  · left; exact ⟨by omega, by unfold ltA; omega⟩
  · right; right; exact ⟨by omega, by omega, (cmpP_eq hx hy).1 h⟩
  · right; left; refine ⟨by omega, by omega, ?_⟩
    unfold ltA; rw [cmpP_anti]; omega
def planNil : List Ob := [.box 90 [.v (.slice none 0 0), .v (.slice none 0 0)], .box 89 [.v (.int .i64 1), .v (.int .i64 2)]]
set_option maxHeartbeats 8000000 in
theorem walk_pure (a b : List Acc) (ha : Right a) (hb : Right b) (hal : a.length ≤ 1000000) (hbl : b.length ≤ 1000000) (haz : ∀ y ∈ a, y.path.size ≤ 100000000) (hbz : ∀ y ∈ b, y.path.size ≤ 100000000) :
    PCalls Tryz.prog 45 [.c (.sl 3 (a.map Acc.d)), .c (.sl 3 (b.map Acc.d)), .c (.fn (.func 46) [] [0, 1])] planNil fun y os => y = .undef ∧ os = planOs (minusL a b) (minusL b a) := by
  unfold planNil planOs
  refine pcalls_of Tryz.func45 rfl (by simp [Tryz.ntmps45]) ?_
  rw [Tryz.ntmps45, Tryz.results45]
  push_cast [iO, tN]
  refine pwp_weak (weak_adopt_box 0 0 51 4 (by omega) _ _ rfl rfl) ?_
  push_cast [iO, tN]
  refine pwp_weak (weak_adopt_box 0 1 51 4 (by omega) _ _ rfl rfl) ?_
  push_cast [iO, tN]
  have cB : CutB 8 [] := trivial
  repeat' (first | ((first | refine pC ?_ | refine pQC ?_ | refine pU ?_); push_cast [iO, tN]) | (refine pif (fun h => ?_) (fun h => ?_) <;> first | exact pN h | push_cast [iO, tN]))
  (apply pwp_loop3 (α := Nat × Nat × List Acc × List Acc) 8 [] (fun z => [(6, .c (.v (.int .i64 z.1))), (7, .c (.v (.int .i64 z.2.1)))]) (fun z => [(0, .box 90 [.own 2 z.2.2.1.length, .own 3 z.2.2.2.length]), (2, .arr 51 4 ((z.2.2.1.map (Chg.mk 1)).map Chg.d)), (3, .arr 51 4 ((z.2.2.2.map (Chg.mk 2)).map Chg.d))]) (fun z => WI a b z.1 z.2.1 z.2.2.1 z.2.2.2) (fun z => (a.length - z.1) + (b.length - z.2.1)) ((0, 0, [], [])); (focus ((try push_cast [iO, tN]); rfl)); (focus exact WI.start a b); (focus ((refine weak_fg ?_; try push_cast [iO, tN]))))
  rintro ⟨i, k, r, g⟩ hw
  simp only at hw
  have hs := hw.small
  have hi := hw.hi
  have hk := hw.hk
  push_cast [iO, tN]
  by_cases h1 : i < a.length
  · have ga : a.getD i default = a[i] := getD_lt a h1
    have hai : a.getD i default ∈ a := by rw [ga]; exact List.getElem_mem _
    by_cases h2 : k < b.length
    · have gb : b.getD k default = b[k] := getD_lt b h2
      have hbk : b.getD k default ∈ b := by rw [gb]; exact List.getElem_mem _
      have hc := compare_pure (a.getD i default) (b.getD k default) (haz _ hai) (hbz _ hbk)
      rcases wlt (ha.ok _ hai) (hb.ok _ hbk) with ⟨c1, c2⟩ | ⟨c1, c2, c3⟩ | ⟨c1, c2, c3⟩
      · have hn : WI a b (i + 1) k (r ++ [a.getD i default]) g := by rw [ga]; exact hw.left ha.asc hb.asc h1 fun _ => by rw [← ga, ← gb]; exact c2
        have d1 := eq_true c1
        have hc0 := planF0 r g (a.getD i default) (by omega)
        unfold planR0 planOs at hc0
        push_cast [iO, tN] at hc0
        repeat' (first | ((refine ql_call2 false rfl rfl (by kernel_rfl) (hc) (fun r os h => h.1) rfl ?_ ?_; push_cast [iO, tN, d1]; refine ql_of_qops ?_; push_cast [iO, tN, d1])) | (refine pl_call_all rfl (by push_cast [iO, tN, d1]) rfl (by kernel_rfl) (by push_cast [iO, tN, d1]) ?_ hc0 ?_; (focus (unfold callArgs; push_cast [iO, tN, d1])); (rintro y os ⟨rfl, rfl | rfl⟩ <;> (refine pl_weak (weak_cutS 8 [] _) ?_; push_cast [iO, tN, d1]; try (refine pl_weak (weak_keepT [0, 1, 4, 3] (planOs (r ++ [a.getD i default]) g) ?_) ?_; (focus (unfold planOs; push_cast [iO, tN, d1]; done))))) <;> ((try unfold planOs); refine pl_of_pops ?_; push_cast [iO, tN, d1])) | ((first | refine pC ?_ | refine pQC ?_ | refine pU ?_); push_cast [iO, tN, d1]) | (refine pif (fun h => ?_) (fun h => ?_) <;> first | exact pN h | push_cast [iO, tN, d1]))
        all_goals exact ⟨(i + 1, k, r ++ [a.getD i default], g), hn, by (refine weak_fg ?_; push_cast [iO, tN]), by simp only; omega⟩
      · have hn : WI a b i (k + 1) r (g ++ [b.getD k default]) := by rw [gb]; exact hw.right ha.asc hb.asc h2 fun _ => by rw [← ga, ← gb]; exact c3
        have d2 := eq_true c2
        have hc1 := planF1 r g (b.getD k default) (by omega)
        unfold planR1 planOs at hc1
        push_cast [iO, tN] at hc1
        repeat' (first | ((refine ql_call2 false rfl rfl (by kernel_rfl) (hc) (fun r os h => h.1) rfl ?_ ?_; push_cast [iO, tN, c1, d2]; refine ql_of_qops ?_; push_cast [iO, tN, c1, d2])) | (refine pl_call_all rfl (by push_cast [iO, tN, c1, d2]) rfl (by kernel_rfl) (by push_cast [iO, tN, c1, d2]) ?_ hc1 ?_; (focus (unfold callArgs; push_cast [iO, tN, c1, d2])); (rintro y os ⟨rfl, rfl | rfl⟩ <;> (refine pl_weak (weak_cutS 8 [] _) ?_; push_cast [iO, tN, c1, d2]; try (refine pl_weak (weak_keepT [0, 1, 2, 4] (planOs r (g ++ [b.getD k default])) ?_) ?_; (focus (unfold planOs; push_cast [iO, tN, c1, d2]; done))))) <;> ((try unfold planOs); refine pl_of_pops ?_; push_cast [iO, tN, c1, d2])) | ((first | refine pC ?_ | refine pQC ?_ | refine pU ?_); push_cast [iO, tN, c1, d2]) | (refine pif (fun h => ?_) (fun h => ?_) <;> first | exact pN h | push_cast [iO, tN, c1, d2]))
        all_goals exact ⟨(i, k + 1, r, g ++ [b.getD k default]), hn, by (refine weak_fg ?_; push_cast [iO, tN]), by simp only; omega⟩
      · have hb2 := acc_beq (a.getD i default) (b.getD k default)
        obtain ⟨n1, n2⟩ := hw.both ha.asc hb.asc h1 h2 (by rw [← ga, ← gb]; exact c3)
        by_cases he : a.getD i default = b.getD k default
        · rw [decide_eq_true he] at hb2
          have hn := n1 (by rw [← ga, ← gb]; exact he)
          repeat' (first | ((refine ql_call2 false rfl rfl (by kernel_rfl) (hc) (fun r os h => h.1) rfl ?_ ?_; push_cast [iO, tN, c1, c2, hb2]; refine ql_of_qops ?_; push_cast [iO, tN, c1, c2, hb2])) | ((first | refine pC ?_ | refine pQC ?_ | refine pU ?_); push_cast [iO, tN, c1, c2, hb2]) | (refine pif (fun h => ?_) (fun h => ?_) <;> first | exact pN h | push_cast [iO, tN, c1, c2, hb2]))
          exact ⟨(i + 1, k + 1, r, g), hn, by (refine weak_fg ?_; push_cast [iO, tN]), by simp only; omega⟩
        · rw [decide_eq_false he] at hb2
          have hn := n2 (by rw [← ga, ← gb]; exact he)
          rw [← ga, ← gb] at hn
          have hc0 := planF0 r g (a.getD i default) (by omega)
          unfold planR0 planOs at hc0
          push_cast [iO, tN] at hc0
          have hc2 := planF1 (r ++ [a.getD i default]) g (b.getD k default) (by omega)
          unfold planR1 planOs at hc2
          push_cast [iO, tN] at hc2
          repeat' (first | ((refine ql_call2 false rfl rfl (by kernel_rfl) (hc) (fun r os h => h.1) rfl ?_ ?_; push_cast [iO, tN, c1, c2, hb2]; refine ql_of_qops ?_; push_cast [iO, tN, c1, c2, hb2])) | (refine pl_call_all rfl (by push_cast [iO, tN, c1, c2, hb2]) rfl (by kernel_rfl) (by push_cast [iO, tN, c1, c2, hb2]) ?_ hc0 ?_; (focus (unfold callArgs; push_cast [iO, tN, c1, c2, hb2])); (rintro y os ⟨rfl, rfl | rfl⟩ <;> (refine pl_weak (weak_cutS 8 [] _) ?_; push_cast [iO, tN, c1, c2, hb2]; try (refine pl_weak (weak_keepT [0, 1, 4, 3] (planOs (r ++ [a.getD i default]) g) ?_) ?_; (focus (unfold planOs; push_cast [iO, tN, c1, c2, hb2]; done))))) <;> ((try unfold planOs); refine pl_of_pops ?_; push_cast [iO, tN, c1, c2, hb2])) | (refine pl_call_all rfl (by push_cast [iO, tN, c1, c2, hb2]) rfl (by kernel_rfl) (by push_cast [iO, tN, c1, c2, hb2]) ?_ hc2 ?_; (focus (unfold callArgs; push_cast [iO, tN, c1, c2, hb2])); (rintro y os ⟨rfl, rfl | rfl⟩ <;> (refine pl_weak (weak_cutS 8 [] _) ?_; push_cast [iO, tN, c1, c2, hb2]; try (refine pl_weak (weak_keepT [0, 1, 2, 4] (planOs (r ++ [a.getD i default]) (g ++ [b.getD k default])) ?_) ?_; (focus (unfold planOs; push_cast [iO, tN, c1, c2, hb2]; done))))) <;> ((try unfold planOs); refine pl_of_pops ?_; push_cast [iO, tN, c1, c2, hb2])) | ((first | refine pC ?_ | refine pQC ?_ | refine pU ?_); push_cast [iO, tN, c1, c2, hb2]) | (refine pif (fun h => ?_) (fun h => ?_) <;> first | exact pN h | push_cast [iO, tN, c1, c2, hb2]))
          all_goals exact ⟨(i + 1, k + 1, r ++ [a.getD i default], g ++ [b.getD k default]), hn, by (refine weak_fg ?_; push_cast [iO, tN]), by simp only; omega⟩
    · have hkl : k = b.length := by omega
      have hn : WI a b (i + 1) k (r ++ [a.getD i default]) g := by rw [ga]; exact hw.left ha.asc hb.asc h1 fun h => absurd h h2
      have hc0 := planF0 r g (a.getD i default) (by omega)
      unfold planR0 planOs at hc0
      push_cast [iO, tN] at hc0
      repeat' (first |  (refine pl_call_all rfl (by push_cast [iO, tN]) rfl (by kernel_rfl) (by push_cast [iO, tN]) ?_ hc0 ?_; (focus (unfold callArgs; push_cast [iO, tN])); (rintro y os ⟨rfl, rfl | rfl⟩ <;> (refine pl_weak (weak_cutS 8 [] _) ?_; push_cast [iO, tN]; try (refine pl_weak (weak_keepT [0, 1, 4, 3] (planOs (r ++ [a.getD i default]) g) ?_) ?_; (focus (unfold planOs; push_cast [iO, tN]; done))))) <;> ((try unfold planOs); refine pl_of_pops ?_; push_cast [iO, tN]))  | ((first | refine pC ?_ | refine pQC ?_ | refine pU ?_); push_cast [iO, tN]) | (refine pif (fun h => ?_) (fun h => ?_) <;> first | exact pN h | push_cast [iO, tN]))
      all_goals exact ⟨(i + 1, k, r ++ [a.getD i default], g), hn, by (refine weak_fg ?_; push_cast [iO, tN]), by simp only; omega⟩
  · have hil : i = a.length := by omega
    by_cases h2 : k < b.length
    · have gb : b.getD k default = b[k] := getD_lt b h2
      have hn : WI a b i (k + 1) r (g ++ [b.getD k default]) := by rw [gb]; exact hw.right ha.asc hb.asc h2 fun h => absurd h h1
      have hc1 := planF1 r g (b.getD k default) (by omega)
      unfold planR1 planOs at hc1
      push_cast [iO, tN] at hc1
      repeat' (first |  (refine pl_call_all rfl (by push_cast [iO, tN]) rfl (by kernel_rfl) (by push_cast [iO, tN]) ?_ hc1 ?_; (focus (unfold callArgs; push_cast [iO, tN])); (rintro y os ⟨rfl, rfl | rfl⟩ <;> (refine pl_weak (weak_cutS 8 [] _) ?_; push_cast [iO, tN]; try (refine pl_weak (weak_keepT [0, 1, 2, 4] (planOs r (g ++ [b.getD k default])) ?_) ?_; (focus (unfold planOs; push_cast [iO, tN]; done))))) <;> ((try unfold planOs); refine pl_of_pops ?_; push_cast [iO, tN]))  | ((first | refine pC ?_ | refine pQC ?_ | refine pU ?_); push_cast [iO, tN]) | (refine pif (fun h => ?_) (fun h => ?_) <;> first | exact pN h | push_cast [iO, tN]))
      all_goals exact ⟨(i, k + 1, r, g ++ [b.getD k default]), hn, by (refine weak_fg ?_; push_cast [iO, tN]), by simp only; omega⟩
    · obtain ⟨rfl, rfl⟩ := hw.done h1 h2
      repeat' (first | ((first | refine pC ?_ | refine pQC ?_ | refine pU ?_); push_cast [iO, tN]) | (refine pif (fun h => ?_) (fun h => ?_) <;> first | exact pN h | push_cast [iO, tN]))
      (refine retK_of [0, 1, 2, 3] ?_; push_cast [iO, tN])
end Go.Proofs.YtcnoopjacilceaaGreatDoor
namespace Go.Proofs.YtcnoopjacilceaaGreatDoor
attribute [local irreducible] PL QL PWPr PCalls Weak RetK Kontr PA
open Go.RowKit
open IntWalk renaming iteOmega → iO, toNatUp → tN
set_option linter.unusedVariables false
set_option linter.unusedSimpArgs false
set_option maxRecDepth 20000
set_option maxHeartbeats 1000000 in
theorem plan_pure (a b : List Acc) (ha : Right a) (hb : Right b) (hal : a.length ≤ 1000000) (hbl : b.length ≤ 1000000) (haz : ∀ y ∈ a, y.path.size ≤ 100000000) (hbz : ∀ y ∈ b, y.path.size ≤ 100000000) :
    PCalls Tryz.prog 17 [.c (.sl 3 (a.map Acc.d)), .c (.sl 3 (b.map Acc.d))] [] fun y os => y = .c (.own 0 ((planA a b).length)) ∧ os = [.arr 51 4 ((planA a b).map Chg.d)] := by
  have hA : ((minusL a b).map (Chg.mk 1)).length ≤ 1000000 := by rw [List.length_map]; exact Nat.le_trans (minus_sub a b).length_le hal
  have hB : ((minusL b a).map (Chg.mk 2)).length ≤ 1000000 := by rw [List.length_map]; exact Nat.le_trans (minus_sub b a).length_le hbl
  have hw := walk_pure a b ha hb hal hbl haz hbz
  have hc := concat_pure _ _ hA hB
  unfold planA
  generalize minusL a b = r at *
  generalize minusL b a = g at *
  unfold planNil planOs at hw
  push_cast [iO, tN] at hw
  push_cast [iO, tN] at hc
  refine pcalls_of Tryz.func17 rfl (by simp [Tryz.ntmps17]) ?_
  rw [Tryz.ntmps17, Tryz.results17]
  push_cast [iO, tN]
  have cB : CutB 7 [] := trivial
  repeat' (first |  (refine plc [1, 0] (hw) ?_ ?_; push_cast [iO, tN]; rintro r os ⟨rfl, rfl⟩; push_cast [iO, tN])  | ((first | refine pC ?_ | refine pQC ?_ | refine pU ?_); push_cast [iO, tN]) | (refine pif (fun h => ?_) (fun h => ?_) <;> first | exact pN h | push_cast [iO, tN]))
  refine pl_weak (weak_frz 2 (by omega)) ?_
  push_cast [iO, tN]
  refine pl_weak (weak_frz 3 (by omega)) ?_
  push_cast [iO, tN]
  refine pl_of_pops ?_
  push_cast [iO, tN]
  repeat' (first |  (refine plc [] (hc) ?_ ?_; push_cast [iO, tN]; rintro r os ⟨rfl, rfl⟩; push_cast [iO, tN])  | ((first | refine pC ?_ | refine pQC ?_ | refine pU ?_); push_cast [iO, tN]) | (refine pif (fun h => ?_) (fun h => ?_) <;> first | exact pN h | push_cast [iO, tN]))
  (refine retK_of [4] ?_; push_cast [iO, tN])
end Go.Proofs.YtcnoopjacilceaaGreatDoor
