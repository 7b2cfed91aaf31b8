/- What the program computes, and the plain laws of it, part 51. -/
import Derived.Test.YtbonfcphabnlpabGreatDoorQ50
namespace Go.Proofs.YtbonfcphabnlpabGreatDoor
attribute [local irreducible] PL QL PWPr PCalls Weak RetK Kontr PA
open Go.RowKit
open IntWalk renaming iteOmega → iO, toNatUp → tN
set_option linter.unusedVariables false
set_option linter.unusedSimpArgs false
set_option maxRecDepth 20000
set_option maxHeartbeats 4000000 in
theorem remove_pure (l : List Dev) (n : Int) (h : Okp l) (hf : (findD l n).isSome = true) (hl : l.length ≤ 1000) (ha : ∀ d ∈ l, d.attrs.length ≤ 1000000000) :
    PCalls Tryz.prog 14 [.agg (trE l), .c (.v (.int .i64 n))] [] fun r os => r = .two (.agg (trE (remT l n))) (.c (.v (.int .i64 0))) ∧ os = [] := by
  have hs := subtree_pure l n
  have hcp := copies_pure l (by omega) ha
  obtain ⟨d0, hd0⟩ := Option.isSome_iff_exists.1 hf
  obtain ⟨hm0, hi0⟩ := findD_some hd0
  have hdel := deleteGone_pure l (by omega) (goneE l n l.length) (fun d => belowM l d.index n) (fun x hx => by rw [lk_gone, gone_all h n hx]) ⟨d0, hm0, by rw [← hi0]; exact below_self h hm0⟩
  have hne : (goneE l n l.length).length ≠ 0 := fun e => by rw [← hi0] at e; exact gone_ne h hm0 (List.length_eq_zero_iff.1 e)
  refine pcalls_of Tryz.func14 rfl (by simp [Tryz.ntmps14]) ?_
  rw [Tryz.ntmps14, Tryz.results14]
  push_cast [iO, tN]
  have cB : CutB 8 [11] := trivial
  repeat' (first |  ((refine plc [] (hs) ?_ ?_; push_cast [iO, tN]; rintro r os ⟨rfl, rfl⟩; push_cast [iO, tN]))  | ((first | refine pC ?_ | refine pQC ?_ | refine pU ?_); push_cast [iO, tN]) | (refine pif (fun h => ?_) (fun h => ?_) <;> first | exact pN h | push_cast [iO, tN]))
  refine pwp_range (R := fun lo r os' => ∃ L2 t2, os' = [.box 34 (trE l), .box 34 [.v (.slice none 0 0)], .map (some .i64) false (goneE l n l.length), .box 80 [.mp 2], .box 34 (trE l), .box 3 [.v (.int .i64 n)], .loop lo L2 t2, .map (some .i64) false (goneE l n l.length)] ∧ L2.st = .ready ∧ L2.pd = none) rfl (by kernel_rfl) (fun lo D fn => ?_) (fun lo r os' hR => ?_)
  · refine pcalls_of_all Tryz.func72 rfl (by simp [Tryz.ntmps72]) ?_
    rw [Tryz.ntmps72, Tryz.results72]
    push_cast [iO, tN]
    have cB : CutB 7 [9, 10, 11] := trivial
    repeat' (first | ((first | refine pC ?_ | refine pQC ?_ | refine pU ?_); push_cast [iO, tN]) | (refine pif (fun h => ?_) (fun h => ?_) <;> first | exact pN h | push_cast [iO, tN]))
    (apply pwp_loop3 (α := Nat) 7 [9, 10, 11] (fun i => [(11, .c (.v (.int .i64 i)))]) (fun i => [(2, .map (some .i64) false (goneE l n i)), (7, .map (some .i64) false (goneE l n i))]) (fun i => i ≤ l.length) (fun i => l.length - i) (0); (focus ((try push_cast [iO, tN]); rfl)); (focus exact (Nat.zero_le _)); (focus ((refine weak_fg ?_; try push_cast [iO, tN]); (try (simp [goneE_zero])))))
    intro i hi
    push_cast [iO, tN]
    by_cases hlt : i < l.length
    · have hbs := below_step h n hlt
      have hlk := lk_gone l n i (l.getD i default).parent
      cases hb : belowM l (l.getD i default).index n with
      | false =>
        have hgn := goneE_no (n := n) hlt hb
        rw [hb] at hbs
        have hbs := hbs.symm
        rw [Bool.or_eq_false_iff] at hbs
        obtain ⟨h1, h2⟩ := hbs
        have h1 := of_decide_eq_false h1
        rw [h2] at hlk
        repeat' (first | ((first | refine pC ?_ | refine pQC ?_ | refine pU ?_); push_cast [iO, tN, hlk, h1]) | (refine pif (fun h => ?_) (fun h => ?_) <;> first | exact pN h | push_cast [iO, tN, hlk, h1]))
        exact ⟨i + 1, by omega, by (refine weak_fg ?_; push_cast [iO, tN, hgn]), by omega⟩
      | true =>
        have hgy := goneE_yes h hlt hb
        rw [hb] at hbs
        by_cases h1 : (l.getD i default).index = n
        · rw [h1] at hgy
          repeat' (first | ((first | refine pC ?_ | refine pQC ?_ | refine pU ?_); push_cast [iO, tN, hlk, h1]) | (refine pif (fun h => ?_) (fun h => ?_) <;> first | exact pN h | push_cast [iO, tN, hlk, h1]))
          refine pl_yield 6 (qs := [.agg (l.getD i default).e]) rfl rfl rfl (by push_cast [iO, tN]) rfl rfl (by push_cast [iO, tN, h1]) rfl rfl ?_
          try dsimp only
          push_cast [iO, tN]
          have cB : CutB 8 [11, 12] := trivial
          repeat' (first | ((first | refine pC ?_ | refine pQC ?_ | refine pU ?_); push_cast [iO, tN]) | (refine pif (fun h => ?_) (fun h => ?_) <;> first | exact pN h | push_cast [iO, tN]))
          simp only [asgQ]
          refine ⟨_, _, rfl, rfl, ?_⟩
          try dsimp only
          repeat' (first | ((first | refine pC ?_ | refine pQC ?_ | refine pU ?_); push_cast [iO, tN, hgy, h1]) | (refine pif (fun h => ?_) (fun h => ?_) <;> first | exact pN h | push_cast [iO, tN, hgy, h1]))
          simp only [yldQ]
          refine ⟨_, _, rfl, ?_⟩
          refine pl_of_pops ?_
          push_cast [iO, tN, hgy, h1]
          have cB : CutB 7 [9, 10, 11] := trivial
          repeat' (first | ((first | refine pC ?_ | refine pQC ?_ | refine pU ?_); push_cast [iO, tN, hgy, h1]) | (refine pif (fun h => ?_) (fun h => ?_) <;> first | exact pN h | push_cast [iO, tN, hgy, h1]))
          exact ⟨i + 1, by omega, by (refine weak_fg ?_; push_cast [iO, tN, hgy, h1]), by omega⟩
        · rw [decide_eq_false h1, Bool.false_or] at hbs
          rw [← hbs] at hlk
          repeat' (first | ((first | refine pC ?_ | refine pQC ?_ | refine pU ?_); push_cast [iO, tN, hlk, h1]) | (refine pif (fun h => ?_) (fun h => ?_) <;> first | exact pN h | push_cast [iO, tN, hlk, h1]))
          refine pl_yield 6 (qs := [.agg (l.getD i default).e]) rfl rfl rfl (by push_cast [iO, tN]) rfl rfl (by push_cast [iO, tN, h1]) rfl rfl ?_
          try dsimp only
          push_cast [iO, tN]
          have cB : CutB 8 [11, 12] := trivial
          repeat' (first | ((first | refine pC ?_ | refine pQC ?_ | refine pU ?_); push_cast [iO, tN]) | (refine pif (fun h => ?_) (fun h => ?_) <;> first | exact pN h | push_cast [iO, tN]))
          simp only [asgQ]
          refine ⟨_, _, rfl, rfl, ?_⟩
          try dsimp only
          repeat' (first | ((first | refine pC ?_ | refine pQC ?_ | refine pU ?_); push_cast [iO, tN, hgy, h1]) | (refine pif (fun h => ?_) (fun h => ?_) <;> first | exact pN h | push_cast [iO, tN, hgy, h1]))
          simp only [yldQ]
          refine ⟨_, _, rfl, ?_⟩
          refine pl_of_pops ?_
          push_cast [iO, tN, hgy, h1]
          have cB : CutB 7 [9, 10, 11] := trivial
          repeat' (first | ((first | refine pC ?_ | refine pQC ?_ | refine pU ?_); push_cast [iO, tN, hgy, h1]) | (refine pif (fun h => ?_) (fun h => ?_) <;> first | exact pN h | push_cast [iO, tN, hgy, h1]))
          exact ⟨i + 1, by omega, by (refine weak_fg ?_; push_cast [iO, tN, hgy, h1]), by omega⟩
    · have hi2 : i = l.length := by omega
      subst hi2
      repeat' (first | ((first | refine pC ?_ | refine pQC ?_ | refine pU ?_); push_cast [iO, tN]) | (refine pif (fun h => ?_) (fun h => ?_) <;> first | exact pN h | push_cast [iO, tN]))
      exact ⟨_, rfl, by push_cast [iO, tN], _, _, rfl, rfl, rfl⟩
  · obtain ⟨L2, t2, rfl, h1, h2⟩ := hR
    refine ⟨L2, t2, rfl, by rw [h1]; simp, ?_⟩
    rw [h2]
    simp only [rngfQ]
    have cB : CutB 8 [] := trivial
    have hne2 : ¬ ((goneE l n l.length).length : Int) = 0 := by omega
    push_cast [iO, tN]
    repeat' (first | (refine pl_lenmap (k := 2) (e := 4) rfl rfl rfl (by kernel_rfl) rfl (by push_cast [iO, tN, hne2]) ?_; refine pl_of_pops ?_; push_cast [iO, tN, hne2]) | ((refine plc [] (hcp) ?_ ?_; push_cast [iO, tN, hne2]; rintro r os ⟨rfl, rfl⟩; push_cast [iO, tN, hne2])) | (refine pl_call2 false [8, 3, 2] rfl rfl (by kernel_rfl) hdel ?_ nofun ?_; push_cast [iO, tN, hne2]; rintro r os ⟨m, rfl, rfl⟩; refine pl_weak (weak_frz 8 (by omega)) ?_; push_cast [iO, tN, hne2]; refine pl_of_pops ?_; push_cast [iO, tN, hne2]) | ((first | refine pC ?_ | refine pQC ?_ | refine pU ?_); push_cast [iO, tN, hne2]) | (refine pif (fun h => ?_) (fun h => ?_) <;> first | exact pN h | push_cast [iO, tN, hne2]))
    (refine retK_of [] ?_; push_cast [iO, tN])
    rw [List.take_left' (List.length_map _)]
    rfl
end Go.Proofs.YtbonfcphabnlpabGreatDoor
