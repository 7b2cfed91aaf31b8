/- What the program computes, and the plain laws of it, part 43. -/
import Derived.Test.YtcnoopjacilceaaGreatDoorQ42
namespace Go.Proofs.YtcnoopjacilceaaGreatDoor
attribute [local irreducible] PL QL PWPr PCalls Weak RetK Kontr PA
open Go.RowKit
open IntWalk renaming iteOmega → iO, toNatUp → tN
set_option linter.unusedVariables false
set_option linter.unusedSimpArgs false
set_option maxRecDepth 20000
theorem same_pure (a b : List ByteArray) (ha : a.length ≤ 1000000000) (hb : b.length ≤ 1000000000) :
    PCalls Tryz.prog 32 [.c (.sl 1 (a.map strD)), .c (.sl 1 (b.map strD))] [] fun r os => r = .c (.v (.bool (decide (a = b)))) ∧ os = [] := by
  refine pcalls_of Tryz.func32 rfl (by simp [Tryz.ntmps32]) ?_
  rw [Tryz.ntmps32, Tryz.results32]
  push_cast [iO, tN]
  by_cases hl : a.length = b.length
  · repeat' (first | ((first | refine pG ?_ | refine pQ ?_ | refine pU ?_); push_cast [iO, tN]) | (refine pif (fun h => ?_) (fun h => ?_) <;> first | exact pN h | push_cast [iO, tN]))
    refine pwp_loop2 (α := Nat) (fun k => k ≤ a.length ∧ a.take k = b.take k) (fun k => ⟨[(5, .c (.v (.int .i64 k))), (0, .c (.sl 1 (a.map strD))), (1, .c (.sl 1 (b.map strD)))], []⟩) (fun k => a.length - k) 0 ⟨by omega, by simp⟩ (by (refine weak_fg ?_; push_cast [iO, tN])) ?_
    rintro k ⟨hk, hpre⟩
    by_cases hlt : k < a.length
    · have hlt' : k < b.length := by omega
      have e1 := getD_lt a hlt
      have e2 := getD_lt b hlt'
      repeat' (first | ((first | refine pG ?_ | refine pQ ?_ | refine pU ?_); push_cast [iO, tN]) | (refine pif (fun h => ?_) (fun h => ?_) <;> first | exact pN h | push_cast [iO, tN]))
      · (refine retK_of [] ?_; push_cast [iO, tN])
        rw [e1, e2] at h
        have : ¬ a = b := fun e => by subst e; simp at h
        simp [this]
      · refine ⟨k + 1, ⟨by omega, ?_⟩, by (refine weak_fg ?_; push_cast [iO, tN]), by omega⟩
        rw [e1, e2] at h
        have h' : a[k] = b[k] := by simpa using h
        rw [List.take_succ_eq_append_getElem hlt, List.take_succ_eq_append_getElem hlt', hpre, h']
    · rw [List.take_of_length_le (by omega), List.take_of_length_le (by omega)] at hpre
      repeat' (first | ((first | refine pG ?_ | refine pQ ?_ | refine pU ?_); push_cast [iO, tN]) | (refine pif (fun h => ?_) (fun h => ?_) <;> first | exact pN h | push_cast [iO, tN]))
      (refine retK_of [] ?_; push_cast [iO, tN])
      simp [hpre]
  · have : ¬ a = b := fun e => hl (by rw [e])
    repeat' (first | ((first | refine pG ?_ | refine pQ ?_ | refine pU ?_); push_cast [iO, tN]) | (refine pif (fun h => ?_) (fun h => ?_) <;> first | exact pN h | push_cast [iO, tN]))
    (refine retK_of [] ?_; push_cast [iO, tN])
    simp [this]
set_option maxHeartbeats 1000000 in
theorem of_data (l : List Acc) (u : ByteArray) (hl : l.length ≤ 1000000000) :
    PCalls Tryz.prog 33 [.c (.sl 3 (l.map Acc.d)), .c (.v (.string u))] [] fun r os => r = .c (.sl 1 ((ofA l u).map strD)) ∧ os = [] := by
  refine pcalls_of Tryz.func33 rfl (by simp [Tryz.ntmps33]) ?_
  rw [Tryz.ntmps33, Tryz.results33]
  push_cast [iO, tN]
  have cB : CutB 11 [] := trivial
  repeat' (first | ((first | refine pC ?_ | refine pQC ?_ | refine pU ?_); push_cast [iO, tN]) | (refine pif (fun h => ?_) (fun h => ?_) <;> first | exact pN h | push_cast [iO, tN]))
  refine pwp_weak (weak_adopt 5 9 1 (by omega) (by push_cast [iO, tN])) ?_
  push_cast [iO, tN]
  (apply pwp_loop3 (α := Nat) 11 [] (fun k => [(10, .c (.v (.int .i64 k))), (5, .c (.own 0 ((ofT l u k).length)))]) (fun k => [(0, .arr 9 1 ((ofT l u k).map strD))]) (fun k => k ≤ l.length) (fun k => l.length - k) (0); (focus ((try push_cast [iO, tN]); rfl)); (focus exact (by omega)); (focus ((refine weak_fg ?_; try push_cast [iO, tN]); (try (exact ⟨rfl, rfl⟩)))))
  intro k hk
  push_cast [iO, tN]
  have hol := ofT_len l u k
  by_cases hlt : k < l.length
  · by_cases hu : (l.getD k default).user = u
    · have hs := ofT_t hlt hu
      have hu' := eq_true hu
      repeat' (first | ((first | refine pC ?_ | refine pQC ?_ | refine pU ?_); push_cast [iO, tN, hu']) | (refine pif (fun h => ?_) (fun h => ?_) <;> first | exact pN h | push_cast [iO, tN, hu']))
      exact ⟨k + 1, by omega, by (refine weak_fg ?_; push_cast [iO, tN, hs]), by omega⟩
    · have hs := ofT_f hlt hu
      repeat' (first | ((first | refine pC ?_ | refine pQC ?_ | refine pU ?_); push_cast [iO, tN, hu]) | (refine pif (fun h => ?_) (fun h => ?_) <;> first | exact pN h | push_cast [iO, tN, hu]))
      exact ⟨k + 1, by omega, by (refine weak_fg ?_; push_cast [iO, tN, hs]), by omega⟩
  · rw [ofT_end hlt]
    repeat' (first | ((first | refine pC ?_ | refine pQC ?_ | refine pU ?_); push_cast [iO, tN]) | (refine pif (fun h => ?_) (fun h => ?_) <;> first | exact pN h | push_cast [iO, tN]))
    (refine retK_of [] ?_; push_cast [iO, tN])
deriving instance DecidableEq for Chg
def kH : Acc := ⟨⟨#[47, 115, 100, 97]⟩, ⟨#[115, 100, 97]⟩, ⟨#[97, 110, 110]⟩⟩
def kW : Acc := ⟨⟨#[47, 115, 100, 97]⟩, ⟨#[115, 100, 97]⟩, ⟨#[98, 111, 98]⟩⟩
def kV : Acc := ⟨⟨#[47, 116, 116, 121, 83, 48]⟩, ⟨#[116, 116, 121, 83, 48]⟩, ⟨#[98, 111, 98]⟩⟩
theorem kR1 : Right [kH] := ⟨by intro a ha; simp only [List.mem_singleton] at ha; subst ha; exact ⟨[⟨#[115, 100, 97]⟩], by decide +kernel⟩, by simp, by simp⟩
theorem kR2 : Right [kW, kV] := ⟨by
    intro a ha
    simp only [List.mem_cons, List.not_mem_nil, or_false] at ha
    rcases ha with rfl | rfl
    · exact ⟨[⟨#[115, 100, 97]⟩], by decide +kernel⟩
    · exact ⟨[⟨#[116, 116, 121, 83, 48]⟩], by decide +kernel⟩, by decide +kernel, by decide +kernel⟩
theorem kPlan : planA [kH] [kW, kV] = [⟨1, kH⟩, ⟨2, kW⟩, ⟨2, kV⟩] := by decide +kernel
theorem kOf : ofA [kW, kV] ⟨#[98, 111, 98]⟩ = [⟨#[115, 100, 97]⟩, ⟨#[116, 116, 121, 83, 48]⟩] := by decide +kernel
theorem kFil : [kW, kV].filter (fun y => decide (y ≠ kW)) = [kV] := by decide +kernel
set_option maxHeartbeats 4000000 in
set_option maxRecDepth 20000 in
theorem known_pure : PCalls Tryz.prog 11 [] [] fun r os => r = .c (.v (.bool true)) ∧ os = [] := by
  have hp := plan_pure [kH] [kW, kV] kR1 kR2 (by simp) (by simp) (by decide +kernel) (by decide +kernel)
  rw [kPlan] at hp
  have ht := apply_taken [kH] kW (by simp) ⟨kH, by simp, .inl rfl⟩
  have hr := apply_rev_pure [kW, kV] kW (by simp) (by simp) (by decide +kernel)
  rw [kFil] at hr
  have ho := of_data [kW, kV] ⟨#[98, 111, 98]⟩ (by simp)
  rw [kOf] at ho
  have hs := same_pure [⟨#[115, 100, 97]⟩, ⟨#[116, 116, 121, 83, 48]⟩] [⟨#[115, 100, 97]⟩, ⟨#[116, 116, 121, 83, 48]⟩] (by simp) (by simp)
  refine pcalls_of Tryz.func11 rfl (by simp [Tryz.ntmps11]) ?_
  rw [Tryz.ntmps11, Tryz.results11]
  unfold kH kW kV at *
  push_cast [iO, tN]
  have cB : CutB 8 [] := trivial
  repeat' (first |  (refine plc [] (hp) ?_ ?_; push_cast [iO, tN]; rintro r os ⟨rfl, rfl⟩; push_cast [iO, tN]) | (refine plc [] (ht) ?_ ?_; push_cast [iO, tN]; rintro r os ⟨rfl, rfl⟩; push_cast [iO, tN]) | (refine plc [] (hr) ?_ ?_; push_cast [iO, tN]; rintro r os ⟨rfl, rfl⟩; push_cast [iO, tN]) | (refine pwp_cut 8 [] ?_; apply pwp_drawn_to; (focus kernel_rfl))  | ((first | refine pC ?_ | refine pQC ?_ | refine pU ?_); push_cast [iO, tN]) | (refine pif (fun h => ?_) (fun h => ?_) <;> first | exact pN h | push_cast [iO, tN]))
  · simp only [List.length_cons, List.length_nil, Nat.reduceAdd]
    refine pa_hoist 0 ?_ ?_
    (focus decide +kernel)
    push_cast [iO, tN]
    refine pa_hoist 1 ?_ ?_
    (focus decide +kernel)
    push_cast [iO, tN]
    refine pa_hoist 2 ?_ ?_
    (focus decide +kernel)
    push_cast [iO, tN]
    refine pa_hoist 3 ?_ ?_
    (focus decide +kernel)
    push_cast [iO, tN]
    refine pa_hoist 4 ?_ ?_
    (focus decide +kernel)
    push_cast [iO, tN]
    refine pa_hoist 5 ?_ ?_
    (focus decide +kernel)
    push_cast [iO, tN]
    refine pa_hoist 7 ?_ ?_
    (focus decide +kernel)
    push_cast [iO, tN]
    refine pa_hoist 8 ?_ ?_
    (focus decide +kernel)
    push_cast [iO, tN]
    refine pa_step [6, 9] ?_ rfl ?_
    (focus decide +kernel)
    push_cast [iO, tN]
    refine ⟨?_, ?_⟩
    (focus (refine pa_step [9] ?_ rfl ?_; (focus decide +kernel); push_cast [iO, tN]; refine pa_hoist 10 ?_ ?_; (focus decide +kernel); push_cast [iO, tN]; refine pa_hoist 11 ?_ ?_; (focus decide +kernel); push_cast [iO, tN]; refine pa_hoist 12 ?_ ?_; (focus decide +kernel); push_cast [iO, tN]; refine pa_hoist 13 ?_ ?_; (focus decide +kernel); push_cast [iO, tN]; refine pa_hoist 14 ?_ ?_; (focus decide +kernel); push_cast [iO, tN]; refine pa_hoist 15 ?_ ?_; (focus decide +kernel); push_cast [iO, tN]; refine pa_hoist 16 ?_ ?_; (focus decide +kernel); push_cast [iO, tN]; refine pa_hoist 18 ?_ ?_; (focus decide +kernel); push_cast [iO, tN]; refine pa_hoist 19 ?_ ?_; (focus decide +kernel); push_cast [iO, tN]; refine pa_step [17, 20] ?_ rfl ?_; (focus decide +kernel); push_cast [iO, tN]; refine ⟨?_, ?_⟩; (focus (refine pa_step [20] ?_ rfl ?_; (focus decide +kernel); push_cast [iO, tN]; refine pa_hoist 21 ?_ ?_; (focus decide +kernel); push_cast [iO, tN]; refine pa_hoist 22 ?_ ?_; (focus decide +kernel); push_cast [iO, tN]; refine pa_hoist 23 ?_ ?_; (focus decide +kernel); push_cast [iO, tN]; refine pa_hoist 24 ?_ ?_; (focus decide +kernel); push_cast [iO, tN]; refine pa_hoist 25 ?_ ?_; (focus decide +kernel); push_cast [iO, tN]; refine pa_hoist 26 ?_ ?_; (focus decide +kernel); push_cast [iO, tN]; refine pa_hoist 27 ?_ ?_; (focus decide +kernel); push_cast [iO, tN]; refine pa_hoist 28 ?_ ?_; (focus decide +kernel); push_cast [iO, tN]; refine pa_hoist 29 ?_ ?_; (focus decide +kernel); push_cast [iO, tN]; refine pa_hoist 30 ?_ ?_; (focus decide +kernel); push_cast [iO, tN]; refine pa_hoist 31 ?_ ?_; (focus decide +kernel); push_cast [iO, tN]; refine pa_hoist 32 ?_ ?_; (focus decide +kernel); push_cast [iO, tN]; refine pa_hoist 33 ?_ ?_; (focus decide +kernel); push_cast [iO, tN]; refine pa_hoist 34 ?_ ?_; (focus decide +kernel); push_cast [iO, tN]; refine pa_hoist 35 ?_ ?_; (focus decide +kernel); push_cast [iO, tN]; refine pa_hoist 36 ?_ ?_; (focus decide +kernel); push_cast [iO, tN]; refine pa_hoist 37 ?_ ?_; (focus decide +kernel); push_cast [iO, tN]; refine pa_step [38, 39] ?_ rfl ?_; (focus decide +kernel); push_cast [iO, tN]; refine ⟨?_, ?_⟩; (focus ((refine plc [] (ho) ?_ ?_; push_cast [iO, tN]; rintro r os ⟨rfl, rfl⟩; push_cast [iO, tN]); refine pa_step [39] ?_ rfl ?_; (focus decide +kernel); push_cast [iO, tN]; refine pa_step [40] ?_ rfl ?_; (focus decide +kernel); push_cast [iO, tN]; (refine plc [] (hs) ?_ ?_; push_cast [iO, tN]; rintro r os ⟨rfl, rfl⟩; push_cast [iO, tN]); refine pa_hoist 41 ?_ ?_; (focus decide +kernel); push_cast [iO, tN]; refine pa_hoist 42 ?_ ?_; (focus decide +kernel); push_cast [iO, tN]; refine pa_done ?_ ?_; (focus decide +kernel); first | with_reducible exact weak_cutS 8 [] _ | (refine weak_fg ?_; push_cast [iO, tN]))); (focus (refine pa_step [38] ?_ rfl ?_; (focus decide +kernel); push_cast [iO, tN]; (refine plc [] (ho) ?_ ?_; push_cast [iO, tN]; rintro r os ⟨rfl, rfl⟩; push_cast [iO, tN]); refine pa_step [40] ?_ rfl ?_; (focus decide +kernel); push_cast [iO, tN]; (refine plc [] (hs) ?_ ?_; push_cast [iO, tN]; rintro r os ⟨rfl, rfl⟩; push_cast [iO, tN]); refine pa_hoist 41 ?_ ?_; (focus decide +kernel); push_cast [iO, tN]; refine pa_hoist 42 ?_ ?_; (focus decide +kernel); push_cast [iO, tN]; refine pa_done ?_ ?_; (focus decide +kernel); first | with_reducible exact weak_cutS 8 [] _ | (refine weak_fg ?_; push_cast [iO, tN]))))); (focus (refine pa_step [17] ?_ rfl ?_; (focus decide +kernel); push_cast [iO, tN]; refine pa_hoist 21 ?_ ?_; (focus decide +kernel); push_cast [iO, tN]; refine pa_hoist 22 ?_ ?_; (focus decide +kernel); push_cast [iO, tN]; refine pa_hoist 23 ?_ ?_; (focus decide +kernel); push_cast [iO, tN]; refine pa_hoist 24 ?_ ?_; (focus decide +kernel); push_cast [iO, tN]; refine pa_hoist 25 ?_ ?_; (focus decide +kernel); push_cast [iO, tN]; refine pa_hoist 26 ?_ ?_; (focus decide +kernel); push_cast [iO, tN]; refine pa_hoist 27 ?_ ?_; (focus decide +kernel); push_cast [iO, tN]; refine pa_hoist 28 ?_ ?_; (focus decide +kernel); push_cast [iO, tN]; refine pa_hoist 29 ?_ ?_; (focus decide +kernel); push_cast [iO, tN]; refine pa_hoist 30 ?_ ?_; (focus decide +kernel); push_cast [iO, tN]; refine pa_hoist 31 ?_ ?_; (focus decide +kernel); push_cast [iO, tN]; refine pa_hoist 32 ?_ ?_; (focus decide +kernel); push_cast [iO, tN]; refine pa_hoist 33 ?_ ?_; (focus decide +kernel); push_cast [iO, tN]; refine pa_hoist 34 ?_ ?_; (focus decide +kernel); push_cast [iO, tN]; refine pa_hoist 35 ?_ ?_; (focus decide +kernel); push_cast [iO, tN]; refine pa_hoist 36 ?_ ?_; (focus decide +kernel); push_cast [iO, tN]; refine pa_hoist 37 ?_ ?_; (focus decide +kernel); push_cast [iO, tN]; refine pa_step [38, 39] ?_ rfl ?_; (focus decide +kernel); push_cast [iO, tN]; refine ⟨?_, ?_⟩; (focus ((refine plc [] (ho) ?_ ?_; push_cast [iO, tN]; rintro r os ⟨rfl, rfl⟩; push_cast [iO, tN]); refine pa_step [39] ?_ rfl ?_; (focus decide +kernel); push_cast [iO, tN]; refine pa_step [40] ?_ rfl ?_; (focus decide +kernel); push_cast [iO, tN]; (refine plc [] (hs) ?_ ?_; push_cast [iO, tN]; rintro r os ⟨rfl, rfl⟩; push_cast [iO, tN]); refine pa_hoist 41 ?_ ?_; (focus decide +kernel); push_cast [iO, tN]; refine pa_hoist 42 ?_ ?_; (focus decide +kernel); push_cast [iO, tN]; refine pa_done ?_ ?_; (focus decide +kernel); first | with_reducible exact weak_cutS 8 [] _ | (refine weak_fg ?_; push_cast [iO, tN]))); (focus (refine pa_step [38] ?_ rfl ?_; (focus decide +kernel); push_cast [iO, tN]; (refine plc [] (ho) ?_ ?_; push_cast [iO, tN]; rintro r os ⟨rfl, rfl⟩; push_cast [iO, tN]); refine pa_step [40] ?_ rfl ?_; (focus decide +kernel); push_cast [iO, tN]; (refine plc [] (hs) ?_ ?_; push_cast [iO, tN]; rintro r os ⟨rfl, rfl⟩; push_cast [iO, tN]); refine pa_hoist 41 ?_ ?_; (focus decide +kernel); push_cast [iO, tN]; refine pa_hoist 42 ?_ ?_; (focus decide +kernel); push_cast [iO, tN]; refine pa_done ?_ ?_; (focus decide +kernel); first | with_reducible exact weak_cutS 8 [] _ | (refine weak_fg ?_; push_cast [iO, tN])))))))
    (focus (refine pa_hoist 10 ?_ ?_; (focus decide +kernel); push_cast [iO, tN]; refine pa_step [6] ?_ rfl ?_; (focus decide +kernel); push_cast [iO, tN]; refine pa_hoist 11 ?_ ?_; (focus decide +kernel); push_cast [iO, tN]; refine pa_hoist 12 ?_ ?_; (focus decide +kernel); push_cast [iO, tN]; refine pa_hoist 13 ?_ ?_; (focus decide +kernel); push_cast [iO, tN]; refine pa_hoist 14 ?_ ?_; (focus decide +kernel); push_cast [iO, tN]; refine pa_hoist 15 ?_ ?_; (focus decide +kernel); push_cast [iO, tN]; refine pa_hoist 16 ?_ ?_; (focus decide +kernel); push_cast [iO, tN]; refine pa_hoist 18 ?_ ?_; (focus decide +kernel); push_cast [iO, tN]; refine pa_hoist 19 ?_ ?_; (focus decide +kernel); push_cast [iO, tN]; refine pa_step [17, 20] ?_ rfl ?_; (focus decide +kernel); push_cast [iO, tN]; refine ⟨?_, ?_⟩; (focus (refine pa_step [20] ?_ rfl ?_; (focus decide +kernel); push_cast [iO, tN]; refine pa_hoist 21 ?_ ?_; (focus decide +kernel); push_cast [iO, tN]; refine pa_hoist 22 ?_ ?_; (focus decide +kernel); push_cast [iO, tN]; refine pa_hoist 23 ?_ ?_; (focus decide +kernel); push_cast [iO, tN]; refine pa_hoist 24 ?_ ?_; (focus decide +kernel); push_cast [iO, tN]; refine pa_hoist 25 ?_ ?_; (focus decide +kernel); push_cast [iO, tN]; refine pa_hoist 26 ?_ ?_; (focus decide +kernel); push_cast [iO, tN]; refine pa_hoist 27 ?_ ?_; (focus decide +kernel); push_cast [iO, tN]; refine pa_hoist 28 ?_ ?_; (focus decide +kernel); push_cast [iO, tN]; refine pa_hoist 29 ?_ ?_; (focus decide +kernel); push_cast [iO, tN]; refine pa_hoist 30 ?_ ?_; (focus decide +kernel); push_cast [iO, tN]; refine pa_hoist 31 ?_ ?_; (focus decide +kernel); push_cast [iO, tN]; refine pa_hoist 32 ?_ ?_; (focus decide +kernel); push_cast [iO, tN]; refine pa_hoist 33 ?_ ?_; (focus decide +kernel); push_cast [iO, tN]; refine pa_hoist 34 ?_ ?_; (focus decide +kernel); push_cast [iO, tN]; refine pa_hoist 35 ?_ ?_; (focus decide +kernel); push_cast [iO, tN]; refine pa_hoist 36 ?_ ?_; (focus decide +kernel); push_cast [iO, tN]; refine pa_hoist 37 ?_ ?_; (focus decide +kernel); push_cast [iO, tN]; refine pa_step [38, 39] ?_ rfl ?_; (focus decide +kernel); push_cast [iO, tN]; refine ⟨?_, ?_⟩; (focus ((refine plc [] (ho) ?_ ?_; push_cast [iO, tN]; rintro r os ⟨rfl, rfl⟩; push_cast [iO, tN]); refine pa_step [39] ?_ rfl ?_; (focus decide +kernel); push_cast [iO, tN]; refine pa_step [40] ?_ rfl ?_; (focus decide +kernel); push_cast [iO, tN]; (refine plc [] (hs) ?_ ?_; push_cast [iO, tN]; rintro r os ⟨rfl, rfl⟩; push_cast [iO, tN]); refine pa_hoist 41 ?_ ?_; (focus decide +kernel); push_cast [iO, tN]; refine pa_hoist 42 ?_ ?_; (focus decide +kernel); push_cast [iO, tN]; refine pa_done ?_ ?_; (focus decide +kernel); first | with_reducible exact weak_cutS 8 [] _ | (refine weak_fg ?_; push_cast [iO, tN]))); (focus (refine pa_step [38] ?_ rfl ?_; (focus decide +kernel); push_cast [iO, tN]; (refine plc [] (ho) ?_ ?_; push_cast [iO, tN]; rintro r os ⟨rfl, rfl⟩; push_cast [iO, tN]); refine pa_step [40] ?_ rfl ?_; (focus decide +kernel); push_cast [iO, tN]; (refine plc [] (hs) ?_ ?_; push_cast [iO, tN]; rintro r os ⟨rfl, rfl⟩; push_cast [iO, tN]); refine pa_hoist 41 ?_ ?_; (focus decide +kernel); push_cast [iO, tN]; refine pa_hoist 42 ?_ ?_; (focus decide +kernel); push_cast [iO, tN]; refine pa_done ?_ ?_; (focus decide +kernel); first | with_reducible exact weak_cutS 8 [] _ | (refine weak_fg ?_; push_cast [iO, tN]))))); (focus (refine pa_step [17] ?_ rfl ?_; (focus decide +kernel); push_cast [iO, tN]; refine pa_hoist 21 ?_ ?_; (focus decide +kernel); push_cast [iO, tN]; refine pa_hoist 22 ?_ ?_; (focus decide +kernel); push_cast [iO, tN]; refine pa_hoist 23 ?_ ?_; (focus decide +kernel); push_cast [iO, tN]; refine pa_hoist 24 ?_ ?_; (focus decide +kernel); push_cast [iO, tN]; refine pa_hoist 25 ?_ ?_; (focus decide +kernel); push_cast [iO, tN]; refine pa_hoist 26 ?_ ?_; (focus decide +kernel); push_cast [iO, tN]; refine pa_hoist 27 ?_ ?_; (focus decide +kernel); push_cast [iO, tN]; refine pa_hoist 28 ?_ ?_; (focus decide +kernel); push_cast [iO, tN]; refine pa_hoist 29 ?_ ?_; (focus decide +kernel); push_cast [iO, tN]; refine pa_hoist 30 ?_ ?_; (focus decide +kernel); push_cast [iO, tN]; refine pa_hoist 31 ?_ ?_; (focus decide +kernel); push_cast [iO, tN]; refine pa_hoist 32 ?_ ?_; (focus decide +kernel); push_cast [iO, tN]; refine pa_hoist 33 ?_ ?_; (focus decide +kernel); push_cast [iO, tN]; refine pa_hoist 34 ?_ ?_; (focus decide +kernel); push_cast [iO, tN]; refine pa_hoist 35 ?_ ?_; (focus decide +kernel); push_cast [iO, tN]; refine pa_hoist 36 ?_ ?_; (focus decide +kernel); push_cast [iO, tN]; refine pa_hoist 37 ?_ ?_; (focus decide +kernel); push_cast [iO, tN]; refine pa_step [38, 39] ?_ rfl ?_; (focus decide +kernel); push_cast [iO, tN]; refine ⟨?_, ?_⟩; (focus ((refine plc [] (ho) ?_ ?_; push_cast [iO, tN]; rintro r os ⟨rfl, rfl⟩; push_cast [iO, tN]); refine pa_step [39] ?_ rfl ?_; (focus decide +kernel); push_cast [iO, tN]; refine pa_step [40] ?_ rfl ?_; (focus decide +kernel); push_cast [iO, tN]; (refine plc [] (hs) ?_ ?_; push_cast [iO, tN]; rintro r os ⟨rfl, rfl⟩; push_cast [iO, tN]); refine pa_hoist 41 ?_ ?_; (focus decide +kernel); push_cast [iO, tN]; refine pa_hoist 42 ?_ ?_; (focus decide +kernel); push_cast [iO, tN]; refine pa_done ?_ ?_; (focus decide +kernel); first | with_reducible exact weak_cutS 8 [] _ | (refine weak_fg ?_; push_cast [iO, tN]))); (focus (refine pa_step [38] ?_ rfl ?_; (focus decide +kernel); push_cast [iO, tN]; (refine plc [] (ho) ?_ ?_; push_cast [iO, tN]; rintro r os ⟨rfl, rfl⟩; push_cast [iO, tN]); refine pa_step [40] ?_ rfl ?_; (focus decide +kernel); push_cast [iO, tN]; (refine plc [] (hs) ?_ ?_; push_cast [iO, tN]; rintro r os ⟨rfl, rfl⟩; push_cast [iO, tN]); refine pa_hoist 41 ?_ ?_; (focus decide +kernel); push_cast [iO, tN]; refine pa_hoist 42 ?_ ?_; (focus decide +kernel); push_cast [iO, tN]; refine pa_done ?_ ?_; (focus decide +kernel); first | with_reducible exact weak_cutS 8 [] _ | (refine weak_fg ?_; push_cast [iO, tN])))))))
  repeat' (first | ((first | refine pC ?_ | refine pQC ?_ | refine pU ?_); push_cast [iO, tN]) | (refine pif (fun h => ?_) (fun h => ?_) <;> first | exact pN h | push_cast [iO, tN]))
  (refine retK_of [] ?_; push_cast [iO, tN])
end Go.Proofs.YtcnoopjacilceaaGreatDoor
