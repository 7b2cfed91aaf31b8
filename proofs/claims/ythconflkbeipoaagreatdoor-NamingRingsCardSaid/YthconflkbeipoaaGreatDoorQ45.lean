/- What the program computes, and the plain laws of it, part 45. -/
import Derived.Test.YthconflkbeipoaaGreatDoorQ23
import Derived.Test.YthconflkbeipoaaGreatDoorQ38
import Derived.Test.YthconflkbeipoaaGreatDoorQ39
namespace Go.Proofs.YthconflkbeipoaaGreatDoor
attribute [local irreducible] PL QL PWPr PCalls Weak RetK Kontr PA
open Go.RowKit
open IntWalk renaming iteOmega → iO, toNatUp → tN
set_option linter.unusedVariables false
set_option linter.unusedSimpArgs false
set_option maxRecDepth 20000
def nowA (l : List Dev) (d : Dev) : Atr := ⟨placeM l d.index, d.name⟩
def nowK (l : List Dev) (k : Nat) : List Atr := ((l.take k).filter fun d => decide (d.kind = 4)).map (nowA l)
def nowP (l : List Dev) : List Atr := nowK l l.length
theorem nowK_zero (l : List Dev) : nowK l 0 = [] := by simp [nowK]
theorem nowK_t {l : List Dev} {k : Nat} (hk : k < l.length) (h : (l.getD k default).kind = 4) : nowK l (k + 1) = nowK l k ++ [nowA l (l.getD k default)] := by
  unfold nowK
  rw [List.take_succ_eq_append_getElem hk, List.filter_append, List.map_append, ← getD_lt l hk, List.filter_cons_of_pos (by simpa using h), List.filter_nil, List.map_singleton]
theorem nowK_f {l : List Dev} {k : Nat} (hk : k < l.length) (h : (l.getD k default).kind ≠ 4) : nowK l (k + 1) = nowK l k := by
  unfold nowK
  rw [List.take_succ_eq_append_getElem hk, List.filter_append, List.map_append, ← getD_lt l hk, List.filter_cons_of_neg (by simpa using h), List.filter_nil, List.map_nil, List.append_nil]
theorem nowK_len (l : List Dev) (k : Nat) : (nowK l k).length ≤ l.length := by
  unfold nowK
  rw [List.length_map]
  exact Nat.le_trans (List.length_filter_le _ _) (by rw [List.length_take]; omega)
theorem interf_pure (l : List Dev) : PCalls Tryz.prog 53 [.agg (trE l)] [] fun r os => r = .c (.fn (.func 100) [] [0]) ∧ os = [.box 47 (trE l)] := by
  refine pcalls_of Tryz.func53 rfl (by simp [Tryz.ntmps53]) ?_
  rw [Tryz.ntmps53, Tryz.results53]
  push_cast [iO, tN]
  repeat' (first | ((first | refine pG ?_ | refine pQ ?_ | refine pU ?_); push_cast [iO, tN]) | (refine pif (fun h => ?_) (fun h => ?_) <;> first | exact pN h | push_cast [iO, tN]))
  (refine retK_of [0] ?_; push_cast [iO, tN])
set_option maxHeartbeats 8000000 in
theorem present_pure (l : List Dev) (h : Okp l) (hl : l.length ≤ 1000) (hz : ∀ d ∈ l, d.original.size ≤ 1000) :
    PCalls Tryz.prog 28 [.agg (trE l)] [] fun r os => r = .c (.own 0 (nowP l).length) ∧ os = [.arr 33 2 ((nowP l).map Atr.d)] := by
  have hi := interf_pure l
  refine pcalls_of Tryz.func28 rfl (by simp [Tryz.ntmps28]) ?_
  rw [Tryz.ntmps28, Tryz.results28]
  push_cast [iO, tN]
  have cB : CutB 6 [7] := trivial
  repeat' (first |  ((refine plc [] (hi) ?_ ?_; push_cast [iO, tN]; rintro r os ⟨rfl, rfl⟩; push_cast [iO, tN])) | (refine pwp_seq fun K hK => ?_) | (refine pwp_block ?_)  | ((first | refine pC ?_ | refine pQC ?_ | refine pU ?_); push_cast [iO, tN]) | (refine pif (fun h => ?_) (fun h => ?_) <;> first | exact pN h | push_cast [iO, tN]))
  refine pwp_range (R := fun lo r os' => ∃ L2 t2, os' = [.box 47 (trE l), .box 28 [.own 4 (nowP l).length], .box 47 (trE l), .loop lo L2 t2, .arr 33 2 ((nowP l).map Atr.d)] ∧ L2.st = .ready ∧ L2.pd = none) rfl (by kernel_rfl) (fun lo D fn => ?_) (fun lo r os' hR => ?_)
  · refine pcalls_of_all Tryz.func100 rfl (by simp [Tryz.ntmps100]) ?_
    rw [Tryz.ntmps100, Tryz.results100]
    push_cast [iO, tN]
    refine pwp_weak (weak_adopt_box 1 0 33 2 (by omega) 28 [.v (.slice none 0 0)] rfl rfl) ?_
    push_cast [iO, tN]
    have cB : CutB 7 [8, 9, 10] := trivial
    repeat' (first | ((first | refine pC ?_ | refine pQC ?_ | refine pU ?_); push_cast [iO, tN]) | (refine pif (fun h => ?_) (fun h => ?_) <;> first | exact pN h | push_cast [iO, tN]))
    (apply pwp_loop3 (α := Nat) 7 [8, 9, 10] (fun k => [(10, .c (.v (.int .i64 k)))]) (fun k => [(1, .box 28 [.own 4 (nowK l k).length]), (4, .arr 33 2 ((nowK l k).map Atr.d))]) (fun k => k ≤ l.length) (fun k => l.length - k) (0); (focus ((try push_cast [iO, tN]); rfl)); (focus exact (Nat.zero_le _)); (focus ((refine weak_fg ?_; try push_cast [iO, tN]); (try (exact ⟨rfl, rfl⟩)))))
    intro k hk
    push_cast [iO, tN]
    by_cases hlt : k < l.length
    case neg =>
      have hk2 : k = l.length := by omega
      subst hk2
      repeat' (first | ((first | refine pC ?_ | refine pQC ?_ | refine pU ?_); push_cast [iO, tN]) | (refine pif (fun h => ?_) (fun h => ?_) <;> first | exact pN h | push_cast [iO, tN]))
      exact ⟨_, rfl, by push_cast [iO, tN], _, _, rfl, rfl, rfl⟩
    obtain ⟨d, hd⟩ : ∃ d, l.getD k default = d := ⟨_, rfl⟩
    have hor := origin_pure l d.index h hl hz
    have hnl := nowK_len l k
    by_cases hkind : d.kind = 4
    case neg =>
      have hsk := nowK_f hlt (by rw [hd]; exact hkind)
      repeat' (first | ((first | refine pC ?_ | refine pQC ?_ | refine pU ?_); push_cast [iO, tN, hd, hkind]) | (refine pif (fun h => ?_) (fun h => ?_) <;> first | exact pN h | push_cast [iO, tN, hd, hkind]))
      exact ⟨k + 1, by omega, by (refine weak_fg ?_; push_cast [iO, tN, hsk]), by omega⟩
    have hst := nowK_t hlt (by rw [hd]; exact hkind)
    rw [hd] at hst
    replace hst : nowK l (k + 1) = nowK l k ++ [⟨placeM l d.index, d.name⟩] := hst
    have hsl : (nowK l (k + 1)).length = (nowK l k).length + 1 := by rw [hst, List.length_append, List.length_singleton]
    obtain ⟨u, hu⟩ : ∃ u, nowK l k = u := ⟨_, rfl⟩
    rw [hu] at hst hnl hsl ⊢
    repeat' (first | ((refine plc [] (hor) ?_ ?_; push_cast [iO, tN, hd, hkind]; rintro r os ⟨rfl, rfl⟩; push_cast [iO, tN, hd, hkind])) | ((first | refine pC ?_ | refine pQC ?_ | refine pU ?_); push_cast [iO, tN, hd, hkind]) | (refine pif (fun h => ?_) (fun h => ?_) <;> first | exact pN h | push_cast [iO, tN, hd, hkind]))
    refine pl_yield 3 (qs := [.c (.v (.string (placeM l d.index))), .agg d.e]) rfl rfl rfl (by push_cast [iO, tN]) rfl rfl (by push_cast [iO, tN, hd, hkind]) rfl rfl ?_
    try dsimp only
    push_cast [iO, tN]
    have cB : CutB 6 [7, 8, 9] := trivial
    repeat' (first | ((first | refine pC ?_ | refine pQC ?_ | refine pU ?_); push_cast [iO, tN]) | (refine pif (fun h => ?_) (fun h => ?_) <;> first | exact pN h | push_cast [iO, tN]))
    simp only [asgQ]
    refine ⟨_, _, rfl, rfl, ?_⟩
    try dsimp only
    repeat' (first |  (refine pl_app2 (e := 33) (sz := 2) (by' := 32) (rows := u.map Atr.d) (ys := [[.v (.string (placeM l d.index)), .v (.string d.name)]]) 4 rfl (by push_cast [iO, tN]) (by push_cast [iO, tN]) (by push_cast [iO, tN]) (by push_cast [iO, tN]) (by omega) (by push_cast [iO, tN]) (by push_cast [iO, tN]) (by push_cast [iO, tN]) (by push_cast [iO, tN]) (by simp) (by push_cast [iO, tN]; omega) (by push_cast [iO, tN]; omega) ?_ ?_ <;> (refine pl_of_pops ?_; push_cast [iO, tN]))  | ((first | refine pC ?_ | refine pQC ?_ | refine pU ?_); push_cast [iO, tN]) | (refine pif (fun h => ?_) (fun h => ?_) <;> first | exact pN h | push_cast [iO, tN]))
    all_goals simp only [yldQ]
    all_goals refine ⟨_, _, rfl, ?_⟩
    all_goals push_cast [iO, tN]
    have cB : CutB 7 [8, 9, 10] := trivial
    all_goals have cB6 : CutB 7 [8, 9, 10] := trivial
    all_goals first
      | (refine pl_of_pops ?_; push_cast [iO, tN]; (repeat' (first | ((first | refine pC ?_ | refine pQC ?_ | refine pU ?_); push_cast [iO, tN]) | (refine pif (fun h => ?_) (fun h => ?_) <;> first | exact pN h | push_cast [iO, tN]))); refine ⟨k + 1, by omega, ?_, by omega⟩; (refine weak_fg ?_; push_cast [iO, tN, hst, hsl]); done)
      | (refine pl_weak (weak_sw 6 (by omega)) ?_; push_cast [iO, tN]; refine pl_weak (weak_sw 5 (by omega)) ?_; push_cast [iO, tN]; refine pl_weak (weak_sw 4 (by omega)) ?_; push_cast [iO, tN]; refine pl_of_pops ?_; push_cast [iO, tN]; (repeat' (first | ((first | refine pC ?_ | refine pQC ?_ | refine pU ?_); push_cast [iO, tN]) | (refine pif (fun h => ?_) (fun h => ?_) <;> first | exact pN h | push_cast [iO, tN]))); refine ⟨k + 1, by omega, ?_, by omega⟩; (refine weak_fg ?_; push_cast [iO, tN, hst, hsl]); done)
  · obtain ⟨L2, t2, rfl, h1, h2⟩ := hR
    refine ⟨L2, t2, rfl, by rw [h1]; simp, ?_⟩
    rw [h2]
    simp only [rngfQ]
    have cB : CutB 6 [] := trivial
    push_cast [iO, tN]
    refine pU ?_
    repeat' (first | ((first | refine pC ?_ | refine pQC ?_ | refine pU ?_); push_cast [iO, tN]) | (refine pif (fun h => ?_) (fun h => ?_) <;> first | exact pN h | push_cast [iO, tN]))
    (refine retK_of [4] ?_; push_cast [iO, tN])
end Go.Proofs.YthconflkbeipoaaGreatDoor
namespace Go.Proofs.YthconflkbeipoaaGreatDoor
attribute [local irreducible] PL QL PWPr PCalls Weak RetK Kontr PA
open Go.RowKit
open IntWalk renaming iteOmega → iO, toNatUp → tN
set_option linter.unusedVariables false
set_option linter.unusedSimpArgs false
set_option maxRecDepth 20000
def fitAt (now names : List Atr) (i : Nat) : Bool := (((valOf now (names.getD i default).name).isSome && !inM (names.getD i default).name (keys (names.take i))) && !inM (names.getD i default).value (vals (names.take i))) && ifaceS (names.getD i default).value
def fitsB (now names : List Atr) : Bool := ((List.range names.length).all fun i => fitAt now names i) && !(now.any fun x => inM x.value (vals names) && !inM x.name (keys names))
theorem keys_snoc (names : List Atr) {k : Nat} (hk : k < names.length) : keys (names.take (k + 1)) = keys (names.take k) ++ [(names.getD k default).name] := by
  unfold keys
  rw [List.take_succ_eq_append_getElem hk, List.map_append, List.map_singleton, getD_lt names hk]
theorem vals_snoc (names : List Atr) {k : Nat} (hk : k < names.length) : vals (names.take (k + 1)) = vals (names.take k) ++ [(names.getD k default).value] := by
  unfold vals
  rw [List.take_succ_eq_append_getElem hk, List.map_append, List.map_singleton, getD_lt names hk]
theorem addS_snoc {l : List ByteArray} {s : ByteArray} (h : inM s l = false) : addS l s = l ++ [s] := by unfold addS; rw [h]; rfl
theorem fitsB_no {now names : List Atr} {i : Nat} (hi : i < names.length) (h : fitAt now names i = false) : fitsB now names = false := by
  unfold fitsB
  rw [Bool.and_eq_false_iff]
  left
  cases hc : (List.range names.length).all fun i => fitAt now names i with
  | false => rfl
  | true =>
    have := List.all_eq_true.1 hc i (List.mem_range.2 hi)
    rw [h] at this; cases this
theorem any_idx {l : List Atr} {q : Atr → Bool} {k : Int} (h : idxB q l k) : decide (0 ≤ k) = l.any q := by
  rcases h with ⟨rfl, h⟩ | ⟨i, rfl, hi, hq, _⟩
  · rw [decide_eq_false (by omega), eq_comm, Bool.eq_false_iff]
    intro hc
    obtain ⟨x, hx, hx2⟩ := List.any_eq_true.1 hc
    rw [h x hx] at hx2; cases hx2
  · rw [decide_eq_true (by omega), eq_comm, List.any_eq_true]
    exact ⟨_, by rw [getD_lt l hi]; exact List.getElem_mem _, hq⟩
abbrev fitO (V K : List ByteArray) : List Ob := [.box 75 [.mp 2], .box 75 [.mp 3], .map none false (setE V), .map none false (setE K)]
theorem fits1_pure (V K : List ByteArray) (a : Atr) : PCalls Tryz.prog 79 [.agg (a.d.map D.e), .c (.ptr 0 0), .c (.ptr 1 0)] (fitO V K) fun r os => r = .c (.v (.bool (inM a.value V && !inM a.name K))) ∧ os = fitO V K := by
  have h1 := lk_set V a.value
  have h2 := lk_set K a.name
  cases hv : inM a.value V with
  | false =>
    rw [hv] at h1
    refine pcalls_of Tryz.func79 rfl (by simp [Tryz.ntmps79]) ?_
    rw [Tryz.ntmps79, Tryz.results79]
    push_cast [iO, tN]
    repeat' (first | ((first | refine pG ?_ | refine pQ ?_ | refine pU ?_); push_cast [iO, tN, h1]) | (refine pif (fun h => ?_) (fun h => ?_) <;> first | exact pN h | push_cast [iO, tN, h1]))
    (refine retK_of [0, 1, 2, 3] ?_; push_cast [iO, tN])
  | true =>
    rw [hv] at h1
    cases hk : inM a.name K with
    | false =>
      rw [hk] at h2
      refine pcalls_of Tryz.func79 rfl (by simp [Tryz.ntmps79]) ?_
      rw [Tryz.ntmps79, Tryz.results79]
      push_cast [iO, tN]
      repeat' (first | ((first | refine pG ?_ | refine pQ ?_ | refine pU ?_); push_cast [iO, tN, h1, h2]) | (refine pif (fun h => ?_) (fun h => ?_) <;> first | exact pN h | push_cast [iO, tN, h1, h2]))
      (refine retK_of [0, 1, 2, 3] ?_; push_cast [iO, tN])
    | true =>
      rw [hk] at h2
      refine pcalls_of Tryz.func79 rfl (by simp [Tryz.ntmps79]) ?_
      rw [Tryz.ntmps79, Tryz.results79]
      push_cast [iO, tN]
      repeat' (first | ((first | refine pG ?_ | refine pQ ?_ | refine pU ?_); push_cast [iO, tN, h1, h2]) | (refine pif (fun h => ?_) (fun h => ?_) <;> first | exact pN h | push_cast [iO, tN, h1, h2]))
      (refine retK_of [0, 1, 2, 3] ?_; push_cast [iO, tN])
set_option maxHeartbeats 8000000 in
theorem fits_pure (now names : List Atr) (hn : now.length ≤ 1000000) (hm : names.length ≤ 1000000) (hz : ∀ x ∈ names, x.value.size ≤ 9223372036854775807) :
    PCalls Tryz.prog 40 [.c (.sl 2 (now.map Atr.d)), .c (.sl 2 (names.map Atr.d))] [] fun r os => r = .c (.v (.bool (fitsB now names))) ∧ os = [] := by
  refine pcalls_of Tryz.func40 rfl (by simp [Tryz.ntmps40]) ?_
  rw [Tryz.ntmps40, Tryz.results40]
  push_cast [iO, tN]
  have cB : CutB 11 [13, 14, 15] := trivial
  repeat' (first | ((first | refine pC ?_ | refine pQC ?_ | refine pU ?_); push_cast [iO, tN]) | (refine pif (fun h => ?_) (fun h => ?_) <;> first | exact pN h | push_cast [iO, tN]))
  (apply pwp_loop3 (α := Nat) 11 [13, 14, 15] (fun k => [(15, .c (.v (.int .i64 k)))]) (fun k => [(0, .map none false (setE (keys (names.take k)))), (1, .map none false (setE (vals (names.take k))))]) (fun k => k ≤ names.length ∧ ∀ j, j < k → fitAt now names j = true) (fun k => names.length - k) (0); (focus ((try push_cast [iO, tN]); rfl)); (focus exact ⟨Nat.zero_le _, fun j hj => by omega⟩); (focus ((refine weak_fg ?_; try push_cast [iO, tN]); (try (exact ⟨rfl, rfl⟩)))))
  rintro k ⟨hk, hpre⟩
  push_cast [iO, tN]
  by_cases hlt : k < names.length
  case neg =>
    have hk2 : k = names.length := by omega
    subst hk2
    rw [List.take_length]
    have hall : ((List.range names.length).all fun i => fitAt now names i) = true := List.all_eq_true.2 fun j hj => hpre j (List.mem_range.1 hj)
    have hfb : fitsB now names = !(now.any fun x => inM x.value (vals names) && !inM x.name (keys names)) := by unfold fitsB; rw [hall, Bool.true_and]
    have hc := containsFuncB_pure now (by omega) 79 [0, 1] (fitO (vals names) (keys names)) (fun x => inM x.value (vals names) && !inM x.name (keys names)) ⟨by kernel_rfl, fun x _ => fits1_pure (vals names) (keys names) x⟩
    repeat' (first |  ((refine plc [3, 2, 1, 0] (hc) ?_ ?_; push_cast [iO, tN]; rintro r os ⟨rfl, rfl⟩; push_cast [iO, tN]))  | ((first | refine pC ?_ | refine pQC ?_ | refine pU ?_); push_cast [iO, tN]) | (refine pif (fun h => ?_) (fun h => ?_) <;> first | exact pN h | push_cast [iO, tN]))
    (refine retK_of [] ?_; push_cast [iO, tN, hfb])
  obtain ⟨a, ha⟩ : ∃ a, names.getD k default = a := ⟨_, rfl⟩
  have ham : a ∈ names := by rw [← ha, getD_lt names hlt]; exact List.getElem_mem _
  have hg := dget_pure now a.name (by omega)
  have hif := iface_pure a.value (hz a ham)
  have hkp := lk_set (keys (names.take k)) a.name
  have hvp := lk_set (vals (names.take k)) a.value
  have hks := keys_snoc names hlt
  have hvs := vals_snoc names hlt
  rw [ha] at hks hvs
  have hat : fitAt now names k = ((((valOf now a.name).isSome && !inM a.name (keys (names.take k))) && !inM a.value (vals (names.take k))) && ifaceS a.value) := by unfold fitAt; rw [ha]
  have hmk := mput_set a.name (keys (names.take k))
  have hmv := mput_set a.value (vals (names.take k))
  obtain ⟨K, hK⟩ : ∃ K, keys (names.take k) = K := ⟨_, rfl⟩
  obtain ⟨V, hV⟩ : ∃ V, vals (names.take k) = V := ⟨_, rfl⟩
  rw [hK] at hkp hks hat hmk ⊢
  rw [hV] at hvp hvs hat hmv ⊢
  cases h1 : (valOf now a.name).isSome with
  | false =>
    rw [h1] at hg hat
    have hno := fitsB_no hlt (hat.trans rfl)
    repeat' (first | ((refine plc [] (hg) ?_ ?_; push_cast [iO, tN, ha]; rintro r os ⟨rfl, rfl⟩; push_cast [iO, tN, ha])) | ((first | refine pC ?_ | refine pQC ?_ | refine pU ?_); push_cast [iO, tN, ha]) | (refine pif (fun h => ?_) (fun h => ?_) <;> first | exact pN h | push_cast [iO, tN, ha]))
    (refine retK_of [] ?_; push_cast [iO, tN, hno])
  | true =>
    rw [h1] at hg hat
    cases h2 : inM a.name K with
    | true =>
      rw [h2] at hkp hat
      have hno := fitsB_no hlt (hat.trans rfl)
      repeat' (first | ((refine plc [] (hg) ?_ ?_; push_cast [iO, tN, ha, hkp]; rintro r os ⟨rfl, rfl⟩; push_cast [iO, tN, ha, hkp])) | ((first | refine pC ?_ | refine pQC ?_ | refine pU ?_); push_cast [iO, tN, ha, hkp]) | (refine pif (fun h => ?_) (fun h => ?_) <;> first | exact pN h | push_cast [iO, tN, ha, hkp]))
      (refine retK_of [] ?_; push_cast [iO, tN, hno])
    | false =>
      rw [h2] at hkp hat
      cases h3 : inM a.value V with
      | true =>
        rw [h3] at hvp hat
        have hno := fitsB_no hlt (hat.trans rfl)
        repeat' (first | ((refine plc [] (hg) ?_ ?_; push_cast [iO, tN, ha, hkp, hvp]; rintro r os ⟨rfl, rfl⟩; push_cast [iO, tN, ha, hkp, hvp])) | ((first | refine pC ?_ | refine pQC ?_ | refine pU ?_); push_cast [iO, tN, ha, hkp, hvp]) | (refine pif (fun h => ?_) (fun h => ?_) <;> first | exact pN h | push_cast [iO, tN, ha, hkp, hvp]))
        (refine retK_of [] ?_; push_cast [iO, tN, hno])
      | false =>
        rw [h3] at hvp hat
        cases h4 : ifaceS a.value with
        | false =>
          rw [h4] at hif hat
          have hno := fitsB_no hlt (hat.trans rfl)
          repeat' (first | ((refine plc [] (hg) ?_ ?_; push_cast [iO, tN, ha, hkp, hvp]; rintro r os ⟨rfl, rfl⟩; push_cast [iO, tN, ha, hkp, hvp])) | ((refine plc [] (hif) ?_ ?_; push_cast [iO, tN, ha, hkp, hvp]; rintro r os ⟨rfl, rfl⟩; push_cast [iO, tN, ha, hkp, hvp])) | ((first | refine pC ?_ | refine pQC ?_ | refine pU ?_); push_cast [iO, tN, ha, hkp, hvp]) | (refine pif (fun h => ?_) (fun h => ?_) <;> first | exact pN h | push_cast [iO, tN, ha, hkp, hvp]))
          (refine retK_of [] ?_; push_cast [iO, tN, hno])
        | true =>
          rw [h4] at hif hat
          rw [addS_snoc h2] at hmk
          rw [addS_snoc h3] at hmv
          repeat' (first | ((refine plc [] (hg) ?_ ?_; push_cast [iO, tN, ha, hkp, hvp]; rintro r os ⟨rfl, rfl⟩; push_cast [iO, tN, ha, hkp, hvp])) | ((refine plc [] (hif) ?_ ?_; push_cast [iO, tN, ha, hkp, hvp]; rintro r os ⟨rfl, rfl⟩; push_cast [iO, tN, ha, hkp, hvp])) | ((refine pwp_cut 11 [13, 14, 15] ?_; apply pwp_drawn_to; (focus kernel_rfl); (focus (simp only [List.length_cons, List.length_nil, Nat.reduceAdd]; (repeat' first | ((first | refine pah 1 ?_ | refine pah 4 ?_); push_cast [iO, tN,  ha, hmk, hmv]) | (refine pad ?_; first | with_reducible exact weak_cutS 11 [13, 14, 15] _ | (refine weak_fg ?_; push_cast [iO, tN,  ha, hmk, hmv])) | ((first | refine pas [0] ?_ | refine pas [2] ?_ | refine pas [3] ?_ | refine pas [5] ?_ | refine pas [6] ?_ | refine pas [7] ?_); push_cast [iO, tN,  ha, hmk, hmv]) | ((first | refine pas [0, 2] ?_ | refine pas [0, 3] ?_ | refine pas [0, 5] ?_ | refine pas [2, 3] ?_ | refine pas [2, 5] ?_ | refine pas [3, 5] ?_ | refine pas [3, 6] ?_ | refine pas [5, 6] ?_); push_cast [iO, tN,  ha, hmk, hmv]; refine ⟨?_, ?_⟩) | ((first | refine pas [0, 2, 3] ?_ | refine pas [0, 2, 5] ?_ | refine pas [0, 3, 5] ?_ | refine pas [2, 3, 5] ?_ | refine pas [3, 5, 6] ?_); push_cast [iO, tN,  ha, hmk, hmv]; refine ⟨?_, ?_, ?_⟩) | ((first | refine pas [0, 2, 3, 5] ?_); push_cast [iO, tN,  ha, hmk, hmv]; refine ⟨?_, ?_, ?_, ?_⟩)); done)); push_cast [iO, tN,  ha, hmk, hmv])) | ((first | refine pC ?_ | refine pQC ?_ | refine pU ?_); push_cast [iO, tN, ha, hkp, hvp]) | (refine pif (fun h => ?_) (fun h => ?_) <;> first | exact pN h | push_cast [iO, tN, ha, hkp, hvp]))
          refine ⟨k + 1, ⟨by omega, fun j hj => ?_⟩, by (refine weak_fg ?_; push_cast [iO, tN, hks, hvs]), by omega⟩
          by_cases e : j = k
          · rw [e, hat]; rfl
          · exact hpre j (by omega)
end Go.Proofs.YthconflkbeipoaaGreatDoor
