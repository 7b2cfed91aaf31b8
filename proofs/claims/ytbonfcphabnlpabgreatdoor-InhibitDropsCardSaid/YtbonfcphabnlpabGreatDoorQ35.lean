/- What the program computes, and the plain laws of it, part 35. -/
import Derived.Test.YtbonfcphabnlpabGreatDoorQ34
namespace Go.Proofs.YtbonfcphabnlpabGreatDoor
attribute [local irreducible] PL QL PWPr PCalls Weak RetK Kontr PA
open Go.RowKit
open IntWalk renaming iteOmega → iO, toNatUp → tN
set_option linter.unusedVariables false
set_option linter.unusedSimpArgs false
set_option maxRecDepth 20000
theorem ask1_pure (p : ByteArray) (d : Dev) (r : Req) : PCalls Tryz.prog 33 [.agg (r.d.map D.e), .c (.ptr 0 0), .c (.ptr 1 0)] [.box 9 [.v (.string p)], .box 51 d.e] fun x os => x = .c (.v (.bool (decide (r.path = p) && decide (r.index = d.index)))) ∧ os = [.box 9 [.v (.string p)], .box 51 d.e] := by
  refine pcalls_of Tryz.func33 rfl (by simp [Tryz.ntmps33]) ?_
  rw [Tryz.ntmps33, Tryz.results33]
  push_cast [iO, tN]
  by_cases h : r.path = p
  · repeat' (first | ((first | refine pG ?_ | refine pQ ?_ | refine pU ?_); push_cast [iO, tN, (eq_true h)]) | (refine pif (fun h => ?_) (fun h => ?_) <;> first | exact pN h | push_cast [iO, tN, (eq_true h)]))
    (refine retK_of [0, 1] ?_; push_cast [iO, tN])
    all_goals simp [h]
  · repeat' (first | ((first | refine pG ?_ | refine pQ ?_ | refine pU ?_); push_cast [iO, tN, (eq_false h)]) | (refine pif (fun h => ?_) (fun h => ?_) <;> first | exact pN h | push_cast [iO, tN, (eq_false h)]))
    (refine retK_of [0, 1] ?_; push_cast [iO, tN])
    all_goals simp [h]
set_option maxHeartbeats 2000000 in
theorem ask_pure (s : Inh) (t : List Dev) (p : ByteArray) (now : Int) (hs : s.ok) (ht : Okp t) (hl : t.length ≤ 1000) (hz : ∀ d ∈ t, d.original.size ≤ 1000) (ha : ∀ d ∈ t, d.attrs.length ≤ 1000000000) :
    PCalls Tryz.prog 12 [.agg s.e, .agg (trE t), .c (.v (.string p)), .c (.v (.int .i64 now))] [] fun x os => x = .two (.agg (askM s t p now).e) (.c (.v (.int .i64 (askE s t p)))) ∧ os = [] := by
  have hlr := hs.reqs
  have hat := at_pure t p ht hl hz ha
  have hf := filOther p s.reqs (by omega) (fun r => decide (r.path ≠ p)) fun r _ => other_pure p r
  change PCalls _ _ _ _ fun r os => r = .c (.own 0 (dropR p s.reqs).length) ∧ os = [.arr 37 3 ((dropR p s.reqs).map Req.d)] at hf
  have hdl : (dropR p s.reqs).length ≤ s.reqs.length := List.length_filter_le _ _
  refine pcalls_of Tryz.func12 rfl (by simp [Tryz.ntmps12]) ?_
  rw [Tryz.ntmps12, Tryz.results12]
  push_cast [iO, tN]
  have cB : CutB 15 [] := trivial
  cases hd : atD t p with
  | none =>
    have hE : askE s t p = 393 := by unfold askE; rw [hd]
    have hM : askM s t p now = ⟨0, [], []⟩ := by unfold askM; rw [hE]; rfl
    rw [hd] at hat
    repeat' (first |  ((refine plc [] (hat) ?_ ?_; push_cast [iO, tN]; rintro r os ⟨rfl, rfl⟩; push_cast [iO, tN])) | ((refine plc [] (hf) ?_ ?_; push_cast [iO, tN]; rintro r os ⟨rfl, rfl⟩; push_cast [iO, tN]))  | ((first | refine pC ?_ | refine pQC ?_ | refine pU ?_); push_cast [iO, tN]) | (refine pif (fun h => ?_) (fun h => ?_) <;> first | exact pN h | push_cast [iO, tN]))
    (refine retK_of [] ?_; push_cast [iO, tN, hE, hM])
  | some d =>
  rw [hd] at hat
  simp only [Option.getD_some, Option.isSome_some] at hat
  have hcf := containsFuncR_pure s.reqs (by omega) 33 [0, 1] [.box 9 [.v (.string p)], .box 51 d.e] (fun r => decide (r.path = p) && decide (r.index = d.index)) ⟨by kernel_rfl, fun r _ => ask1_pure p d r⟩
  change PCalls _ _ _ _ fun r os => r = .c (.v (.bool (takenQ s p d))) ∧ _ at hcf
  cases htk : takenQ s p d with
  | true =>
    rw [htk] at hcf
    have hE : askE s t p = 394 := by unfold askE; rw [hd]; simp only [htk, if_true]
    have hM : askM s t p now = ⟨0, [], []⟩ := by unfold askM; rw [hE]; rfl
    repeat' (first |  ((refine plc [] (hat) ?_ ?_; push_cast [iO, tN]; rintro r os ⟨rfl, rfl⟩; push_cast [iO, tN])) | ((refine plc [] (hf) ?_ ?_; push_cast [iO, tN]; rintro r os ⟨rfl, rfl⟩; push_cast [iO, tN])) | ((refine plc [2, 4] (hcf) ?_ ?_; push_cast [iO, tN]; rintro r os ⟨rfl, rfl⟩; push_cast [iO, tN]))  | ((first | refine pC ?_ | refine pQC ?_ | refine pU ?_); push_cast [iO, tN]) | (refine pif (fun h => ?_) (fun h => ?_) <;> first | exact pN h | push_cast [iO, tN]))
    (refine retK_of [] ?_; push_cast [iO, tN, hE, hM])
  | false =>
  rw [htk] at hcf
  by_cases h32 : 32 ≤ (dropR p s.reqs).length
  · have hE : askE s t p = 392 := by unfold askE; rw [hd]; simp only [htk, Bool.false_eq_true, if_false, if_pos h32]
    have hM : askM s t p now = ⟨0, [], []⟩ := by unfold askM; rw [hE]; rfl
    have h32' : (32 : Int) ≤ ((dropR p s.reqs).length : Int) := by omega
    repeat' (first | ((refine plc [] (hat) ?_ ?_; push_cast [iO, tN, h32']; rintro r os ⟨rfl, rfl⟩; push_cast [iO, tN, h32'])) | ((refine plc [] (hf) ?_ ?_; push_cast [iO, tN, h32']; rintro r os ⟨rfl, rfl⟩; push_cast [iO, tN, h32'])) | ((refine plc [2, 4] (hcf) ?_ ?_; push_cast [iO, tN, h32']; rintro r os ⟨rfl, rfl⟩; push_cast [iO, tN, h32'])) | ((first | refine pC ?_ | refine pQC ?_ | refine pU ?_); push_cast [iO, tN, h32']) | (refine pif (fun h => ?_) (fun h => ?_) <;> first | exact pN h | push_cast [iO, tN, h32']))
    (refine retK_of [] ?_; push_cast [iO, tN, hE, hM])
  have h32' : ¬ (32 : Int) ≤ ((dropR p s.reqs).length : Int) := by omega
  have hE : askE s t p = 0 := by unfold askE; rw [hd]; simp only [htk, Bool.false_eq_true, if_false, if_neg h32]
  have hM : askM s t p now = { s with reqs := dropR p s.reqs ++ [⟨p, d.index, now⟩] } := by unfold askM; rw [hE, hd]; rfl
  have hw := with_pure s (dropR p s.reqs ++ [⟨p, d.index, now⟩]) (by have := hs.len; omega)
  push_cast [iO, tN]
  repeat' (first | ((refine plc [] (hat) ?_ ?_; push_cast [iO, tN, h32']; rintro r os ⟨rfl, rfl⟩; push_cast [iO, tN, h32'])) | ((refine plc [] (hf) ?_ ?_; push_cast [iO, tN, h32']; rintro r os ⟨rfl, rfl⟩; push_cast [iO, tN, h32'])) | ((refine plc [2, 4] (hcf) ?_ ?_; push_cast [iO, tN, h32']; rintro r os ⟨rfl, rfl⟩; push_cast [iO, tN, h32'])) | ((refine pwp_cut 15 [] ?_; apply pwp_drawn_to; (focus kernel_rfl); (focus (simp only [List.length_cons, List.length_nil, Nat.reduceAdd]; (repeat' first | (refine pl_weak (weak_frz 5 (by omega)) ?_; (refine plc [] (hw) ?_ ?_; push_cast [iO, tN, h32']; rintro r os ⟨rfl, rfl⟩; push_cast [iO, tN, h32'])) | ((first | refine pah 1 ?_ | refine pah 7 ?_); push_cast [iO, tN, h32']) | (refine pad ?_; first | with_reducible exact weak_cutS 15 [] _ | (refine weak_fg ?_; push_cast [iO, tN, h32'])) | ((first | refine pas [0] ?_ | refine pas [2] ?_ | refine pas [3] ?_ | refine pas [4] ?_ | refine pas [5] ?_ | refine pas [6] ?_); push_cast [iO, tN, h32']) | ((first | refine pas [0, 2] ?_ | refine pas [0, 3] ?_ | refine pas [0, 4] ?_); push_cast [iO, tN, h32']; refine ⟨?_, ?_⟩)); done)); push_cast [iO, tN, h32'])) | ((first | refine pC ?_ | refine pQC ?_ | refine pU ?_); push_cast [iO, tN, h32']) | (refine pif (fun h => ?_) (fun h => ?_) <;> first | exact pN h | push_cast [iO, tN, h32']))
  (refine retK_of [] ?_; push_cast [iO, tN, hE, hM])
theorem whyL_app (l : List Ihb) (p : ByteArray) (now : Int) : ∀ a b : List Req, whyL l p now (a ++ b) = whyL l p now a ++ whyL l p now b
  | [], b => rfl
  | r :: a, b => by rw [List.cons_append, whyL, whyL, whyL_app l p now a b, List.append_assoc]
theorem whyL_len (l : List Ihb) (p : ByteArray) (now : Int) : ∀ a : List Req, (whyL l p now a).length ≤ a.length * l.length
  | [] => by simp [whyL]
  | r :: a => by
    have ih := whyL_len l p now a
    have h : (delL l r now).length ≤ l.length := List.length_filter_le _ _
    rw [whyL, List.length_append, List.length_cons, Nat.add_mul]
    have : (if r.path = p then (delL l r now).map Ihb.who else []).length ≤ l.length := by
      split
      · rw [List.length_map]; exact h
      · simp
    omega
theorem whyL_step {l : List Ihb} {p : ByteArray} {now : Int} {rs : List Req} {i : Nat} (h : i < rs.length) : whyL l p now (rs.take (i + 1)) = whyL l p now (rs.take i) ++ (if (rs.getD i default).path = p then (delL l (rs.getD i default) now).map Ihb.who else []) := by
  rw [List.take_succ_eq_append_getElem h, whyL_app, whyL, whyL, List.append_nil, ← getD_lt rs h]
def whyV (u : List ByteArray) (dl : List Ihb) (j : Nat) : List ByteArray := u ++ (dl.take j).map Ihb.who
theorem whyV_succ (u : List ByteArray) (dl : List Ihb) {j : Nat} (h : j < dl.length) : whyV u dl (j + 1) = whyV u dl j ++ [(dl.getD j default).who] := by
  unfold whyV
  rw [List.take_succ_eq_append_getElem h, List.map_append, ← getD_lt dl h, List.append_assoc]; rfl
theorem whyV_len (u : List ByteArray) (dl : List Ihb) {j : Nat} (h : j ≤ dl.length) : (whyV u dl j).length = u.length + j := by
  unfold whyV
  rw [List.length_append, List.length_map, List.length_take]; omega
theorem whyV_zero (u : List ByteArray) (dl : List Ihb) : whyV u dl 0 = u := by unfold whyV; simp
theorem whyV_all (u : List ByteArray) (dl : List Ihb) : whyV u dl dl.length = u ++ dl.map Ihb.who := by unfold whyV; rw [List.take_length]
set_option maxHeartbeats 2000000 in
theorem why_pure (s : Inh) (p : ByteArray) (now : Int) (hs : s.ok) : PCalls Tryz.prog 9 [.agg s.e, .c (.v (.string p)), .c (.v (.int .i64 now))] [] fun x os => x = .c (.sl 1 ((whyM s p now).map strD)) ∧ os = [] := by
  have hlr := hs.reqs
  have hll := hs.len
  refine pcalls_of Tryz.func9 rfl (by simp [Tryz.ntmps9]) ?_
  rw [Tryz.ntmps9, Tryz.results9]
  push_cast [iO, tN]
  have cB : CutB 12 [13, 14, 15, 26, 27, 28] := trivial
  repeat' (first | ((first | refine pC ?_ | refine pQC ?_ | refine pU ?_); push_cast [iO, tN]) | (refine pif (fun h => ?_) (fun h => ?_) <;> first | exact pN h | push_cast [iO, tN]))
  refine pwp_weak (weak_adopt 7 9 1 (by omega) (by push_cast [iO, tN])) ?_
  push_cast [iO, tN]
  (apply pwp_loop3 (α := Nat) 12 [13, 14, 15, 26, 27, 28] (fun i => [(15, .c (.v (.int .i64 i))), (7, .c (.own 1 ((whyL s.list p now (s.reqs.take i)).length)))]) (fun i => [(1, .arr 9 1 ((whyL s.list p now (s.reqs.take i)).map strD))]) (fun i => i ≤ s.reqs.length) (fun i => s.reqs.length - i) (0); (focus ((try push_cast [iO, tN]); rfl)); (focus exact (Nat.zero_le _)); (focus ((refine weak_fg ?_; try push_cast [iO, tN]); (try (exact ⟨rfl, rfl⟩)))))
  intro i hi
  push_cast [iO, tN]
  by_cases hlt : i < s.reqs.length
  case neg =>
    have hi2 : s.reqs.take i = s.reqs := List.take_of_length_le (by omega)
    rw [hi2]
    repeat' (first | ((first | refine pC ?_ | refine pQC ?_ | refine pU ?_); push_cast [iO, tN]) | (refine pif (fun h => ?_) (fun h => ?_) <;> first | exact pN h | push_cast [iO, tN]))
    (refine retK_of [] ?_; push_cast [iO, tN])
    all_goals rfl
  have hstep := whyL_step (l := s.list) (p := p) (now := now) hlt
  have hrm : s.reqs.getD i default ∈ s.reqs := by rw [getD_lt s.reqs hlt]; exact List.getElem_mem _
  have hwl := whyL_len s.list p now (s.reqs.take i)
  have hwl2 : (s.reqs.take i).length * s.list.length ≤ 32 * 32 := Nat.mul_le_mul (by rw [List.length_take]; omega) hll
  obtain ⟨u, hu⟩ : ∃ u, whyL s.list p now (s.reqs.take i) = u := ⟨_, rfl⟩
  rw [hu] at hstep hwl ⊢
  by_cases hp : (s.reqs.getD i default).path = p
  case neg =>
    rw [if_neg hp, List.append_nil] at hstep
    repeat' (first | ((first | refine pC ?_ | refine pQC ?_ | refine pU ?_); push_cast [iO, tN, (eq_false hp), ne_eq, not_false_eq_true]) | (refine pif (fun h => ?_) (fun h => ?_) <;> first | exact pN h | push_cast [iO, tN, (eq_false hp), ne_eq, not_false_eq_true]))
    exact ⟨i + 1, by omega, by (refine weak_fg ?_; push_cast [iO, tN, hstep]), by omega⟩
  rw [if_pos hp] at hstep
  have hd := delays_pure s (s.reqs.getD i default) now hs hrm
  obtain ⟨dl, hdl⟩ : ∃ dl, delL s.list (s.reqs.getD i default) now = dl := ⟨_, rfl⟩
  have hdll : dl.length ≤ 32 := by rw [← hdl]; exact Nat.le_trans (List.length_filter_le _ _) hll
  rw [hdl] at hstep hd
  repeat' (first | ((refine plc [] (hd) ?_ ?_; push_cast [iO, tN, (eq_true hp), ne_eq, not_true_eq_false]; rintro r os ⟨rfl, rfl⟩; push_cast [iO, tN, (eq_true hp), ne_eq, not_true_eq_false])) | ((first | refine pC ?_ | refine pQC ?_ | refine pU ?_); push_cast [iO, tN, (eq_true hp), ne_eq, not_true_eq_false]) | (refine pif (fun h => ?_) (fun h => ?_) <;> first | exact pN h | push_cast [iO, tN, (eq_true hp), ne_eq, not_true_eq_false]))
  have hv0 := whyV_zero u dl
  (apply pwp_loop3 (α := Nat) 12 [13, 14, 15, 26, 27, 28] (fun j => [(28, .c (.v (.int .i64 j))), (7, .c (.own 1 (u.length + j)))]) (fun j => [(1, .arr 9 1 ((whyV u dl j).map strD))]) (fun j => j ≤ dl.length) (fun j => dl.length - j) (0); (focus ((try push_cast [iO, tN]); rfl)); (focus exact (Nat.zero_le _)); (focus ((refine weak_fg ?_; try push_cast [iO, tN]); (try ((rw [hv0]))))))
  · intro j hj
    have hvl := whyV_len u dl hj
    push_cast [iO, tN]
    by_cases hjl : j < dl.length
    · have hts := whyV_succ u dl hjl
      repeat' (first | ((first | refine pC ?_ | refine pQC ?_ | refine pU ?_); push_cast [iO, tN, hvl]) | (refine pif (fun h => ?_) (fun h => ?_) <;> first | exact pN h | push_cast [iO, tN, hvl]))
      exact ⟨j + 1, by omega, by (refine weak_fg ?_; push_cast [iO, tN, hts]); omega, by omega⟩
    · have hj3 : j = dl.length := by omega
      have hva := whyV_all u dl
      rw [← hj3] at hva
      repeat' (first | ((first | refine pC ?_ | refine pQC ?_ | refine pU ?_); push_cast [iO, tN, hvl]) | (refine pif (fun h => ?_) (fun h => ?_) <;> first | exact pN h | push_cast [iO, tN, hvl]))
      refine ⟨i + 1, by omega, ?_, by omega⟩
      (refine weak_fg ?_; push_cast [iO, tN, hstep, hva])
      omega
theorem ints_read {w : World} {I : Nat → Prop} : ∀ (l : List Int) (vs : List Value), All2 (RD w I) (l.map intD).flatten vs → vs = l.map (Value.int .i64)
  | [], vs, h => by simpa [All2.nil_l] using h
  | a :: l, vs, h => by
    simp only [List.map_cons, List.flatten_cons, intD, List.cons_append, List.nil_append] at h
    obtain ⟨y, vs', rfl, h5, h6⟩ := All2.cons_l.1 h
    rw [RD] at h5
    rw [h5.1, ints_read l vs' h6]; rfl
theorem min_pure (l : List Int) (h0 : 0 < l.length) (hl : l.length ≤ 1000000) : PCalls Tryz.prog 64 [.c (.sl 1 (l.map intD))] [] fun r os => r = .c (.v (.int .i64 (Lib.minOf l))) ∧ os = [] := by
  unfold PCalls
  intro Γ w xs hm hx
  obtain ⟨y, m', rfl, h1, h2⟩ := All2.cons_l.1 hx
  rw [All2.nil_l] at h2
  subst h2
  obtain ⟨A, c, cs, rfl, hc, hr, _, ha⟩ := rd_sl.1 h1
  have hcs := ints_read l cs ha
  subst hcs
  rw [List.length_map] at hc hr
  obtain ⟨b, o, rfl, _, hb, hcell⟩ := hr.2 h0
  have hll : (l.map intD).length = l.length := List.length_map _
  rw [hll]
  refine (slices_Min_int b o l.length c l w h0 (Nat.le_refl _) (by omega) (fun j hj => hcell j _ (by rw [List.getElem?_map, List.getElem?_eq_getElem hj, List.getD_eq_getElem?_getD, List.getElem?_eq_getElem hj]; rfl))).mono ?_
  rintro e w' ⟨rfl, rfl⟩
  rw [List.take_length]
  exact ⟨_, [], Γ, _, rfl, ⟨rfl, rfl⟩, ⟨rfl, rfl⟩, Nat.le_refl _, hm, ext_grow (Ext.refl No _)⟩
def nextN (s : Inh) (now : Int) : Int := if laterL s now = [] then 0 else Lib.minOf (laterL s now)
def nextB (s : Inh) (now : Int) : Bool := !(laterL s now).isEmpty
def tillV (l : List Ihb) (i : Nat) : List Int := (l.take i).map Ihb.till
theorem tillV_succ (l : List Ihb) {i : Nat} (h : i < l.length) : tillV l (i + 1) = tillV l i ++ [(l.getD i default).till] := by
  unfold tillV
  rw [List.take_succ_eq_append_getElem h, List.map_append, ← getD_lt l h]; rfl
theorem tillV_len (l : List Ihb) {i : Nat} (h : i ≤ l.length) : (tillV l i).length = i := by
  unfold tillV
  rw [List.length_map, List.length_take]; omega
def askV (l : List Ihb) (rs : List Req) (j : Nat) : List Int := l.map Ihb.till ++ (rs.take j).map fun r => r.asked + 600
theorem askV_succ (l : List Ihb) (rs : List Req) {j : Nat} (h : j < rs.length) : askV l rs (j + 1) = askV l rs j ++ [(rs.getD j default).asked + 600] := by
  unfold askV
  rw [List.take_succ_eq_append_getElem h, List.map_append, ← getD_lt rs h, List.append_assoc]; rfl
theorem askV_len (l : List Ihb) (rs : List Req) {j : Nat} (h : j ≤ rs.length) : (askV l rs j).length = l.length + j := by
  unfold askV
  rw [List.length_append, List.length_map, List.length_map, List.length_take]; omega
theorem askV_zero (l : List Ihb) (rs : List Req) : tillV l l.length = askV l rs 0 := by unfold askV tillV; simp
theorem askV_all (s : Inh) : askV s.list s.reqs s.reqs.length = timesL s := by unfold askV timesL; rw [List.take_length]
set_option maxHeartbeats 2000000 in
theorem next_pureI (s : Inh) (now : Int) (hs : s.ok) : PCalls Tryz.prog 28 [.agg s.e, .c (.v (.int .i64 now))] [] fun x os => x = .two (.c (.v (.int .i64 (nextN s now)))) (.c (.v (.bool (nextB s now)))) ∧ os = [] := by
  have hlr := hs.reqs
  have hll := hs.len
  refine pcalls_of Tryz.func28 rfl (by simp [Tryz.ntmps28]) ?_
  rw [Tryz.ntmps28, Tryz.results28]
  push_cast [iO, tN]
  have cB : CutB 12 [13, 14, 15, 26, 27, 28] := trivial
  repeat' (first | ((first | refine pC ?_ | refine pQC ?_ | refine pU ?_); push_cast [iO, tN]) | (refine pif (fun h => ?_) (fun h => ?_) <;> first | exact pN h | push_cast [iO, tN]))
  refine pwp_weak (weak_adopt 6 3 1 (by omega) (by push_cast [iO, tN])) ?_
  push_cast [iO, tN]
  (apply pwp_loop3 (α := Nat) 12 [13, 14, 15, 26, 27, 28] (fun i => [(15, .c (.v (.int .i64 i))), (6, .c (.own 2 (i)))]) (fun i => [(2, .arr 3 1 ((tillV s.list i).map intD))]) (fun i => i ≤ s.list.length) (fun i => s.list.length - i) (0); (focus ((try push_cast [iO, tN]); rfl)); (focus exact (Nat.zero_le _)); (focus ((refine weak_fg ?_; try push_cast [iO, tN]); (try (rfl)))))
  · intro i hi
    have htl := tillV_len s.list hi
    push_cast [iO, tN]
    by_cases hlt : i < s.list.length
    · have hts := tillV_succ s.list hlt
      repeat' (first | ((first | refine pC ?_ | refine pQC ?_ | refine pU ?_); push_cast [iO, tN, htl]) | (refine pif (fun h => ?_) (fun h => ?_) <;> first | exact pN h | push_cast [iO, tN, htl]))
      exact ⟨i + 1, by omega, by (refine weak_fg ?_; push_cast [iO, tN, hts]), by omega⟩
    have hi3 : i = s.list.length := by omega
    have ht0 := askV_zero s.list s.reqs
    rw [← hi3] at ht0
    repeat' (first | ((first | refine pC ?_ | refine pQC ?_ | refine pU ?_); push_cast [iO, tN]) | (refine pif (fun h => ?_) (fun h => ?_) <;> first | exact pN h | push_cast [iO, tN]))
    (apply pwp_loop3 (α := Nat) 12 [13, 14, 15, 26, 27, 28] (fun j => [(28, .c (.v (.int .i64 j))), (6, .c (.own 2 (i + j)))]) (fun j => [(2, .arr 3 1 ((askV s.list s.reqs j).map intD))]) (fun j => j ≤ s.reqs.length) (fun j => s.reqs.length - j) (0); (focus ((try push_cast [iO, tN]); rfl)); (focus exact (Nat.zero_le _)); (focus ((refine weak_fg ?_; try push_cast [iO, tN]); (try ((rw [ht0]))))))
    intro j hj
    have hal := askV_len s.list s.reqs hj
    rw [← hi3] at hal
    push_cast [iO, tN]
    by_cases hjl : j < s.reqs.length
    · have hts := askV_succ s.list s.reqs hjl
      have hrq := hs.req (s.reqs.getD j default) (by rw [getD_lt s.reqs hjl]; exact List.getElem_mem _)
      have hra := hrq.1
      repeat' (first | ((first | refine pC ?_ | refine pQC ?_ | refine pU ?_); push_cast [iO, tN, hal]) | (refine pif (fun h => ?_) (fun h => ?_) <;> first | exact pN h | push_cast [iO, tN, hal]))
      exact ⟨j + 1, by omega, by (refine weak_fg ?_; push_cast [iO, tN, hts]); omega, by omega⟩
    have hj3 : j = s.reqs.length := by omega
    have hta := askV_all s
    rw [← hj3] at hta
    rw [hta] at hal ⊢
    have hf := filNextD now (timesL s) (by omega) (fun n => decide (now < n)) fun x _ => next1_pure now x
    change PCalls _ _ _ _ fun r os => r = .c (.sl 1 ((laterL s now).map intD)) ∧ os = [.box 3 [.v (.int .i64 now)]] at hf
    have hll2 : (laterL s now).length ≤ (timesL s).length := List.length_filter_le _ _
    have hk : ((2 : Nat) ∈ [1]) = False := by simp
    cases hla : laterL s now with
    | nil =>
      rw [hla] at hf hll2
      have hN : nextN s now = 0 := by unfold nextN; rw [if_pos hla]
      have hB : nextB s now = false := by unfold nextB; rw [hla]; rfl
      repeat' (first | (refine pl_weak (weak_frz 2 (by omega)) ?_; push_cast [iO, tN, hal, hk]; (refine plc [1] (hf) ?_ ?_; push_cast [iO, tN, hal, hk]; rintro r os ⟨rfl, rfl⟩; push_cast [iO, tN, hal, hk])) | ((first | refine pC ?_ | refine pQC ?_ | refine pU ?_); push_cast [iO, tN, hal, hk]) | (refine pif (fun h => ?_) (fun h => ?_) <;> first | exact pN h | push_cast [iO, tN, hal, hk]))
      (refine retK_of [] ?_; push_cast [iO, tN, hN, hB])
    | cons l0 ls =>
      rw [hla] at hf hll2
      have hN : nextN s now = Lib.minOf (l0 :: ls) := by unfold nextN; rw [hla, if_neg (by simp)]
      have hB : nextB s now = true := by unfold nextB; rw [hla]; rfl
      have hmn := min_pure (l0 :: ls) (by simp) (by rw [← hla] at hll2 ⊢; omega)
      repeat' (first | (refine pl_weak (weak_frz 2 (by omega)) ?_; push_cast [iO, tN, hal, hk]; (refine plc [1] (hf) ?_ ?_; push_cast [iO, tN, hal, hk]; rintro r os ⟨rfl, rfl⟩; push_cast [iO, tN, hal, hk])) | ((refine plc [] (hmn) ?_ ?_; push_cast [iO, tN, hal, hk]; rintro r os ⟨rfl, rfl⟩; push_cast [iO, tN, hal, hk])) | ((first | refine pC ?_ | refine pQC ?_ | refine pU ?_); push_cast [iO, tN, hal, hk]) | (refine pif (fun h => ?_) (fun h => ?_) <;> first | exact pN h | push_cast [iO, tN, hal, hk]))
      (refine retK_of [] ?_; push_cast [iO, tN, hN, hB])
end Go.Proofs.YtbonfcphabnlpabGreatDoor
