/- What the program computes, and the plain laws of it, part 44. -/
import Derived.Test.YtbonfcphabnlpabGreatDoorQ35
import Derived.Test.YtbonfcphabnlpabGreatDoorQ38
import Derived.Test.YtbonfcphabnlpabGreatDoorQ43
namespace Go.Proofs.YtbonfcphabnlpabGreatDoor
attribute [local irreducible] PL QL PWPr PCalls Weak RetK Kontr PA
open Go.RowKit
open IntWalk renaming iteOmega → iO, toNatUp → tN
set_option linter.unusedVariables false
set_option linter.unusedSimpArgs false
set_option maxRecDepth 20000
def fltK {α : Type} (q : α → Bool) (l : List α) (k : Nat) : List α := (l.take k).filter q
theorem fltK_t {α : Type} [Inhabited α] {q : α → Bool} {l : List α} {k : Nat} (hk : k < l.length) (h : q (l.getD k default) = true) : fltK q l (k + 1) = fltK q l k ++ [l.getD k default] := by
  unfold fltK
  rw [List.take_succ_eq_append_getElem hk, List.filter_append, ← getD_lt l hk, List.filter_cons_of_pos h]; rfl
theorem fltK_f {α : Type} [Inhabited α] {q : α → Bool} {l : List α} {k : Nat} (hk : k < l.length) (h : q (l.getD k default) = false) : fltK q l (k + 1) = fltK q l k := by
  unfold fltK
  rw [List.take_succ_eq_append_getElem hk, List.filter_append, ← getD_lt l hk, List.filter_cons_of_neg (by rw [h]; simp), List.filter_nil, List.append_nil]
theorem fltK_len {α : Type} (q : α → Bool) (l : List α) (k : Nat) : (fltK q l k).length ≤ k := Nat.le_trans (List.length_filter_le _ _) (List.length_take_le _ _)
theorem fltK_all {α : Type} (q : α → Bool) (l : List α) : fltK q l l.length = l.filter q := by unfold fltK; rw [List.take_length]
theorem fltK_zero {α : Type} (q : α → Bool) (l : List α) : fltK q l 0 = [] := by unfold fltK; simp
def dropK (p : ByteArray) (l : List Req) (k : Nat) : List Req := fltK (fun r => decide (r.path ≠ p)) l k
def relK (id : Int) (l : List Ihb) (k : Nat) : List Ihb := fltK (fun x => decide (x.id ≠ id)) l k
set_option maxHeartbeats 2000000 in
theorem rdrop_pure (s : Inh) (p : ByteArray) (hl : s.reqs.length ≤ 1000000) : PCalls Tryz.prog 47 [.agg s.e, .c (.v (.string p))] [] fun x os => x = .agg (dropM s p).e ∧ os = [] := by
  refine pcalls_of Tryz.func47 rfl (by simp [Tryz.ntmps47]) ?_
  rw [Tryz.ntmps47, Tryz.results47]
  push_cast [iO, tN]
  have cB : CutB 7 [] := trivial
  repeat' (first | ((first | refine pC ?_ | refine pQC ?_ | refine pU ?_); push_cast [iO, tN]) | (refine pif (fun h => ?_) (fun h => ?_) <;> first | exact pN h | push_cast [iO, tN]))
  refine pwp_weak (weak_adopt_box 2 2 37 3 (by omega) 29 [.v (.int .i64 s.next), .sl 4 (s.list.map Ihb.d), .v (.slice none 0 0)] rfl rfl) ?_
  push_cast [iO, tN]
  have h0 : dropK p s.reqs 0 = [] := fltK_zero _ _
  (apply pwp_loop3 (α := Nat) 7 [] (fun k => [(6, .c (.v (.int .i64 k)))]) (fun k => [(2, .box 29 [.v (.int .i64 s.next), .sl 4 (s.list.map Ihb.d), .own 3 (dropK p s.reqs k).length]), (3, .arr 37 3 ((dropK p s.reqs k).map Req.d))]) (fun k => k ≤ s.reqs.length) (fun k => s.reqs.length - k) (0); (focus ((try push_cast [iO, tN]); rfl)); (focus exact (by omega)); (focus ((refine weak_fg ?_; try push_cast [iO, tN]); (try ((rw [h0]; exact ⟨rfl, rfl⟩))))))
  intro k hk
  push_cast [iO, tN]
  by_cases hlt : k < s.reqs.length
  · have hrl : (dropK p s.reqs k).length ≤ k := fltK_len _ _ _
    by_cases hp : (s.reqs.getD k default).path = p
    · have he : dropK p s.reqs (k + 1) = dropK p s.reqs k := fltK_f hlt (decide_eq_false (not_not_intro hp))
      repeat' (first | ((first | refine pC ?_ | refine pQC ?_ | refine pU ?_); push_cast [iO, tN, (eq_true hp), ne_eq, not_true_eq_false]) | (refine pif (fun h => ?_) (fun h => ?_) <;> first | exact pN h | push_cast [iO, tN, (eq_true hp), ne_eq, not_true_eq_false]))
      exact ⟨k + 1, by omega, by (refine weak_fg ?_; push_cast [iO, tN, he]), by omega⟩
    · have he : dropK p s.reqs (k + 1) = dropK p s.reqs k ++ [s.reqs.getD k default] := fltK_t hlt (decide_eq_true hp)
      repeat' (first | ((refine pwp_cut 7 [] ?_; apply pwp_drawn_to; (focus kernel_rfl); (focus (simp only [List.length_cons, List.length_nil, Nat.reduceAdd]; (repeat' first | ((first | refine pah 0 ?_ | refine pah 2 ?_ | refine pah 4 ?_ | refine pah 5 ?_ | refine pah 9 ?_); push_cast [iO, tN, (eq_false hp), ne_eq, not_false_eq_true]) | (refine pad ?_; first | with_reducible exact weak_cutS 7 [] _ | (refine weak_fg ?_; push_cast [iO, tN, (eq_false hp), ne_eq, not_false_eq_true])) | ((first | refine pas [1] ?_ | refine pas [3] ?_ | refine pas [6] ?_ | refine pas [7] ?_ | refine pas [8] ?_ | refine pas [10] ?_); push_cast [iO, tN, (eq_false hp), ne_eq, not_false_eq_true]) | ((first | refine pas [1, 3] ?_ | refine pas [1, 6] ?_ | refine pas [1, 7] ?_); push_cast [iO, tN, (eq_false hp), ne_eq, not_false_eq_true]; refine ⟨?_, ?_⟩)); done)); push_cast [iO, tN, (eq_false hp), ne_eq, not_false_eq_true])) | ((first | refine pC ?_ | refine pQC ?_ | refine pU ?_); push_cast [iO, tN, (eq_false hp), ne_eq, not_false_eq_true]) | (refine pif (fun h => ?_) (fun h => ?_) <;> first | exact pN h | push_cast [iO, tN, (eq_false hp), ne_eq, not_false_eq_true]))
      exact ⟨k + 1, by omega, by (refine weak_fg ?_; push_cast [iO, tN, he]), by omega⟩
  · have he : dropK p s.reqs k = dropR p s.reqs := by have : k = s.reqs.length := by omega
                                                      rw [this]; exact fltK_all _ _
    rw [he]
    repeat' (first | ((first | refine pC ?_ | refine pQC ?_ | refine pU ?_); push_cast [iO, tN]) | (refine pif (fun h => ?_) (fun h => ?_) <;> first | exact pN h | push_cast [iO, tN]))
    (refine retK_of [] ?_; push_cast [iO, tN])
    all_goals exact ⟨rfl, rfl, rfl⟩
set_option maxHeartbeats 2000000 in
theorem rrel_pure (s : Inh) (id : Int) (hl : s.list.length ≤ 1000000) : PCalls Tryz.prog 45 [.agg s.e, .c (.v (.int .i64 id))] [] fun x os => x = .two (.agg (relM s id).e) (.c (.v (.int .i64 (relE s id)))) ∧ os = [] := by
  refine pcalls_of Tryz.func45 rfl (by simp [Tryz.ntmps45]) ?_
  rw [Tryz.ntmps45, Tryz.results45]
  push_cast [iO, tN]
  have cB : CutB 8 [] := trivial
  repeat' (first | ((first | refine pC ?_ | refine pQC ?_ | refine pU ?_); push_cast [iO, tN]) | (refine pif (fun h => ?_) (fun h => ?_) <;> first | exact pN h | push_cast [iO, tN]))
  refine pwp_weak (weak_adopt_box 2 1 68 4 (by omega) 29 [.v (.int .i64 s.next), .v (.slice none 0 0), .sl 3 (s.reqs.map Req.d)] rfl rfl) ?_
  push_cast [iO, tN]
  have h0 : relK id s.list 0 = [] := fltK_zero _ _
  (apply pwp_loop3 (α := Nat) 8 [] (fun k => [(7, .c (.v (.int .i64 k)))]) (fun k => [(2, .box 29 [.v (.int .i64 s.next), .own 3 (relK id s.list k).length, .sl 3 (s.reqs.map Req.d)]), (3, .arr 68 4 ((relK id s.list k).map Ihb.d))]) (fun k => k ≤ s.list.length) (fun k => s.list.length - k) (0); (focus ((try push_cast [iO, tN]); rfl)); (focus exact (by omega)); (focus ((refine weak_fg ?_; try push_cast [iO, tN]); (try ((rw [h0]; exact ⟨rfl, rfl⟩))))))
  intro k hk
  push_cast [iO, tN]
  by_cases hlt : k < s.list.length
  · have hrl : (relK id s.list k).length ≤ k := fltK_len _ _ _
    by_cases hp : (s.list.getD k default).id = id
    · have he : relK id s.list (k + 1) = relK id s.list k := fltK_f hlt (decide_eq_false (not_not_intro hp))
      repeat' (first | ((first | refine pC ?_ | refine pQC ?_ | refine pU ?_); push_cast [iO, tN, (eq_true hp), ne_eq, not_true_eq_false]) | (refine pif (fun h => ?_) (fun h => ?_) <;> first | exact pN h | push_cast [iO, tN, (eq_true hp), ne_eq, not_true_eq_false]))
      exact ⟨k + 1, by omega, by (refine weak_fg ?_; push_cast [iO, tN, he]), by omega⟩
    · have he : relK id s.list (k + 1) = relK id s.list k ++ [s.list.getD k default] := fltK_t hlt (decide_eq_true hp)
      repeat' (first | ((refine pwp_cut 8 [] ?_; apply pwp_drawn_to; (focus kernel_rfl); (focus (simp only [List.length_cons, List.length_nil, Nat.reduceAdd]; (repeat' first | ((first | refine pah 0 ?_ | refine pah 2 ?_ | refine pah 4 ?_ | refine pah 5 ?_ | refine pah 9 ?_); push_cast [iO, tN, (eq_false hp), ne_eq, not_false_eq_true]) | (refine pad ?_; first | with_reducible exact weak_cutS 8 [] _ | (refine weak_fg ?_; push_cast [iO, tN, (eq_false hp), ne_eq, not_false_eq_true])) | ((first | refine pas [1] ?_ | refine pas [3] ?_ | refine pas [6] ?_ | refine pas [7] ?_ | refine pas [8] ?_ | refine pas [10] ?_); push_cast [iO, tN, (eq_false hp), ne_eq, not_false_eq_true]) | ((first | refine pas [1, 3] ?_ | refine pas [1, 6] ?_ | refine pas [1, 7] ?_); push_cast [iO, tN, (eq_false hp), ne_eq, not_false_eq_true]; refine ⟨?_, ?_⟩)); done)); push_cast [iO, tN, (eq_false hp), ne_eq, not_false_eq_true])) | ((first | refine pC ?_ | refine pQC ?_ | refine pU ?_); push_cast [iO, tN, (eq_false hp), ne_eq, not_false_eq_true]) | (refine pif (fun h => ?_) (fun h => ?_) <;> first | exact pN h | push_cast [iO, tN, (eq_false hp), ne_eq, not_false_eq_true]))
      exact ⟨k + 1, by omega, by (refine weak_fg ?_; push_cast [iO, tN, he]), by omega⟩
  · have he : relK id s.list k = relL id s.list := by have : k = s.list.length := by omega
                                                      rw [this]; exact fltK_all _ _
    rw [he]
    by_cases h : (relL id s.list).length = s.list.length
    · have hE : relE s id = 393 := by unfold relE; rw [if_pos h]
      have hM : relM s id = ⟨0, [], []⟩ := by unfold relM; rw [if_pos h]
      have h' : (((relL id s.list).length : Int) = (s.list.length : Int)) = True := eq_true (by omega)
      repeat' (first | ((first | refine pC ?_ | refine pQC ?_ | refine pU ?_); push_cast [iO, tN, h']) | (refine pif (fun h => ?_) (fun h => ?_) <;> first | exact pN h | push_cast [iO, tN, h']))
      (refine retK_of [] ?_; push_cast [iO, tN, hE, hM])
    · have hE : relE s id = 0 := by unfold relE; rw [if_neg h]
      have hM : relM s id = { s with list := relL id s.list } := by unfold relM; rw [if_neg h]
      have h' : (((relL id s.list).length : Int) = (s.list.length : Int)) = False := eq_false (by omega)
      repeat' (first | ((first | refine pC ?_ | refine pQC ?_ | refine pU ?_); push_cast [iO, tN, h']) | (refine pif (fun h => ?_) (fun h => ?_) <;> first | exact pN h | push_cast [iO, tN, h']))
      (refine retK_of [] ?_; push_cast [iO, tN, hE, hM])
end Go.Proofs.YtbonfcphabnlpabGreatDoor
namespace Go.Proofs.YtbonfcphabnlpabGreatDoor
attribute [local irreducible] PL QL PWPr PCalls Weak RetK Kontr PA
open Go.RowKit
open IntWalk renaming iteOmega → iO, toNatUp → tN
set_option linter.unusedVariables false
set_option linter.unusedSimpArgs false
set_option maxRecDepth 20000
set_option maxHeartbeats 4000000 in
theorem radd_pure (s : Inh) (who pat : ByteArray) (till : Int) (hs : s.ok) (hw : who.size ≤ 9223372036854775807) (hp : pat.size ≤ 9223372036854775807) :
    PCalls Tryz.prog 43 [.agg s.e, .c (.v (.string who)), .c (.v (.string pat)), .c (.v (.int .i64 till))] [] fun x os => x = .three (.agg (addM s who pat till).e) (.c (.v (.int .i64 (if addE s who pat = 0 then s.next else 0)))) (.c (.v (.int .i64 (addE s who pat)))) ∧ os = [] := by
  have hv := rvalid_pure who hw
  have hc := gcheck_pure pat hp
  have hn0 := hs.n0
  have hn1 := hs.n1
  have hlen := hs.len
  have hlr := hs.reqs
  refine pcalls_of Tryz.func43 rfl (by simp [Tryz.ntmps43]) ?_
  rw [Tryz.ntmps43, Tryz.results43]
  push_cast [iO, tN]
  have cB : CutB 12 [] := trivial
  cases h1 : validS who with
  | false =>
    rw [h1] at hv
    have hE : addE s who pat = 390 := by unfold addE; rw [h1]; rfl
    have hM : addM s who pat till = ⟨0, [], []⟩ := by unfold addM; rw [hE]; rfl
    repeat' (first |  ((refine plc [] (hv) ?_ ?_; push_cast [iO, tN]; rintro r os ⟨rfl, rfl⟩; push_cast [iO, tN]))  | ((first | refine pC ?_ | refine pQC ?_ | refine pU ?_); push_cast [iO, tN]) | (refine pif (fun h => ?_) (fun h => ?_) <;> first | exact pN h | push_cast [iO, tN]))
    (refine retK_of [] ?_; push_cast [iO, tN, hE, hM])
    all_goals exact ⟨_, _, leP_refl _, leOs_refl _, rfl, rfl⟩
  | true =>
  rw [h1] at hv
  by_cases h2 : globM pat = 0
  case neg =>
    have hE : addE s who pat = 391 := by unfold addE; rw [h1, if_neg (by simp), if_pos h2]
    have hM : addM s who pat till = ⟨0, [], []⟩ := by unfold addM; rw [hE]; rfl
    repeat' (first | ((refine plc [] (hv) ?_ ?_; push_cast [iO, tN, h2]; rintro r os ⟨rfl, rfl⟩; push_cast [iO, tN, h2])) | ((refine plc [] (hc) ?_ ?_; push_cast [iO, tN, h2]; rintro r os ⟨rfl, rfl⟩; push_cast [iO, tN, h2])) | ((first | refine pC ?_ | refine pQC ?_ | refine pU ?_); push_cast [iO, tN, h2]) | (refine pif (fun h => ?_) (fun h => ?_) <;> first | exact pN h | push_cast [iO, tN, h2]))
    (refine retK_of [] ?_; push_cast [iO, tN, hE, hM])
    all_goals exact ⟨_, _, leP_refl _, leOs_refl _, rfl, rfl⟩
  rw [h2] at hc
  by_cases h3 : 32 ≤ s.list.length
  case pos =>
    have hE : addE s who pat = 392 := by unfold addE; rw [h1, if_neg (by simp), if_neg (by simp [h2]), if_pos (.inl h3)]
    have hM : addM s who pat till = ⟨0, [], []⟩ := by unfold addM; rw [hE]; rfl
    have h3' : (32 : Int) ≤ (s.list.length : Int) := by omega
    repeat' (first | ((refine plc [] (hv) ?_ ?_; push_cast [iO, tN, h3']; rintro r os ⟨rfl, rfl⟩; push_cast [iO, tN, h3'])) | ((refine plc [] (hc) ?_ ?_; push_cast [iO, tN, h3']; rintro r os ⟨rfl, rfl⟩; push_cast [iO, tN, h3'])) | ((first | refine pC ?_ | refine pQC ?_ | refine pU ?_); push_cast [iO, tN, h3']) | (refine pif (fun h => ?_) (fun h => ?_) <;> first | exact pN h | push_cast [iO, tN, h3']))
    (refine retK_of [] ?_; push_cast [iO, tN, hE, hM])
    all_goals exact ⟨_, _, leP_refl _, leOs_refl _, rfl, rfl⟩
  have h3' : ¬ (32 : Int) ≤ (s.list.length : Int) := by omega
  by_cases h4 : 1073741824 ≤ s.next
  case pos =>
    have hE : addE s who pat = 392 := by unfold addE; rw [h1, if_neg (by simp), if_neg (by simp [h2]), if_pos (.inr h4)]
    have hM : addM s who pat till = ⟨0, [], []⟩ := by unfold addM; rw [hE]; rfl
    repeat' (first | ((refine plc [] (hv) ?_ ?_; push_cast [iO, tN, h3', h4]; rintro r os ⟨rfl, rfl⟩; push_cast [iO, tN, h3', h4])) | ((refine plc [] (hc) ?_ ?_; push_cast [iO, tN, h3', h4]; rintro r os ⟨rfl, rfl⟩; push_cast [iO, tN, h3', h4])) | ((first | refine pC ?_ | refine pQC ?_ | refine pU ?_); push_cast [iO, tN, h3', h4]) | (refine pif (fun h => ?_) (fun h => ?_) <;> first | exact pN h | push_cast [iO, tN, h3', h4]))
    (refine retK_of [] ?_; push_cast [iO, tN, hE, hM])
    all_goals exact ⟨_, _, leP_refl _, leOs_refl _, rfl, rfl⟩
  have hE : addE s who pat = 0 := by unfold addE; rw [h1, if_neg (by simp), if_neg (by simp [h2]), if_neg (by omega)]
  have hM : addM s who pat till = ⟨s.next + 1, s.list ++ [⟨s.next, who, pat, till⟩], s.reqs⟩ := by unfold addM; rw [hE]; rfl
  repeat' (first | ((refine plc [] (hv) ?_ ?_; push_cast [iO, tN, h3', h4]; rintro r os ⟨rfl, rfl⟩; push_cast [iO, tN, h3', h4])) | ((refine plc [] (hc) ?_ ?_; push_cast [iO, tN, h3', h4]; rintro r os ⟨rfl, rfl⟩; push_cast [iO, tN, h3', h4])) | ((refine pwp_cut 12 [] ?_; apply pwp_drawn_to; (focus kernel_rfl); (focus (simp only [List.length_cons, List.length_nil, Nat.reduceAdd]; (repeat' first | ((first | refine pah 0 ?_ | refine pah 3 ?_ | refine pah 5 ?_ | refine pah 6 ?_ | refine pah 7 ?_ | refine pah 8 ?_ | refine pah 11 ?_); push_cast [iO, tN,  h3', h4]) | (refine pad ?_; first | with_reducible exact weak_cutS 12 [] _ | (refine weak_fg ?_; push_cast [iO, tN,  h3', h4])) | ((first | refine pas [1] ?_ | refine pas [2] ?_ | refine pas [4] ?_ | refine pas [9] ?_ | refine pas [10] ?_); push_cast [iO, tN,  h3', h4]) | ((first | refine pas [1, 4] ?_ | refine pas [1, 9] ?_ | refine pas [2, 4] ?_ | refine pas [2, 9] ?_); push_cast [iO, tN,  h3', h4]; refine ⟨?_, ?_⟩)); done)); push_cast [iO, tN,  h3', h4])) | ((refine pwp_cut 12 [] ?_; apply pwp_drawn_to; (focus kernel_rfl); (focus (simp only [List.length_cons, List.length_nil, Nat.reduceAdd]; (repeat' first | ((first | refine pah 0 ?_ | refine pah 2 ?_ | refine pah 3 ?_ | refine pah 4 ?_ | refine pah 6 ?_ | refine pah 7 ?_ | refine pah 10 ?_ | refine pah 11 ?_); push_cast [iO, tN,  h3', h4]) | (refine pad ?_; first | with_reducible exact weak_cutS 12 [] _ | (refine weak_fg ?_; push_cast [iO, tN,  h3', h4])) | ((first | refine pas [1] ?_ | refine pas [5] ?_ | refine pas [8] ?_ | refine pas [9] ?_); push_cast [iO, tN,  h3', h4]) | ((first | refine pas [1, 5] ?_ | refine pas [1, 8] ?_ | refine pas [1, 9] ?_ | refine pas [5, 8] ?_ | refine pas [8, 9] ?_); push_cast [iO, tN,  h3', h4]; refine ⟨?_, ?_⟩) | ((first | refine pas [1, 5, 8] ?_); push_cast [iO, tN,  h3', h4]; refine ⟨?_, ?_, ?_⟩)); done)); push_cast [iO, tN,  h3', h4])) | ((first | refine pC ?_ | refine pQC ?_ | refine pU ?_); push_cast [iO, tN, h3', h4]) | (refine pif (fun h => ?_) (fun h => ?_) <;> first | exact pN h | push_cast [iO, tN, h3', h4]))
  (refine retK_of [] ?_; push_cast [iO, tN, hE, hM])
  all_goals exact ⟨_, _, leP_refl _, leOs_refl _, rfl, rfl⟩
set_option maxHeartbeats 4000000 in
theorem rask_pure (s : Inh) (t : List Dev) (p : ByteArray) (now : Int) (hs : s.ok) (hl : t.length ≤ 1000) (hz : ∀ d ∈ t, d.original.size ≤ 1000) :
    PCalls Tryz.prog 46 [.agg s.e, .agg (trE t), .c (.v (.string p)), .c (.v (.int .i64 now))] [] fun x os => x = .two (.agg (askM s t p now).e) (.c (.v (.int .i64 (askE s t p)))) ∧ os = [] := by
  have hlr := hs.reqs
  have hat := rat_pure t p hl hz
  have hdr := rdrop_pure s p (by omega)
  have hdl : (dropR p s.reqs).length ≤ s.reqs.length := List.length_filter_le _ _
  refine pcalls_of Tryz.func46 rfl (by simp [Tryz.ntmps46]) ?_
  rw [Tryz.ntmps46, Tryz.results46]
  push_cast [iO, tN]
  have cB : CutB 14 [] := trivial
  cases hd : atD t p with
  | none =>
    have hE : askE s t p = 393 := by unfold askE; rw [hd]
    have hM : askM s t p now = ⟨0, [], []⟩ := by unfold askM; rw [hE]; rfl
    rw [hd] at hat
    repeat' (first |  ((refine plc [] (hat) ?_ ?_; push_cast [iO, tN]; rintro r os ⟨rfl, rfl⟩; push_cast [iO, tN]))  | ((first | refine pC ?_ | refine pQC ?_ | refine pU ?_); push_cast [iO, tN]) | (refine pif (fun h => ?_) (fun h => ?_) <;> first | exact pN h | push_cast [iO, tN]))
    (refine retK_of [] ?_; push_cast [iO, tN, hE, hM])
  | some d =>
  rw [hd] at hat
  simp only [Option.getD_some, Option.isSome_some] at hat
  repeat' (first |  ((refine plc [] (hat) ?_ ?_; push_cast [iO, tN]; rintro r os ⟨rfl, rfl⟩; push_cast [iO, tN]))  | ((first | refine pC ?_ | refine pQC ?_ | refine pU ?_); push_cast [iO, tN]) | (refine pif (fun h => ?_) (fun h => ?_) <;> first | exact pN h | push_cast [iO, tN]))
  (apply pwp_loop3 (α := Nat) 14 [] (fun k => [(12, .c (.v (.int .i64 k)))]) (fun k => []) (fun k => k ≤ s.reqs.length ∧ (s.reqs.take k).any (fun r => decide (r.path = p) && decide (r.index = d.index)) = false) (fun k => s.reqs.length - k) (0); (focus ((try push_cast [iO, tN]); rfl)); (focus exact ⟨Nat.zero_le _, by simp⟩); (focus ((refine weak_fg ?_; try push_cast [iO, tN]))))
  rintro k ⟨hk, hno⟩
  push_cast [iO, tN]
  by_cases hlt : k < s.reqs.length
  · have e1 := getD_lt s.reqs hlt
    by_cases c1 : (s.reqs.getD k default).path = p
    case neg =>
      repeat' (first | ((first | refine pC ?_ | refine pQC ?_ | refine pU ?_); push_cast [iO, tN, (eq_false c1)]) | (refine pif (fun h => ?_) (fun h => ?_) <;> first | exact pN h | push_cast [iO, tN, (eq_false c1)]))
      refine ⟨k + 1, ⟨by omega, ?_⟩, by (refine weak_fg ?_; push_cast [iO, tN]), by omega⟩
      rw [List.take_succ_eq_append_getElem hlt, List.any_append, hno, ← e1, List.any_cons, decide_eq_false c1]; rfl
    by_cases c2 : (s.reqs.getD k default).index = d.index
    case neg =>
      repeat' (first | ((first | refine pC ?_ | refine pQC ?_ | refine pU ?_); push_cast [iO, tN, (eq_true c1), (eq_false c2)]) | (refine pif (fun h => ?_) (fun h => ?_) <;> first | exact pN h | push_cast [iO, tN, (eq_true c1), (eq_false c2)]))
      refine ⟨k + 1, ⟨by omega, ?_⟩, by (refine weak_fg ?_; push_cast [iO, tN]), by omega⟩
      rw [List.take_succ_eq_append_getElem hlt, List.any_append, hno, ← e1, List.any_cons, decide_eq_false c2, Bool.and_false]; rfl
    have htk : takenQ s p d = true := by
      unfold takenQ
      rw [List.any_eq_true]
      exact ⟨s.reqs.getD k default, by rw [e1]; exact List.getElem_mem _, by rw [decide_eq_true c1, decide_eq_true c2]; rfl⟩
    have hE : askE s t p = 394 := by unfold askE; rw [hd]; simp only [htk, if_true]
    have hM : askM s t p now = ⟨0, [], []⟩ := by unfold askM; rw [hE]; rfl
    repeat' (first | ((first | refine pC ?_ | refine pQC ?_ | refine pU ?_); push_cast [iO, tN, (eq_true c1), (eq_true c2)]) | (refine pif (fun h => ?_) (fun h => ?_) <;> first | exact pN h | push_cast [iO, tN, (eq_true c1), (eq_true c2)]))
    (refine retK_of [] ?_; push_cast [iO, tN, hE, hM])
  have htk : takenQ s p d = false := by rw [List.take_of_length_le (by omega)] at hno; exact hno
  have hdM : (dropM s p).e = [.v (.int .i64 s.next), .sl 4 (s.list.map Ihb.d), .sl 3 ((dropR p s.reqs).map Req.d)] := rfl
  rw [hdM] at hdr
  by_cases h32 : 32 ≤ (dropR p s.reqs).length
  · have hE : askE s t p = 392 := by unfold askE; rw [hd]; simp only [htk, Bool.false_eq_true, if_false, if_pos h32]
    have hM : askM s t p now = ⟨0, [], []⟩ := by unfold askM; rw [hE]; rfl
    have h32' : (32 : Int) ≤ ((dropR p s.reqs).length : Int) := by omega
    repeat' (first | ((refine plc [] (hdr) ?_ ?_; push_cast [iO, tN, h32']; rintro r os ⟨rfl, rfl⟩; push_cast [iO, tN, h32'])) | ((first | refine pC ?_ | refine pQC ?_ | refine pU ?_); push_cast [iO, tN, h32']) | (refine pif (fun h => ?_) (fun h => ?_) <;> first | exact pN h | push_cast [iO, tN, h32']))
    (refine retK_of [] ?_; push_cast [iO, tN, hE, hM])
  have h32' : ¬ (32 : Int) ≤ ((dropR p s.reqs).length : Int) := by omega
  have hE : askE s t p = 0 := by unfold askE; rw [hd]; simp only [htk, Bool.false_eq_true, if_false, if_neg h32]
  have hM : askM s t p now = { s with reqs := dropR p s.reqs ++ [⟨p, d.index, now⟩] } := by unfold askM; rw [hE, hd]; rfl
  repeat' (first | ((refine plc [] (hdr) ?_ ?_; push_cast [iO, tN, h32']; rintro r os ⟨rfl, rfl⟩; push_cast [iO, tN, h32'])) | ((refine pwp_cut 14 [] ?_; apply pwp_drawn_to; (focus kernel_rfl); (focus (simp only [List.length_cons, List.length_nil, Nat.reduceAdd]; (repeat' first | ((first | refine pah 0 ?_ | refine pah 3 ?_ | refine pah 4 ?_ | refine pah 6 ?_ | refine pah 7 ?_ | refine pah 10 ?_); push_cast [iO, tN,  h32']) | (refine pad ?_; first | with_reducible exact weak_cutS 14 [] _ | (refine weak_fg ?_; push_cast [iO, tN,  h32'])) | ((first | refine pas [1] ?_ | refine pas [2] ?_ | refine pas [5] ?_ | refine pas [8] ?_ | refine pas [9] ?_ | refine pas [11] ?_); push_cast [iO, tN,  h32']) | ((first | refine pas [1, 5] ?_ | refine pas [1, 8] ?_ | refine pas [2, 5] ?_ | refine pas [2, 8] ?_); push_cast [iO, tN,  h32']; refine ⟨?_, ?_⟩)); done)); push_cast [iO, tN,  h32'])) | ((first | refine pC ?_ | refine pQC ?_ | refine pU ?_); push_cast [iO, tN, h32']) | (refine pif (fun h => ?_) (fun h => ?_) <;> first | exact pN h | push_cast [iO, tN, h32']))
  (refine retK_of [] ?_; push_cast [iO, tN, hE, hM])
end Go.Proofs.YtbonfcphabnlpabGreatDoor
namespace Go.Proofs.YtbonfcphabnlpabGreatDoor
attribute [local irreducible] PL QL PWPr PCalls Weak RetK Kontr PA
open Go.RowKit
open IntWalk renaming iteOmega → iO, toNatUp → tN
set_option linter.unusedVariables false
set_option linter.unusedSimpArgs false
set_option maxRecDepth 20000
theorem samereqs_pure (a b : List Req) (ha : a.length ≤ 9223372036854775807) (hb : b.length ≤ 9223372036854775807) :
    PCalls Tryz.prog 25 [.c (.sl 3 (a.map Req.d)), .c (.sl 3 (b.map Req.d))] [] fun r os => r = .c (.v (.bool (decide (a = b)))) ∧ os = [] := by
  refine pcalls_of Tryz.func25 rfl (by simp [Tryz.ntmps25]) ?_
  rw [Tryz.ntmps25, Tryz.results25]
  push_cast [iO, tN]
  by_cases hl : a.length = b.length
  · repeat' (first | ((first | refine pG ?_ | refine pQ ?_ | refine pU ?_); push_cast [iO, tN]) | (refine pif (fun h => ?_) (fun h => ?_) <;> first | exact pN h | push_cast [iO, tN]))
    refine pwp_loop2 (α := Nat) (fun k => k ≤ a.length ∧ a.take k = b.take k) (fun k => ⟨[(5, .c (.v (.int .i64 k))), (0, .c (.sl 3 (a.map Req.d))), (1, .c (.sl 3 (b.map Req.d)))], []⟩) (fun k => a.length - k) 0 ⟨by omega, by simp⟩ (by (refine weak_fg ?_; push_cast [iO, tN])) ?_
    rintro k ⟨hk, hpre⟩
    by_cases hlt : k < a.length
    · have hlt' : k < b.length := by omega
      have e1 := getD_lt a hlt
      have e2 := getD_lt b hlt'
      repeat' (first | ((first | refine pG ?_ | refine pQ ?_ | refine pU ?_); push_cast [iO, tN]) | (refine pif (fun h => ?_) (fun h => ?_) <;> first | exact pN h | push_cast [iO, tN]))
      rotate_left
      · (refine retK_of [] ?_; push_cast [iO, tN])
        rw [e1, e2] at h
        have : ¬ a = b := fun e => by subst e; simp at h
        simp [this]
      · refine ⟨k + 1, ⟨by omega, ?_⟩, by (refine weak_fg ?_; push_cast [iO, tN]), by omega⟩
        rw [e1, e2] at h
        rw [List.take_succ_eq_append_getElem hlt, List.take_succ_eq_append_getElem hlt', hpre]
        have h3 : a[k] = b[k] := by
          cases h1 : a[k]; cases h2 : b[k]
          rw [h1, h2] at h
          simpa using h
        rw [h3]
    · repeat' (first | ((first | refine pG ?_ | refine pQ ?_ | refine pU ?_); push_cast [iO, tN]) | (refine pif (fun h => ?_) (fun h => ?_) <;> first | exact pN h | push_cast [iO, tN]))
      (refine retK_of [] ?_; push_cast [iO, tN])
      have e : a = b := by
        have := hpre
        rwa [List.take_of_length_le (by omega), List.take_of_length_le (by omega)] at this
      simp [e]
  · repeat' (first | ((first | refine pG ?_ | refine pQ ?_ | refine pU ?_); push_cast [iO, tN]) | (refine pif (fun h => ?_) (fun h => ?_) <;> first | exact pN h | push_cast [iO, tN]))
    (refine retK_of [] ?_; push_cast [iO, tN])
    have : ¬ a = b := fun e => hl (by rw [e])
    simp [this]
set_option maxHeartbeats 2000000 in
theorem same_pureI (a b : Inh) (ha : a.list.length ≤ 1000000) (hb : b.list.length ≤ 1000000) (ha2 : a.reqs.length ≤ 1000000) (hb2 : b.reqs.length ≤ 1000000) :
    PCalls Tryz.prog 10 [.agg a.e, .agg b.e] [] fun r os => r = .c (.v (.bool (decide (a = b)))) ∧ os = [] := by
  have hsr := samereqs_pure a.reqs b.reqs (by omega) (by omega)
  refine pcalls_of Tryz.func10 rfl (by simp [Tryz.ntmps10]) ?_
  rw [Tryz.ntmps10, Tryz.results10]
  push_cast [iO, tN]
  by_cases hn : a.next = b.next
  case neg =>
    have : ¬ a = b := fun e => hn (by rw [e])
    repeat' (first | ((first | refine pG ?_ | refine pQ ?_ | refine pU ?_); push_cast [iO, tN, hn]) | (refine pif (fun h => ?_) (fun h => ?_) <;> first | exact pN h | push_cast [iO, tN, hn]))
    (refine retK_of [] ?_; push_cast [iO, tN])
    all_goals simp [this]
  by_cases hl : a.list.length = b.list.length
  case neg =>
    have : ¬ a = b := fun e => hl (by rw [e])
    have hl' : ¬ (a.list.length : Int) = (b.list.length : Int) := by omega
    repeat' (first | ((first | refine pG ?_ | refine pQ ?_ | refine pU ?_); push_cast [iO, tN, hn, hl']) | (refine pif (fun h => ?_) (fun h => ?_) <;> first | exact pN h | push_cast [iO, tN, hn, hl']))
    (refine retK_of [] ?_; push_cast [iO, tN])
    all_goals simp [this]
  have cB : CutB 6 [] := trivial
  have hl' : (a.list.length : Int) = (b.list.length : Int) := by omega
  repeat' (first | ((first | refine pC ?_ | refine pQC ?_ | refine pU ?_); push_cast [iO, tN, hn, hl']) | (refine pif (fun h => ?_) (fun h => ?_) <;> first | exact pN h | push_cast [iO, tN, hn, hl']))
  (apply pwp_loop3 (α := Nat) 6 [] (fun k => [(5, .c (.v (.int .i64 k)))]) (fun k => []) (fun k => k ≤ a.list.length ∧ a.list.take k = b.list.take k) (fun k => a.list.length - k) (0); (focus ((try push_cast [iO, tN]); rfl)); (focus exact ⟨Nat.zero_le _, by simp⟩); (focus ((refine weak_fg ?_; try push_cast [iO, tN]))))
  rintro k ⟨hk, hpre⟩
  push_cast [iO, tN]
  by_cases hlt : k < a.list.length
  · have hlt' : k < b.list.length := by omega
    have e1 := getD_lt a.list hlt
    have e2 := getD_lt b.list hlt'
    repeat' (first | ((first | refine pC ?_ | refine pQC ?_ | refine pU ?_); push_cast [iO, tN]) | (refine pif (fun h => ?_) (fun h => ?_) <;> first | exact pN h | push_cast [iO, tN]))
    rotate_left
    · (refine retK_of [] ?_; push_cast [iO, tN])
      rw [e1, e2] at h
      have : ¬ a = b := fun e => by subst e; simp at h
      simp [this]
    · refine ⟨k + 1, ⟨by omega, ?_⟩, by (refine weak_fg ?_; push_cast [iO, tN]), by omega⟩
      rw [e1, e2] at h
      rw [List.take_succ_eq_append_getElem hlt, List.take_succ_eq_append_getElem hlt', hpre]
      have h3 : a.list[k] = b.list[k] := by
        cases h1 : a.list[k]; cases h2 : b.list[k]
        rw [h1, h2] at h
        simpa using h
      rw [h3]
  · have e : a.list = b.list := by
      have := hpre
      rwa [List.take_of_length_le (by omega), List.take_of_length_le (by omega)] at this
    repeat' (first |  ((refine plc [] (hsr) ?_ ?_; push_cast [iO, tN]; rintro r os ⟨rfl, rfl⟩; push_cast [iO, tN]))  | ((first | refine pC ?_ | refine pQC ?_ | refine pU ?_); push_cast [iO, tN]) | (refine pif (fun h => ?_) (fun h => ?_) <;> first | exact pN h | push_cast [iO, tN]))
    (refine retK_of [] ?_; push_cast [iO, tN])
    cases a; cases b
    simp only at hn e
    subst hn; subst e
    simp
end Go.Proofs.YtbonfcphabnlpabGreatDoor
