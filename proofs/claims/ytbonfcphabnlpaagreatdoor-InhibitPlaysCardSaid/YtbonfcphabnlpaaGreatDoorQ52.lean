/- What the program computes, and the plain laws of it, part 52. -/
import Derived.Test.YtbonfcphabnlpaaGreatDoorQ45
namespace Go.Proofs.YtbonfcphabnlpaaGreatDoor
attribute [local irreducible] PL QL PWPr PCalls Weak RetK Kontr PA
open Go.RowKit
open IntWalk renaming iteOmega → iO, toNatUp → tN
set_option linter.unusedVariables false
set_option linter.unusedSimpArgs false
set_option maxRecDepth 20000
set_option maxHeartbeats 1000000 in
theorem rdelays_pure (x : Ihb) (rq : Req) (now : Int) (h1 : x.pat.size ≤ 9223372036854775807) (h2 : rq.path.size ≤ 9000000000000000000) (h3 : -1000000000 ≤ rq.asked) (h4 : rq.asked ≤ 1000000000) (hn : -1000000000 ≤ now) (hn2 : now ≤ 1000000000) :
    PCalls Tryz.prog 60 [.agg (x.d.map D.e), .agg (rq.d.map D.e), .c (.v (.int .i64 now))] [] fun r os => r = .c (.v (.bool (delQ rq now x))) ∧ os = [] := by
  have hm := gmatch_pure x.pat rq.path h1 h2
  refine pcalls_of Tryz.func60 rfl (by simp [Tryz.ntmps60]) ?_
  rw [Tryz.ntmps60, Tryz.results60]
  push_cast [iO, tN]
  by_cases c1 : now < x.till
  case neg =>
    have e : delQ rq now x = false := by unfold delQ; rw [decide_eq_false c1]; rfl
    rw [e]
    repeat' (first | ((first | refine pG ?_ | refine pQ ?_ | refine pU ?_); push_cast [iO, tN, c1]) | (refine pif (fun h => ?_) (fun h => ?_) <;> first | exact pN h | push_cast [iO, tN, c1]))
    (refine retK_of [] ?_; push_cast [iO, tN])
  by_cases c2 : now < rq.asked + 600
  case neg =>
    have e : delQ rq now x = false := by unfold delQ; rw [decide_eq_false c2, Bool.and_false]; rfl
    have c3 : ¬ now - rq.asked < 600 := by omega
    rw [e]
    repeat' (first | ((first | refine pG ?_ | refine pQ ?_ | refine pU ?_); push_cast [iO, tN, c1, c3]) | (refine pif (fun h => ?_) (fun h => ?_) <;> first | exact pN h | push_cast [iO, tN, c1, c3]))
    (refine retK_of [] ?_; push_cast [iO, tN])
  have e : delQ rq now x = matchM x.pat rq.path := by unfold delQ; rw [decide_eq_true c1, decide_eq_true c2]; rfl
  have c3 : now - rq.asked < 600 := by omega
  rw [e]
  repeat' (first | ((refine plc [] (hm) ?_ ?_; push_cast [iO, tN, c1, c3]; rintro r os ⟨rfl, rfl⟩; push_cast [iO, tN, c1, c3])) | ((first | refine pG ?_ | refine pQ ?_ | refine pU ?_); push_cast [iO, tN, c1, c3]) | (refine pif (fun h => ?_) (fun h => ?_) <;> first | exact pN h | push_cast [iO, tN, c1, c3]))
  (refine retK_of [] ?_; push_cast [iO, tN])
def dueK (s : Inh) (r : Req) (now : Int) (k : Nat) : Bool := (s.list.take k).all fun x => !delQ r now x
theorem dueK_succ {s : Inh} {r : Req} {now : Int} {k : Nat} (hk : k < s.list.length) : dueK s r now (k + 1) = (dueK s r now k && !delQ r now (s.list.getD k default)) := by
  unfold dueK
  rw [List.take_succ_eq_append_getElem hk, List.all_append, ← getD_lt s.list hk]; simp
theorem dueK_all {s : Inh} {r : Req} {now : Int} : dueK s r now s.list.length = decide ((delL s.list r now).length = 0) := by
  unfold dueK delL
  rw [List.take_length]
  induction s.list with
  | nil => rfl
  | cons x l ih =>
    rw [List.all_cons, ih]
    cases h : delQ r now x with
    | true => rw [List.filter_cons_of_pos h]; simp
    | false => rw [List.filter_cons_of_neg (by rw [h]; simp)]; simp
def duesK (s : Inh) (now : Int) (k : Nat) : List Req := fltK (fun r => decide ((delL s.list r now).length = 0)) s.reqs k
set_option maxHeartbeats 4000000 in
theorem rdue_pure (s : Inh) (now : Int) (hs : s.ok) (hn : -1000000000 ≤ now) (hn2 : now ≤ 1000000000) : PCalls Tryz.prog 21 [.agg s.e, .c (.v (.int .i64 now))] [] fun x os => x = .c (.sl 3 ((dueM s now).map Req.d)) ∧ os = [] := by
  have hlr := hs.reqs
  have hll := hs.len
  refine pcalls_of Tryz.func21 rfl (by simp [Tryz.ntmps21]) ?_
  rw [Tryz.ntmps21, Tryz.results21]
  push_cast [iO, tN]
  have cB : CutB 9 [] := trivial
  repeat' (first | ((first | refine pC ?_ | refine pQC ?_ | refine pU ?_); push_cast [iO, tN]) | (refine pif (fun h => ?_) (fun h => ?_) <;> first | exact pN h | push_cast [iO, tN]))
  refine pwp_weak (weak_adopt 5 59 3 (by omega) (by push_cast [iO, tN])) ?_
  push_cast [iO, tN]
  have h0 : duesK s now 0 = [] := fltK_zero _ _
  (apply pwp_loop3 (α := Nat) 9 [] (fun i => [(6, .c (.v (.int .i64 i))), (5, .c (.own 1 ((duesK s now i).length)))]) (fun i => [(1, .arr 59 3 ((duesK s now i).map Req.d))]) (fun i => i ≤ s.reqs.length) (fun i => s.reqs.length - i) (0); (focus ((try push_cast [iO, tN]); rfl)); (focus exact (Nat.zero_le _)); (focus ((refine weak_fg ?_; try push_cast [iO, tN]); (try ((rw [h0]; exact ⟨rfl, rfl⟩))))))
  intro i hi
  push_cast [iO, tN]
  have hdl : (duesK s now i).length ≤ i := fltK_len _ _ _
  by_cases hlt : i < s.reqs.length
  case neg =>
    have hi3 : i = s.reqs.length := by omega
    have he : duesK s now i = dueM s now := by rw [hi3]; exact fltK_all _ _
    rw [he]
    repeat' (first | ((first | refine pC ?_ | refine pQC ?_ | refine pU ?_); push_cast [iO, tN]) | (refine pif (fun h => ?_) (fun h => ?_) <;> first | exact pN h | push_cast [iO, tN]))
    (refine retK_of [] ?_; push_cast [iO, tN])
  have hrm : s.reqs.getD i default ∈ s.reqs := by rw [getD_lt s.reqs hlt]; exact List.getElem_mem _
  have hrq := hs.req _ hrm
  repeat' (first | ((first | refine pC ?_ | refine pQC ?_ | refine pU ?_); push_cast [iO, tN]) | (refine pif (fun h => ?_) (fun h => ?_) <;> first | exact pN h | push_cast [iO, tN]))
  have hk0 : dueK s (s.reqs.getD i default) now 0 = true := rfl
  (apply pwp_loop3 (α := Nat) 9 [] (fun k => [(8, .c (.v (.int .i64 k))), (7, .c (.v (.bool (dueK s (s.reqs.getD i default) now k))))]) (fun k => []) (fun k => k ≤ s.list.length) (fun k => s.list.length - k) (0); (focus ((try push_cast [iO, tN]); rfl)); (focus exact (Nat.zero_le _)); (focus ((refine weak_fg ?_; try push_cast [iO, tN]); (try ((rw [hk0]))))))
  intro k hk
  push_cast [iO, tN]
  by_cases hkl : k < s.list.length
  · have hks := dueK_succ (r := s.reqs.getD i default) (now := now) hkl
    have hxm : s.list.getD k default ∈ s.list := by rw [getD_lt s.list hkl]; exact List.getElem_mem _
    have hxq := hs.ihb _ hxm
    have hd := rdelays_pure (s.list.getD k default) (s.reqs.getD i default) now (by omega) (by omega) (by omega) (by omega) hn hn2
    obtain ⟨b, hb⟩ : ∃ b, dueK s (s.reqs.getD i default) now k = b := ⟨_, rfl⟩
    rw [hb] at hks ⊢
    cases b
    · repeat' (first | ((first | refine pC ?_ | refine pQC ?_ | refine pU ?_); push_cast [iO, tN]) | (refine pif (fun h => ?_) (fun h => ?_) <;> first | exact pN h | push_cast [iO, tN]))
      exact ⟨k + 1, by omega, by (refine weak_fg ?_; push_cast [iO, tN, hks]), by omega⟩
    · repeat' (first |  ((refine plc [] (hd) ?_ ?_; push_cast [iO, tN]; rintro r os ⟨rfl, rfl⟩; push_cast [iO, tN])) | ((refine pwp_cut 9 [] ?_; apply pwp_drawn_to; (focus kernel_rfl); (focus (simp only [List.length_cons, List.length_nil, Nat.reduceAdd]; (repeat' first | ((refine plc [] (hd) ?_ ?_; push_cast [iO, tN]; rintro r os ⟨rfl, rfl⟩; push_cast [iO, tN])) | ((first | refine pah 0 ?_ | refine pah 1 ?_ | refine pah 2 ?_ | refine pah 4 ?_ | refine pah 5 ?_ | refine pah 7 ?_ | refine pah 9 ?_ | refine pah 10 ?_ | refine pah 12 ?_ | refine pah 14 ?_ | refine pah 15 ?_); push_cast [iO, tN]) | (refine pad ?_; first | with_reducible exact weak_cutS 9 [] _ | (refine weak_fg ?_; push_cast [iO, tN])) | ((first | refine pas [3] ?_ | refine pas [6] ?_ | refine pas [8] ?_ | refine pas [11] ?_ | refine pas [13] ?_ | refine pas [16] ?_); push_cast [iO, tN]) | ((first | refine pas [3, 8] ?_ | refine pas [3, 11] ?_ | refine pas [6, 8] ?_ | refine pas [6, 11] ?_); push_cast [iO, tN]; refine ⟨?_, ?_⟩)); done)); push_cast [iO, tN]))  | ((first | refine pC ?_ | refine pQC ?_ | refine pU ?_); push_cast [iO, tN]) | (refine pif (fun h => ?_) (fun h => ?_) <;> first | exact pN h | push_cast [iO, tN]))
      exact ⟨k + 1, by omega, by (refine weak_fg ?_; push_cast [iO, tN, hks]), by omega⟩
  · have hk3 : k = s.list.length := by omega
    have hka : dueK s (s.reqs.getD i default) now k = decide ((delL s.list (s.reqs.getD i default) now).length = 0) := by rw [hk3]; exact dueK_all
    by_cases hz : (delL s.list (s.reqs.getD i default) now).length = 0
    · have he : duesK s now (i + 1) = duesK s now i ++ [s.reqs.getD i default] := fltK_t hlt (decide_eq_true hz)
      rw [decide_eq_true hz] at hka
      rw [hka]
      repeat' (first | ((first | refine pC ?_ | refine pQC ?_ | refine pU ?_); push_cast [iO, tN]) | (refine pif (fun h => ?_) (fun h => ?_) <;> first | exact pN h | push_cast [iO, tN]))
      exact ⟨i + 1, by omega, by (refine weak_fg ?_; push_cast [iO, tN, he]), by omega⟩
    · have he : duesK s now (i + 1) = duesK s now i := fltK_f hlt (decide_eq_false hz)
      rw [decide_eq_false hz] at hka
      rw [hka]
      repeat' (first | ((first | refine pC ?_ | refine pQC ?_ | refine pU ?_); push_cast [iO, tN]) | (refine pif (fun h => ?_) (fun h => ?_) <;> first | exact pN h | push_cast [iO, tN]))
      exact ⟨i + 1, by omega, by (refine weak_fg ?_; push_cast [iO, tN, he]), by omega⟩
end Go.Proofs.YtbonfcphabnlpaaGreatDoor
namespace Go.Proofs.YtbonfcphabnlpaaGreatDoor
attribute [local irreducible] PL QL PWPr PCalls Weak RetK Kontr PA
open Go.RowKit
open IntWalk renaming iteOmega → iO, toNatUp → tN
set_option linter.unusedVariables false
set_option linter.unusedSimpArgs false
set_option maxRecDepth 20000
def whyW (u : List ByteArray) (s : Inh) (r : Req) (now : Int) (k : Nat) : List ByteArray := u ++ (fltK (delQ r now) s.list k).map Ihb.who
theorem whyW_t {u : List ByteArray} {s : Inh} {r : Req} {now : Int} {k : Nat} (hk : k < s.list.length) (h : delQ r now (s.list.getD k default) = true) : whyW u s r now (k + 1) = whyW u s r now k ++ [(s.list.getD k default).who] := by
  unfold whyW
  rw [fltK_t hk h, List.map_append, List.append_assoc]; rfl
theorem whyW_f {u : List ByteArray} {s : Inh} {r : Req} {now : Int} {k : Nat} (hk : k < s.list.length) (h : delQ r now (s.list.getD k default) = false) : whyW u s r now (k + 1) = whyW u s r now k := by
  unfold whyW
  rw [fltK_f hk h]
theorem whyW_zero (u : List ByteArray) (s : Inh) (r : Req) (now : Int) : whyW u s r now 0 = u := by unfold whyW; rw [fltK_zero]; simp
theorem whyW_all (u : List ByteArray) (s : Inh) (r : Req) (now : Int) : whyW u s r now s.list.length = u ++ (delL s.list r now).map Ihb.who := by unfold whyW; rw [fltK_all]; rfl
theorem whyW_len (u : List ByteArray) (s : Inh) (r : Req) (now : Int) (k : Nat) : (whyW u s r now k).length ≤ u.length + k := by
  unfold whyW
  have := fltK_len (delQ r now) s.list k
  rw [List.length_append, List.length_map]; omega
set_option maxHeartbeats 4000000 in
theorem rwhy_pure (s : Inh) (p : ByteArray) (now : Int) (hs : s.ok) (hn : -1000000000 ≤ now) (hn2 : now ≤ 1000000000) : PCalls Tryz.prog 24 [.agg s.e, .c (.v (.string p)), .c (.v (.int .i64 now))] [] fun x os => x = .c (.sl 1 ((whyM s p now).map strD)) ∧ os = [] := by
  have hlr := hs.reqs
  have hll := hs.len
  refine pcalls_of Tryz.func24 rfl (by simp [Tryz.ntmps24]) ?_
  rw [Tryz.ntmps24, Tryz.results24]
  push_cast [iO, tN]
  have cB : CutB 10 [] := trivial
  repeat' (first | ((first | refine pC ?_ | refine pQC ?_ | refine pU ?_); push_cast [iO, tN]) | (refine pif (fun h => ?_) (fun h => ?_) <;> first | exact pN h | push_cast [iO, tN]))
  refine pwp_weak (weak_adopt 7 9 1 (by omega) (by push_cast [iO, tN])) ?_
  push_cast [iO, tN]
  (apply pwp_loop3 (α := Nat) 10 [] (fun i => [(8, .c (.v (.int .i64 i))), (7, .c (.own 1 ((whyL s.list p now (s.reqs.take i)).length)))]) (fun i => [(1, .arr 9 1 ((whyL s.list p now (s.reqs.take i)).map strD))]) (fun i => i ≤ s.reqs.length) (fun i => s.reqs.length - i) (0); (focus ((try push_cast [iO, tN]); rfl)); (focus exact (Nat.zero_le _)); (focus ((refine weak_fg ?_; try push_cast [iO, tN]); (try (exact ⟨rfl, rfl⟩)))))
  intro i hi
  push_cast [iO, tN]
  by_cases hlt : i < s.reqs.length
  case neg =>
    have hi2 : s.reqs.take i = s.reqs := List.take_of_length_le (by omega)
    rw [hi2]
    repeat' (first | ((first | refine pC ?_ | refine pQC ?_ | refine pU ?_); push_cast [iO, tN]) | (refine pif (fun h => ?_) (fun h => ?_) <;> first | exact pN h | push_cast [iO, tN]))
    (refine retK_of [] ?_; push_cast [iO, tN])
    all_goals rfl
  have hstep := whyL_step (l := s.list) (p := p) (now := now) hlt
  have hrm : s.reqs.getD i default ∈ s.reqs := by rw [getD_lt s.reqs hlt]; exact List.getElem_mem _
  have hrq := hs.req _ hrm
  have hwl := whyL_len s.list p now (s.reqs.take i)
  have hwl2 : (s.reqs.take i).length * s.list.length ≤ 32 * 32 := Nat.mul_le_mul (by rw [List.length_take]; omega) hll
  obtain ⟨u, hu⟩ : ∃ u, whyL s.list p now (s.reqs.take i) = u := ⟨_, rfl⟩
  rw [hu] at hstep hwl ⊢
  have hw0 := whyW_zero u s (s.reqs.getD i default) now
  repeat' (first | ((first | refine pC ?_ | refine pQC ?_ | refine pU ?_); push_cast [iO, tN]) | (refine pif (fun h => ?_) (fun h => ?_) <;> first | exact pN h | push_cast [iO, tN]))
  (apply pwp_loop3 (α := Nat) 10 [] (fun k => [(9, .c (.v (.int .i64 k))), (7, .c (.own 1 ((whyW u s (s.reqs.getD i default) now k).length)))]) (fun k => [(1, .arr 9 1 ((whyW u s (s.reqs.getD i default) now k).map strD))]) (fun k => k ≤ s.list.length ∧ ((s.reqs.getD i default).path ≠ p → k = 0)) (fun k => s.list.length - k) (0); (focus ((try push_cast [iO, tN]); rfl)); (focus exact ⟨Nat.zero_le _, fun _ => rfl⟩); (focus ((refine weak_fg ?_; try push_cast [iO, tN]); (try ((rw [hw0]; exact ⟨rfl, rfl⟩))))))
  rintro k ⟨hk, hkp⟩
  push_cast [iO, tN]
  have hwv := whyW_len u s (s.reqs.getD i default) now k
  by_cases hp : (s.reqs.getD i default).path = p
  case neg =>
    rw [if_neg hp, List.append_nil] at hstep
    have hk0 := hkp hp
    subst hk0
    rw [hw0]
    by_cases hkl : (0 : Nat) < s.list.length
    · repeat' (first | ((first | refine pC ?_ | refine pQC ?_ | refine pU ?_); push_cast [iO, tN, (eq_false hp)]) | (refine pif (fun h => ?_) (fun h => ?_) <;> first | exact pN h | push_cast [iO, tN, (eq_false hp)]))
      exact ⟨i + 1, by omega, by (refine weak_fg ?_; push_cast [iO, tN, hstep]), by omega⟩
    · repeat' (first | ((first | refine pC ?_ | refine pQC ?_ | refine pU ?_); push_cast [iO, tN, (eq_false hp)]) | (refine pif (fun h => ?_) (fun h => ?_) <;> first | exact pN h | push_cast [iO, tN, (eq_false hp)]))
      exact ⟨i + 1, by omega, by (refine weak_fg ?_; push_cast [iO, tN, hstep]), by omega⟩
  rw [if_pos hp] at hstep
  by_cases hkl : k < s.list.length
  · have hxm : s.list.getD k default ∈ s.list := by rw [getD_lt s.list hkl]; exact List.getElem_mem _
    have hxq := hs.ihb _ hxm
    have hd := rdelays_pure (s.list.getD k default) (s.reqs.getD i default) now (by omega) (by omega) (by omega) (by omega) hn hn2
    cases hb : delQ (s.reqs.getD i default) now (s.list.getD k default)
    · have he := whyW_f (u := u) hkl hb
      rw [hb] at hd
      repeat' (first | ((refine plc [] (hd) ?_ ?_; push_cast [iO, tN, (eq_true hp)]; rintro r os ⟨rfl, rfl⟩; push_cast [iO, tN, (eq_true hp)])) | ((refine ql_call2 false rfl rfl (by kernel_rfl) (hd) (fun r os h => h.1) rfl ?_ ?_; push_cast [iO, tN, (eq_true hp)]; refine ql_of_qops ?_; push_cast [iO, tN, (eq_true hp)])) | ((first | refine pC ?_ | refine pQC ?_ | refine pU ?_); push_cast [iO, tN, (eq_true hp)]) | (refine pif (fun h => ?_) (fun h => ?_) <;> first | exact pN h | push_cast [iO, tN, (eq_true hp)]))
      exact ⟨k + 1, ⟨by omega, fun h => absurd hp h⟩, by (refine weak_fg ?_; push_cast [iO, tN, he]), by omega⟩
    · have he := whyW_t (u := u) hkl hb
      rw [hb] at hd
      repeat' (first | ((refine plc [] (hd) ?_ ?_; push_cast [iO, tN, (eq_true hp)]; rintro r os ⟨rfl, rfl⟩; push_cast [iO, tN, (eq_true hp)])) | ((refine ql_call2 false rfl rfl (by kernel_rfl) (hd) (fun r os h => h.1) rfl ?_ ?_; push_cast [iO, tN, (eq_true hp)]; refine ql_of_qops ?_; push_cast [iO, tN, (eq_true hp)])) | ((first | refine pC ?_ | refine pQC ?_ | refine pU ?_); push_cast [iO, tN, (eq_true hp)]) | (refine pif (fun h => ?_) (fun h => ?_) <;> first | exact pN h | push_cast [iO, tN, (eq_true hp)]))
      exact ⟨k + 1, ⟨by omega, fun h => absurd hp h⟩, by (refine weak_fg ?_; push_cast [iO, tN, he]), by omega⟩
  · have hk3 : k = s.list.length := by omega
    have hka := whyW_all u s (s.reqs.getD i default) now
    rw [← hk3] at hka
    rw [hka, ← hstep]
    repeat' (first | ((first | refine pC ?_ | refine pQC ?_ | refine pU ?_); push_cast [iO, tN, (eq_true hp)]) | (refine pif (fun h => ?_) (fun h => ?_) <;> first | exact pN h | push_cast [iO, tN, (eq_true hp)]))
    exact ⟨i + 1, by omega, by (refine weak_fg ?_; push_cast [iO, tN]), by omega⟩
end Go.Proofs.YtbonfcphabnlpaaGreatDoor
