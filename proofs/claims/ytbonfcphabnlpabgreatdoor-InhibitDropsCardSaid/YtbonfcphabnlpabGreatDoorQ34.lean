/- What the program computes, and the plain laws of it, part 34. -/
import Derived.Test.YtbonfcphabnlpabGreatDoorQ22
import Derived.Test.YtbonfcphabnlpabGreatDoorQ33
namespace Go.Proofs.YtbonfcphabnlpabGreatDoor
attribute [local irreducible] PL QL PWPr PCalls Weak RetK Kontr PA
open Go.RowKit
open IntWalk renaming iteOmega → iO, toNatUp → tN
set_option linter.unusedVariables false
set_option linter.unusedSimpArgs false
set_option maxRecDepth 20000
theorem place_none {l : List Dev} {n : Int} (h : findD l n = none) : placeM l n = ⟨#[]⟩ := by unfold placeM; rw [orig_none h]; rfl
theorem lk_full (l : List Dev) (n : Int) : lkP false (.c (.v (.string ⟨#[]⟩))) true (mget (origE l l.length) (.i .i64 n)) = some (.two (.c (.v (.string (placeM l n)))) (.c (.v (.bool (findD l n).isSome)))) := by
  rw [mget_origE, List.take_length]
  cases hf : findD l n with
  | none => rw [place_none hf]; rfl
  | some d => rfl
theorem lk_full0 (l : List Dev) (n : Int) : lkP false (.c (.v (.string ⟨#[]⟩))) false (mget (origE l l.length) (.i .i64 n)) = some (.c (.v (.string (placeM l n)))) := by
  rw [mget_origE, List.take_length]
  cases hf : findD l n with
  | none => rw [place_none hf]; rfl
  | some d => rfl
theorem origin_pure (l : List Dev) (n : Int) (h : Okp l) (hl : l.length ≤ 1000) (hz : ∀ d ∈ l, d.original.size ≤ 1000) :
    PCalls Tryz.prog 41 [.agg (trE l), .c (.v (.int .i64 n))] [] fun r os => r = .two (.c (.v (.string (placeM l n)))) (.c (.v (.bool ((findD l n).isSome)))) ∧ os = [] := by
  have hk := look_pure l h hl hz
  have hlk := lk_full l n
  refine pcalls_of Tryz.func41 rfl (by simp [Tryz.ntmps41]) ?_
  rw [Tryz.ntmps41, Tryz.results41]
  push_cast [iO, tN]
  repeat' (first | (refine plc [] (hk) ?_ ?_; push_cast [iO, tN, hlk]; rintro r os ⟨rfl, rfl⟩; push_cast [iO, tN, hlk]) | ((first | refine pG ?_ | refine pQ ?_ | refine pU ?_); push_cast [iO, tN, hlk]) | (refine pif (fun h => ?_) (fun h => ?_) <;> first | exact pN h | push_cast [iO, tN, hlk]))
  (refine retK_of [] ?_; push_cast [iO, tN])
theorem copied_pure (d : Dev) (hl : d.attrs.length ≤ 1000000000) : PCalls Tryz.prog 74 [.agg d.e] [] fun r os => r = .agg d.e ∧ os = [] := by
  have hc := cloneA_pure d.attrs hl
  refine pcalls_of Tryz.func74 rfl (by simp [Tryz.ntmps74]) ?_
  rw [Tryz.ntmps74, Tryz.results74]
  push_cast [iO, tN]
  repeat' (first |  (refine plc [] (hc) ?_ ?_; push_cast [iO, tN]; rintro r os ⟨rfl, rfl⟩; push_cast [iO, tN])  | ((first | refine pG ?_ | refine pQ ?_ | refine pU ?_); push_cast [iO, tN]) | (refine pif (fun h => ?_) (fun h => ?_) <;> first | exact pN h | push_cast [iO, tN]))
  (refine retK_of [] ?_; push_cast [iO, tN])
abbrev viewO (l : List Dev) (p : ByteArray) : List Ob := [.box 112 [.sl 10 (l.map Dev.d), .mp 2, .mp 3], .box 9 [.v (.string p)], .map (some .i64) false (placeE l l.length), .map (some .i64) false (origE l l.length)]
theorem at1_pure (l : List Dev) (p : ByteArray) (d : Dev) : PCalls Tryz.prog 68 [.agg d.e, .c (.ptr 0 0), .c (.ptr 1 0)] (viewO l p) fun r os => r = .c (.v (.bool (decide (placeM l d.index = p)))) ∧ os = viewO l p := by
  have hlk := lk_full0 l d.index
  refine pcalls_of Tryz.func68 rfl (by simp [Tryz.ntmps68]) ?_
  rw [Tryz.ntmps68, Tryz.results68]
  push_cast [iO, tN]
  repeat' (first | ((first | refine pG ?_ | refine pQ ?_ | refine pU ?_); push_cast [iO, tN, hlk]) | (refine pif (fun h => ?_) (fun h => ?_) <;> first | exact pN h | push_cast [iO, tN, hlk]))
  (refine retK_of [0, 1, 2, 3] ?_; push_cast [iO, tN])
theorem firstAt_pure (l : List Dev) (p : ByteArray) (hl : l.length ≤ 1000) (ha : ∀ d ∈ l, d.attrs.length ≤ 1000000000) : PCalls Tryz.prog 67 [.agg (trE l), .c (.fn (.func 68) [] [0, 1])] (viewO l p) fun r os => r = .two (.agg ((atD l p).getD default).e) (.c (.v (.bool ((atD l p).isSome)))) ∧ os = viewO l p := by
  have hi := indexFuncD_pure l (by omega) 68 [0, 1] (viewO l p) (fun d => decide (placeM l d.index = p)) ⟨by kernel_rfl, fun x _ => at1_pure l p x⟩
  refine pcalls_of Tryz.func67 rfl (by simp [Tryz.ntmps67]) ?_
  rw [Tryz.ntmps67, Tryz.results67]
  push_cast [iO, tN]
  repeat' (first | ((first | refine pG ?_ | refine pQ ?_ | refine pU ?_); push_cast [iO, tN]) | (refine pif (fun h => ?_) (fun h => ?_) <;> first | exact pN h | push_cast [iO, tN]))
  (refine plc [0, 1, 2, 3] (hi) ?_ ?_; push_cast [iO, tN]; rintro r os ⟨k, hk, rfl, rfl⟩; push_cast [iO, tN])
  rcases hk with ⟨rfl, hn⟩ | ⟨i, rfl, hi2, hq, hpre⟩
  · have hR : atD l p = none := by
      unfold atD
      rw [List.find?_eq_none]
      intro x hx
      simpa using hn x hx
    repeat' (first | ((first | refine pG ?_ | refine pQ ?_ | refine pU ?_); push_cast [iO, tN]) | (refine pif (fun h => ?_) (fun h => ?_) <;> first | exact pN h | push_cast [iO, tN]))
    (refine retK_of [0, 1, 2, 3] ?_; push_cast [iO, tN, hR, Option.getD_none, Option.isSome_none])
    repeat' (first | exact rfl | exact leOs_refl _ | exact trivial | refine ⟨?_, ?_⟩)
  · have hR : atD l p = some (l.getD i default) := by
      unfold atD
      rw [List.find?_eq_some_iff_append]
      refine ⟨hq, l.take i, l.drop (i + 1), ?_, fun a ha => by simpa using hpre a ha⟩
      rw [getD_lt l hi2]
      conv => lhs; rw [← List.take_append_drop i l, List.drop_eq_getElem_cons hi2]
    have hcp := copied_pure (l.getD i default) (ha _ (by rw [getD_lt l hi2]; exact List.getElem_mem _))
    repeat' (first |  (refine plc [] (hcp) ?_ ?_; push_cast [iO, tN]; rintro r os ⟨rfl, rfl⟩; push_cast [iO, tN])  | ((first | refine pG ?_ | refine pQ ?_ | refine pU ?_); push_cast [iO, tN]) | (refine pif (fun h => ?_) (fun h => ?_) <;> first | exact pN h | push_cast [iO, tN]))
    (refine retK_of [0, 1, 2, 3] ?_; push_cast [iO, tN, hR, Option.getD_some, Option.isSome_some])
    all_goals exact ⟨_, _, leP_refl _, leOs_refl _, rfl, rfl⟩
set_option maxHeartbeats 1000000 in
theorem at_pure (l : List Dev) (p : ByteArray) (h : Okp l) (hl : l.length ≤ 1000) (hz : ∀ d ∈ l, d.original.size ≤ 1000) (ha : ∀ d ∈ l, d.attrs.length ≤ 1000000000) :
    PCalls Tryz.prog 31 [.agg (trE l), .c (.v (.string p))] [] fun r os => r = .two (.agg ((atD l p).getD default).e) (.c (.v (.bool ((atD l p).isSome)))) ∧ os = [] := by
  have hk := look_pure l h hl hz
  have hf := firstAt_pure l p hl ha
  refine pcalls_of Tryz.func31 rfl (by simp [Tryz.ntmps31]) ?_
  rw [Tryz.ntmps31, Tryz.results31]
  push_cast [iO, tN]
  repeat' (first |  (refine plc [] (hk) ?_ ?_; push_cast [iO, tN]; rintro r os ⟨rfl, rfl⟩; push_cast [iO, tN]) | (refine plc [5, 1, 3, 4] (hf) ?_ ?_; push_cast [iO, tN]; rintro r os ⟨rfl, rfl⟩; push_cast [iO, tN])  | ((first | refine pG ?_ | refine pQ ?_ | refine pU ?_); push_cast [iO, tN]) | (refine pif (fun h => ?_) (fun h => ?_) <;> first | exact pN h | push_cast [iO, tN]))
  (refine retK_of [] ?_; push_cast [iO, tN])
end Go.Proofs.YtbonfcphabnlpabGreatDoor
namespace Go.Proofs.YtbonfcphabnlpabGreatDoor
attribute [local irreducible] PL QL PWPr PCalls Weak RetK Kontr PA
open Go.RowKit
open IntWalk renaming iteOmega → iO, toNatUp → tN
set_option linter.unusedVariables false
set_option linter.unusedSimpArgs false
set_option maxRecDepth 20000
theorem other_pure (p : ByteArray) (r : Req) : PCalls Tryz.prog 23 [.c (.v (.string p)), .agg (r.d.map D.e)] [] fun x os => x = .c (.v (.bool (decide (r.path ≠ p)))) ∧ os = [] := by
  refine pcalls_of Tryz.func23 rfl (by simp [Tryz.ntmps23]) ?_
  rw [Tryz.ntmps23, Tryz.results23]
  push_cast [iO, tN]
  repeat' (first | ((first | refine pG ?_ | refine pQ ?_ | refine pU ?_); push_cast [iO, tN]) | (refine pif (fun h => ?_) (fun h => ?_) <;> first | exact pN h | push_cast [iO, tN]))
  (refine retK_of [] ?_; push_cast [iO, tN])
theorem release1_pure (id : Int) (x : Ihb) : PCalls Tryz.prog 77 [.agg (x.d.map D.e), .c (.ptr 0 0)] [.box 3 [.v (.int .i64 id)]] fun r os => r = .c (.v (.bool (decide (x.id ≠ id)))) ∧ os = [.box 3 [.v (.int .i64 id)]] := by
  refine pcalls_of Tryz.func77 rfl (by simp [Tryz.ntmps77]) ?_
  rw [Tryz.ntmps77, Tryz.results77]
  push_cast [iO, tN]
  repeat' (first | ((first | refine pG ?_ | refine pQ ?_ | refine pU ?_); push_cast [iO, tN]) | (refine pif (fun h => ?_) (fun h => ?_) <;> first | exact pN h | push_cast [iO, tN]))
  (refine retK_of [0] ?_; push_cast [iO, tN])
theorem next1_pure (now : Int) (x : Int) : PCalls Tryz.prog 63 [.c (.v (.int .i64 x)), .c (.ptr 0 0)] [.box 3 [.v (.int .i64 now)]] fun r os => r = .c (.v (.bool (decide (now < x)))) ∧ os = [.box 3 [.v (.int .i64 now)]] := by
  refine pcalls_of Tryz.func63 rfl (by simp [Tryz.ntmps63]) ?_
  rw [Tryz.ntmps63, Tryz.results63]
  push_cast [iO, tN]
  repeat' (first | ((first | refine pG ?_ | refine pQ ?_ | refine pU ?_); push_cast [iO, tN]) | (refine pif (fun h => ?_) (fun h => ?_) <;> first | exact pN h | push_cast [iO, tN]))
  (refine retK_of [0] ?_; push_cast [iO, tN])
set_option maxHeartbeats 1000000 in
theorem delays1_pure (now : Int) (rq : Req) (x : Ihb) (h1 : x.pat.size ≤ 9223372036854775807) (h2 : rq.path.size ≤ 9000000000000000000) (h3 : -1000000000 ≤ rq.asked) (h4 : rq.asked ≤ 1000000000) :
    PCalls Tryz.prog 57 [.agg (x.d.map D.e), .c (.ptr 0 0), .c (.ptr 1 0)] [.box 3 [.v (.int .i64 now)], .box 37 (rq.d.map D.e)] fun r os => r = .c (.v (.bool (delQ rq now x))) ∧ os = [.box 3 [.v (.int .i64 now)], .box 37 (rq.d.map D.e)] := by
  have hm := match_pure x.pat rq.path h1 h2
  refine pcalls_of Tryz.func57 rfl (by simp [Tryz.ntmps57]) ?_
  rw [Tryz.ntmps57, Tryz.results57]
  push_cast [iO, tN]
  by_cases c1 : now < x.till
  case neg =>
    have e : delQ rq now x = false := by unfold delQ; rw [decide_eq_false c1]; rfl
    rw [e]
    repeat' (first | ((first | refine pG ?_ | refine pQ ?_ | refine pU ?_); push_cast [iO, tN, c1]) | (refine pif (fun h => ?_) (fun h => ?_) <;> first | exact pN h | push_cast [iO, tN, c1]))
    (refine retK_of [0, 1] ?_; push_cast [iO, tN])
  by_cases c2 : now < rq.asked + 600
  case neg =>
    have e : delQ rq now x = false := by unfold delQ; rw [decide_eq_false c2, Bool.and_false]; rfl
    rw [e]
    repeat' (first | ((first | refine pG ?_ | refine pQ ?_ | refine pU ?_); push_cast [iO, tN, c1, c2]) | (refine pif (fun h => ?_) (fun h => ?_) <;> first | exact pN h | push_cast [iO, tN, c1, c2]))
    (refine retK_of [0, 1] ?_; push_cast [iO, tN])
  have e : delQ rq now x = matchM x.pat rq.path := by unfold delQ; rw [decide_eq_true c1, decide_eq_true c2]; rfl
  rw [e]
  repeat' (first | (refine plc [] (hm) ?_ ?_; push_cast [iO, tN, c1, c2]; rintro r os ⟨rfl, rfl⟩; push_cast [iO, tN, c1, c2]) | ((first | refine pG ?_ | refine pQ ?_ | refine pU ?_); push_cast [iO, tN, c1, c2]) | (refine pif (fun h => ?_) (fun h => ?_) <;> first | exact pN h | push_cast [iO, tN, c1, c2]))
  (refine retK_of [0, 1] ?_; push_cast [iO, tN])
set_option maxHeartbeats 1000000 in
theorem delays_pure (s : Inh) (r : Req) (now : Int) (hs : s.ok) (hr : r ∈ s.reqs) :
    PCalls Tryz.prog 24 [.agg s.e, .agg (r.d.map D.e), .c (.v (.int .i64 now))] [] fun x os => x = .c (.sl 4 ((delL s.list r now).map Ihb.d)) ∧ os = [] := by
  have hlen := hs.len
  have hf := filDel now r s.list (by omega) (delQ r now) fun x hx => delays1_pure now r x (by have := (hs.ihb x hx).2.2.1; omega) (by have := (hs.req r hr).2.1; omega) (by have := (hs.req r hr).1; omega) (by have := (hs.req r hr).1; omega)
  refine pcalls_of Tryz.func24 rfl (by simp [Tryz.ntmps24]) ?_
  rw [Tryz.ntmps24, Tryz.results24]
  push_cast [iO, tN]
  repeat' (first |  (refine plc [2, 1] (hf) ?_ ?_; push_cast [iO, tN]; rintro r os ⟨rfl, rfl⟩; push_cast [iO, tN])  | ((first | refine pG ?_ | refine pQ ?_ | refine pU ?_); push_cast [iO, tN]) | (refine pif (fun h => ?_) (fun h => ?_) <;> first | exact pN h | push_cast [iO, tN]))
  (refine retK_of [] ?_; push_cast [iO, tN])
  all_goals rfl
theorem due1_pure (now : Int) (s : Inh) (r : Req) (hs : s.ok) (hr : r ∈ s.reqs) :
    PCalls Tryz.prog 65 [.agg (r.d.map D.e), .c (.ptr 0 0), .c (.ptr 1 0)] [.box 29 s.e, .box 3 [.v (.int .i64 now)]] fun x os => x = .c (.v (.bool (decide ((delL s.list r now).length = 0)))) ∧ os = [.box 29 s.e, .box 3 [.v (.int .i64 now)]] := by
  have hd := delays_pure s r now hs hr
  refine pcalls_of Tryz.func65 rfl (by simp [Tryz.ntmps65]) ?_
  rw [Tryz.ntmps65, Tryz.results65]
  push_cast [iO, tN]
  repeat' (first |  (refine plc [] (hd) ?_ ?_; push_cast [iO, tN]; rintro r os ⟨rfl, rfl⟩; push_cast [iO, tN])  | ((first | refine pG ?_ | refine pQ ?_ | refine pU ?_); push_cast [iO, tN]) | (refine pif (fun h => ?_) (fun h => ?_) <;> first | exact pN h | push_cast [iO, tN]))
  have hd0 : decide (((delL s.list r now).length : Int) = 0) = decide ((delL s.list r now).length = 0) := decide_eq_decide.2 (by omega)
  (refine retK_of [0, 1] ?_; push_cast [iO, tN, hd0])
theorem due_pure (now : Int) (s : Inh) (hs : s.ok) : PCalls Tryz.prog 29 [.agg s.e, .c (.v (.int .i64 now))] [] fun x os => x = .c (.sl 3 ((dueM s now).map Req.d)) ∧ os = [] := by
  have hlen := hs.reqs
  have hf := filDue now s s.reqs (by omega) (fun r => decide ((delL s.list r now).length = 0)) fun r hr => due1_pure now s r hs hr
  refine pcalls_of Tryz.func29 rfl (by simp [Tryz.ntmps29]) ?_
  rw [Tryz.ntmps29, Tryz.results29]
  push_cast [iO, tN]
  repeat' (first |  (refine plc [0, 1] (hf) ?_ ?_; push_cast [iO, tN]; rintro r os ⟨rfl, rfl⟩; push_cast [iO, tN])  | ((first | refine pG ?_ | refine pQ ?_ | refine pU ?_); push_cast [iO, tN]) | (refine pif (fun h => ?_) (fun h => ?_) <;> first | exact pN h | push_cast [iO, tN]))
  (refine retK_of [] ?_; push_cast [iO, tN])
  all_goals rfl
set_option maxHeartbeats 1000000 in
theorem with_pure (s : Inh) (rs : List Req) (hl : s.list.length ≤ 1000000) : PCalls Tryz.prog 21 [.agg s.e, .c (.sl 3 (rs.map Req.d))] [] fun x os => x = .agg (Inh.e { s with reqs := rs }) ∧ os = [] := by
  have hc := cloneH_pure s.list (by omega)
  refine pcalls_of Tryz.func21 rfl (by simp [Tryz.ntmps21]) ?_
  rw [Tryz.ntmps21, Tryz.results21]
  push_cast [iO, tN]
  have cB : CutB 5 [] := trivial
  repeat' (first |  ((refine pwp_cut 5 [] ?_; apply pwp_drawn_to; (focus kernel_rfl); (focus (simp only [List.length_cons, List.length_nil, Nat.reduceAdd]; (repeat' first | (refine plc [] (hc) ?_ ?_; push_cast [iO, tN]; rintro r os ⟨rfl, rfl⟩; push_cast [iO, tN]) | ((first | refine pah 0 ?_ | refine pah 2 ?_ | refine pah 5 ?_ | refine pah 6 ?_); push_cast [iO, tN]) | (refine pad ?_; first | with_reducible exact weak_cutS 5 [] _ | (refine weak_fg ?_; push_cast [iO, tN])) | ((first | refine pas [1] ?_ | refine pas [3] ?_ | refine pas [4] ?_ | refine pas [7] ?_); push_cast [iO, tN]) | ((first | refine pas [1, 3] ?_ | refine pas [1, 4] ?_); push_cast [iO, tN]; refine ⟨?_, ?_⟩)); done)); push_cast [iO, tN]))  | ((first | refine pC ?_ | refine pQC ?_ | refine pU ?_); push_cast [iO, tN]) | (refine pif (fun h => ?_) (fun h => ?_) <;> first | exact pN h | push_cast [iO, tN]))
  (refine retK_of [] ?_; push_cast [iO, tN])
set_option maxHeartbeats 1000000 in
theorem drop_pure (s : Inh) (p : ByteArray) (hs : s.ok) : PCalls Tryz.prog 8 [.agg s.e, .c (.v (.string p))] [] fun x os => x = .agg (dropM s p).e ∧ os = [] := by
  have hf := filOtherD p s.reqs (by have := hs.reqs; omega) (fun r => decide (r.path ≠ p)) fun r _ => other_pure p r
  have hw := with_pure s (dropR p s.reqs) (by have := hs.len; omega)
  refine pcalls_of Tryz.func8 rfl (by simp [Tryz.ntmps8]) ?_
  rw [Tryz.ntmps8, Tryz.results8]
  push_cast [iO, tN]
  change PCalls _ _ _ _ fun r os => r = .c (.sl 3 ((dropR p s.reqs).map Req.d)) ∧ os = [] at hf
  have cB : CutB 5 [] := trivial
  repeat' (first |  ((refine pwp_cut 5 [] ?_; apply pwp_drawn_to; (focus kernel_rfl); (focus (simp only [List.length_cons, List.length_nil, Nat.reduceAdd]; (repeat' first | (refine plc [] (hf) ?_ ?_; push_cast [iO, tN]; rintro r os ⟨rfl, rfl⟩; push_cast [iO, tN]) | (refine plc [] (hw) ?_ ?_; push_cast [iO, tN]; rintro r os ⟨rfl, rfl⟩; push_cast [iO, tN]) | ((first | refine pah 1 ?_ | refine pah 3 ?_ | refine pah 4 ?_); push_cast [iO, tN]) | (refine pad ?_; first | with_reducible exact weak_cutS 5 [] _ | (refine weak_fg ?_; push_cast [iO, tN])) | ((first | refine pas [0] ?_ | refine pas [2] ?_ | refine pas [5] ?_ | refine pas [6] ?_ | refine pas [7] ?_); push_cast [iO, tN]) | ((first | refine pas [0, 2] ?_ | refine pas [0, 5] ?_); push_cast [iO, tN]; refine ⟨?_, ?_⟩)); done)); push_cast [iO, tN]))  | ((first | refine pC ?_ | refine pQC ?_ | refine pU ?_); push_cast [iO, tN]) | (refine pif (fun h => ?_) (fun h => ?_) <;> first | exact pN h | push_cast [iO, tN]))
  (refine retK_of [] ?_; push_cast [iO, tN])
  all_goals exact ⟨rfl, rfl, rfl⟩
set_option maxHeartbeats 1000000 in
theorem fall1_pure (t : List Dev) (r : Req) (ht : Okp t) (hl : t.length ≤ 1000) (hz : ∀ d ∈ t, d.original.size ≤ 1000) :
    PCalls Tryz.prog 40 [.agg (r.d.map D.e), .c (.ptr 0 0)] [.box 34 (trE t)] fun x os => x = .c (.v (.bool ((findD t r.index).isSome && decide (placeM t r.index = r.path)))) ∧ os = [.box 34 (trE t)] := by
  have ho := origin_pure t r.index ht hl hz
  refine pcalls_of Tryz.func40 rfl (by simp [Tryz.ntmps40]) ?_
  rw [Tryz.ntmps40, Tryz.results40]
  push_cast [iO, tN]
  cases hf : (findD t r.index).isSome with
  | false =>
    rw [hf] at ho
    repeat' (first |  (refine plc [] (ho) ?_ ?_; push_cast [iO, tN]; rintro r os ⟨rfl, rfl⟩; push_cast [iO, tN])  | ((first | refine pG ?_ | refine pQ ?_ | refine pU ?_); push_cast [iO, tN]) | (refine pif (fun h => ?_) (fun h => ?_) <;> first | exact pN h | push_cast [iO, tN]))
    (refine retK_of [0] ?_; push_cast [iO, tN])
  | true =>
    rw [hf] at ho
    repeat' (first |  (refine plc [] (ho) ?_ ?_; push_cast [iO, tN]; rintro r os ⟨rfl, rfl⟩; push_cast [iO, tN])  | ((first | refine pG ?_ | refine pQ ?_ | refine pU ?_); push_cast [iO, tN]) | (refine pif (fun h => ?_) (fun h => ?_) <;> first | exact pN h | push_cast [iO, tN]))
    (refine retK_of [0] ?_; push_cast [iO, tN])
set_option maxHeartbeats 1000000 in
theorem fall_pure (s : Inh) (t : List Dev) (hs : s.ok) (ht : Okp t) (hl : t.length ≤ 1000) (hz : ∀ d ∈ t, d.original.size ≤ 1000) : PCalls Tryz.prog 15 [.agg s.e, .agg (trE t)] [] fun x os => x = .agg (fallM s t).e ∧ os = [] := by
  have hf := filFallD t s.reqs (by have := hs.reqs; omega) (fun r => (findD t r.index).isSome && decide (placeM t r.index = r.path)) fun r _ => fall1_pure t r ht hl hz
  have hw := with_pure s (fallR t s.reqs) (by have := hs.len; omega)
  refine pcalls_of Tryz.func15 rfl (by simp [Tryz.ntmps15]) ?_
  rw [Tryz.ntmps15, Tryz.results15]
  push_cast [iO, tN]
  change PCalls _ _ _ _ fun r os => r = .c (.sl 3 ((fallR t s.reqs).map Req.d)) ∧ os = [.box 34 (trE t)] at hf
  have cB : CutB 5 [] := trivial
  repeat' (first |  ((refine pwp_cut 5 [] ?_; apply pwp_drawn_to; (focus kernel_rfl); (focus (simp only [List.length_cons, List.length_nil, Nat.reduceAdd]; (repeat' first | (refine plc [1] (hf) ?_ ?_; push_cast [iO, tN]; rintro r os ⟨rfl, rfl⟩; push_cast [iO, tN]) | (refine plc [] (hw) ?_ ?_; push_cast [iO, tN]; rintro r os ⟨rfl, rfl⟩; push_cast [iO, tN]) | ((first | refine pah 1 ?_ | refine pah 3 ?_); push_cast [iO, tN]) | (refine pad ?_; first | with_reducible exact weak_cutS 5 [] _ | (refine weak_fg ?_; push_cast [iO, tN])) | ((first | refine pas [0] ?_ | refine pas [2] ?_ | refine pas [4] ?_ | refine pas [5] ?_ | refine pas [6] ?_); push_cast [iO, tN]) | ((first | refine pas [0, 2] ?_ | refine pas [0, 4] ?_); push_cast [iO, tN]; refine ⟨?_, ?_⟩)); done)); push_cast [iO, tN]))  | ((first | refine pC ?_ | refine pQC ?_ | refine pU ?_); push_cast [iO, tN]) | (refine pif (fun h => ?_) (fun h => ?_) <;> first | exact pN h | push_cast [iO, tN]))
  (refine retK_of [] ?_; push_cast [iO, tN])
  all_goals exact ⟨rfl, rfl, rfl⟩
set_option maxHeartbeats 1000000 in
theorem release_pure (s : Inh) (id : Int) (hs : s.ok) : PCalls Tryz.prog 44 [.agg s.e, .c (.v (.int .i64 id))] [] fun x os => x = .two (.agg (relM s id).e) (.c (.v (.int .i64 (relE s id)))) ∧ os = [] := by
  have hlen := hs.len
  have hc := cloneR_pure s.reqs (by have := hs.reqs; omega)
  have hf := filRelD id s.list (by omega) (fun x => decide (x.id ≠ id)) fun x _ => release1_pure id x
  refine pcalls_of Tryz.func44 rfl (by simp [Tryz.ntmps44]) ?_
  rw [Tryz.ntmps44, Tryz.results44]
  push_cast [iO, tN]
  change PCalls _ _ _ _ fun r os => r = .c (.sl 4 ((relL id s.list).map Ihb.d)) ∧ os = [.box 3 [.v (.int .i64 id)]] at hf
  unfold relM relE
  have cB : CutB 7 [] := trivial
  by_cases h : (relL id s.list).length = s.list.length
  · rw [if_pos h, if_pos h]
    have h' : (((relL id s.list).length : Int) = (s.list.length : Int)) = True := eq_true (by omega)
    repeat' (first | ((refine plc [1] (hf) ?_ ?_; push_cast [iO, tN, h']; rintro r os ⟨rfl, rfl⟩; push_cast [iO, tN, h'])) | ((first | refine pC ?_ | refine pQC ?_ | refine pU ?_); push_cast [iO, tN, h']) | (refine pif (fun h => ?_) (fun h => ?_) <;> first | exact pN h | push_cast [iO, tN, h']))
    (refine retK_of [] ?_; push_cast [iO, tN])
  · rw [if_neg h, if_neg h]
    have h' : (((relL id s.list).length : Int) = (s.list.length : Int)) = False := eq_false (by omega)
    repeat' (first | ((refine plc [1] (hf) ?_ ?_; push_cast [iO, tN, h']; rintro r os ⟨rfl, rfl⟩; push_cast [iO, tN, h'])) | ((refine pwp_cut 7 [] ?_; apply pwp_drawn_to; (focus kernel_rfl); (focus (simp only [List.length_cons, List.length_nil, Nat.reduceAdd]; (repeat' first | (refine plc [] (hc) ?_ ?_; push_cast [iO, tN, h']; rintro r os ⟨rfl, rfl⟩; push_cast [iO, tN, h']) | ((first | refine pah 0 ?_ | refine pah 2 ?_ | refine pah 3 ?_ | refine pah 6 ?_ | refine pah 8 ?_); push_cast [iO, tN, h']) | (refine pad ?_; first | with_reducible exact weak_cutS 7 [] _ | (refine weak_fg ?_; push_cast [iO, tN, h'])) | ((first | refine pas [1] ?_ | refine pas [4] ?_ | refine pas [5] ?_ | refine pas [7] ?_); push_cast [iO, tN, h']) | ((first | refine pas [1, 4] ?_ | refine pas [1, 5] ?_); push_cast [iO, tN, h']; refine ⟨?_, ?_⟩)); done)); push_cast [iO, tN, h'])) | ((first | refine pC ?_ | refine pQC ?_ | refine pU ?_); push_cast [iO, tN, h']) | (refine pif (fun h => ?_) (fun h => ?_) <;> first | exact pN h | push_cast [iO, tN, h']))
    (refine retK_of [] ?_; push_cast [iO, tN])
end Go.Proofs.YtbonfcphabnlpabGreatDoor
