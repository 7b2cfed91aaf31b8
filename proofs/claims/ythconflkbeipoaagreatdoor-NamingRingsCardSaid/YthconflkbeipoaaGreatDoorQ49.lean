/- What the program computes, and the plain laws of it, part 49. -/
import Derived.Test.YthconflkbeipoaaGreatDoorQ43
import Derived.Test.YthconflkbeipoaaGreatDoorQ48
namespace Go.Proofs.YthconflkbeipoaaGreatDoor
attribute [local irreducible] PL QL PWPr PCalls Weak RetK Kontr PA
open Go.RowKit
open IntWalk renaming iteOmega → iO, toNatUp → tN
set_option linter.unusedVariables false
set_option linter.unusedSimpArgs false
set_option maxRecDepth 20000
theorem nowP_size (l : List Dev) : (nowP l).length ≤ l.length := nowK_len l l.length
theorem not_key {names : List Atr} (h : (keys names).Nodup) {k : Nat} (hk : k < names.length) : (names.getD k default).name ∉ keys (names.take k) := fun hm => by
  obtain ⟨x, hx, he⟩ := List.mem_map.1 hm
  obtain ⟨j, hj, rfl⟩ := List.mem_take_iff_getElem.1 hx
  have := key_inj (f := Atr.name) h (i := j) (j := k) (by omega) hk (by rw [getD_lt names (by omega)]; exact he)
  omega
theorem not_val {now : List Atr} (h : (vals now).Nodup) {k : Nat} (hk : k < now.length) : (now.getD k default).value ∉ vals (now.take k) := fun hm => by
  obtain ⟨x, hx, he⟩ := List.mem_map.1 hm
  obtain ⟨j, hj, rfl⟩ := List.mem_take_iff_getElem.1 hx
  have := key_inj (f := Atr.value) h (i := j) (j := k) (by omega) hk (by rw [getD_lt now (by omega)]; exact he)
  omega
structure StepQ (names now : List Atr) (ok : Bool) (rn : Ren) (cur : List Atr) : Prop where
  pok : PlanOk names cur
  len : cur.length = now.length
  yes : ok = true → planOf names now = rn :: planOf names cur ∧ muP names cur < muP names now
  no : ok = false → planOf names now = [] ∧ muP names cur = muP names now
theorem stepx_pure (names now : List Atr) (tk : List ByteArray) (h : PlanOk names now) (ht : TakOk now tk) (hfew : names.length + now.length ≤ 90) :
    PCalls Tryz.prog 41 [.c (.ptr 0 0)] (plO names now tk) fun r os => ∃ (ok : Bool) (rn : Ren) (cur : List Atr) (tk' : List ByteArray), StepQ names now ok rn cur ∧ TakOk cur tk' ∧ r = .two (.agg (Ren.e rn)) (.c (.v (.bool ok))) ∧ os = plO names cur tk' := by
  refine (step_pure names now tk h ht hfew).mono ?_
  rintro r os (⟨hn, hr, ho⟩ | ⟨i, u, tk', hn, htk, hr, ho⟩)
  · exact ⟨false, ⟨⟨#[]⟩, ⟨#[]⟩, ⟨#[]⟩⟩, now, tk, ⟨h, rfl, (fun h => by cases h), fun _ => ⟨(planOf_none hn).1, rfl⟩⟩, ht, hr, ho⟩
  · have hs := nextP_spec h hn
    exact ⟨true, ⟨(now.getD i default).name, (now.getD i default).value, u⟩, renP now i u, tk', ⟨hs.ok, len_renP now i u, (fun _ => ⟨(planOf_some h hn).1, hs.mu⟩), (fun h => by cases h)⟩, htk, hr, ho⟩
theorem plan_no (l : List Dev) (names : List Atr) (h : Okp l) (hl : l.length ≤ 1000) (hz : ∀ d ∈ l, d.original.size ≤ 1000) (hm : names.length ≤ 1000000) (hv : ∀ x ∈ names, x.value.size ≤ 9223372036854775807) (hf : fitsB (nowP l) names = false) :
    PCalls Tryz.prog 18 [.agg (trE l), .c (.sl 2 (names.map Atr.d))] [] fun r os => r = .two (.c (.v (.slice none 0 0))) (.c (.v (.int .i64 231))) ∧ os = [] := by
  have hp := present_pure l h hl hz
  have hns := nowP_size l
  have hfi := fits_pure (nowP l) names (by omega) hm hv
  rw [hf] at hfi
  refine pcalls_of Tryz.func18 rfl (by simp [Tryz.ntmps18]) ?_
  rw [Tryz.ntmps18, Tryz.results18]
  push_cast [iO, tN]
  have cB : CutB 14 [] := trivial
  repeat' (first |  ((refine plc [] (hp) ?_ ?_; push_cast [iO, tN]; rintro r os ⟨rfl, rfl⟩; push_cast [iO, tN])) | ((refine pl_call2 true [] rfl rfl (by kernel_rfl) (hfi) ?_ ?_ ?_; push_cast [iO, tN]; (intro _ r os; rintro ⟨rfl, rfl⟩; push_cast [iO, tN]); rintro r os ⟨rfl, rfl⟩; refine pl_of_pops ?_; push_cast [iO, tN]))  | ((first | refine pC ?_ | refine pQC ?_ | refine pU ?_); push_cast [iO, tN]) | (refine pif (fun h => ?_) (fun h => ?_) <;> first | exact pN h | push_cast [iO, tN]))
  (refine retK_of [] ?_; push_cast [iO, tN])
set_option maxHeartbeats 8000000 in
theorem plan_ok (l : List Dev) (names : List Atr) (h : Okp l) (hl : l.length ≤ 1000) (hz : ∀ d ∈ l, d.original.size ≤ 1000) (hv : ∀ x ∈ names, x.value.size ≤ 9223372036854775807) (hf : fitsB (nowP l) names = true) (hP : PlanOk names (nowP l)) (hfew : names.length + (nowP l).length ≤ 90) :
    PCalls Tryz.prog 18 [.agg (trE l), .c (.sl 2 (names.map Atr.d))] [] fun r os => r = .two (.c (.sl 3 ((planOf names (nowP l)).map Ren.d))) (.c (.v (.int .i64 0))) ∧ os = [] := by
  have hp := present_pure l h hl hz
  have hns := nowP_size l
  have hfi := fits_pure (nowP l) names (by omega) (by omega) hv
  rw [hf] at hfi
  have hpl := planOf_len hP
  obtain ⟨now, hnow⟩ : ∃ now, nowP l = now := ⟨_, rfl⟩
  rw [hnow] at hp hns hfi hP hfew hpl ⊢
  refine pcalls_of Tryz.func18 rfl (by simp [Tryz.ntmps18]) ?_
  rw [Tryz.ntmps18, Tryz.results18]
  push_cast [iO, tN]
  have cB : CutB 14 [27, 28, 29, 45, 46, 47, 73] := trivial
  repeat' (first |  ((refine plc [] (hp) ?_ ?_; push_cast [iO, tN]; rintro r os ⟨rfl, rfl⟩; push_cast [iO, tN])) | ((refine pl_call2 true [] rfl rfl (by kernel_rfl) (hfi) ?_ ?_ ?_; push_cast [iO, tN]; (intro _ r os; rintro ⟨rfl, rfl⟩; push_cast [iO, tN]); rintro r os ⟨rfl, rfl⟩; refine pl_of_pops ?_; push_cast [iO, tN]))  | ((first | refine pC ?_ | refine pQC ?_ | refine pU ?_); push_cast [iO, tN]) | (refine pif (fun h => ?_) (fun h => ?_) <;> first | exact pN h | push_cast [iO, tN]))
  (apply pwp_loop3 (α := Nat) 14 [27, 28, 29, 45, 46, 47, 73] (fun k => [(29, .c (.v (.int .i64 k)))]) (fun k => [(2, .map none false (tgE (names.take k)))]) (fun k => k ≤ names.length) (fun k => names.length - k) (0); (focus ((try push_cast [iO, tN]); rfl)); (focus exact (Nat.zero_le _)); (focus ((refine weak_fg ?_; try push_cast [iO, tN]); (try (rfl)))))
  intro k hk
  push_cast [iO, tN]
  by_cases hlt : k < names.length
  · have hmp := mput_tg (v := (names.getD k default).value) (not_key hP.nk hlt)
    have htk : names.take (k + 1) = names.take k ++ [names.getD k default] := by rw [List.take_succ_eq_append_getElem hlt, getD_lt names hlt]
    obtain ⟨a, ha⟩ : ∃ a, names.getD k default = a := ⟨_, rfl⟩
    rw [ha] at hmp htk
    have hae : (⟨a.name, a.value⟩ : Atr) = a := rfl
    rw [hae, ← htk] at hmp
    repeat' (first | ((refine pwp_cut 14 [27, 28, 29, 45, 46, 47, 73] ?_; apply pwp_drawn_to; (focus kernel_rfl); (focus (simp only [List.length_cons, List.length_nil, Nat.reduceAdd]; (repeat' first | ((first | refine pah 0 ?_ | refine pah 1 ?_ | refine pah 2 ?_ | refine pah 4 ?_ | refine pah 6 ?_); push_cast [iO, tN,  ha, hmp]) | (refine pad ?_; first | with_reducible exact weak_cutS 14 [27, 28, 29, 45, 46, 47, 73] _ | (refine weak_fg ?_; push_cast [iO, tN,  ha, hmp])) | ((first | refine pas [3] ?_ | refine pas [5] ?_ | refine pas [7] ?_ | refine pas [8] ?_); push_cast [iO, tN,  ha, hmp]) | ((first | refine pas [3, 5] ?_ | refine pas [3, 7] ?_ | refine pas [5, 7] ?_); push_cast [iO, tN,  ha, hmp]; refine ⟨?_, ?_⟩) | ((first | refine pas [3, 5, 7] ?_); push_cast [iO, tN,  ha, hmp]; refine ⟨?_, ?_, ?_⟩)); done)); push_cast [iO, tN,  ha, hmp])) | ((first | refine pC ?_ | refine pQC ?_ | refine pU ?_); push_cast [iO, tN, ha]) | (refine pif (fun h => ?_) (fun h => ?_) <;> first | exact pN h | push_cast [iO, tN, ha]))
    exact ⟨k + 1, by omega, by (refine weak_fg ?_; push_cast [iO, tN, hmp]), by omega⟩
  have hk2 : k = names.length := by omega
  subst hk2
  rw [List.take_length]
  repeat' (first | ((first | refine pC ?_ | refine pQC ?_ | refine pU ?_); push_cast [iO, tN]) | (refine pif (fun h => ?_) (fun h => ?_) <;> first | exact pN h | push_cast [iO, tN]))
  (apply pwp_loop3 (α := Nat) 14 [27, 28, 29, 45, 46, 47, 73] (fun k => [(47, .c (.v (.int .i64 k)))]) (fun k => [(3, .map none false (setE (vals (now.take k))))]) (fun k => k ≤ now.length) (fun k => now.length - k) (0); (focus ((try push_cast [iO, tN]); rfl)); (focus exact (Nat.zero_le _)); (focus ((refine weak_fg ?_; try push_cast [iO, tN]); (try (rfl)))))
  intro k hk
  push_cast [iO, tN]
  by_cases hlt : k < now.length
  · have hvs := vals_snoc now hlt
    have hmp := mput_set (now.getD k default).value (vals (now.take k))
    rw [addS_snoc (inM_false.2 (not_val hP.pv hlt)), ← hvs] at hmp
    obtain ⟨a, ha⟩ : ∃ a, now.getD k default = a := ⟨_, rfl⟩
    rw [ha] at hmp
    repeat' (first | ((refine pwp_cut 14 [27, 28, 29, 45, 46, 47, 73] ?_; apply pwp_drawn_to; (focus kernel_rfl); (focus (simp only [List.length_cons, List.length_nil, Nat.reduceAdd]; (repeat' first | ((first | refine pah 0 ?_ | refine pah 1 ?_ | refine pah 2 ?_ | refine pah 4 ?_); push_cast [iO, tN,  ha, hmp]) | (refine pad ?_; first | with_reducible exact weak_cutS 14 [27, 28, 29, 45, 46, 47, 73] _ | (refine weak_fg ?_; push_cast [iO, tN,  ha, hmp])) | ((first | refine pas [3] ?_ | refine pas [5] ?_ | refine pas [6] ?_); push_cast [iO, tN,  ha, hmp]) | ((first | refine pas [3, 5] ?_); push_cast [iO, tN,  ha, hmp]; refine ⟨?_, ?_⟩)); done)); push_cast [iO, tN,  ha, hmp])) | ((first | refine pC ?_ | refine pQC ?_ | refine pU ?_); push_cast [iO, tN, ha]) | (refine pif (fun h => ?_) (fun h => ?_) <;> first | exact pN h | push_cast [iO, tN, ha]))
    exact ⟨k + 1, by omega, by (refine weak_fg ?_; push_cast [iO, tN, hmp]), by omega⟩
  have hk2 : k = now.length := by omega
  subst hk2
  rw [List.take_length]
  have hst := stepx_pure names now (vals now) hP ⟨hP.pv, fun s => Iff.rfl⟩ hfew
  repeat' (first |  (refine pwp_seq fun K hK => ?_)  | ((first | refine pC ?_ | refine pQC ?_ | refine pU ?_); push_cast [iO, tN]) | (refine pif (fun h => ?_) (fun h => ?_) <;> first | exact pN h | push_cast [iO, tN]))
  refine pl_weak (weak_adopt 11 62 3 (by omega) (by push_cast [iO, tN])) ?_
  push_cast [iO, tN]
  (refine plc [4, 1, 2, 3] (hst) ?_ ?_; push_cast [iO, tN]; rintro r os ⟨ok, rn, cur, tk, hq, htk, rfl, rfl⟩; push_cast [iO, tN])
  have hcl := hq.len
  repeat' (first | ((first | refine pC ?_ | refine pQC ?_ | refine pU ?_); push_cast [iO, tN, hcl]) | (refine pif (fun h => ?_) (fun h => ?_) <;> first | exact pN h | push_cast [iO, tN, hcl]))
  (apply pwp_loop3 (α := (List Ren × List Atr) × List ByteArray × Bool × Ren) 14 [27, 28, 29, 45, 46, 47, 73] (fun x => [(13, .c (.v (.bool x.2.2.1))), (12, .c (.ptr 6 0)), (11, .c (.own 5 x.1.1.length))]) (fun x => [(1, .arr 33 2 (x.1.2.map Atr.d)), (3, .map none false (setE x.2.1)), (4, .box 85 [.own 1 now.length, .mp 2, .mp 3]), (5, .arr 62 3 (x.1.1.map Ren.d)), (6, .box 62 x.2.2.2.e)]) (fun x => (PlanOk names x.1.2 ∧ TakOk x.1.2 x.2.1 ∧ x.1.2.length = now.length) ∧ (x.2.2.1 = true → planOf names now = x.1.1 ++ x.2.2.2 :: planOf names x.1.2) ∧ (x.2.2.1 = false → planOf names now = x.1.1)) (fun x => muP names x.1.2 + (if x.2.2.1 then 1 else 0)) ((([], cur), tk, ok, rn)); (focus ((try push_cast [iO, tN]); rfl)); (focus exact ⟨⟨hq.pok, htk, hq.len⟩, (fun ho => by rw [(hq.yes ho).1]; rfl), (fun ho => (hq.no ho).1)⟩); (focus ((refine weak_fg ?_; try push_cast [iO, tN]); (try (exact hq.len)))))
  rintro ⟨⟨out, cur⟩, tk, ok, rn⟩ ⟨⟨hpk, htk, hcl⟩, hy, hno⟩
  simp only at hpk htk hcl hy hno
  push_cast [iO, tN]
  cases ok with
  | false =>
    have hfin := hno rfl
    have hol : out.length ≤ 180 := by rw [← hfin]; omega
    refine pwp_weak (weak_frz 5 (by omega)) ?_
    push_cast [iO, tN]
    repeat' (first | ((first | refine pC ?_ | refine pQC ?_ | refine pU ?_); push_cast [iO, tN]) | (refine pif (fun h => ?_) (fun h => ?_) <;> first | exact pN h | push_cast [iO, tN]))
    (refine retK_of [] ?_; push_cast [iO, tN, hfin])
  | true =>
    have hy1 := hy rfl
    have hol : out.length ≤ 180 := by
      have := congrArg List.length hy1
      rw [List.length_append, List.length_cons] at this
      omega
    have hst2 := stepx_pure names cur tk hpk htk (by omega)
    simp only [plO, hcl] at hst2
    repeat' (first | ((first | refine pC ?_ | refine pQC ?_ | refine pU ?_); push_cast [iO, tN]) | (refine pif (fun h => ?_) (fun h => ?_) <;> first | exact pN h | push_cast [iO, tN]))
    refine pl_weak (weak_sw 6 (by omega)) ?_
    push_cast [iO, tN]
    (refine plc [4, 1, 2, 3] (hst2) ?_ ?_; push_cast [iO, tN]; rintro r os ⟨ok2, rn2, cur2, tk2, hq2, htk2, rfl, rfl⟩; push_cast [iO, tN])
    have hcl2 := hq2.len
    rw [hcl] at hcl2
    repeat' (first | ((first | refine pC ?_ | refine pQC ?_ | refine pU ?_); push_cast [iO, tN, hcl2]) | (refine pif (fun h => ?_) (fun h => ?_) <;> first | exact pN h | push_cast [iO, tN, hcl2]))
    refine ⟨((out ++ [rn], cur2), tk2, ok2, rn2), ⟨⟨hq2.pok, htk2, hcl2⟩, (fun ho => by rw [hy1, (hq2.yes ho).1]; simp), (fun ho => by rw [hy1, (hq2.no ho).1])⟩, by (refine weak_fg ?_; push_cast [iO, tN, hcl2]), ?_⟩
    cases ok2 with
    | true => have := (hq2.yes rfl).2; simp only [if_true]; omega
    | false => have := (hq2.no rfl).2; simp only [if_true, Bool.false_eq_true, if_false]; omega
end Go.Proofs.YthconflkbeipoaaGreatDoor
namespace Go.Proofs.YthconflkbeipoaaGreatDoor
attribute [local irreducible] PL QL PWPr PCalls Weak RetK Kontr PA
open Go.RowKit
open IntWalk renaming iteOmega → iO, toNatUp → tN
set_option linter.unusedVariables false
set_option linter.unusedSimpArgs false
set_option maxRecDepth 20000
def nm6 : List ByteArray := [⟨#[108, 97, 110, 48]⟩, ⟨#[108, 97, 110, 49]⟩, ⟨#[101, 116, 104, 48]⟩, ⟨#[105, 102, 48]⟩, ⟨#[105, 102, 49]⟩, ⟨#[120]⟩]
def ph5 : List ByteArray := [⟨#[47, 97]⟩, ⟨#[47, 97, 47, 98]⟩, ⟨#[47, 99]⟩, ⟨#[47, 100]⟩, ⟨#[47, 101, 47, 102]⟩]
structure WshT (w : List Wsh) (i : Nat) : Prop where
  sub : (w.map Wsh.path).Sublist (ph5.take i)
  nod : ∀ x ∈ w, x.names.Nodup
  six : ∀ x ∈ w, ∀ s ∈ x.names, s ∈ nm6
theorem take_sub {α : Type} (l : List α) (i : Nat) : (l.take i).Sublist (l.take (i + 1)) := by
  have h : l.take i = (l.take (i + 1)).take i := by rw [List.take_take, Nat.min_eq_left (by omega)]
  rw [h]
  exact List.take_sublist _ _
theorem WshT.skip {w : List Wsh} {i : Nat} (h : WshT w i) : WshT w (i + 1) := ⟨h.sub.trans (take_sub _ _), h.nod, h.six⟩
theorem WshT.snoc {w : List Wsh} {i : Nat} (h : WshT w i) (hi : i < 5) {ns : List ByteArray} (hn : ns.Nodup) (hs : ∀ s ∈ ns, s ∈ nm6) : WshT (w ++ [⟨ph5.getD i default, ns⟩]) (i + 1) := by
  have hl : i < ph5.length := hi
  refine ⟨?_, fun x hx => ?_, fun x hx => ?_⟩
  · rw [List.map_append, List.map_singleton, List.take_succ_eq_append_getElem hl, getD_lt ph5 hl]
    exact h.sub.append (List.Sublist.refl _)
  · rcases List.mem_append.1 hx with hx | hx
    · exact h.nod x hx
    · rw [List.mem_singleton] at hx; rw [hx]; exact hn
  · rcases List.mem_append.1 hx with hx | hx
    · exact h.six x hx
    · rw [List.mem_singleton] at hx; rw [hx]; exact hs
theorem ph5_ok : (ph5.all fun p => (splitP p).isSome && decide (p.size ≤ 100)) = true := by decide +kernel
theorem ph5_ord : ph5.Pairwise fun p q => cmpP p q < 0 := by
  have h : ((List.range 5).all fun i => (List.range i).all fun j => decide (cmpP (ph5.getD j default) (ph5.getD i default) < 0)) = true := by decide +kernel
  rw [List.pairwise_iff_getElem]
  intro i j hi hj hij
  have h1 := List.all_eq_true.1 (List.all_eq_true.1 h j (List.mem_range.2 hj)) i (List.mem_range.2 hij)
  rw [getD_lt ph5 hi, getD_lt ph5 hj] at h1
  exact of_decide_eq_true h1
theorem nm6_ok : (nm6.all fun s => ifaceS s && decide (s.size ≤ 100)) = true := by decide +kernel
theorem WshT.len {w : List Wsh} (h : WshT w 5) : w.length ≤ 5 := by
  have := h.sub.length_le
  rw [List.length_map, List.length_take] at this
  exact Nat.le_trans this (Nat.min_le_left _ _)
theorem WshT.path {w : List Wsh} (h : WshT w 5) {x : Wsh} (hx : x ∈ w) : x.path ∈ ph5 := List.mem_of_mem_take (h.sub.subset (List.mem_map.2 ⟨x, hx, rfl⟩))
theorem WshT.names {w : List Wsh} (h : WshT w 5) {x : Wsh} (hx : x ∈ w) : x.names.length ≤ 6 := nodup_sub_len (h.nod x hx) (h.six x hx)
theorem WshT.ok {w : List Wsh} (h : WshT w 5) : wshOk w = true := by
  refine List.all_eq_true.2 fun i hi => ?_
  have hi := List.mem_range.1 hi
  have hm : w.getD i default ∈ w := by rw [getD_lt w hi]; exact List.getElem_mem _
  have hp := List.all_eq_true.1 ph5_ok _ (h.path hm)
  rw [Bool.and_eq_true] at hp
  unfold wshAt
  rw [Bool.and_eq_true, Bool.and_eq_true, Bool.or_eq_true, decide_eq_true_eq, decide_eq_true_eq]
  refine ⟨⟨hp.1, ?_⟩, List.all_eq_true.2 fun k hk => ?_⟩
  · by_cases h0 : i = 0
    · exact .inl h0
    · refine .inr ?_
      have hs := (ph5_ord.sublist (List.take_sublist 5 ph5)).sublist h.sub
      rw [List.pairwise_map, List.pairwise_iff_getElem] at hs
      have := hs (i - 1) i (by omega) hi (by omega)
      rw [getD_lt w hi, getD_lt w (by omega)]
      exact this
  · have hk := List.mem_range.1 hk
    have hs : (w.getD i default).names.getD k default ∈ (w.getD i default).names := by rw [getD_lt _ hk]; exact List.getElem_mem _
    have h1 := List.all_eq_true.1 nm6_ok _ (h.six _ hm _ hs)
    rw [Bool.and_eq_true] at h1
    rw [Bool.and_eq_true, Bool.not_eq_true', inM_false]
    refine ⟨h1.1, fun hc => ?_⟩
    obtain ⟨j, hj, he⟩ := List.mem_take_iff_getElem.1 hc
    rw [getD_lt _ hk] at he
    have := (List.getElem_inj (h.nod _ hm)).1 he
    omega
theorem WshT.fit {w : List Wsh} (h : WshT w 5) : WshFit w := by
  refine ⟨by have := h.len; omega, fun x hx => ?_, fun x hx => by have := h.names hx; omega, fun x hx s hs => ?_⟩
  · have hp := List.all_eq_true.1 ph5_ok _ (h.path hx)
    rw [Bool.and_eq_true, decide_eq_true_eq] at hp
    omega
  · have hp := List.all_eq_true.1 nm6_ok _ (h.six x hx s hs)
    rw [Bool.and_eq_true, decide_eq_true_eq] at hp
    omega
theorem wanted_nodup (ps : List (Nat × ByteArray)) : (wantedA ps).Nodup := by
  have key : ∀ (ps : List (Nat × ByteArray)) (W : List ByteArray), W.Nodup → (ps.foldl (fun W p => addS W p.2) W).Nodup := by
    intro ps
    induction ps with
    | nil => intro W h; exact h
    | cons p ps ih => intro W h; exact ih _ (nodup_addS h)
  exact key ps [] List.nodup_nil
theorem WshT.few {w : List Wsh} (h : WshT w 5) : w.length * ((wantA2 w).length + 2) ≤ 99 := by
  have h1 : (wantA2 w).length ≤ nm6.length := nodup_sub_len (wanted_nodup _) fun s hs => by
    obtain ⟨i, q, hi, hq, rfl⟩ := wantA2_mem.1 hs
    have hm : w.getD i default ∈ w := by rw [getD_lt w hi]; exact List.getElem_mem _
    exact h.six _ hm _ (by unfold nmAt; rw [getD_lt _ hq]; exact List.getElem_mem _)
  have h2 : nm6.length = 6 := rfl
  have h3 := h.len
  have h4 : w.length * ((wantA2 w).length + 2) ≤ 5 * 8 := Nat.mul_le_mul h3 (by omega)
  omega
theorem rank_pure (l : List ByteArray) (s : ByteArray) (hl : l.length ≤ 1000000000) :
    PCalls Tryz.prog 11 [.c (.sl 1 (l.map strD)), .c (.v (.string s))] [] fun r os => r = .c (.v (.int .i64 (rankF l s))) ∧ os = [] := by
  refine pcalls_of Tryz.func11 rfl (by simp [Tryz.ntmps11]) ?_
  rw [Tryz.ntmps11, Tryz.results11]
  push_cast [iO, tN]
  have cB : CutB 6 [] := trivial
  repeat' (first | ((first | refine pC ?_ | refine pQC ?_ | refine pU ?_); push_cast [iO, tN]) | (refine pif (fun h => ?_) (fun h => ?_) <;> first | exact pN h | push_cast [iO, tN]))
  (apply pwp_loop3 (α := Nat) 6 [] (fun k => [(5, .c (.v (.int .i64 k)))]) (fun k => []) (fun k => k ≤ l.length ∧ ∀ x ∈ l.take k, x ≠ s) (fun k => l.length - k) (0); (focus ((try push_cast [iO, tN]); rfl)); (focus exact ⟨Nat.zero_le _, by simp⟩); (focus ((refine weak_fg ?_; try push_cast [iO, tN]))))
  rintro k ⟨hk, hpre⟩
  push_cast [iO, tN]
  by_cases hlt : k < l.length
  · by_cases hq : l.getD k default = s
    · have hm := rankF_at hlt hpre hq
      repeat' (first | ((first | refine pC ?_ | refine pQC ?_ | refine pU ?_); push_cast [iO, tN, hq]) | (refine pif (fun h => ?_) (fun h => ?_) <;> first | exact pN h | push_cast [iO, tN, hq]))
      (refine retK_of [] ?_; push_cast [iO, tN, hm])
    · repeat' (first | ((first | refine pC ?_ | refine pQC ?_ | refine pU ?_); push_cast [iO, tN, hq]) | (refine pif (fun h => ?_) (fun h => ?_) <;> first | exact pN h | push_cast [iO, tN, hq]))
      refine ⟨k + 1, ⟨by omega, fun x hx => ?_⟩, by (refine weak_fg ?_; push_cast [iO, tN]), by omega⟩
      rw [List.take_succ_eq_append_getElem hlt, List.mem_append, List.mem_singleton] at hx
      rcases hx with hx | hx
      · exact hpre x hx
      · rw [hx, ← getD_lt l hlt]; exact hq
  · rw [List.take_of_length_le (by omega)] at hpre
    have hm := rankF_no hpre
    repeat' (first | ((first | refine pC ?_ | refine pQC ?_ | refine pU ?_); push_cast [iO, tN]) | (refine pif (fun h => ?_) (fun h => ?_) <;> first | exact pN h | push_cast [iO, tN]))
    (refine retK_of [] ?_; push_cast [iO, tN, hm])
set_option maxHeartbeats 8000000 in
theorem wishes_pure (L : List Int) (k : Nat) (hk : k < 1000) (hL : ∀ x ∈ L, -9223372036854775808 ≤ x ∧ x ≤ 9223372036854775807) (hLl : L.length ≤ 9223372036854775807) :
    PCalls Tryz.prog 9 [.c (.ptr 0 0)] [tape L k] fun r os => ∃ (w : List Wsh) (k' : Nat), WshT w 5 ∧ k' ≤ k + 100 ∧ r = .c (.sl 2 (w.map Wsh.d)) ∧ os = [tape L k'] := by
  have nex := fun (j : Nat) (hj : j < 1000000) (m : Int) (hm : 0 < m) (hm2 : m ≤ 9223372036854775807) => next_ex L j m hj hm hm2 hL hLl
  refine pcalls_of Tryz.func9 rfl (by simp [Tryz.ntmps9]) ?_
  rw [Tryz.ntmps9, Tryz.results9]
  push_cast [iO, tN]
  have cB : CutB 11 [] := trivial
  repeat' (first | ((first | refine pC ?_ | refine pQC ?_ | refine pU ?_); push_cast [iO, tN]) | (refine pif (fun h => ?_) (fun h => ?_) <;> first | exact pN h | push_cast [iO, tN]))
  refine pwp_weak (weak_adopt 3 36 2 (by omega) (by push_cast [iO, tN])) ?_
  push_cast [iO, tN]
  (apply pwp_loop3 (α := Nat × List Wsh × Nat) 11 [] (fun x => [(5, .c (.v (.int .i64 x.1))), (3, .c (.own 1 x.2.1.length)), (4, .c (.sl 1 (ph5.map strD)))]) (fun x => [(0, tape L x.2.2), (1, .arr 36 2 (x.2.1.map Wsh.d))]) (fun x => x.1 ≤ 5 ∧ WshT x.2.1 x.1 ∧ x.2.2 ≤ k + 12 * x.1) (fun x => 5 - x.1) ((0, [], k)); (focus ((try push_cast [iO, tN]); rfl)); (focus exact ⟨Nat.zero_le _, ⟨List.nil_sublist _, (fun x hx => by cases hx), (fun x hx => by cases hx)⟩, by simp⟩); (focus ((refine weak_fg ?_; try push_cast [iO, tN]); (try (rfl)))))
  rintro ⟨i, w, q⟩ ⟨hi, hw, hq⟩
  simp only at hi hw hq
  have hp5 : ph5.length = 5 := rfl
  push_cast [iO, tN]
  by_cases hlt : i < 5
  case neg =>
    have hi5 : i = 5 := by omega
    subst hi5
    have hwl := hw.len
    refine pwp_weak (weak_frz 1 (by omega)) ?_
    push_cast [iO, tN]
    repeat' (first | ((first | refine pC ?_ | refine pQC ?_ | refine pU ?_); push_cast [iO, tN, hp5]) | (refine pif (fun h => ?_) (fun h => ?_) <;> first | exact pN h | push_cast [iO, tN, hp5]))
    (refine retK_of [0] ?_; push_cast [iO, tN])
    exact ⟨_, _, leP_refl _, leOs_refl _, w, q, hw, by omega, rfl, rfl⟩
  have hwl : w.length ≤ 5 := by
    have := hw.sub.length_le
    rw [List.length_map, List.length_take] at this
    omega
  repeat' (first | ((refine plc [0] (nex q (by omega) 4 (by decide) (by decide)) ?_ ?_; push_cast [iO, tN, hp5]; rintro r os ⟨n0, ⟨na, nb⟩, rfl, rfl⟩; push_cast [iO, tN, hp5])) | (refine pwp_seq fun K hK => ?_) | ((first | refine pC ?_ | refine pQC ?_ | refine pU ?_); push_cast [iO, tN, hp5]) | (refine pif (fun h => ?_) (fun h => ?_) <;> first | exact pN h | push_cast [iO, tN, hp5]))
  · exact ⟨(i + 1, w, q + 1), ⟨by simp only; omega, hw.skip, by simp only; omega⟩, by (refine weak_fg ?_; push_cast [iO, tN]), by simp only; omega⟩
  repeat' (first | ((first | refine pC ?_ | refine pQC ?_ | refine pU ?_); push_cast [iO, tN]) | (refine pif (fun h => ?_) (fun h => ?_) <;> first | exact pN h | push_cast [iO, tN]))
  refine pl_weak (weak_adopt_box 2 1 9 1 (by omega) 36 [.v (.string (ph5.getD i default)), .v (.slice none 0 0)] rfl rfl) ?_
  push_cast [iO, tN]
  (refine plc [0] (nex (q + 1) (by omega) 4 (by decide) (by decide)) ?_ ?_; push_cast [iO, tN]; rintro r os ⟨m0, ⟨ma, mb⟩, rfl, rfl⟩; push_cast [iO, tN])
  repeat' (first | ((first | refine pC ?_ | refine pQC ?_ | refine pU ?_); push_cast [iO, tN]) | (refine pif (fun h => ?_) (fun h => ?_) <;> first | exact pN h | push_cast [iO, tN]))
  (apply pwp_loop3 (α := Int × List ByteArray × Nat) 11 [] (fun x => [(7, .c (.v (.int .i64 x.1)))]) (fun x => [(0, tape L x.2.2), (2, .box 36 [.v (.string (ph5.getD i default)), .own 3 x.2.1.length]), (3, .arr 9 1 (x.2.1.map strD))]) (fun x => (0 ≤ x.1 ∧ x.1 ≤ 3) ∧ (x.2.1.Nodup ∧ ∀ s ∈ x.2.1, s ∈ nm6) ∧ (x.2.2 : Int) ≤ q + 2 + (3 - x.1)) (fun x => x.1.toNat) ((m0, [], q + 1 + 1)); (focus ((try push_cast [iO, tN]); rfl)); (focus exact ⟨⟨by simp only; omega, by simp only; omega⟩, ⟨List.nodup_nil, (fun s hs => by cases hs)⟩, by simp only; omega⟩); (focus ((refine weak_fg ?_; try push_cast [iO, tN]); (try (rfl)))))
  rintro ⟨m, ns, q2⟩ ⟨⟨hm0, hm1⟩, ⟨hnd, hn6⟩, hq2⟩
  simp only at hm0 hm1 hnd hn6 hq2
  have hnl : ns.length ≤ 6 := nodup_sub_len hnd hn6
  push_cast [iO, tN]
  by_cases hmt : 0 < m
  case neg =>
    refine pwp_weak (weak_frz 3 (by omega)) ?_
    push_cast [iO, tN]
    repeat' (first | ((first | refine pC ?_ | refine pQC ?_ | refine pU ?_); push_cast [iO, tN]) | (refine pif (fun h => ?_) (fun h => ?_) <;> first | exact pN h | push_cast [iO, tN]))
    refine ⟨(i + 1, w ++ [⟨ph5.getD i default, ns⟩], q2), ⟨by simp only; omega, hw.snoc hlt hnd hn6, by simp only; omega⟩, by (refine weak_fg ?_; push_cast [iO, tN]), by simp only; omega⟩
  repeat' (first |  ((refine plc [0] (one_ex L q2 [⟨#[108, 97, 110, 48]⟩, ⟨#[108, 97, 110, 49]⟩, ⟨#[101, 116, 104, 48]⟩, ⟨#[105, 102, 48]⟩, ⟨#[105, 102, 49]⟩, ⟨#[120]⟩] (by omega) (by decide) (by decide) hL hLl) ?_ ?_; push_cast [iO, tN]; rintro r os ⟨s, hs, rfl, rfl⟩; push_cast [iO, tN])) | (refine pwp_seq fun K hK => ?_)  | ((first | refine pC ?_ | refine pQC ?_ | refine pU ?_); push_cast [iO, tN]) | (refine pif (fun h => ?_) (fun h => ?_) <;> first | exact pN h | push_cast [iO, tN]))
  replace hs : s ∈ nm6 := hs
  (apply pwp_loop3 (α := Nat) 11 [] (fun n => [(10, .c (.v (.int .i64 n))), (9, .c (.v (.bool (inM s (ns.take n)))))]) (fun n => []) (fun n => n ≤ ns.length) (fun n => ns.length - n) (0); (focus ((try push_cast [iO, tN]); rfl)); (focus exact (Nat.zero_le _)); (focus ((refine weak_fg ?_; try push_cast [iO, tN]); (try (rfl)))))
  intro n hn
  push_cast [iO, tN]
  by_cases hnt : n < ns.length
  · cases h9 : inM s (ns.take n) with
    | true =>
      have hX : inM s (ns.take (n + 1)) = true := inM_iff.2 ((take_sub ns n).subset (inM_iff.1 h9))
      repeat' (first | ((first | refine pC ?_ | refine pQC ?_ | refine pU ?_); push_cast [iO, tN]) | (refine pif (fun h => ?_) (fun h => ?_) <;> first | exact pN h | push_cast [iO, tN]))
      exact ⟨n + 1, by omega, by (refine weak_fg ?_; push_cast [iO, tN, hX]), by omega⟩
    | false =>
      have hX : inM s (ns.take (n + 1)) = decide (ns.getD n default = s) := by
        rw [List.take_succ_eq_append_getElem hnt, ← getD_lt ns hnt]
        by_cases e : ns.getD n default = s
        · rw [decide_eq_true e, inM_iff, e]; simp
        · rw [decide_eq_false e, inM_false, List.mem_append, List.mem_singleton, not_or]
          exact ⟨inM_false.1 h9, fun h => e h.symm⟩
      repeat' (first | ((first | refine pC ?_ | refine pQC ?_ | refine pU ?_); push_cast [iO, tN]) | (refine pif (fun h => ?_) (fun h => ?_) <;> first | exact pN h | push_cast [iO, tN]))
      exact ⟨n + 1, by omega, by (refine weak_fg ?_; push_cast [iO, tN, hX]), by omega⟩
  · have hn2 : n = ns.length := by omega
    subst hn2
    rw [List.take_length]
    cases h9 : inM s ns with
    | true =>
      repeat' (first | ((first | refine pC ?_ | refine pQC ?_ | refine pU ?_); push_cast [iO, tN]) | (refine pif (fun h => ?_) (fun h => ?_) <;> first | exact pN h | push_cast [iO, tN]))
      refine ⟨(m - 1, ns, q2 + 1), ⟨⟨by simp only; omega, by simp only; omega⟩, ⟨hnd, hn6⟩, by simp only; omega⟩, by (refine weak_fg ?_; push_cast [iO, tN]), by simp only; omega⟩
    | false =>
      repeat' (first | ((first | refine pC ?_ | refine pQC ?_ | refine pU ?_); push_cast [iO, tN]) | (refine pif (fun h => ?_) (fun h => ?_) <;> first | exact pN h | push_cast [iO, tN]))
      refine ⟨(m - 1, ns ++ [s], q2 + 1), ⟨⟨by simp only; omega, by simp only; omega⟩, ⟨?_, fun x hx => ?_⟩, by simp only; omega⟩, by (refine weak_fg ?_; push_cast [iO, tN]), by simp only; omega⟩
      · have := nodup_addS (s := s) hnd
        unfold addS at this
        rw [h9] at this
        exact this
      · rcases List.mem_append.1 hx with hx | hx
        · exact hn6 x hx
        · rw [List.mem_singleton] at hx; rw [hx]; exact hs
end Go.Proofs.YthconflkbeipoaaGreatDoor
