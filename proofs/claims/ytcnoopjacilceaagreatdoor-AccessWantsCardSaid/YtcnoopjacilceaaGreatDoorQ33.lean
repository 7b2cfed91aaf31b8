/- What the program computes, and the plain laws of it, part 33. -/
import Derived.Test.YtcnoopjacilceaaGreatDoorQ30
import Derived.Test.YtcnoopjacilceaaGreatDoorQ32
namespace Go.Proofs.YtcnoopjacilceaaGreatDoor
attribute [local irreducible] PL QL PWPr PCalls Weak RetK Kontr PA
open Go.RowKit
open IntWalk renaming iteOmega → iO, toNatUp → tN
set_option linter.unusedVariables false
set_option linter.unusedSimpArgs false
set_option maxRecDepth 20000
theorem numbered_pure (k : Int) : PCalls Tryz.prog 59 [.c (.v (.int .i64 k))] [] fun r os => r = .c (.v (.bool (decide (k = 2) || decide (k = 3)))) ∧ os = [] := by
  refine pcalls_of Tryz.func59 rfl (by simp [Tryz.ntmps59]) ?_
  rw [Tryz.ntmps59, Tryz.results59]
  by_cases h : k = 2
  · have h' := eq_true h
    push_cast [iO, tN]
    repeat' (first | ((first | refine pG ?_ | refine pQ ?_ | refine pU ?_); push_cast [iO, tN, h']) | (refine pif (fun h => ?_) (fun h => ?_) <;> first | exact pN h | push_cast [iO, tN, h']))
    (refine retK_of [] ?_; push_cast [iO, tN])
    all_goals simp [h]
  · push_cast [iO, tN]
    repeat' (first | ((first | refine pG ?_ | refine pQ ?_ | refine pU ?_); push_cast [iO, tN, h]) | (refine pif (fun h => ?_) (fun h => ?_) <;> first | exact pN h | push_cast [iO, tN, h]))
    (refine retK_of [] ?_; push_cast [iO, tN])
    all_goals simp [h]
theorem node_pure (d : Dev) (hd : d.original.size ≤ 1048576) : PCalls Tryz.prog 25 [.agg d.e] [] fun r os => r = .two (.c (.v (.string (nodeM d)))) (.c (.v (.bool (hasN d)))) ∧ os = [] := by
  have hn := numbered_pure d.kind
  have hr := repl_pure d.original (by omega)
  unfold nodeM
  have e : hasN d = (decide (d.kind = 2) || decide (d.kind = 3)) := rfl
  obtain ⟨b, hb⟩ : ∃ b, (decide (d.kind = 2) || decide (d.kind = 3)) = b := ⟨_, rfl⟩
  rw [e, hb]
  rw [hb] at hn
  refine pcalls_of Tryz.func25 rfl (by simp [Tryz.ntmps25]) ?_
  rw [Tryz.ntmps25, Tryz.results25]
  cases b
  · push_cast [iO, tN]
    repeat' (first |  (refine plc [] (hn) ?_ ?_; push_cast [iO, tN]; rintro r os ⟨rfl, rfl⟩; push_cast [iO, tN])  | ((first | refine pG ?_ | refine pQ ?_ | refine pU ?_); push_cast [iO, tN]) | (refine pif (fun h => ?_) (fun h => ?_) <;> first | exact pN h | push_cast [iO, tN]))
    (refine retK_of [] ?_; push_cast [iO, tN])
  · push_cast [iO, tN]
    repeat' (first |  (refine plc [] (hn) ?_ ?_; push_cast [iO, tN]; rintro r os ⟨rfl, rfl⟩; push_cast [iO, tN]) | (refine plc [] (hr) ?_ ?_; push_cast [iO, tN]; rintro r os ⟨rfl, rfl⟩; push_cast [iO, tN])  | ((first | refine pG ?_ | refine pQ ?_ | refine pU ?_); push_cast [iO, tN]) | (refine pif (fun h => ?_) (fun h => ?_) <;> first | exact pN h | push_cast [iO, tN]))
    (refine retK_of [] ?_; push_cast [iO, tN])
end Go.Proofs.YtcnoopjacilceaaGreatDoor
namespace Go.Proofs.YtcnoopjacilceaaGreatDoor
attribute [local irreducible] PL QL PWPr PCalls Weak RetK Kontr PA
open Go.RowKit
open IntWalk renaming iteOmega → iO, toNatUp → tN
set_option linter.unusedVariables false
set_option linter.unusedSimpArgs false
set_option maxRecDepth 20000
theorem sfind_pure (l : List Dev) (rs : List Rec) (n : Int) (h : Okp l) (hl : l.length ≤ 1000) (hz : ∀ d ∈ l, d.original.size ≤ 1000) (hr : RecsOk rs) :
    PCalls Tryz.prog 40 [.agg (trE l), .c (.sl 12 (rs.map Rec.d)), .c (.v (.int .i64 n))] [] fun r os => r = .two (.agg ((recT l rs n).getD default).e) (.c (.v (.bool ((recT l rs n).isSome)))) ∧ os = [] := by
  have ho := origin_pure l n h hl hz
  have hf := findR_pure rs n (placeM l n) (by have := hr.len; omega)
  cases hd : findD l n with
  | none =>
    have hR := recT_none (rs := rs) hd
    rw [hd] at ho
    refine pcalls_of Tryz.func40 rfl (by simp [Tryz.ntmps40]) ?_
    rw [Tryz.ntmps40, Tryz.results40]
    push_cast [iO, tN]
    repeat' (first |  ((refine plc [] (ho) ?_ ?_; push_cast [iO, tN]; rintro r os ⟨rfl, rfl⟩; push_cast [iO, tN]))  | ((first | refine pG ?_ | refine pQ ?_ | refine pU ?_); push_cast [iO, tN]) | (refine pif (fun h => ?_) (fun h => ?_) <;> first | exact pN h | push_cast [iO, tN]))
    (refine retK_of [] ?_; push_cast [iO, tN, hR, Option.getD_none, Option.isSome_none])
    repeat' (first | exact rfl | exact leOs_refl _ | exact trivial | refine ⟨?_, ?_⟩)
  | some d =>
    have hR := recT_some (rs := rs) hd
    rw [hd] at ho
    rw [hR]
    refine pcalls_of Tryz.func40 rfl (by simp [Tryz.ntmps40]) ?_
    rw [Tryz.ntmps40, Tryz.results40]
    push_cast [iO, tN]
    repeat' (first |  ((refine plc [] (ho) ?_ ?_; push_cast [iO, tN]; rintro r os ⟨rfl, rfl⟩; push_cast [iO, tN])) | ((refine plc [] (hf) ?_ ?_; push_cast [iO, tN]; rintro r os ⟨rfl, rfl⟩; push_cast [iO, tN]))  | ((first | refine pG ?_ | refine pQ ?_ | refine pU ?_); push_cast [iO, tN]) | (refine pif (fun h => ?_) (fun h => ?_) <;> first | exact pN h | push_cast [iO, tN]))
    (refine retK_of [] ?_; push_cast [iO, tN])
    all_goals (try exact ⟨_, _, leP_refl _, leOs_refl _, rfl, rfl⟩)
set_option maxHeartbeats 8000000 in
theorem seatOf_pure (l : List Dev) (rs : List Rec) (n : Int) (h : Okp l) (hl : l.length ≤ 1000) (hz : ∀ d ∈ l, d.original.size ≤ 1000) (ha : ∀ d ∈ l, d.attrs.length ≤ 1000000000) (hr : RecsOk rs) :
    PCalls Tryz.prog 15 [.agg (trE l), .c (.sl 12 (rs.map Rec.d)), .c (.v (.int .i64 n))] [] fun r os => r = .c (.v (.string (seatM l rs n))) ∧ os = [] := by
  have hf := tfind_pure l n hl ha
  have hA := ancestors_pure l n h hl hz ha
  have hanc : (ancM l n).length ≤ l.length := by unfold ancM; exact Nat.le_trans (List.length_filter_le _ _) (chain_len l n)
  unfold seatM
  cases hd : findD l n with
  | none =>
    rw [hd] at hf
    simp only [Option.getD_none, Option.isSome_none] at hf
    rw [if_neg (show ¬ (none : Option Dev).isSome = true by simp)]
    refine pcalls_of Tryz.func15 rfl (by simp [Tryz.ntmps15]) ?_
    rw [Tryz.ntmps15, Tryz.results15]
    push_cast [iO, tN]
    repeat' (first |  (refine plc [] (hf) ?_ ?_; push_cast [iO, tN]; rintro r os ⟨rfl, rfl⟩; push_cast [iO, tN])  | ((first | refine pG ?_ | refine pQ ?_ | refine pU ?_); push_cast [iO, tN]) | (refine pif (fun h => ?_) (fun h => ?_) <;> first | exact pN h | push_cast [iO, tN]))
    (refine retK_of [] ?_; push_cast [iO, tN])
  | some d =>
    have hch := anc_chain h hd
    rw [hd] at hf
    simp only [Option.getD_some, Option.isSome_some] at hf
    rw [if_pos (show (some d).isSome = true from rfl)]
    rw [← hch]
    obtain ⟨an, han⟩ : ∃ an, ancM l n = an := ⟨_, rfl⟩
    rw [han] at hA hanc ⊢
    rcases Nat.eq_zero_or_pos an.length with h0 | h0
    · have hnil : an = [] := List.length_eq_zero_iff.1 h0
      subst hnil
      refine pcalls_of Tryz.func15 rfl (by simp [Tryz.ntmps15]) ?_
      rw [Tryz.ntmps15, Tryz.results15]
      push_cast [iO, tN]
      obtain ⟨ch, hcc⟩ : ∃ ch, [d] = ch := ⟨_, rfl⟩
      have cB : CutB 15 [28, 29, 30] := trivial
      repeat' (first |  ((refine plc [] (hf) ?_ ?_; push_cast [iO, tN]; rintro r os ⟨rfl, rfl⟩; push_cast [iO, tN])) | (refine pwp_label ?_; push_cast [iO, tN]) | (refine hidR 5 ?_)  | ((first | refine pC ?_ | refine pQC ?_ | refine pU ?_); push_cast [iO, tN]) | (refine pif (fun h => ?_) (fun h => ?_) <;> first | exact pN h | push_cast [iO, tN]))
      refine unhid ?_
      (refine pwp_cut 15 [28, 29, 30] ?_; apply pwp_drawn_to; (focus kernel_rfl); (focus (simp only [List.length_cons, List.length_nil, Nat.reduceAdd]; (repeat' first | ((refine plc [] (hA) ?_ ?_; push_cast [iO, tN]; rintro r os ⟨rfl, rfl⟩; push_cast [iO, tN])) | (refine pl_appnil (e := 39) (sz := 10) (by' := 136) (l := [d.d]) rfl (by push_cast [iO, tN]) (by push_cast [iO, tN]) (by push_cast [iO, tN]) (by push_cast [iO, tN]) (by push_cast [iO, tN]) (by omega) (by push_cast [iO, tN]) (by simp) (by push_cast [iO, tN]) ?_; refine pl_of_pops ?_; push_cast [iO, tN]) | ((first | refine pah 3 ?_ | refine pah 6 ?_ | refine pah 7 ?_); push_cast [iO, tN]) | (refine pad ?_; first | with_reducible exact weak_cutS 15 [28, 29, 30] _ | (refine weak_fg ?_; push_cast [iO, tN])) | ((first | refine pas [0] ?_ | refine pas [1] ?_ | refine pas [2] ?_ | refine pas [4] ?_ | refine pas [5] ?_); push_cast [iO, tN]) | ((first | refine pas [0, 2] ?_ | refine pas [0, 4] ?_ | refine pas [1, 2] ?_ | refine pas [1, 4] ?_); push_cast [iO, tN]; refine ⟨?_, ?_⟩)); done)); push_cast [iO, tN])
      rw [hcc]
      have hcl : ch.length = 1 := by rw [← hcc]; rfl
      have hE : [d.d] = ch.map Dev.d := by rw [← hcc]; rfl
      simp only [Dev.d] at hE
      rw [hE]
      (apply pwp_loop3 (α := Nat) 15 [28, 29, 30] (fun k => [(30, .c (.v (.int .i64 k))), (28, .c (.sl 10 (ch.map Dev.d))), (29, .c (.v (.int .i64 ch.length)))]) (fun k => []) (fun k => k ≤ ch.length ∧ ∀ x ∈ ch.take k, (fun d : Dev => validS (seatV l rs d.index)) x = false) (fun k => ch.length - k) (0); (focus ((try push_cast [iO, tN]); rfl)); (focus exact ⟨Nat.zero_le _, by simp⟩); (focus ((refine weak_fg ?_; try push_cast [iO, tN]); (try (omega)))))
      rintro k ⟨hk, hpre⟩
      push_cast [iO, tN]
      by_cases hlt : k < ch.length
      · obtain ⟨m, hm⟩ : ∃ m, (ch.getD k default).index = m := ⟨_, rfl⟩
        have hrec := sfind_pure l rs m h hl hz hr
        have hgt := get_pure ((recT l rs m).getD default) ⟨#[73, 68, 95, 83, 69, 65, 84]⟩ (by have := (recD_props (l := l) (n := m) hr).1; omega)
        have hv := valid_pure (seatV l rs m) (by have := seatV_size (l := l) (n := m) hr; omega)
        change PCalls _ _ _ _ fun x os => x = .c (.v (.string (seatV l rs m))) ∧ os = [] at hgt
        have hat := seatL_at (l := l) (rs := rs) hlt hpre
        have hnx := fun h => take_next (q := fun d : Dev => validS (seatV l rs d.index)) hlt hpre h
        simp only [hm] at hat hnx
        obtain ⟨rc, hrc⟩ : ∃ rc, (recT l rs m).getD default = rc := ⟨_, rfl⟩
        rw [hrc] at hrec hgt
        obtain ⟨v, hvv⟩ : ∃ v, seatV l rs m = v := ⟨_, rfl⟩
        rw [hvv] at hgt hv hat hnx
        cases hb : validS v with
        | true =>
          rw [hb] at hv
          have hs := hat hb
          repeat' (first | ((refine plc [] (hrec) ?_ ?_; push_cast [iO, tN, hm]; rintro r os ⟨rfl, rfl⟩; push_cast [iO, tN, hm])) | ((refine plc [] (hgt) ?_ ?_; push_cast [iO, tN, hm]; rintro r os ⟨rfl, rfl⟩; push_cast [iO, tN, hm])) | ((refine plc [] (hv) ?_ ?_; push_cast [iO, tN, hm]; rintro r os ⟨rfl, rfl⟩; push_cast [iO, tN, hm])) | ((first | refine pC ?_ | refine pQC ?_ | refine pU ?_); push_cast [iO, tN, hm]) | (refine pif (fun h => ?_) (fun h => ?_) <;> first | exact pN h | push_cast [iO, tN, hm]))
          (refine retK_of [] ?_; push_cast [iO, tN, hs])
        | false =>
          have hnx := hnx hb
          rw [hb] at hv
          repeat' (first | ((refine plc [] (hrec) ?_ ?_; push_cast [iO, tN, hm]; rintro r os ⟨rfl, rfl⟩; push_cast [iO, tN, hm])) | ((refine plc [] (hgt) ?_ ?_; push_cast [iO, tN, hm]; rintro r os ⟨rfl, rfl⟩; push_cast [iO, tN, hm])) | ((refine plc [] (hv) ?_ ?_; push_cast [iO, tN, hm]; rintro r os ⟨rfl, rfl⟩; push_cast [iO, tN, hm])) | ((first | refine pC ?_ | refine pQC ?_ | refine pU ?_); push_cast [iO, tN, hm]) | (refine pif (fun h => ?_) (fun h => ?_) <;> first | exact pN h | push_cast [iO, tN, hm]))
          exact ⟨k + 1, ⟨by omega, hnx⟩, by (refine weak_fg ?_; push_cast [iO, tN]), by omega⟩
      · rw [List.take_of_length_le (by omega)] at hpre
        have hs := seatL_no hpre
        repeat' (first | ((first | refine pC ?_ | refine pQC ?_ | refine pU ?_); push_cast [iO, tN]) | (refine pif (fun h => ?_) (fun h => ?_) <;> first | exact pN h | push_cast [iO, tN]))
        (refine retK_of [] ?_; push_cast [iO, tN, hs])
    · refine pcalls_of Tryz.func15 rfl (by simp [Tryz.ntmps15]) ?_
      rw [Tryz.ntmps15, Tryz.results15]
      push_cast [iO, tN]
      have cB : CutB 15 [28, 29, 30] := trivial
      repeat' (first |  ((refine plc [] (hf) ?_ ?_; push_cast [iO, tN]; rintro r os ⟨rfl, rfl⟩; push_cast [iO, tN])) | (refine pwp_label ?_; push_cast [iO, tN]) | (refine hidR 5 ?_)  | ((first | refine pC ?_ | refine pQC ?_ | refine pU ?_); push_cast [iO, tN]) | (refine pif (fun h => ?_) (fun h => ?_) <;> first | exact pN h | push_cast [iO, tN]))
      refine unhid ?_
      (refine pwp_cut 15 [28, 29, 30] ?_; apply pwp_drawn_to; (focus kernel_rfl); (focus (simp only [List.length_cons, List.length_nil, Nat.reduceAdd]; (repeat' first | ((refine plc [] (hA) ?_ ?_; push_cast [iO, tN]; rintro r os ⟨rfl, rfl⟩; push_cast [iO, tN])) | ((first | refine pah 3 ?_ | refine pah 6 ?_ | refine pah 7 ?_); push_cast [iO, tN]) | (refine pad ?_; first | with_reducible exact weak_cutS 15 [28, 29, 30] _ | (refine weak_fg ?_; push_cast [iO, tN])) | ((first | refine pas [0] ?_ | refine pas [1] ?_ | refine pas [2] ?_ | refine pas [4] ?_ | refine pas [5] ?_); push_cast [iO, tN]) | ((first | refine pas [0, 2] ?_ | refine pas [0, 4] ?_ | refine pas [1, 2] ?_ | refine pas [1, 4] ?_); push_cast [iO, tN]; refine ⟨?_, ?_⟩)); done)); push_cast [iO, tN])
      obtain ⟨ch, hcc⟩ : ∃ ch, d :: an = ch := ⟨_, rfl⟩
      rw [hcc]
      have hcl : ch.length = 1 + an.length := by rw [← hcc, List.length_cons]; omega
      have hE : d.d :: an.map Dev.d = ch.map Dev.d := by rw [← hcc]; rfl
      simp only [Dev.d] at hE
      have htk : List.take (1 + an.length) (ch.map Dev.d) = ch.map Dev.d := List.take_of_length_le (by rw [List.length_map]; omega)
      rw [hE]
      refine pwp_weak (weak_frz 2 (by omega)) ?_
      push_cast [iO, tN, htk]
      (apply pwp_loop3 (α := Nat) 15 [28, 29, 30] (fun k => [(30, .c (.v (.int .i64 k))), (28, .c (.sl 10 (ch.map Dev.d))), (29, .c (.v (.int .i64 ch.length)))]) (fun k => []) (fun k => k ≤ ch.length ∧ ∀ x ∈ ch.take k, (fun d : Dev => validS (seatV l rs d.index)) x = false) (fun k => ch.length - k) (0); (focus ((try push_cast [iO, tN]); rfl)); (focus exact ⟨Nat.zero_le _, by simp⟩); (focus ((refine weak_fg ?_; try push_cast [iO, tN]); (try (omega)))))
      rintro k ⟨hk, hpre⟩
      push_cast [iO, tN]
      by_cases hlt : k < ch.length
      · obtain ⟨m, hm⟩ : ∃ m, (ch.getD k default).index = m := ⟨_, rfl⟩
        have hrec := sfind_pure l rs m h hl hz hr
        have hgt := get_pure ((recT l rs m).getD default) ⟨#[73, 68, 95, 83, 69, 65, 84]⟩ (by have := (recD_props (l := l) (n := m) hr).1; omega)
        have hv := valid_pure (seatV l rs m) (by have := seatV_size (l := l) (n := m) hr; omega)
        change PCalls _ _ _ _ fun x os => x = .c (.v (.string (seatV l rs m))) ∧ os = [] at hgt
        have hat := seatL_at (l := l) (rs := rs) hlt hpre
        have hnx := fun h => take_next (q := fun d : Dev => validS (seatV l rs d.index)) hlt hpre h
        simp only [hm] at hat hnx
        obtain ⟨rc, hrc⟩ : ∃ rc, (recT l rs m).getD default = rc := ⟨_, rfl⟩
        rw [hrc] at hrec hgt
        obtain ⟨v, hvv⟩ : ∃ v, seatV l rs m = v := ⟨_, rfl⟩
        rw [hvv] at hgt hv hat hnx
        cases hb : validS v with
        | true =>
          rw [hb] at hv
          have hs := hat hb
          repeat' (first | ((refine plc [] (hrec) ?_ ?_; push_cast [iO, tN, hm]; rintro r os ⟨rfl, rfl⟩; push_cast [iO, tN, hm])) | ((refine plc [] (hgt) ?_ ?_; push_cast [iO, tN, hm]; rintro r os ⟨rfl, rfl⟩; push_cast [iO, tN, hm])) | ((refine plc [] (hv) ?_ ?_; push_cast [iO, tN, hm]; rintro r os ⟨rfl, rfl⟩; push_cast [iO, tN, hm])) | ((first | refine pC ?_ | refine pQC ?_ | refine pU ?_); push_cast [iO, tN, hm]) | (refine pif (fun h => ?_) (fun h => ?_) <;> first | exact pN h | push_cast [iO, tN, hm]))
          (refine retK_of [] ?_; push_cast [iO, tN, hs])
        | false =>
          have hnx := hnx hb
          rw [hb] at hv
          repeat' (first | ((refine plc [] (hrec) ?_ ?_; push_cast [iO, tN, hm]; rintro r os ⟨rfl, rfl⟩; push_cast [iO, tN, hm])) | ((refine plc [] (hgt) ?_ ?_; push_cast [iO, tN, hm]; rintro r os ⟨rfl, rfl⟩; push_cast [iO, tN, hm])) | ((refine plc [] (hv) ?_ ?_; push_cast [iO, tN, hm]; rintro r os ⟨rfl, rfl⟩; push_cast [iO, tN, hm])) | ((first | refine pC ?_ | refine pQC ?_ | refine pU ?_); push_cast [iO, tN, hm]) | (refine pif (fun h => ?_) (fun h => ?_) <;> first | exact pN h | push_cast [iO, tN, hm]))
          exact ⟨k + 1, ⟨by omega, hnx⟩, by (refine weak_fg ?_; push_cast [iO, tN]), by omega⟩
      · rw [List.take_of_length_le (by omega)] at hpre
        have hs := seatL_no hpre
        repeat' (first | ((first | refine pC ?_ | refine pQC ?_ | refine pU ?_); push_cast [iO, tN]) | (refine pif (fun h => ?_) (fun h => ?_) <;> first | exact pN h | push_cast [iO, tN]))
        (refine retK_of [] ?_; push_cast [iO, tN, hs])
end Go.Proofs.YtcnoopjacilceaaGreatDoor
namespace Go.Proofs.YtcnoopjacilceaaGreatDoor
attribute [local irreducible] PL QL PWPr PCalls Weak RetK Kontr PA
open Go.RowKit
open IntWalk renaming iteOmega → iO, toNatUp → tN
set_option linter.unusedVariables false
set_option linter.unusedSimpArgs false
set_option maxRecDepth 20000
theorem getD_memW (l : List Dev) {i : Nat} (hi : i < l.length) : l.getD i default ∈ l := by rw [getD_lt l hi]; exact List.getElem_mem _
theorem recF_mem {rs : List Rec} {n : Int} {p : ByteArray} {x : Rec} (h : recF rs n p = some x) : x ∈ rs := List.mem_of_find?_eq_some h
set_option maxHeartbeats 8000000 in
theorem want_pure (l : List Dev) (rs : List Rec) (nx : Int) (s : List Ses) (h : Okp l) (hl : l.length ≤ 1000) (hz : ∀ d ∈ l, d.original.size ≤ 1000) (ha : ∀ d ∈ l, d.attrs.length ≤ 1000000000) (hr : RecsOk rs) (hs : s.length ≤ 1000000) :
    PCalls Tryz.prog 9 [.agg (trE l), .c (.sl 12 (rs.map Rec.d)), .agg (sesE nx s)] [] fun r os => r = .c (.sl 3 ((wantM l rs s).map Acc.d)) ∧ os = [] := by
  refine pcalls_of Tryz.func9 rfl (by simp [Tryz.ntmps9]) ?_
  rw [Tryz.ntmps9, Tryz.results9]
  push_cast [iO, tN]
  have cB : CutB 17 [18, 19, 20] := trivial
  repeat' (first | ((first | refine pC ?_ | refine pQC ?_ | refine pU ?_); push_cast [iO, tN]) | (refine pif (fun h => ?_) (fun h => ?_) <;> first | exact pN h | push_cast [iO, tN]))
  refine pwp_weak (weak_adopt 7 43 3 (by omega) (by push_cast [iO, tN])) ?_
  push_cast [iO, tN]
  (apply pwp_loop3 (α := Nat) 17 [18, 19, 20] (fun k => [(20, .c (.v (.int .i64 k))), (7, .c (.own 2 (wantK l rs s k).length))]) (fun k => [(2, .arr 43 3 ((wantK l rs s k).map Acc.d))]) (fun k => k ≤ l.length) (fun k => l.length - k) (0); (focus ((try push_cast [iO, tN]); rfl)); (focus exact (Nat.zero_le _)); (focus ((refine weak_fg ?_; try push_cast [iO, tN]); (try (exact ⟨rfl, rfl⟩)))))
  intro k hk
  push_cast [iO, tN]
  by_cases hlt : k < l.length
  case neg =>
    have hk2 := wantK_all l rs s (k := k) (by omega)
    have hwl := wantK_len l rs s k
    refine pwp_weak (weak_frz 2 (by omega)) ?_
    push_cast [iO, tN]
    repeat' (first | ((first | refine pC ?_ | refine pQC ?_ | refine pU ?_); push_cast [iO, tN]) | (refine pif (fun h => ?_) (fun h => ?_) <;> first | exact pN h | push_cast [iO, tN]))
    (refine retK_of [] ?_; push_cast [iO, tN, hk2])
  have hm := getD_memW l hlt
  obtain ⟨d, hd⟩ : ∃ d, l.getD k default = d := ⟨_, rfl⟩
  rw [hd] at hm
  have hfd := findD_mem h.nodup hm
  have hor := origin_pure l d.index h hl hz
  rw [hfd] at hor
  simp only [Option.isSome_some] at hor
  have hfr := findR_pure rs d.index (placeM l d.index) (by have := hr.len; omega)
  have hno := node_pure d (by have := hz d hm; omega)
  have hof := seatOf_pure l rs d.index h hl hz ha hr
  have hus := user_pure nx s (seatM l rs d.index) hs
  have hT := recT_some (rs := rs) hfd
  have hwl := wantK_len l rs s k
  have hmem : (2 ∈ ([] : List Nat)) = False := eq_false (by simp)
  have hwt : wantQ l rs s (l.getD k default) = true → wantK l rs s (k + 1) = wantK l rs s k ++ [wantA l rs s (l.getD k default)] := wantK_t hlt
  have hwf : wantQ l rs s (l.getD k default) = false → wantK l rs s (k + 1) = wantK l rs s k := wantK_f hlt
  rw [hd] at hwt hwf
  obtain ⟨u, hu⟩ : ∃ u, wantK l rs s k = u := ⟨_, rfl⟩
  rw [hu] at hwt hwf hwl ⊢
  obtain ⟨us, huss⟩ : ∃ us, userM s (seatM l rs d.index) = us := ⟨_, rfl⟩
  have hA : wantA l rs s d = ⟨placeM l d.index, nodeM d, us⟩ := by unfold wantA; rw [huss]
  have hQ : wantQ l rs s d = ((hasN d && tagQ l rs d.index ⟨#[117, 97, 99, 99, 101, 115, 115]⟩) && !decide (us = ⟨#[]⟩)) := by unfold wantQ; rw [huss]
  rw [huss] at hus
  rw [hA] at hwt
  obtain ⟨st, hst⟩ : ∃ st, seatM l rs d.index = st := ⟨_, rfl⟩
  rw [hst] at hof hus
  obtain ⟨pl, hpl⟩ : ∃ pl, placeM l d.index = pl := ⟨_, rfl⟩
  rw [hpl] at hor hfr hT hwt
  obtain ⟨nd, hnd⟩ : ∃ nd, nodeM d = nd := ⟨_, rfl⟩
  rw [hnd] at hno hwt
  simp only [Dev.e, Dev.w] at hno
  cases hR : recF rs d.index pl with
  | none =>
    rw [hR] at hfr hT
    simp only [Option.getD_none, Option.isSome_none] at hfr
    have hw := hwf (by rw [hQ]; unfold tagQ; rw [hT]; simp)
    repeat' (first | ((refine plc [] (hor) ?_ ?_; push_cast [iO, tN, hd]; rintro r os ⟨rfl, rfl⟩; push_cast [iO, tN, hd])) | ((refine plc [] (hfr) ?_ ?_; push_cast [iO, tN, hd]; rintro r os ⟨rfl, rfl⟩; push_cast [iO, tN, hd])) | ((refine plc [] (hno) ?_ ?_; push_cast [iO, tN, hd]; rintro r os ⟨rfl, rfl⟩; push_cast [iO, tN, hd])) | ((first | refine pC ?_ | refine pQC ?_ | refine pU ?_); push_cast [iO, tN, hd]) | (refine pif (fun h => ?_) (fun h => ?_) <;> first | exact pN h | push_cast [iO, tN, hd]))
    exact ⟨k + 1, by omega, by (refine weak_fg ?_; push_cast [iO, tN, hw, hmem]), by omega⟩
  | some x =>
    rw [hR] at hfr hT
    simp only [Option.getD_some, Option.isSome_some] at hfr
    have hx := hr.tags x (recF_mem hR)
    have hct := scontains_pure x.tags ⟨#[117, 97, 99, 99, 101, 115, 115]⟩ (by omega)
    have hTg : tagQ l rs d.index ⟨#[117, 97, 99, 99, 101, 115, 115]⟩ = inM ⟨#[117, 97, 99, 99, 101, 115, 115]⟩ x.tags := by unfold tagQ; rw [hT]
    rw [hTg] at hQ
    cases hN : hasN d with
    | false =>
      rw [hN] at hno hQ
      have hw := hwf (by rw [hQ]; rfl)
      repeat' (first | ((refine plc [] (hor) ?_ ?_; push_cast [iO, tN, hd]; rintro r os ⟨rfl, rfl⟩; push_cast [iO, tN, hd])) | ((refine plc [] (hfr) ?_ ?_; push_cast [iO, tN, hd]; rintro r os ⟨rfl, rfl⟩; push_cast [iO, tN, hd])) | ((refine plc [] (hno) ?_ ?_; push_cast [iO, tN, hd]; rintro r os ⟨rfl, rfl⟩; push_cast [iO, tN, hd])) | ((first | refine pC ?_ | refine pQC ?_ | refine pU ?_); push_cast [iO, tN, hd]) | (refine pif (fun h => ?_) (fun h => ?_) <;> first | exact pN h | push_cast [iO, tN, hd]))
      exact ⟨k + 1, by omega, by (refine weak_fg ?_; push_cast [iO, tN, hw, hmem]), by omega⟩
    | true =>
      rw [hN] at hno hQ
      cases hI : inM ⟨#[117, 97, 99, 99, 101, 115, 115]⟩ x.tags with
      | false =>
        rw [hI] at hct hQ
        have hw := hwf (by rw [hQ]; rfl)
        repeat' (first | ((refine plc [] (hor) ?_ ?_; push_cast [iO, tN, hd]; rintro r os ⟨rfl, rfl⟩; push_cast [iO, tN, hd])) | ((refine plc [] (hfr) ?_ ?_; push_cast [iO, tN, hd]; rintro r os ⟨rfl, rfl⟩; push_cast [iO, tN, hd])) | ((refine plc [] (hno) ?_ ?_; push_cast [iO, tN, hd]; rintro r os ⟨rfl, rfl⟩; push_cast [iO, tN, hd])) | ((refine plc [] (hct) ?_ ?_; push_cast [iO, tN, hd]; rintro r os ⟨rfl, rfl⟩; push_cast [iO, tN, hd])) | ((first | refine pC ?_ | refine pQC ?_ | refine pU ?_); push_cast [iO, tN, hd]) | (refine pif (fun h => ?_) (fun h => ?_) <;> first | exact pN h | push_cast [iO, tN, hd]))
        exact ⟨k + 1, by omega, by (refine weak_fg ?_; push_cast [iO, tN, hw, hmem]), by omega⟩
      | true =>
        rw [hI] at hct hQ
        by_cases hU : us = ⟨#[]⟩
        · have hw := hwf (by rw [hQ, decide_eq_true hU]; rfl)
          repeat' (first | ((refine plc [] (hor) ?_ ?_; push_cast [iO, tN, hd, hU]; rintro r os ⟨rfl, rfl⟩; push_cast [iO, tN, hd, hU])) | ((refine plc [] (hfr) ?_ ?_; push_cast [iO, tN, hd, hU]; rintro r os ⟨rfl, rfl⟩; push_cast [iO, tN, hd, hU])) | ((refine plc [] (hno) ?_ ?_; push_cast [iO, tN, hd, hU]; rintro r os ⟨rfl, rfl⟩; push_cast [iO, tN, hd, hU])) | ((refine plc [] (hct) ?_ ?_; push_cast [iO, tN, hd, hU]; rintro r os ⟨rfl, rfl⟩; push_cast [iO, tN, hd, hU])) | ((refine pwp_cut 17 [18, 19, 20] ?_; apply pwp_drawn_to; (focus kernel_rfl); (focus (simp only [List.length_cons, List.length_nil, Nat.reduceAdd]; (repeat' first | ((refine plc [] (hof) ?_ ?_; push_cast [iO, tN,  hd]; rintro r os ⟨rfl, rfl⟩; push_cast [iO, tN,  hd])) | ((refine plc [] (hus) ?_ ?_; push_cast [iO, tN,  hd]; rintro r os ⟨rfl, rfl⟩; push_cast [iO, tN,  hd])) | ((first | refine pah 2 ?_ | refine pah 3 ?_ | refine pah 7 ?_); push_cast [iO, tN,  hd]) | (refine pad ?_; first | with_reducible exact weak_cutS 17 [18, 19, 20] _ | (refine weak_fg ?_; push_cast [iO, tN,  hd])) | ((first | refine pas [0] ?_ | refine pas [1] ?_ | refine pas [4] ?_ | refine pas [5] ?_ | refine pas [6] ?_); push_cast [iO, tN,  hd]) | ((first | refine pas [0, 1] ?_ | refine pas [0, 4] ?_ | refine pas [0, 5] ?_ | refine pas [1, 4] ?_); push_cast [iO, tN,  hd]; refine ⟨?_, ?_⟩) | ((first | refine pas [0, 1, 4] ?_); push_cast [iO, tN,  hd]; refine ⟨?_, ?_, ?_⟩)); done)); push_cast [iO, tN,  hd])) | ((first | refine pC ?_ | refine pQC ?_ | refine pU ?_); push_cast [iO, tN, hd, hU]) | (refine pif (fun h => ?_) (fun h => ?_) <;> first | exact pN h | push_cast [iO, tN, hd, hU]))
          exact ⟨k + 1, by omega, by (refine weak_fg ?_; push_cast [iO, tN, hw, hmem]), by omega⟩
        · have hw := hwt (by rw [hQ, decide_eq_false hU]; rfl)
          repeat' (first | ((refine plc [] (hor) ?_ ?_; push_cast [iO, tN, hd, hU]; rintro r os ⟨rfl, rfl⟩; push_cast [iO, tN, hd, hU])) | ((refine plc [] (hfr) ?_ ?_; push_cast [iO, tN, hd, hU]; rintro r os ⟨rfl, rfl⟩; push_cast [iO, tN, hd, hU])) | ((refine plc [] (hno) ?_ ?_; push_cast [iO, tN, hd, hU]; rintro r os ⟨rfl, rfl⟩; push_cast [iO, tN, hd, hU])) | ((refine plc [] (hct) ?_ ?_; push_cast [iO, tN, hd, hU]; rintro r os ⟨rfl, rfl⟩; push_cast [iO, tN, hd, hU])) | ((refine pwp_cut 17 [18, 19, 20] ?_; apply pwp_drawn_to; (focus kernel_rfl); (focus (simp only [List.length_cons, List.length_nil, Nat.reduceAdd]; (repeat' first | ((refine plc [] (hof) ?_ ?_; push_cast [iO, tN,  hd]; rintro r os ⟨rfl, rfl⟩; push_cast [iO, tN,  hd])) | ((refine plc [] (hus) ?_ ?_; push_cast [iO, tN,  hd]; rintro r os ⟨rfl, rfl⟩; push_cast [iO, tN,  hd])) | ((first | refine pah 2 ?_ | refine pah 3 ?_ | refine pah 7 ?_); push_cast [iO, tN,  hd]) | (refine pad ?_; first | with_reducible exact weak_cutS 17 [18, 19, 20] _ | (refine weak_fg ?_; push_cast [iO, tN,  hd])) | ((first | refine pas [0] ?_ | refine pas [1] ?_ | refine pas [4] ?_ | refine pas [5] ?_ | refine pas [6] ?_); push_cast [iO, tN,  hd]) | ((first | refine pas [0, 1] ?_ | refine pas [0, 4] ?_ | refine pas [0, 5] ?_ | refine pas [1, 4] ?_); push_cast [iO, tN,  hd]; refine ⟨?_, ?_⟩) | ((first | refine pas [0, 1, 4] ?_); push_cast [iO, tN,  hd]; refine ⟨?_, ?_, ?_⟩)); done)); push_cast [iO, tN,  hd])) | ((first | refine pC ?_ | refine pQC ?_ | refine pU ?_); push_cast [iO, tN, hd, hU]) | (refine pif (fun h => ?_) (fun h => ?_) <;> first | exact pN h | push_cast [iO, tN, hd, hU]))
          exact ⟨k + 1, by omega, by (refine weak_fg ?_; push_cast [iO, tN, hw, hmem]), by omega⟩
end Go.Proofs.YtcnoopjacilceaaGreatDoor
