/- What the program computes, and the plain laws of it, part 32. -/
import Derived.Test.YtcnoopjacilceaaGreatDoorQ31
namespace Go.Proofs.YtcnoopjacilceaaGreatDoor
attribute [local irreducible] PL QL PWPr PCalls Weak RetK Kontr PA
open Go.RowKit
open IntWalk renaming iteOmega → iO, toNatUp → tN
set_option linter.unusedVariables false
set_option linter.unusedSimpArgs false
set_option maxRecDepth 20000
def hasPq (l : List Atr) (s : ByteArray) : Bool := (l.find? fun a => decide (a.name = s)).isSome
theorem rget03_pure (l : List Atr) (s : ByteArray) (hl : l.length ≤ 1000000000) :
    PCalls Tryz.prog 99 [.c (.sl 2 (l.map Atr.d)), .c (.v (.string s))] [] fun r os => r = .two (.c (.v (.string (getP l s)))) (.c (.v (.bool (hasPq l s)))) ∧ os = [] := by
  refine pcalls_of Tryz.func99 rfl (by simp [Tryz.ntmps99]) ?_
  rw [Tryz.ntmps99, Tryz.results99]
  push_cast [iO, tN]
  have cB : CutB 7 [] := trivial
  repeat' (first | ((first | refine pC ?_ | refine pQC ?_ | refine pU ?_); push_cast [iO, tN]) | (refine pif (fun h => ?_) (fun h => ?_) <;> first | exact pN h | push_cast [iO, tN]))
  (apply pwp_loop3 (α := Nat) 7 [] (fun k => [(6, .c (.v (.int .i64 k)))]) (fun k => []) (fun k => k ≤ l.length ∧ ∀ x ∈ l.take k, (fun a : Atr => decide (a.name = s)) x = false) (fun k => l.length - k) (0); (focus ((try push_cast [iO, tN]); rfl)); (focus exact ⟨Nat.zero_le _, by simp⟩); (focus ((refine weak_fg ?_; try push_cast [iO, tN]))))
  rintro k ⟨hk, hpre⟩
  push_cast [iO, tN]
  by_cases hlt : k < l.length
  · by_cases hq : (l.getD k default).name = s
    · have hg := getP_at hlt hpre hq
      have hh : hasPq l s = true := by unfold hasPq; rw [find_at hlt (by simpa using hq) hpre]; rfl
      repeat' (first | ((first | refine pC ?_ | refine pQC ?_ | refine pU ?_); push_cast [iO, tN, hq]) | (refine pif (fun h => ?_) (fun h => ?_) <;> first | exact pN h | push_cast [iO, tN, hq]))
      (refine retK_of [] ?_; push_cast [iO, tN, hg, hh])
    · repeat' (first | ((first | refine pC ?_ | refine pQC ?_ | refine pU ?_); push_cast [iO, tN, hq]) | (refine pif (fun h => ?_) (fun h => ?_) <;> first | exact pN h | push_cast [iO, tN, hq]))
      exact ⟨k + 1, ⟨by omega, take_next hlt hpre (decide_eq_false hq)⟩, by (refine weak_fg ?_; push_cast [iO, tN]), by omega⟩
  · rw [List.take_of_length_le (by omega)] at hpre
    have hg := getP_no hpre
    have hh : hasPq l s = false := by unfold hasPq; rw [find_no hpre]; rfl
    repeat' (first | ((first | refine pC ?_ | refine pQC ?_ | refine pU ?_); push_cast [iO, tN]) | (refine pif (fun h => ?_) (fun h => ?_) <;> first | exact pN h | push_cast [iO, tN]))
    (refine retK_of [] ?_; push_cast [iO, tN, hg, hh])
theorem rget25_pure (r : Rec) (s : ByteArray) (hl : r.props.length ≤ 1000000000) :
    PCalls Tryz.prog 64 [.agg r.e, .c (.v (.string s))] [] fun x os => x = .c (.v (.string (getP r.props s))) ∧ os = [] := by
  have hg := rget03_pure r.props s hl
  refine pcalls_of Tryz.func64 rfl (by simp [Tryz.ntmps64]) ?_
  rw [Tryz.ntmps64, Tryz.results64]
  push_cast [iO, tN]
  repeat' (first |  (refine plc [] (hg) ?_ ?_; push_cast [iO, tN]; rintro r os ⟨rfl, rfl⟩; push_cast [iO, tN])  | ((first | refine pG ?_ | refine pQ ?_ | refine pU ?_); push_cast [iO, tN]) | (refine pif (fun h => ?_) (fun h => ?_) <;> first | exact pN h | push_cast [iO, tN]))
  (refine retK_of [] ?_; push_cast [iO, tN])
theorem rin32_pure (l : List ByteArray) (s : ByteArray) (hl : l.length ≤ 1000000000) :
    PCalls Tryz.prog 35 [.c (.sl 1 (l.map strD)), .c (.v (.string s))] [] fun r os => r = .c (.v (.bool (inM s l))) ∧ os = [] := by
  refine pcalls_of Tryz.func35 rfl (by simp [Tryz.ntmps35]) ?_
  rw [Tryz.ntmps35, Tryz.results35]
  push_cast [iO, tN]
  have cB : CutB 6 [] := trivial
  repeat' (first | ((first | refine pC ?_ | refine pQC ?_ | refine pU ?_); push_cast [iO, tN]) | (refine pif (fun h => ?_) (fun h => ?_) <;> first | exact pN h | push_cast [iO, tN]))
  (apply pwp_loop3 (α := Nat) 6 [] (fun k => [(5, .c (.v (.int .i64 k)))]) (fun k => []) (fun k => k ≤ l.length ∧ s ∉ l.take k) (fun k => l.length - k) (0); (focus ((try push_cast [iO, tN]); rfl)); (focus exact ⟨Nat.zero_le _, by simp⟩); (focus ((refine weak_fg ?_; try push_cast [iO, tN]))))
  rintro k ⟨hk, hpre⟩
  push_cast [iO, tN]
  by_cases hlt : k < l.length
  · by_cases hq : l.getD k default = s
    · have hm : inM s l = true := inM_iff.2 (by rw [← hq, getD_lt l hlt]; exact List.getElem_mem _)
      repeat' (first | ((first | refine pC ?_ | refine pQC ?_ | refine pU ?_); push_cast [iO, tN, hq]) | (refine pif (fun h => ?_) (fun h => ?_) <;> first | exact pN h | push_cast [iO, tN, hq]))
      (refine retK_of [] ?_; push_cast [iO, tN, hm])
    · repeat' (first | ((first | refine pC ?_ | refine pQC ?_ | refine pU ?_); push_cast [iO, tN, hq]) | (refine pif (fun h => ?_) (fun h => ?_) <;> first | exact pN h | push_cast [iO, tN, hq]))
      refine ⟨k + 1, ⟨by omega, ?_⟩, by (refine weak_fg ?_; push_cast [iO, tN]), by omega⟩
      rw [List.take_succ_eq_append_getElem hlt, List.mem_append, List.mem_singleton]
      rintro (h | h)
      · exact hpre h
      · exact hq (by rw [getD_lt l hlt]; exact h.symm)
  · rw [List.take_of_length_le (by omega)] at hpre
    have hpre := inM_false.2 hpre
    repeat' (first | ((first | refine pC ?_ | refine pQC ?_ | refine pU ?_); push_cast [iO, tN]) | (refine pif (fun h => ?_) (fun h => ?_) <;> first | exact pN h | push_cast [iO, tN]))
    (refine retK_of [] ?_; push_cast [iO, tN, hpre])
theorem ruser37_pure (nx : Int) (s : List Ses) (p : ByteArray) (hl : s.length ≤ 1000000000) :
    PCalls Tryz.prog 28 [.agg [.v (.int .i64 nx), .sl 4 (s.map Ses.d)], .c (.v (.string p))] [] fun r os => r = .c (.v (.string (userM s p))) ∧ os = [] := by
  refine pcalls_of Tryz.func28 rfl (by simp [Tryz.ntmps28]) ?_
  rw [Tryz.ntmps28, Tryz.results28]
  push_cast [iO, tN]
  have cB : CutB 6 [] := trivial
  repeat' (first | ((first | refine pC ?_ | refine pQC ?_ | refine pU ?_); push_cast [iO, tN]) | (refine pif (fun h => ?_) (fun h => ?_) <;> first | exact pN h | push_cast [iO, tN]))
  (apply pwp_loop3 (α := Nat) 6 [] (fun k => [(5, .c (.v (.int .i64 k)))]) (fun k => []) (fun k => k ≤ s.length ∧ ∀ x ∈ s.take k, (fun x : Ses => decide (x.seat = p) && x.active) x = false) (fun k => s.length - k) (0); (focus ((try push_cast [iO, tN]); rfl)); (focus exact ⟨Nat.zero_le _, by simp⟩); (focus ((refine weak_fg ?_; try push_cast [iO, tN]))))
  rintro k ⟨hk, hpre⟩
  push_cast [iO, tN]
  by_cases hlt : k < s.length
  · by_cases h1 : (s.getD k default).seat = p
    · cases h2 : (s.getD k default).active with
      | true =>
        have hg : userM s p = (s.getD k default).user := by unfold userM; rw [find_at hlt (by rw [decide_eq_true h1, h2]; rfl) hpre]
        repeat' (first | ((first | refine pC ?_ | refine pQC ?_ | refine pU ?_); push_cast [iO, tN, h1, h2]) | (refine pif (fun h => ?_) (fun h => ?_) <;> first | exact pN h | push_cast [iO, tN, h1, h2]))
        (refine retK_of [] ?_; push_cast [iO, tN, hg])
      | false =>
        repeat' (first | ((first | refine pC ?_ | refine pQC ?_ | refine pU ?_); push_cast [iO, tN, h1, h2]) | (refine pif (fun h => ?_) (fun h => ?_) <;> first | exact pN h | push_cast [iO, tN, h1, h2]))
        exact ⟨k + 1, ⟨by omega, take_next hlt hpre (by rw [h2, Bool.and_false])⟩, by (refine weak_fg ?_; push_cast [iO, tN]), by omega⟩
    · repeat' (first | ((first | refine pC ?_ | refine pQC ?_ | refine pU ?_); push_cast [iO, tN, h1]) | (refine pif (fun h => ?_) (fun h => ?_) <;> first | exact pN h | push_cast [iO, tN, h1]))
      exact ⟨k + 1, ⟨by omega, take_next hlt hpre (by rw [decide_eq_false h1, Bool.false_and])⟩, by (refine weak_fg ?_; push_cast [iO, tN]), by omega⟩
  · rw [List.take_of_length_le (by omega)] at hpre
    have hg : userM s p = ⟨#[]⟩ := by unfold userM; rw [find_no hpre]
    repeat' (first | ((first | refine pC ?_ | refine pQC ?_ | refine pU ?_); push_cast [iO, tN]) | (refine pif (fun h => ?_) (fun h => ?_) <;> first | exact pN h | push_cast [iO, tN]))
    (refine retK_of [] ?_; push_cast [iO, tN, hg])
end Go.Proofs.YtcnoopjacilceaaGreatDoor
namespace Go.Proofs.YtcnoopjacilceaaGreatDoor
attribute [local irreducible] PL QL PWPr PCalls Weak RetK Kontr PA
open Go.RowKit
open IntWalk renaming iteOmega → iO, toNatUp → tN
set_option linter.unusedVariables false
set_option linter.unusedSimpArgs false
set_option maxRecDepth 20000
set_option maxHeartbeats 4000000 in
theorem rrec36_pure (l : List Dev) (rs : List Rec) (n : Int) (hl : l.length ≤ 1000) (hz : ∀ d ∈ l, d.original.size ≤ 1000) (hrl : rs.length ≤ 1000000) :
    PCalls Tryz.prog 34 [.agg (trE l), .c (.sl 12 (rs.map Rec.d)), .c (.v (.int .i64 n))] [] fun r os => r = .two (.agg ((recT l rs n).getD default).e) (.c (.v (.bool ((recT l rs n).isSome)))) ∧ os = [] := by
  have hf := rfind_pure l n (by omega)
  have hp := rplace_pure l n hl hz
  refine pcalls_of Tryz.func34 rfl (by simp [Tryz.ntmps34]) ?_
  rw [Tryz.ntmps34, Tryz.results34]
  push_cast [iO, tN]
  have cB : CutB 11 [43] := trivial
  repeat' (first | ((first | refine pC ?_ | refine pQC ?_ | refine pU ?_); push_cast [iO, tN]) | (refine pif (fun h => ?_) (fun h => ?_) <;> first | exact pN h | push_cast [iO, tN]))
  cases hd : findD l n with
  | none =>
    rw [hd] at hf
    simp only [Option.getD_none, Option.isSome_none] at hf
    have hR := recT_none (rs := rs) hd
    (apply pwp_loop3 (α := Nat) 11 [43] (fun k => [(8, .c (.v (.int .i64 k)))]) (fun k => []) (fun k => k ≤ rs.length) (fun k => rs.length - k) (0); (focus ((try push_cast [iO, tN]); rfl)); (focus exact (Nat.zero_le _)); (focus ((refine weak_fg ?_; try push_cast [iO, tN]))))
    intro k hk
    push_cast [iO, tN]
    by_cases hlt : k < rs.length
    · repeat' (first |  ((refine plc [] (hf) ?_ ?_; push_cast [iO, tN]; rintro r os ⟨rfl, rfl⟩; push_cast [iO, tN])) | ((refine pwp_cut 11 [43] ?_; apply pwp_drawn_to; (focus kernel_rfl); (focus (simp only [List.length_cons, List.length_nil, Nat.reduceAdd]; (repeat' first | ((first | refine pah 0 ?_ | refine pah 1 ?_ | refine pah 2 ?_ | refine pah 3 ?_ | refine pah 4 ?_ | refine pah 5 ?_ | refine pah 7 ?_ | refine pah 8 ?_ | refine pah 9 ?_ | refine pah 10 ?_ | refine pah 11 ?_ | refine pah 12 ?_ | refine pah 13 ?_ | refine pah 14 ?_ | refine pah 17 ?_ | refine pah 19 ?_ | refine pah 20 ?_); push_cast [iO, tN]) | (refine pad ?_; first | with_reducible exact weak_cutS 11 [43] _ | (refine weak_fg ?_; push_cast [iO, tN])) | ((first | refine pas [6] ?_ | refine pas [15] ?_ | refine pas [16] ?_ | refine pas [18] ?_); push_cast [iO, tN]) | ((first | refine pas [15, 16] ?_ | refine pas [15, 18] ?_); push_cast [iO, tN]; refine ⟨?_, ?_⟩)); done)); push_cast [iO, tN]))  | ((first | refine pC ?_ | refine pQC ?_ | refine pU ?_); push_cast [iO, tN]) | (refine pif (fun h => ?_) (fun h => ?_) <;> first | exact pN h | push_cast [iO, tN]))
      exact ⟨k + 1, by omega, by (refine weak_fg ?_; push_cast [iO, tN]), by omega⟩
    · repeat' (first | ((first | refine pC ?_ | refine pQC ?_ | refine pU ?_); push_cast [iO, tN]) | (refine pif (fun h => ?_) (fun h => ?_) <;> first | exact pN h | push_cast [iO, tN]))
      (refine retK_of [] ?_; push_cast [iO, tN, hR, Option.getD_none, Option.isSome_none])
      repeat' (first | exact rfl | exact leOs_refl _ | exact trivial | refine ⟨?_, ?_⟩)
  | some d =>
    rw [hd] at hf
    simp only [Option.getD_some, Option.isSome_some] at hf
    have hR := recT_some (rs := rs) hd
    obtain ⟨p, hpp⟩ : ∃ p, placeM l n = p := ⟨_, rfl⟩
    rw [hpp] at hp hR
    (apply pwp_loop3 (α := Nat) 11 [43] (fun k => [(8, .c (.v (.int .i64 k)))]) (fun k => []) (fun k => k ≤ rs.length ∧ ∀ x ∈ rs.take k, (fun r : Rec => decide (r.index = n) && decide (r.path = p)) x = false) (fun k => rs.length - k) (0); (focus ((try push_cast [iO, tN]); rfl)); (focus exact ⟨Nat.zero_le _, by simp⟩); (focus ((refine weak_fg ?_; try push_cast [iO, tN]))))
    rintro k ⟨hk, hpre⟩
    push_cast [iO, tN]
    by_cases hlt : k < rs.length
    · by_cases h1 : (rs.getD k default).index = n
      · by_cases h2 : (rs.getD k default).path = p
        · have hg : recF rs n p = some (rs.getD k default) := find_at hlt (by rw [decide_eq_true h1, decide_eq_true h2]; rfl) hpre
          rw [hg] at hR
          repeat' (first |  ((refine plc [] (hf) ?_ ?_; push_cast [iO, tN]; rintro r os ⟨rfl, rfl⟩; push_cast [iO, tN])) | (refine hidR 5 ?_)  | ((first | refine pC ?_ | refine pQC ?_ | refine pU ?_); push_cast [iO, tN]) | (refine pif (fun h => ?_) (fun h => ?_) <;> first | exact pN h | push_cast [iO, tN]))
          refine unhid ?_
          (refine pwp_cut 11 [43] ?_; refine pwp_drawn (by kernel_rfl) ?_; simp only [List.length_cons, List.length_nil, Nat.reduceAdd]; refine pah 0 ?_; push_cast [iO, tN,  h1, h2]; refine pah 1 ?_; push_cast [iO, tN,  h1, h2]; refine pah 2 ?_; push_cast [iO, tN,  h1, h2]; refine pah 3 ?_; push_cast [iO, tN,  h1, h2]; refine pah 4 ?_; push_cast [iO, tN,  h1, h2]; refine pah 5 ?_; push_cast [iO, tN,  h1, h2]; refine pah 7 ?_; push_cast [iO, tN,  h1, h2]; apply pa_hav; intro z6; apply pa_hav; intro z4; apply pa_hav; intro z5; apply pa_hav; intro z2; apply pa_hav; intro z3; apply pa_hav; intro z1; refine pas [6] ?_; push_cast [iO, tN,  h1, h2]; (focus (refine pah 8 ?_; push_cast [iO, tN,  h1, h2]; refine pah 9 ?_; push_cast [iO, tN,  h1, h2]; refine pah 10 ?_; push_cast [iO, tN,  h1, h2]; refine pah 11 ?_; push_cast [iO, tN,  h1, h2]; refine pah 12 ?_; push_cast [iO, tN,  h1, h2]; refine pah 13 ?_; push_cast [iO, tN,  h1, h2]; refine pah 14 ?_; push_cast [iO, tN,  h1, h2]; refine pah 17 ?_; push_cast [iO, tN,  h1, h2]; exact z1)); refine pas [15, 16] ?_; push_cast [iO, tN,  h1, h2]; refine ⟨z2, z3⟩; refine pas [15, 18] ?_; push_cast [iO, tN,  h1, h2]; refine ⟨?_, ?_⟩; (focus (exact z4)); (focus ((first | ((refine plc [] (hp) ?_ ?_; push_cast [iO, tN,  h1, h2]; rintro r os ⟨rfl, rfl⟩; push_cast [iO, tN,  h1, h2]))); exact z5)); refine pas [16] ?_; push_cast [iO, tN,  h1, h2]; refine paw z4 ?_ <;> (refine weak_fg ?_; push_cast [iO, tN,  h1, h2]); refine pas [15] ?_; push_cast [iO, tN,  h1, h2]; (focus (refine pah 19 ?_; push_cast [iO, tN,  h1, h2]; refine pah 20 ?_; push_cast [iO, tN,  h1, h2]; exact paw z6 (weak_cutS 11 [43] _))); refine pas [18] ?_; push_cast [iO, tN,  h1, h2]; (focus ((first | ((refine plc [] (hp) ?_ ?_; push_cast [iO, tN,  h1, h2]; rintro r os ⟨rfl, rfl⟩; push_cast [iO, tN,  h1, h2]))); refine pah 19 ?_; push_cast [iO, tN,  h1, h2]; refine pah 20 ?_; push_cast [iO, tN,  h1, h2]; refine paw z6 ?_; refine weak_fg ?_; push_cast [iO, tN,  h1, h2])); push_cast [iO, tN,  h1, h2]; refine pad ?_; push_cast [iO, tN,  h1, h2])
          repeat' (first | ((first | refine pC ?_ | refine pQC ?_ | refine pU ?_); push_cast [iO, tN]) | (refine pif (fun h => ?_) (fun h => ?_) <;> first | exact pN h | push_cast [iO, tN]))
          (refine retK_of [] ?_; push_cast [iO, tN, hR, h1, h2, Option.getD_some, Option.isSome_some])
          all_goals (first | rfl | exact ⟨_, _, leP_refl _, leOs_refl _, rfl, rfl⟩ | simp [h1, h2])
        · repeat' (first |  ((refine plc [] (hf) ?_ ?_; push_cast [iO, tN]; rintro r os ⟨rfl, rfl⟩; push_cast [iO, tN])) | (refine hidR 5 ?_)  | ((first | refine pC ?_ | refine pQC ?_ | refine pU ?_); push_cast [iO, tN]) | (refine pif (fun h => ?_) (fun h => ?_) <;> first | exact pN h | push_cast [iO, tN]))
          refine unhid ?_
          (refine pwp_cut 11 [43] ?_; refine pwp_drawn (by kernel_rfl) ?_; simp only [List.length_cons, List.length_nil, Nat.reduceAdd]; refine pah 0 ?_; push_cast [iO, tN,  h1, h2]; refine pah 1 ?_; push_cast [iO, tN,  h1, h2]; refine pah 2 ?_; push_cast [iO, tN,  h1, h2]; refine pah 3 ?_; push_cast [iO, tN,  h1, h2]; refine pah 4 ?_; push_cast [iO, tN,  h1, h2]; refine pah 5 ?_; push_cast [iO, tN,  h1, h2]; refine pah 7 ?_; push_cast [iO, tN,  h1, h2]; apply pa_hav; intro z6; apply pa_hav; intro z4; apply pa_hav; intro z5; apply pa_hav; intro z2; apply pa_hav; intro z3; apply pa_hav; intro z1; refine pas [6] ?_; push_cast [iO, tN,  h1, h2]; (focus (refine pah 8 ?_; push_cast [iO, tN,  h1, h2]; refine pah 9 ?_; push_cast [iO, tN,  h1, h2]; refine pah 10 ?_; push_cast [iO, tN,  h1, h2]; refine pah 11 ?_; push_cast [iO, tN,  h1, h2]; refine pah 12 ?_; push_cast [iO, tN,  h1, h2]; refine pah 13 ?_; push_cast [iO, tN,  h1, h2]; refine pah 14 ?_; push_cast [iO, tN,  h1, h2]; refine pah 17 ?_; push_cast [iO, tN,  h1, h2]; exact z1)); refine pas [15, 16] ?_; push_cast [iO, tN,  h1, h2]; refine ⟨z2, z3⟩; refine pas [15, 18] ?_; push_cast [iO, tN,  h1, h2]; refine ⟨?_, ?_⟩; (focus (exact z4)); (focus ((first | ((refine plc [] (hp) ?_ ?_; push_cast [iO, tN,  h1, h2]; rintro r os ⟨rfl, rfl⟩; push_cast [iO, tN,  h1, h2]))); exact z5)); refine pas [16] ?_; push_cast [iO, tN,  h1, h2]; refine paw z4 ?_ <;> (refine weak_fg ?_; push_cast [iO, tN,  h1, h2]); refine pas [15] ?_; push_cast [iO, tN,  h1, h2]; (focus (refine pah 19 ?_; push_cast [iO, tN,  h1, h2]; refine pah 20 ?_; push_cast [iO, tN,  h1, h2]; exact paw z6 (weak_cutS 11 [43] _))); refine pas [18] ?_; push_cast [iO, tN,  h1, h2]; (focus ((first | ((refine plc [] (hp) ?_ ?_; push_cast [iO, tN,  h1, h2]; rintro r os ⟨rfl, rfl⟩; push_cast [iO, tN,  h1, h2]))); refine pah 19 ?_; push_cast [iO, tN,  h1, h2]; refine pah 20 ?_; push_cast [iO, tN,  h1, h2]; refine paw z6 ?_; refine weak_fg ?_; push_cast [iO, tN,  h1, h2])); push_cast [iO, tN,  h1, h2]; refine pad ?_; push_cast [iO, tN,  h1, h2])
          repeat' (first | ((first | refine pC ?_ | refine pQC ?_ | refine pU ?_); push_cast [iO, tN]) | (refine pif (fun h => ?_) (fun h => ?_) <;> first | exact pN h | push_cast [iO, tN]))
          exact ⟨k + 1, ⟨by omega, take_next hlt hpre (by rw [decide_eq_false h2, Bool.and_false])⟩, by (refine weak_fg ?_; push_cast [iO, tN]), by omega⟩
      · repeat' (first |  ((refine plc [] (hf) ?_ ?_; push_cast [iO, tN]; rintro r os ⟨rfl, rfl⟩; push_cast [iO, tN])) | ((refine pwp_cut 11 [43] ?_; apply pwp_drawn_to; (focus kernel_rfl); (focus (simp only [List.length_cons, List.length_nil, Nat.reduceAdd]; (repeat' first | ((refine plc [] (hp) ?_ ?_; push_cast [iO, tN,  h1]; rintro r os ⟨rfl, rfl⟩; push_cast [iO, tN,  h1])) | ((first | refine pah 0 ?_ | refine pah 1 ?_ | refine pah 2 ?_ | refine pah 3 ?_ | refine pah 4 ?_ | refine pah 5 ?_ | refine pah 7 ?_ | refine pah 8 ?_ | refine pah 9 ?_ | refine pah 10 ?_ | refine pah 11 ?_ | refine pah 12 ?_ | refine pah 13 ?_ | refine pah 14 ?_ | refine pah 17 ?_ | refine pah 19 ?_ | refine pah 20 ?_); push_cast [iO, tN,  h1]) | (refine pad ?_; first | with_reducible exact weak_cutS 11 [43] _ | (refine weak_fg ?_; push_cast [iO, tN,  h1])) | ((first | refine pas [6] ?_ | refine pas [15] ?_ | refine pas [16] ?_ | refine pas [18] ?_); push_cast [iO, tN,  h1]) | ((first | refine pas [15, 16] ?_ | refine pas [15, 18] ?_); push_cast [iO, tN,  h1]; refine ⟨?_, ?_⟩)); done)); push_cast [iO, tN,  h1]))  | ((first | refine pC ?_ | refine pQC ?_ | refine pU ?_); push_cast [iO, tN]) | (refine pif (fun h => ?_) (fun h => ?_) <;> first | exact pN h | push_cast [iO, tN]))
        exact ⟨k + 1, ⟨by omega, take_next hlt hpre (by rw [decide_eq_false h1, Bool.false_and])⟩, by (refine weak_fg ?_; push_cast [iO, tN]), by omega⟩
    · rw [List.take_of_length_le (by omega)] at hpre
      have hg : recF rs n p = none := find_no hpre
      rw [hg] at hR
      repeat' (first | ((first | refine pC ?_ | refine pQC ?_ | refine pU ?_); push_cast [iO, tN]) | (refine pif (fun h => ?_) (fun h => ?_) <;> first | exact pN h | push_cast [iO, tN]))
      (refine retK_of [] ?_; push_cast [iO, tN, hR, Option.getD_none, Option.isSome_none])
      repeat' (first | exact rfl | exact leOs_refl _ | exact trivial | refine ⟨?_, ?_⟩)
theorem rtag36_pure (l : List Dev) (rs : List Rec) (n : Int) (tag : ByteArray) (hl : l.length ≤ 1000) (hz : ∀ d ∈ l, d.original.size ≤ 1000) (hrl : rs.length ≤ 1000000) (ht : ∀ r ∈ rs, r.tags.length ≤ 1000000) :
    PCalls Tryz.prog 13 [.agg (trE l), .c (.sl 12 (rs.map Rec.d)), .c (.v (.int .i64 n)), .c (.v (.string tag))] [] fun r os => r = .c (.v (.bool (tagQ l rs n tag))) ∧ os = [] := by
  have hr := rrec36_pure l rs n hl hz hrl
  unfold tagQ
  cases hR : recT l rs n with
  | none =>
    rw [hR] at hr
    simp only [Option.getD_none, Option.isSome_none] at hr
    refine pcalls_of Tryz.func13 rfl (by simp [Tryz.ntmps13]) ?_
    rw [Tryz.ntmps13, Tryz.results13]
    push_cast [iO, tN]
    repeat' (first |  (refine plc [] (hr) ?_ ?_; push_cast [iO, tN]; rintro r os ⟨rfl, rfl⟩; push_cast [iO, tN])  | ((first | refine pG ?_ | refine pQ ?_ | refine pU ?_); push_cast [iO, tN]) | (refine pif (fun h => ?_) (fun h => ?_) <;> first | exact pN h | push_cast [iO, tN]))
    (refine retK_of [] ?_; push_cast [iO, tN])
  | some x =>
    have hx : x ∈ rs := by
      unfold recT at hR
      split at hR
      · exact List.mem_of_find?_eq_some hR
      · cases hR
    rw [hR] at hr
    simp only [Option.getD_some, Option.isSome_some] at hr
    have hi := rin32_pure x.tags tag (by have := ht x hx; omega)
    refine pcalls_of Tryz.func13 rfl (by simp [Tryz.ntmps13]) ?_
    rw [Tryz.ntmps13, Tryz.results13]
    push_cast [iO, tN]
    repeat' (first |  ((refine plc [] (hr) ?_ ?_; push_cast [iO, tN]; rintro r os ⟨rfl, rfl⟩; push_cast [iO, tN])) | ((refine plc [] (hi) ?_ ?_; push_cast [iO, tN]; rintro r os ⟨rfl, rfl⟩; push_cast [iO, tN]))  | ((first | refine pG ?_ | refine pQ ?_ | refine pU ?_); push_cast [iO, tN]) | (refine pif (fun h => ?_) (fun h => ?_) <;> first | exact pN h | push_cast [iO, tN]))
    (refine retK_of [] ?_; push_cast [iO, tN])
end Go.Proofs.YtcnoopjacilceaaGreatDoor
