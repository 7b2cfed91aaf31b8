/- What the program computes, and the plain laws of it, part 33. -/
import Derived.Test.YtcnoopjacilceaaGreatDoorQ32
namespace Go.Proofs.YtcnoopjacilceaaGreatDoor
attribute [local irreducible] PL QL PWPr PCalls Weak RetK Kontr PA
open Go.RowKit
open IntWalk renaming iteOmega → iO, toNatUp → tN
set_option linter.unusedVariables false
set_option linter.unusedSimpArgs false
set_option maxRecDepth 20000
set_option maxHeartbeats 4000000 in
theorem rof36_pure (l : List Dev) (rs : List Rec) (n : Int) (hl : l.length ≤ 1000) (hz : ∀ d ∈ l, d.original.size ≤ 1000) (hr : RecsOk rs) :
    PCalls Tryz.prog 29 [.agg (trE l), .c (.sl 12 (rs.map Rec.d)), .c (.v (.int .i64 n))] [] fun r os => r = .c (.v (.string (seatM l rs n))) ∧ os = [] := by
  have hf := rfind_pure l n (by omega)
  have hc := rchain_pure l n (by omega)
  have hcl := chain_len l n
  unfold seatM
  obtain ⟨ch, hch⟩ : ∃ ch, chainM l n = ch := ⟨_, rfl⟩
  rw [hch] at hc hcl ⊢
  cases hd : findD l n with
  | none =>
    rw [hd] at hf
    simp only [Option.getD_none, Option.isSome_none] at hf
    rw [if_neg (show ¬ (none : Option Dev).isSome = true by simp)]
    refine pcalls_of Tryz.func29 rfl (by simp [Tryz.ntmps29]) ?_
    rw [Tryz.ntmps29, Tryz.results29]
    push_cast [iO, tN]
    repeat' (first |  (refine plc [] (hf) ?_ ?_; push_cast [iO, tN]; rintro r os ⟨rfl, rfl⟩; push_cast [iO, tN])  | ((first | refine pG ?_ | refine pQ ?_ | refine pU ?_); push_cast [iO, tN]) | (refine pif (fun h => ?_) (fun h => ?_) <;> first | exact pN h | push_cast [iO, tN]))
    (refine retK_of [] ?_; push_cast [iO, tN])
  | some d =>
    rw [hd] at hf
    simp only [Option.getD_some, Option.isSome_some] at hf
    rw [if_pos (show (some d).isSome = true from rfl)]
    refine pcalls_of Tryz.func29 rfl (by simp [Tryz.ntmps29]) ?_
    rw [Tryz.ntmps29, Tryz.results29]
    push_cast [iO, tN]
    have cB : CutB 14 [] := trivial
    repeat' (first |  ((refine plc [] (hf) ?_ ?_; push_cast [iO, tN]; rintro r os ⟨rfl, rfl⟩; push_cast [iO, tN])) | ((refine plc [] (hc) ?_ ?_; push_cast [iO, tN]; rintro r os ⟨rfl, rfl⟩; push_cast [iO, tN]))  | ((first | refine pC ?_ | refine pQC ?_ | refine pU ?_); push_cast [iO, tN]) | (refine pif (fun h => ?_) (fun h => ?_) <;> first | exact pN h | push_cast [iO, tN]))
    (apply pwp_loop3 (α := Nat) 14 [] (fun k => [(10, .c (.v (.int .i64 k)))]) (fun k => []) (fun k => k ≤ ch.length ∧ ∀ x ∈ ch.take k, (fun d : Dev => validS (seatV l rs d.index)) x = false) (fun k => ch.length - k) (0); (focus ((try push_cast [iO, tN]); rfl)); (focus exact ⟨Nat.zero_le _, by simp⟩); (focus ((refine weak_fg ?_; try push_cast [iO, tN]))))
    rintro k ⟨hk, hpre⟩
    push_cast [iO, tN]
    by_cases hlt : k < ch.length
    · obtain ⟨m, hm⟩ : ∃ m, (ch.getD k default).index = m := ⟨_, rfl⟩
      have hrec := rrec36_pure l rs m hl hz (by have := hr.len; omega)
      have hgt := rget25_pure ((recT l rs m).getD default) ⟨#[73, 68, 95, 83, 69, 65, 84]⟩ (by have := (recD_props (l := l) (n := m) hr).1; omega)
      have hv := rvalid_pure (seatV l rs m) (by have := seatV_size (l := l) (n := m) hr; omega)
      change PCalls _ _ _ _ fun x os => x = .c (.v (.string (seatV l rs m))) ∧ os = [] at hgt
      have hno := seatV_none (l := l) (rs := rs) (n := m)
      have hat := seatL_at (l := l) (rs := rs) hlt hpre
      have hnx := fun h => take_next (q := fun d : Dev => validS (seatV l rs d.index)) hlt hpre h
      simp only [hm] at hat hnx
      obtain ⟨v, hvv⟩ : ∃ v, seatV l rs m = v := ⟨_, rfl⟩
      rw [hvv] at hgt hv hno hat hnx
      cases hb : validS v with
      | true =>
        cases hR : recT l rs m with
        | none => rw [hno hR] at hb; cases hb
        | some x =>
          rw [hR] at hrec hgt
          rw [hb] at hv
          simp only [Option.getD_some, Option.isSome_some] at hrec hgt
          have hs := hat hb
          repeat' (first |  ((refine pwp_cut 14 [] ?_; apply pwp_drawn_to; (focus kernel_rfl); (focus (simp only [List.length_cons, List.length_nil, Nat.reduceAdd]; (repeat' first | ((refine plc [] (hrec) ?_ ?_; push_cast [iO, tN,  hm]; rintro r os ⟨rfl, rfl⟩; push_cast [iO, tN,  hm])) | ((first | refine pah 1 ?_ | refine pah 2 ?_ | refine pah 3 ?_ | refine pah 4 ?_ | refine pah 5 ?_ | refine pah 8 ?_ | refine pah 9 ?_ | refine pah 10 ?_ | refine pah 13 ?_); push_cast [iO, tN,  hm]) | (refine pad ?_; first | with_reducible exact weak_cutS 14 [] _ | (refine weak_fg ?_; push_cast [iO, tN,  hm])) | ((first | refine pas [0] ?_ | refine pas [6] ?_ | refine pas [7] ?_ | refine pas [11] ?_ | refine pas [12] ?_); push_cast [iO, tN,  hm]) | ((first | refine pas [0, 6] ?_ | refine pas [0, 11] ?_ | refine pas [6, 11] ?_ | refine pas [7, 11] ?_); push_cast [iO, tN,  hm]; refine ⟨?_, ?_⟩) | ((first | refine pas [0, 6, 11] ?_); push_cast [iO, tN,  hm]; refine ⟨?_, ?_, ?_⟩)); done)); push_cast [iO, tN,  hm])) | ((refine plc [] (hgt) ?_ ?_; push_cast [iO, tN]; rintro r os ⟨rfl, rfl⟩; push_cast [iO, tN])) | ((refine plc [] (hv) ?_ ?_; push_cast [iO, tN]; rintro r os ⟨rfl, rfl⟩; push_cast [iO, tN]))  | ((first | refine pC ?_ | refine pQC ?_ | refine pU ?_); push_cast [iO, tN]) | (refine pif (fun h => ?_) (fun h => ?_) <;> first | exact pN h | push_cast [iO, tN]))
          (refine retK_of [] ?_; push_cast [iO, tN, hs])
      | false =>
        have hnx := hnx hb
        cases hR : recT l rs m with
        | none =>
          rw [hR] at hrec hgt
          rw [hb] at hv
          simp only [Option.getD_none, Option.isSome_none] at hrec hgt
          repeat' (first |  ((refine pwp_cut 14 [] ?_; apply pwp_drawn_to; (focus kernel_rfl); (focus (simp only [List.length_cons, List.length_nil, Nat.reduceAdd]; (repeat' first | ((refine plc [] (hrec) ?_ ?_; push_cast [iO, tN,  hm]; rintro r os ⟨rfl, rfl⟩; push_cast [iO, tN,  hm])) | ((first | refine pah 1 ?_ | refine pah 2 ?_ | refine pah 3 ?_ | refine pah 4 ?_ | refine pah 5 ?_ | refine pah 8 ?_ | refine pah 9 ?_ | refine pah 10 ?_ | refine pah 13 ?_); push_cast [iO, tN,  hm]) | (refine pad ?_; first | with_reducible exact weak_cutS 14 [] _ | (refine weak_fg ?_; push_cast [iO, tN,  hm])) | ((first | refine pas [0] ?_ | refine pas [6] ?_ | refine pas [7] ?_ | refine pas [11] ?_ | refine pas [12] ?_); push_cast [iO, tN,  hm]) | ((first | refine pas [0, 6] ?_ | refine pas [0, 11] ?_ | refine pas [6, 11] ?_ | refine pas [7, 11] ?_); push_cast [iO, tN,  hm]; refine ⟨?_, ?_⟩) | ((first | refine pas [0, 6, 11] ?_); push_cast [iO, tN,  hm]; refine ⟨?_, ?_, ?_⟩)); done)); push_cast [iO, tN,  hm])) | ((refine plc [] (hgt) ?_ ?_; push_cast [iO, tN]; rintro r os ⟨rfl, rfl⟩; push_cast [iO, tN])) | ((refine plc [] (hv) ?_ ?_; push_cast [iO, tN]; rintro r os ⟨rfl, rfl⟩; push_cast [iO, tN]))  | ((first | refine pC ?_ | refine pQC ?_ | refine pU ?_); push_cast [iO, tN]) | (refine pif (fun h => ?_) (fun h => ?_) <;> first | exact pN h | push_cast [iO, tN]))
          exact ⟨k + 1, ⟨by omega, hnx⟩, by (refine weak_fg ?_; push_cast [iO, tN]), by omega⟩
        | some x =>
          rw [hR] at hrec hgt
          rw [hb] at hv
          simp only [Option.getD_some, Option.isSome_some] at hrec hgt
          repeat' (first |  ((refine pwp_cut 14 [] ?_; apply pwp_drawn_to; (focus kernel_rfl); (focus (simp only [List.length_cons, List.length_nil, Nat.reduceAdd]; (repeat' first | ((refine plc [] (hrec) ?_ ?_; push_cast [iO, tN,  hm]; rintro r os ⟨rfl, rfl⟩; push_cast [iO, tN,  hm])) | ((first | refine pah 1 ?_ | refine pah 2 ?_ | refine pah 3 ?_ | refine pah 4 ?_ | refine pah 5 ?_ | refine pah 8 ?_ | refine pah 9 ?_ | refine pah 10 ?_ | refine pah 13 ?_); push_cast [iO, tN,  hm]) | (refine pad ?_; first | with_reducible exact weak_cutS 14 [] _ | (refine weak_fg ?_; push_cast [iO, tN,  hm])) | ((first | refine pas [0] ?_ | refine pas [6] ?_ | refine pas [7] ?_ | refine pas [11] ?_ | refine pas [12] ?_); push_cast [iO, tN,  hm]) | ((first | refine pas [0, 6] ?_ | refine pas [0, 11] ?_ | refine pas [6, 11] ?_ | refine pas [7, 11] ?_); push_cast [iO, tN,  hm]; refine ⟨?_, ?_⟩) | ((first | refine pas [0, 6, 11] ?_); push_cast [iO, tN,  hm]; refine ⟨?_, ?_, ?_⟩)); done)); push_cast [iO, tN,  hm])) | ((refine plc [] (hgt) ?_ ?_; push_cast [iO, tN]; rintro r os ⟨rfl, rfl⟩; push_cast [iO, tN])) | ((refine plc [] (hv) ?_ ?_; push_cast [iO, tN]; rintro r os ⟨rfl, rfl⟩; push_cast [iO, tN]))  | ((first | refine pC ?_ | refine pQC ?_ | refine pU ?_); push_cast [iO, tN]) | (refine pif (fun h => ?_) (fun h => ?_) <;> first | exact pN h | push_cast [iO, tN]))
          exact ⟨k + 1, ⟨by omega, hnx⟩, by (refine weak_fg ?_; push_cast [iO, tN]), by omega⟩
    · rw [List.take_of_length_le (by omega)] at hpre
      have hs := seatL_no hpre
      repeat' (first | ((first | refine pC ?_ | refine pQC ?_ | refine pU ?_); push_cast [iO, tN]) | (refine pif (fun h => ?_) (fun h => ?_) <;> first | exact pN h | push_cast [iO, tN]))
      (refine retK_of [] ?_; push_cast [iO, tN, hs])
end Go.Proofs.YtcnoopjacilceaaGreatDoor
namespace Go.Proofs.YtcnoopjacilceaaGreatDoor
attribute [local irreducible] PL QL PWPr PCalls Weak RetK Kontr PA
open Go.RowKit
open IntWalk renaming iteOmega → iO, toNatUp → tN
set_option linter.unusedVariables false
set_option linter.unusedSimpArgs false
set_option maxRecDepth 20000
def PredRc (P : Program) (g : FuncId) (ks : List Nat) (os : List Ob) (l : List Rec) (q : Rec → Bool) : Prop := bodyOk P g = true ∧ ∀ x ∈ l, PCalls P g (.agg (x.d.map D.e) :: ks.map fun k => .c (.ptr k 0)) os fun r os' => r = .c (.v (.bool (q x))) ∧ os' = os
def idxRc (q : Rec → Bool) (l : List Rec) (k : Int) : Prop := (k = -1 ∧ ∀ x ∈ l, q x = false) ∨ ∃ i : Nat, k = i ∧ i < l.length ∧ q (l.getD i default) = true ∧ ∀ x ∈ l.take i, q x = false
theorem allSomeRc : ∀ ks : List Nat, allSome (ks.map fun k => some (PV.c (.ptr k 0))) (ks.map fun k => PV.c (.ptr k 0))
  | [] => trivial
  | k :: ks => ⟨leP_refl _, allSomeRc ks⟩
theorem indexFuncRc_pure (l : List Rec) (hl : l.length ≤ 1000000000) (g : FuncId) (ks : List Nat) (os : List Ob) (q : Rec → Bool) (hp : PredRc Tryz.prog g ks os l q) :
    PCalls Tryz.prog 57 [.c (.sl 12 (l.map Rec.d)), .c (.fn (.func g) [] ks)] os fun r os' => ∃ k, idxRc q l k ∧ r = .c (.v (.int .i64 k)) ∧ os' = os := by
  refine pcalls_of_all Tryz.func57 rfl (by simp [Tryz.ntmps57]) ?_
  rw [Tryz.ntmps57, Tryz.results57]
  push_cast [iO, tN]
  repeat' (first | ((first | refine pG ?_ | refine pQ ?_ | refine pU ?_); push_cast [iO, tN]) | (refine pif (fun h => ?_) (fun h => ?_) <;> first | exact pN h | push_cast [iO, tN]))
  refine pwp_loop2 (α := Nat) (fun k => k ≤ l.length ∧ ∀ x ∈ l.take k, q x = false) (fun k => ⟨[(8, .c (.v (.int .i64 k))), (7, .c (.v (.int .i64 l.length))), (6, .c (.sl 12 (l.map Rec.d))), (0, .c (.sl 12 (l.map Rec.d))), (1, .c (.fn (.func g) [] ks))], os⟩) (fun k => l.length - k) 0 ⟨by omega, by simp⟩ (weak_slots (by push_cast [iO, tN]) rfl) ?_
  rintro k ⟨hk, hpre⟩
  by_cases hlt : k < l.length
  · have hm : l.getD k default ∈ l := by rw [getD_lt l hlt]; exact List.getElem_mem _
    have hc := hp.2 _ hm
    have hpre2 : q (l.getD k default) = false → ∀ x ∈ l.take (k + 1), q x = false := fun h x hx => by
      rw [List.take_succ_eq_append_getElem hlt] at hx
      rcases List.mem_append.1 hx with hx | hx
      · exact hpre x hx
      · simp at hx; subst hx; rw [← getD_lt l hlt]; exact h
    cases hq : q (l.getD k default)
    all_goals rw [hq] at hc
    all_goals repeat' (first |  (refine pl_call_all rfl (by push_cast [iO, tN]) rfl hp.1 (by push_cast [iO, tN]) ?_ hc ?_; (focus (unfold callArgs; push_cast [iO, tN]; exact allSomeRc ks)); rintro r os ⟨rfl, rfl⟩; refine pl_of_pops ?_; push_cast [iO, tN])  | ((first | refine pG ?_ | refine pQ ?_ | refine pU ?_); push_cast [iO, tN]) | (refine pif (fun h => ?_) (fun h => ?_) <;> first | exact pN h | push_cast [iO, tN]))
    · exact ⟨k + 1, ⟨by omega, hpre2 hq⟩, weak_slots (by push_cast [iO, tN]) rfl, by omega⟩
    · exact ⟨_, rfl, by push_cast [iO, tN], k, .inr ⟨k, rfl, hlt, hq, hpre⟩, rfl, rfl⟩
  · rw [List.take_of_length_le (by omega)] at hpre
    repeat' (first | ((first | refine pG ?_ | refine pQ ?_ | refine pU ?_); push_cast [iO, tN]) | (refine pif (fun h => ?_) (fun h => ?_) <;> first | exact pN h | push_cast [iO, tN]))
    exact ⟨_, rfl, by push_cast [iO, tN], -1, .inl ⟨rfl, hpre⟩, rfl, rfl⟩
end Go.Proofs.YtcnoopjacilceaaGreatDoor
namespace Go.Proofs.YtcnoopjacilceaaGreatDoor
attribute [local irreducible] PL QL PWPr PCalls Weak RetK Kontr PA
open Go.RowKit
open IntWalk renaming iteOmega → iO, toNatUp → tN
set_option linter.unusedVariables false
set_option linter.unusedSimpArgs false
set_option maxRecDepth 20000
def PredSe (P : Program) (g : FuncId) (ks : List Nat) (os : List Ob) (l : List Ses) (q : Ses → Bool) : Prop := bodyOk P g = true ∧ ∀ x ∈ l, PCalls P g (.agg (x.d.map D.e) :: ks.map fun k => .c (.ptr k 0)) os fun r os' => r = .c (.v (.bool (q x))) ∧ os' = os
def idxSe (q : Ses → Bool) (l : List Ses) (k : Int) : Prop := (k = -1 ∧ ∀ x ∈ l, q x = false) ∨ ∃ i : Nat, k = i ∧ i < l.length ∧ q (l.getD i default) = true ∧ ∀ x ∈ l.take i, q x = false
theorem allSomeSe : ∀ ks : List Nat, allSome (ks.map fun k => some (PV.c (.ptr k 0))) (ks.map fun k => PV.c (.ptr k 0))
  | [] => trivial
  | k :: ks => ⟨leP_refl _, allSomeSe ks⟩
theorem indexFuncSe_pure (l : List Ses) (hl : l.length ≤ 1000000000) (g : FuncId) (ks : List Nat) (os : List Ob) (q : Ses → Bool) (hp : PredSe Tryz.prog g ks os l q) :
    PCalls Tryz.prog 78 [.c (.sl 4 (l.map Ses.d)), .c (.fn (.func g) [] ks)] os fun r os' => ∃ k, idxSe q l k ∧ r = .c (.v (.int .i64 k)) ∧ os' = os := by
  refine pcalls_of_all Tryz.func78 rfl (by simp [Tryz.ntmps78]) ?_
  rw [Tryz.ntmps78, Tryz.results78]
  push_cast [iO, tN]
  repeat' (first | ((first | refine pG ?_ | refine pQ ?_ | refine pU ?_); push_cast [iO, tN]) | (refine pif (fun h => ?_) (fun h => ?_) <;> first | exact pN h | push_cast [iO, tN]))
  refine pwp_loop2 (α := Nat) (fun k => k ≤ l.length ∧ ∀ x ∈ l.take k, q x = false) (fun k => ⟨[(8, .c (.v (.int .i64 k))), (7, .c (.v (.int .i64 l.length))), (6, .c (.sl 4 (l.map Ses.d))), (0, .c (.sl 4 (l.map Ses.d))), (1, .c (.fn (.func g) [] ks))], os⟩) (fun k => l.length - k) 0 ⟨by omega, by simp⟩ (weak_slots (by push_cast [iO, tN]) rfl) ?_
  rintro k ⟨hk, hpre⟩
  by_cases hlt : k < l.length
  · have hm : l.getD k default ∈ l := by rw [getD_lt l hlt]; exact List.getElem_mem _
    have hc := hp.2 _ hm
    have hpre2 : q (l.getD k default) = false → ∀ x ∈ l.take (k + 1), q x = false := fun h x hx => by
      rw [List.take_succ_eq_append_getElem hlt] at hx
      rcases List.mem_append.1 hx with hx | hx
      · exact hpre x hx
      · simp at hx; subst hx; rw [← getD_lt l hlt]; exact h
    cases hq : q (l.getD k default)
    all_goals rw [hq] at hc
    all_goals repeat' (first |  (refine pl_call_all rfl (by push_cast [iO, tN]) rfl hp.1 (by push_cast [iO, tN]) ?_ hc ?_; (focus (unfold callArgs; push_cast [iO, tN]; exact allSomeSe ks)); rintro r os ⟨rfl, rfl⟩; refine pl_of_pops ?_; push_cast [iO, tN])  | ((first | refine pG ?_ | refine pQ ?_ | refine pU ?_); push_cast [iO, tN]) | (refine pif (fun h => ?_) (fun h => ?_) <;> first | exact pN h | push_cast [iO, tN]))
    · exact ⟨k + 1, ⟨by omega, hpre2 hq⟩, weak_slots (by push_cast [iO, tN]) rfl, by omega⟩
    · exact ⟨_, rfl, by push_cast [iO, tN], k, .inr ⟨k, rfl, hlt, hq, hpre⟩, rfl, rfl⟩
  · rw [List.take_of_length_le (by omega)] at hpre
    repeat' (first | ((first | refine pG ?_ | refine pQ ?_ | refine pU ?_); push_cast [iO, tN]) | (refine pif (fun h => ?_) (fun h => ?_) <;> first | exact pN h | push_cast [iO, tN]))
    exact ⟨_, rfl, by push_cast [iO, tN], -1, .inl ⟨rfl, hpre⟩, rfl, rfl⟩
end Go.Proofs.YtcnoopjacilceaaGreatDoor
