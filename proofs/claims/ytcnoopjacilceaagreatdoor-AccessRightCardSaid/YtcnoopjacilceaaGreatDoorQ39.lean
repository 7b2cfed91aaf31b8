/- What the program computes, and the plain laws of it, part 39. -/
import Derived.Test.YtcnoopjacilceaaGreatDoorQ25
namespace Go.Proofs.YtcnoopjacilceaaGreatDoor
attribute [local irreducible] PL QL PWPr PCalls Weak RetK Kontr PA
open Go.RowKit
open IntWalk renaming iteOmega → iO, toNatUp → tN
set_option linter.unusedVariables false
set_option linter.unusedSimpArgs false
set_option maxRecDepth 20000
def PredA (P : Program) (g : FuncId) (ks : List Nat) (os : List Ob) (l : List Acc) (q : Acc → Bool) : Prop := bodyOk P g = true ∧ ∀ x ∈ l, PCalls P g (.agg x.e :: ks.map fun k => .c (.ptr k 0)) os fun r os' => r = .c (.v (.bool (q x))) ∧ os' = os
def idxA (q : Acc → Bool) (l : List Acc) (k : Int) : Prop := (k = -1 ∧ ∀ x ∈ l, q x = false) ∨ ∃ i : Nat, k = i ∧ i < l.length ∧ q (l.getD i default) = true ∧ ∀ x ∈ l.take i, q x = false
theorem allSomeA : ∀ ks : List Nat, allSome (ks.map fun k => some (PV.c (.ptr k 0))) (ks.map fun k => PV.c (.ptr k 0))
  | [] => trivial
  | k :: ks => ⟨leP_refl _, allSomeA ks⟩
theorem indexFuncA_pure (l : List Acc) (hl : l.length ≤ 1000000000) (g : FuncId) (ks : List Nat) (os : List Ob) (q : Acc → Bool) (hp : PredA Tryz.prog g ks os l q) :
    PCalls Tryz.prog 102 [.c (.sl 3 (l.map Acc.d)), .c (.fn (.func g) [] ks)] os fun r os' => ∃ k, idxA q l k ∧ r = .c (.v (.int .i64 k)) ∧ os' = os := by
  refine pcalls_of_all Tryz.func102 rfl (by simp [Tryz.ntmps102]) ?_
  rw [Tryz.ntmps102, Tryz.results102]
  push_cast [iO, tN]
  repeat' (first | ((first | refine pG ?_ | refine pQ ?_ | refine pU ?_); push_cast [iO, tN]) | (refine pif (fun h => ?_) (fun h => ?_) <;> first | exact pN h | push_cast [iO, tN]))
  refine pwp_loop2 (α := Nat) (fun k => k ≤ l.length ∧ ∀ x ∈ l.take k, q x = false) (fun k => ⟨[(8, .c (.v (.int .i64 k))), (7, .c (.v (.int .i64 l.length))), (6, .c (.sl 3 (l.map Acc.d))), (0, .c (.sl 3 (l.map Acc.d))), (1, .c (.fn (.func g) [] ks))], os⟩) (fun k => l.length - k) 0 ⟨by omega, by simp⟩ (weak_slots (by push_cast [iO, tN]) rfl) ?_
  rintro k ⟨hk, hpre⟩
  by_cases hlt : k < l.length
  · have hm : l.getD k default ∈ l := by rw [getD_lt l hlt]; exact List.getElem_mem _
    have hc := hp.2 _ hm
    have hpre2 : q (l.getD k default) = false → ∀ x ∈ l.take (k + 1), q x = false := fun h x hx => by
      rw [List.take_succ_eq_append_getElem hlt] at hx
      rcases List.mem_append.1 hx with hx | hx
      · exact hpre x hx
      · simp at hx; subst hx; rw [← getD_lt l hlt]; exact h
    cases hq : q (l.getD k default)
    all_goals rw [hq] at hc
    all_goals repeat' (first |  (refine pl_call_all rfl (by push_cast [iO, tN]) rfl hp.1 (by push_cast [iO, tN]) ?_ hc ?_; (focus (unfold callArgs; push_cast [iO, tN]; exact allSomeA ks)); rintro r os ⟨rfl, rfl⟩; refine pl_of_pops ?_; push_cast [iO, tN])  | ((first | refine pG ?_ | refine pQ ?_ | refine pU ?_); push_cast [iO, tN]) | (refine pif (fun h => ?_) (fun h => ?_) <;> first | exact pN h | push_cast [iO, tN]))
    · exact ⟨k + 1, ⟨by omega, hpre2 hq⟩, weak_slots (by push_cast [iO, tN]) rfl, by omega⟩
    · exact ⟨_, rfl, by push_cast [iO, tN], k, .inr ⟨k, rfl, hlt, hq, hpre⟩, rfl, rfl⟩
  · rw [List.take_of_length_le (by omega)] at hpre
    repeat' (first | ((first | refine pG ?_ | refine pQ ?_ | refine pU ?_); push_cast [iO, tN]) | (refine pif (fun h => ?_) (fun h => ?_) <;> first | exact pN h | push_cast [iO, tN]))
    exact ⟨_, rfl, by push_cast [iO, tN], -1, .inl ⟨rfl, hpre⟩, rfl, rfl⟩
theorem containsFuncA_pure (l : List Acc) (hl : l.length ≤ 1000000000) (g : FuncId) (ks : List Nat) (os : List Ob) (q : Acc → Bool) (hp : PredA Tryz.prog g ks os l q) :
    PCalls Tryz.prog 71 [.c (.sl 3 (l.map Acc.d)), .c (.fn (.func g) [] ks)] os fun r os' => r = .c (.v (.bool (l.any q))) ∧ os' = os := by
  refine pcalls_of_all Tryz.func71 rfl (by simp [Tryz.ntmps71]) ?_
  rw [Tryz.ntmps71, Tryz.results71]
  push_cast [iO, tN]
  repeat' (first |  (refine pl_call_all rfl (by push_cast [iO, tN]) rfl (by kernel_rfl) (by push_cast [iO, tN]) ?_ (indexFuncA_pure l hl g ks os q hp) ?_; (focus (unfold callArgs; push_cast [iO, tN])); rintro r os ⟨k, hk, rfl, rfl⟩; refine pl_of_pops ?_; push_cast [iO, tN])  | ((first | refine pG ?_ | refine pQ ?_ | refine pU ?_); push_cast [iO, tN]) | (refine pif (fun h => ?_) (fun h => ?_) <;> first | exact pN h | push_cast [iO, tN]))
  refine ⟨_, rfl, by push_cast [iO, tN], ?_, rfl⟩
  rcases hk with ⟨rfl, h⟩ | ⟨i, rfl, hi, hq, _⟩
  · have : l.any q = false := by rw [List.any_eq_false]; intro x hx; simp [h x hx]
    rw [this]; rfl
  · have : l.any q = true := List.any_eq_true.2 ⟨l.getD i default, by rw [getD_lt l hi]; exact List.getElem_mem _, hq⟩
    rw [this]; simp
end Go.Proofs.YtcnoopjacilceaaGreatDoor
namespace Go.Proofs.YtcnoopjacilceaaGreatDoor
open Go.RowKit
open IntWalk renaming iteOmega → iO, toNatUp → tN
set_option linter.unusedVariables false
set_option linter.unusedSimpArgs false
theorem rest_trim (s : ByteArray) : (⟨(Lib.trimPrefix s.data.toList [47]).toArray⟩ : ByteArray) = restS s := by
  unfold restS slashS Lib.trimPrefix
  split
  · have e := Lib.extract_to_end s 1
    generalize s.extract 1 s.size = t at e
    cases t
    simp only at e
    congr
    rw [show ([47] : List UInt8).length = 1 from rfl, ← e]
  · rfl
theorem cutp_pure (s : ByteArray) : PCalls Tryz.prog 103 [.c (.v (.string s)), .c (.v (.string ⟨#[47]⟩))] [] fun r os => r = .two (.c (.v (.string (restS s)))) (.c (.v (.bool (slashS s)))) ∧ os = [] :=
  pcalls_plain2 [.string s, .string ⟨#[47]⟩] _ _ rfl rfl fun w _ => (strings_CutPrefix s ⟨#[47]⟩ w).mono fun e w' ⟨he, hw⟩ => by
    rw [he, hw]
    refine ⟨?_, Below.refl _ _⟩
    show Ending.returned (.tuple #[.string ⟨(Lib.trimPrefix s.data.toList [47]).toArray⟩, .bool (Lib.hasPrefix s.data.toList [47])]) = _
    rw [rest_trim]; rfl
end Go.Proofs.YtcnoopjacilceaaGreatDoor
namespace Go.Proofs.YtcnoopjacilceaaGreatDoor
attribute [local irreducible] PL QL PWPr PCalls Weak RetK Kontr PA
open Go.RowKit
open IntWalk renaming iteOmega → iO, toNatUp → tN
set_option linter.unusedVariables false
set_option linter.unusedSimpArgs false
set_option maxRecDepth 20000
def PredS (P : Program) (g : FuncId) (ks : List Nat) (os : List Ob) (l : List ByteArray) (q : ByteArray → Bool) : Prop := bodyOk P g = true ∧ ∀ x ∈ l, PCalls P g (.c (.v (.string x)) :: ks.map fun k => .c (.ptr k 0)) os fun r os' => r = .c (.v (.bool (q x))) ∧ os' = os
def idxS (q : ByteArray → Bool) (l : List ByteArray) (k : Int) : Prop := (k = -1 ∧ ∀ x ∈ l, q x = false) ∨ ∃ i : Nat, k = i ∧ i < l.length ∧ q (l.getD i default) = true ∧ ∀ x ∈ l.take i, q x = false
theorem allSomeS : ∀ ks : List Nat, allSome (ks.map fun k => some (PV.c (.ptr k 0))) (ks.map fun k => PV.c (.ptr k 0))
  | [] => trivial
  | k :: ks => ⟨leP_refl _, allSomeS ks⟩
theorem indexFuncS_pure (l : List ByteArray) (hl : l.length ≤ 1000000000) (g : FuncId) (ks : List Nat) (os : List Ob) (q : ByteArray → Bool) (hp : PredS Tryz.prog g ks os l q) :
    PCalls Tryz.prog 150 [.c (.sl 1 (l.map strD)), .c (.fn (.func g) [] ks)] os fun r os' => ∃ k, idxS q l k ∧ r = .c (.v (.int .i64 k)) ∧ os' = os := by
  refine pcalls_of_all Tryz.func150 rfl (by simp [Tryz.ntmps150]) ?_
  rw [Tryz.ntmps150, Tryz.results150]
  push_cast [iO, tN]
  repeat' (first | ((first | refine pG ?_ | refine pQ ?_ | refine pU ?_); push_cast [iO, tN]) | (refine pif (fun h => ?_) (fun h => ?_) <;> first | exact pN h | push_cast [iO, tN]))
  refine pwp_loop2 (α := Nat) (fun k => k ≤ l.length ∧ ∀ x ∈ l.take k, q x = false) (fun k => ⟨[(8, .c (.v (.int .i64 k))), (7, .c (.v (.int .i64 l.length))), (6, .c (.sl 1 (l.map strD))), (0, .c (.sl 1 (l.map strD))), (1, .c (.fn (.func g) [] ks))], os⟩) (fun k => l.length - k) 0 ⟨by omega, by simp⟩ (weak_slots (by push_cast [iO, tN]) rfl) ?_
  rintro k ⟨hk, hpre⟩
  by_cases hlt : k < l.length
  · have hm : l.getD k default ∈ l := by rw [getD_lt l hlt]; exact List.getElem_mem _
    have hc := hp.2 _ hm
    have hpre2 : q (l.getD k default) = false → ∀ x ∈ l.take (k + 1), q x = false := fun h x hx => by
      rw [List.take_succ_eq_append_getElem hlt] at hx
      rcases List.mem_append.1 hx with hx | hx
      · exact hpre x hx
      · simp at hx; subst hx; rw [← getD_lt l hlt]; exact h
    cases hq : q (l.getD k default)
    all_goals rw [hq] at hc
    all_goals repeat' (first |  (refine pl_call_all rfl (by push_cast [iO, tN]) rfl hp.1 (by push_cast [iO, tN]) ?_ hc ?_; (focus (unfold callArgs; push_cast [iO, tN]; exact allSomeS ks)); rintro r os ⟨rfl, rfl⟩; refine pl_of_pops ?_; push_cast [iO, tN])  | ((first | refine pG ?_ | refine pQ ?_ | refine pU ?_); push_cast [iO, tN]) | (refine pif (fun h => ?_) (fun h => ?_) <;> first | exact pN h | push_cast [iO, tN]))
    · exact ⟨k + 1, ⟨by omega, hpre2 hq⟩, weak_slots (by push_cast [iO, tN]) rfl, by omega⟩
    · exact ⟨_, rfl, by push_cast [iO, tN], k, .inr ⟨k, rfl, hlt, hq, hpre⟩, rfl, rfl⟩
  · rw [List.take_of_length_le (by omega)] at hpre
    repeat' (first | ((first | refine pG ?_ | refine pQ ?_ | refine pU ?_); push_cast [iO, tN]) | (refine pif (fun h => ?_) (fun h => ?_) <;> first | exact pN h | push_cast [iO, tN]))
    exact ⟨_, rfl, by push_cast [iO, tN], -1, .inl ⟨rfl, hpre⟩, rfl, rfl⟩
theorem containsFuncS_pure (l : List ByteArray) (hl : l.length ≤ 1000000000) (g : FuncId) (ks : List Nat) (os : List Ob) (q : ByteArray → Bool) (hp : PredS Tryz.prog g ks os l q) :
    PCalls Tryz.prog 129 [.c (.sl 1 (l.map strD)), .c (.fn (.func g) [] ks)] os fun r os' => r = .c (.v (.bool (l.any q))) ∧ os' = os := by
  refine pcalls_of_all Tryz.func129 rfl (by simp [Tryz.ntmps129]) ?_
  rw [Tryz.ntmps129, Tryz.results129]
  push_cast [iO, tN]
  repeat' (first |  (refine pl_call_all rfl (by push_cast [iO, tN]) rfl (by kernel_rfl) (by push_cast [iO, tN]) ?_ (indexFuncS_pure l hl g ks os q hp) ?_; (focus (unfold callArgs; push_cast [iO, tN])); rintro r os ⟨k, hk, rfl, rfl⟩; refine pl_of_pops ?_; push_cast [iO, tN])  | ((first | refine pG ?_ | refine pQ ?_ | refine pU ?_); push_cast [iO, tN]) | (refine pif (fun h => ?_) (fun h => ?_) <;> first | exact pN h | push_cast [iO, tN]))
  refine ⟨_, rfl, by push_cast [iO, tN], ?_, rfl⟩
  rcases hk with ⟨rfl, h⟩ | ⟨i, rfl, hi, hq, _⟩
  · have : l.any q = false := by rw [List.any_eq_false]; intro x hx; simp [h x hx]
    rw [this]; rfl
  · have : l.any q = true := List.any_eq_true.2 ⟨l.getD i default, by rw [getD_lt l hi]; exact List.getElem_mem _, hq⟩
    rw [this]; simp
end Go.Proofs.YtcnoopjacilceaaGreatDoor
namespace Go.Proofs.YtcnoopjacilceaaGreatDoor
attribute [local irreducible] PL QL PWPr PCalls Weak RetK Kontr PA
open Go.RowKit
open IntWalk renaming iteOmega → iO, toNatUp → tN
set_option linter.unusedVariables false
set_option linter.unusedSimpArgs false
set_option maxRecDepth 20000
set_option maxHeartbeats 1000000 in
theorem allF_pure (x : ByteArray) (hx : x.size ≤ 9223372036854775807) :
    PCalls Tryz.prog 130 [.c (.v (.string x)), .c (.ptr 0 0)] [.box 85 [.fn (.func 42) [] []]] fun r os => r = .c (.v (.bool (!validS x))) ∧ os = [.box 85 [.fn (.func 42) [] []]] := by
  refine pcalls_of Tryz.func130 rfl (by simp [Tryz.ntmps130]) ?_
  rw [Tryz.ntmps130, Tryz.results130]
  push_cast [iO, tN]
  repeat' (first |  (refine plc [] (valid_pure x hx) ?_ ?_; push_cast [iO, tN]; rintro r os ⟨rfl, rfl⟩; push_cast [iO, tN])  | ((first | refine pG ?_ | refine pQ ?_ | refine pU ?_); push_cast [iO, tN]) | (refine pif (fun h => ?_) (fun h => ?_) <;> first | exact pN h | push_cast [iO, tN]))
  (refine retK_of [0] ?_; push_cast [iO, tN])
set_option maxHeartbeats 1000000 in
theorem all_pure (l : List ByteArray) (hl : l.length ≤ 1000000000) (hz : ∀ x ∈ l, x.size ≤ 9223372036854775807) :
    PCalls Tryz.prog 104 [.c (.sl 1 (l.map strD)), .c (.fn (.func 42) [] [])] [] fun r os => r = .c (.v (.bool (l.all validS))) ∧ os = [] := by
  have hc := containsFuncS_pure l hl 130 [0] [.box 85 [.fn (.func 42) [] []]] (fun x => !validS x) ⟨by kernel_rfl, fun x hx => allF_pure x (hz x hx)⟩
  have e : (!(l.any fun x => !validS x)) = l.all validS := by rw [List.all_eq_not_any_not]
  refine pcalls_of Tryz.func104 rfl (by simp [Tryz.ntmps104]) ?_
  rw [Tryz.ntmps104, Tryz.results104]
  push_cast [iO, tN]
  repeat' (first |  (refine plc [0] (hc) ?_ ?_; push_cast [iO, tN]; rintro r os ⟨rfl, rfl⟩; push_cast [iO, tN])  | ((first | refine pG ?_ | refine pQ ?_ | refine pU ?_); push_cast [iO, tN]) | (refine pif (fun h => ?_) (fun h => ?_) <;> first | exact pN h | push_cast [iO, tN]))
  (refine retK_of [] ?_; push_cast [iO, tN, e])
theorem extract_size (s : ByteArray) : (s.extract 1 s.size).size = s.size - 1 := by
  have h := congrArg List.length (Lib.extract_to_end s 1)
  rw [List.length_drop] at h
  exact h
theorem rest_size (s : ByteArray) : (restS s).size ≤ s.size := by
  unfold restS
  split
  · rw [extract_size]; omega
  · exact Nat.le_refl _
theorem spl_mem : ∀ {l x : List UInt8}, x ∈ spl l → x.length ≤ l.length
  | [], x, h => by simp [spl] at h; subst h; simp
  | b :: l, x, h => by
    rw [spl] at h
    split at h
    · rcases List.mem_cons.1 h with rfl | h
      · simp
      · have := spl_mem h; simp only [List.length_cons]; omega
    · split at h
      · rename_i e; simp at h; subst h; simp
      · rename_i y t e
        have hy : y ∈ spl l := by rw [e]; simp
        rcases List.mem_cons.1 h with rfl | h
        · have := spl_mem hy; simp only [List.length_cons]; omega
        · have hx : x ∈ spl l := by rw [e]; simp [h]
          have := spl_mem hx; simp only [List.length_cons]; omega
theorem parts_mem {s x : ByteArray} (h : x ∈ parts s) : x.size ≤ s.size := by
  unfold parts at h
  obtain ⟨y, hy, rfl⟩ := List.mem_map.1 h
  have := spl_mem hy
  exact this
def splitR : Option (List ByteArray) → PV
  | some l => .two (.c (.sl 1 (l.map strD))) (.c (.v (.int .i64 0)))
  | none => .two (.c (.v (.slice none 0 0))) (.c (.v (.int .i64 10)))
attribute [push_cast] splitR
set_option maxHeartbeats 1000000 in
theorem nsplit_pure (s : ByteArray) (hs : s.size ≤ 100000000) :
    PCalls Tryz.prog 73 [.c (.v (.string s))] [] fun r os => r = splitR (splitP s) ∧ os = [] := by
  have hrs := rest_size s
  have hps := parts_size (s := restS s)
  have hsp := split_pure (restS s) (by omega)
  have hpm := fun x hx => parts_mem (s := restS s) (x := x) hx
  unfold splitP
  obtain ⟨l, hl⟩ : ∃ l, parts (restS s) = l := ⟨_, rfl⟩
  rw [hl] at hps hsp ⊢
  simp only [hl] at hpm
  have hal := all_pure l (by omega) (fun x hx => by have := hpm x hx; omega)
  have htk := List.take_of_length_le (l := l.map strD) (i := l.length) (by simp)
  refine pcalls_of Tryz.func73 rfl (by simp [Tryz.ntmps73]) ?_
  rw [Tryz.ntmps73, Tryz.results73]
  have hcp := cutp_pure s
  obtain ⟨b, hb⟩ : ∃ b, slashS s = b := ⟨_, rfl⟩
  obtain ⟨c, hc⟩ : ∃ c, l.all validS = c := ⟨_, rfl⟩
  rw [hb] at hcp ⊢
  rw [hc] at hal ⊢
  cases b <;> cases c
  all_goals push_cast [iO, tN]
  all_goals repeat' (first |  (refine plc [] (hcp) ?_ ?_; push_cast [iO, tN]; rintro r os ⟨rfl, rfl⟩; push_cast [iO, tN]) | (refine plc [] (hsp) ?_ ?_; push_cast [iO, tN]; rintro r os ⟨rfl, rfl⟩; push_cast [iO, tN]) | (refine pl_call2 true [] rfl rfl (by kernel_rfl) (hal) ?_ ?_ ?_; push_cast [iO, tN]; (intro _ r os; rintro ⟨rfl, rfl⟩; push_cast [iO, tN]); rintro r os ⟨rfl, rfl⟩; refine pl_of_pops ?_; push_cast [iO, tN])  | ((first | refine pG ?_ | refine pQ ?_ | refine pU ?_); push_cast [iO, tN]) | (refine pif (fun h => ?_) (fun h => ?_) <;> first | exact pN h | push_cast [iO, tN]))
  all_goals (refine retK_of [] ?_; push_cast [iO, tN, htk, and_self, and_false, false_and, Bool.false_eq_true])
theorem isnan_pure (s : ByteArray) : PCalls Tryz.prog 168 [.c (.v (.string s))] [] fun r os => r = .c (.v (.bool false)) ∧ os = [] := by
  refine pcalls_of Tryz.func168 rfl (by simp [Tryz.ntmps168]) ?_
  rw [Tryz.ntmps168, Tryz.results168]
  push_cast [iO, tN]
  repeat' (first | ((first | refine pG ?_ | refine pQ ?_ | refine pU ?_); push_cast [iO, tN, ne_eq, not_true_eq_false]) | (refine pif (fun h => ?_) (fun h => ?_) <;> first | exact pN h | push_cast [iO, tN, ne_eq, not_true_eq_false]))
  (refine retK_of [] ?_; push_cast [iO, tN])
theorem ccmp_pure (a b : ByteArray) : PCalls Tryz.prog 151 [.c (.v (.string a)), .c (.v (.string b))] [] fun r os => r = .c (.v (.int .i64 (cmpS a b))) ∧ os = [] := by
  refine pcalls_of Tryz.func151 rfl (by simp [Tryz.ntmps151]) ?_
  rw [Tryz.ntmps151, Tryz.results151]
  unfold cmpS
  obtain ⟨x, hx⟩ : ∃ x, bless a b = x := ⟨_, rfl⟩
  obtain ⟨y, hy⟩ : ∃ y, bless b a = y := ⟨_, rfl⟩
  rw [hx, hy]
  cases x <;> cases y
  all_goals push_cast [iO, tN]
  all_goals repeat' (first | (refine plc [] (isnan_pure a) ?_ ?_; push_cast [iO, tN, hx, hy]; rintro r os ⟨rfl, rfl⟩; push_cast [iO, tN, hx, hy]) | (refine plc [] (isnan_pure b) ?_ ?_; push_cast [iO, tN, hx, hy]; rintro r os ⟨rfl, rfl⟩; push_cast [iO, tN, hx, hy]) | ((first | refine pG ?_ | refine pQ ?_ | refine pU ?_); push_cast [iO, tN, hx, hy]) | (refine pif (fun h => ?_) (fun h => ?_) <;> first | exact pN h | push_cast [iO, tN, hx, hy]))
  all_goals (refine retK_of [] ?_; push_cast [iO, tN])
theorem cmpL_atN : ∀ {l m : List ByteArray} {k : Nat}, k ≤ l.length → k ≤ m.length → l.take k = m.take k → cmpL l m = cmpL (l.drop k) (m.drop k)
  | l, m, 0, _, _, _ => by simp
  | [], m, k + 1, h, _, _ => by simp at h
  | a :: l, [], k + 1, _, h, _ => by simp at h
  | a :: l, b :: m, k + 1, h1, h2, h3 => by
    simp only [List.take_succ_cons, List.cons.injEq] at h3
    obtain ⟨rfl, h3⟩ := h3
    rw [cmpL, if_pos rfl]
    simp only [List.drop_succ_cons]
    exact cmpL_atN (by simpa using h1) (by simpa using h2) h3
theorem cmpL_stepN {l m : List ByteArray} {k : Nat} (h1 : k < l.length) (h2 : k < m.length) (h3 : l.take k = m.take k) : cmpL l m = if l.getD k default = m.getD k default then cmpL (l.drop (k + 1)) (m.drop (k + 1)) else cmpS (l.getD k default) (m.getD k default) := by
  rw [cmpL_atN (by omega) (by omega) h3, List.drop_eq_getElem_cons h1, List.drop_eq_getElem_cons h2, cmpL, getD_lt l h1, getD_lt m h2]
set_option maxHeartbeats 1000000 in
theorem scompare_pure (l m : List ByteArray) (hl : l.length ≤ 1000000000) (hm : m.length ≤ 1000000000) :
    PCalls Tryz.prog 131 [.c (.sl 1 (l.map strD)), .c (.sl 1 (m.map strD))] [] fun r os => r = .c (.v (.int .i64 (cmpL l m))) ∧ os = [] := by
  refine pcalls_of Tryz.func131 rfl (by simp [Tryz.ntmps131]) ?_
  rw [Tryz.ntmps131, Tryz.results131]
  push_cast [iO, tN]
  have cB : CutB 12 [] := trivial
  repeat' (first | ((first | refine pC ?_ | refine pQC ?_ | refine pU ?_); push_cast [iO, tN]) | (refine pif (fun h => ?_) (fun h => ?_) <;> first | exact pN h | push_cast [iO, tN]))
  (apply pwp_loop3 (α := Nat) 12 [] (fun k => [(11, .c (.v (.int .i64 k)))]) (fun k => []) (fun k => k ≤ l.length ∧ k ≤ m.length ∧ l.take k = m.take k) (fun k => l.length - k) (0); (focus ((try push_cast [iO, tN]); rfl)); (focus exact ⟨by omega, by omega, rfl⟩); (focus ((refine weak_fg ?_; try push_cast [iO, tN]))))
  rintro k ⟨hk, hk2, he⟩
  push_cast [iO, tN]
  by_cases h1 : k < l.length
  · by_cases h2 : k < m.length
    · have hst := cmpL_stepN h1 h2 he
      by_cases e : l.getD k default = m.getD k default
      · have hc : cmpS (l.getD k default) (m.getD k default) = 0 := cmpS_eq.2 e
        repeat' (first | (refine plc [] (ccmp_pure (l.getD k default) (m.getD k default)) ?_ ?_; push_cast [iO, tN, hc]; rintro r os ⟨rfl, rfl⟩; push_cast [iO, tN, hc]) | ((first | refine pC ?_ | refine pQC ?_ | refine pU ?_); push_cast [iO, tN, hc]) | (refine pif (fun h => ?_) (fun h => ?_) <;> first | exact pN h | push_cast [iO, tN, hc]))
        refine ⟨k + 1, ⟨by omega, by omega, ?_⟩, by (refine weak_fg ?_; push_cast [iO, tN]), by omega⟩
        rw [List.take_succ_eq_append_getElem h1, List.take_succ_eq_append_getElem h2, he, ← getD_lt l h1, ← getD_lt m h2, e]
      · have hc : ¬ cmpS (l.getD k default) (m.getD k default) = 0 := fun h => e (cmpS_eq.1 h)
        rw [if_neg e] at hst
        repeat' (first | (refine plc [] (ccmp_pure (l.getD k default) (m.getD k default)) ?_ ?_; push_cast [iO, tN, hc]; rintro r os ⟨rfl, rfl⟩; push_cast [iO, tN, hc]) | ((first | refine pC ?_ | refine pQC ?_ | refine pU ?_); push_cast [iO, tN, hc]) | (refine pif (fun h => ?_) (fun h => ?_) <;> first | exact pN h | push_cast [iO, tN, hc]))
        (refine retK_of [] ?_; push_cast [iO, tN])
        rw [hst]
    · have hke : k = m.length := by omega
      have hcl : cmpL l m = 1 := by
        have hz : m.drop k = [] := List.drop_eq_nil_of_le (by omega)
        rw [cmpL_atN (by omega) (by omega) he, hz, List.drop_eq_getElem_cons h1]; rfl
      repeat' (first | ((first | refine pC ?_ | refine pQC ?_ | refine pU ?_); push_cast [iO, tN]) | (refine pif (fun h => ?_) (fun h => ?_) <;> first | exact pN h | push_cast [iO, tN]))
      (refine retK_of [] ?_; push_cast [iO, tN])
      rw [hcl]
  · have hke : k = l.length := by omega
    by_cases h2 : k < m.length
    · have hcl : cmpL l m = -1 := by
        have hz : l.drop k = [] := List.drop_eq_nil_of_le (by omega)
        rw [cmpL_atN (by omega) (by omega) he, hz, List.drop_eq_getElem_cons h2]; rfl
      repeat' (first | ((first | refine pC ?_ | refine pQC ?_ | refine pU ?_); push_cast [iO, tN]) | (refine pif (fun h => ?_) (fun h => ?_) <;> first | exact pN h | push_cast [iO, tN]))
      (refine retK_of [] ?_; push_cast [iO, tN])
      rw [hcl]
    · have hcl : cmpL l m = 0 := by
        rw [cmpL_atN (by omega) (by omega) he, List.drop_eq_nil_of_le (by omega), List.drop_eq_nil_of_le (by omega)]; rfl
      repeat' (first | ((first | refine pC ?_ | refine pQC ?_ | refine pU ?_); push_cast [iO, tN]) | (refine pif (fun h => ?_) (fun h => ?_) <;> first | exact pN h | push_cast [iO, tN]))
      (refine retK_of [] ?_; push_cast [iO, tN])
      rw [hcl]
def cmpR (a b : ByteArray) : PV := match splitP a, splitP b with
  | some l, some m => .two (.c (.v (.int .i64 (cmpL l m)))) (.c (.v (.int .i64 0)))
  | _, _ => .two (.c (.v (.int .i64 0))) (.c (.v (.int .i64 10)))
theorem splitP_size {s : ByteArray} {l : List ByteArray} (h : splitP s = some l) : l.length ≤ s.size + 1 := by
  unfold splitP at h
  split at h
  · cases h; have := rest_size s; have := parts_size (s := restS s); omega
  · cases h
set_option maxHeartbeats 1000000 in
theorem ncompare_pure (a b : ByteArray) (ha : a.size ≤ 100000000) (hb : b.size ≤ 100000000) :
    PCalls Tryz.prog 105 [.c (.v (.string a)), .c (.v (.string b))] [] fun r os => r = cmpR a b ∧ os = [] := by
  have h1 := nsplit_pure a ha
  have h2 := nsplit_pure b hb
  unfold cmpR
  refine pcalls_of Tryz.func105 rfl (by simp [Tryz.ntmps105]) ?_
  rw [Tryz.ntmps105, Tryz.results105]
  cases e1 : splitP a with
  | none =>
    rw [e1] at h1
    cases e2 : splitP b with
    | none =>
      rw [e2] at h2
      push_cast [iO, tN]
      repeat' (first |  (refine plc [] (h1) ?_ ?_; push_cast [iO, tN]; rintro r os ⟨rfl, rfl⟩; push_cast [iO, tN]) | (refine plc [] (h2) ?_ ?_; push_cast [iO, tN]; rintro r os ⟨rfl, rfl⟩; push_cast [iO, tN])  | ((first | refine pG ?_ | refine pQ ?_ | refine pU ?_); push_cast [iO, tN]) | (refine pif (fun h => ?_) (fun h => ?_) <;> first | exact pN h | push_cast [iO, tN]))
      (refine retK_of [] ?_; push_cast [iO, tN])
    | some m =>
      rw [e2] at h2
      push_cast [iO, tN]
      repeat' (first |  (refine plc [] (h1) ?_ ?_; push_cast [iO, tN]; rintro r os ⟨rfl, rfl⟩; push_cast [iO, tN]) | (refine plc [] (h2) ?_ ?_; push_cast [iO, tN]; rintro r os ⟨rfl, rfl⟩; push_cast [iO, tN])  | ((first | refine pG ?_ | refine pQ ?_ | refine pU ?_); push_cast [iO, tN]) | (refine pif (fun h => ?_) (fun h => ?_) <;> first | exact pN h | push_cast [iO, tN]))
      (refine retK_of [] ?_; push_cast [iO, tN])
  | some l =>
    rw [e1] at h1
    cases e2 : splitP b with
    | none =>
      rw [e2] at h2
      push_cast [iO, tN]
      repeat' (first |  (refine plc [] (h1) ?_ ?_; push_cast [iO, tN]; rintro r os ⟨rfl, rfl⟩; push_cast [iO, tN]) | (refine plc [] (h2) ?_ ?_; push_cast [iO, tN]; rintro r os ⟨rfl, rfl⟩; push_cast [iO, tN])  | ((first | refine pG ?_ | refine pQ ?_ | refine pU ?_); push_cast [iO, tN]) | (refine pif (fun h => ?_) (fun h => ?_) <;> first | exact pN h | push_cast [iO, tN]))
      (refine retK_of [] ?_; push_cast [iO, tN])
    | some m =>
      rw [e2] at h2
      have := splitP_size e1
      have := splitP_size e2
      push_cast [iO, tN]
      repeat' (first |  (refine plc [] (h1) ?_ ?_; push_cast [iO, tN]; rintro r os ⟨rfl, rfl⟩; push_cast [iO, tN]) | (refine plc [] (h2) ?_ ?_; push_cast [iO, tN]; rintro r os ⟨rfl, rfl⟩; push_cast [iO, tN]) | (refine plc [] (scompare_pure l m (by omega) (by omega)) ?_ ?_; push_cast [iO, tN]; rintro r os ⟨rfl, rfl⟩; push_cast [iO, tN])  | ((first | refine pG ?_ | refine pQ ?_ | refine pU ?_); push_cast [iO, tN]) | (refine pif (fun h => ?_) (fun h => ?_) <;> first | exact pN h | push_cast [iO, tN]))
      (refine retK_of [] ?_; push_cast [iO, tN])
end Go.Proofs.YtcnoopjacilceaaGreatDoor
