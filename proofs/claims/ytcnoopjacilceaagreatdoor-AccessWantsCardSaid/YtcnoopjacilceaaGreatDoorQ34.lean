/- What the program computes, and the plain laws of it, part 34. -/
import Derived.Test.YtcnoopjacilceaaGreatDoorQ22
namespace Go.Proofs.YtcnoopjacilceaaGreatDoor
open Go.RowKit
open IntWalk renaming iteOmega → iO, toNatUp → tN
set_option linter.unusedVariables false
set_option linter.unusedSimpArgs false
theorem ltA_irr (a : Acc) : ¬ ltA a a := cmpP_irr _
theorem ltA_trans {a b c : Acc} (h : ltA a b) (h' : ltA b c) : ltA a c := cmpP_trans h h'
theorem take_drop {α : Type} {l : List α} {i : Nat} (hi : i < l.length) : l = l.take i ++ l[i] :: l.drop (i + 1) := by rw [← List.drop_eq_getElem_cons hi, List.take_append_drop]
structure WI (a b : List Acc) (i k : Nat) (r g : List Acc) : Prop where
  hi : i ≤ a.length
  hk : k ≤ b.length
  r : r = minusL (a.take i) b
  g : g = minusL (b.take k) a
  ab : ∀ x ∈ a.take i, ∀ y ∈ b.drop k, ltA x y
  ba : ∀ y ∈ b.take k, ∀ x ∈ a.drop i, ltA y x
theorem WI.start (a b : List Acc) : WI a b 0 0 [] [] := ⟨by simp, by simp, by simp [minusL], by simp [minusL], by simp, by simp⟩
theorem minus_step {a b : List Acc} {i : Nat} (hi : i < a.length) : minusL (a.take (i + 1)) b = minusL (a.take i) b ++ if a[i] ∈ b then [] else [a[i]] := by
  rw [List.take_succ_eq_append_getElem hi, minusL, List.filter_append]
  congr 1
  by_cases h : a[i] ∈ b
  · rw [if_pos h, List.filter_cons_of_neg (by simpa using h)]; rfl
  · rw [if_neg h, List.filter_cons_of_pos (by simpa using h)]; rfl
theorem WI.notin {a b : List Acc} {i k : Nat} {r g : List Acc} (h : WI a b i k r g) (hb : b.Pairwise ltA) (hi : i < a.length) (hlt : ∀ hk : k < b.length, ltA a[i] b[k]) : a[i] ∉ b := by
  intro hm
  have hai : a[i] ∈ a.drop i := by rw [List.drop_eq_getElem_cons hi]; exact List.mem_cons_self
  have e : b = b.take k ++ b.drop k := (List.take_append_drop k b).symm
  rw [e] at hm
  rcases List.mem_append.1 hm with hm | hm
  · exact ltA_irr _ (h.ba _ hm _ hai)
  · have hk : k < b.length := by
      have := List.length_pos_of_mem hm
      rw [List.length_drop] at this
      omega
    have h2 := hlt hk
    rw [List.drop_eq_getElem_cons hk] at hm
    rcases List.mem_cons.1 hm with e2 | hm
    · rw [← e2] at h2; exact ltA_irr _ h2
    · have hp : (b.drop k).Pairwise ltA := hb.sublist (List.drop_sublist _ _)
      rw [List.drop_eq_getElem_cons hk] at hp
      exact ltA_asymm h2 ((List.pairwise_cons.1 hp).1 _ hm)
theorem WI.left {a b : List Acc} {i k : Nat} {r g : List Acc} (h : WI a b i k r g) (ha : a.Pairwise ltA) (hb : b.Pairwise ltA) (hi : i < a.length) (hlt : ∀ hk : k < b.length, ltA a[i] b[k]) : WI a b (i + 1) k (r ++ [a[i]]) g := by
  have hn := h.notin hb hi hlt
  refine ⟨hi, h.hk, ?_, h.g, fun x hx y hy => ?_, fun y hy x hx => h.ba y hy x ?_⟩
  · rw [minus_step hi, if_neg hn, ← h.r]
  · rw [List.take_succ_eq_append_getElem hi] at hx
    rcases List.mem_append.1 hx with hx | hx
    · exact h.ab x hx y hy
    · rw [List.mem_singleton.1 hx]
      have hk : k < b.length := by
        have := List.length_pos_of_mem hy
        rw [List.length_drop] at this
        omega
      have hp : (b.drop k).Pairwise ltA := hb.sublist (List.drop_sublist _ _)
      rw [List.drop_eq_getElem_cons hk] at hp hy
      rcases List.mem_cons.1 hy with e | hy
      · rw [e]; exact hlt hk
      · exact ltA_trans (hlt hk) ((List.pairwise_cons.1 hp).1 _ hy)
  · rw [List.drop_eq_getElem_cons hi]; exact List.mem_cons_of_mem _ hx
theorem WI.swap {a b : List Acc} {i k : Nat} {r g : List Acc} (h : WI a b i k r g) : WI b a k i g r := ⟨h.hk, h.hi, h.g, h.r, h.ba, h.ab⟩
theorem WI.right {a b : List Acc} {i k : Nat} {r g : List Acc} (h : WI a b i k r g) (ha : a.Pairwise ltA) (hb : b.Pairwise ltA) (hk : k < b.length) (hlt : ∀ hi : i < a.length, ltA b[k] a[i]) : WI a b i (k + 1) r (g ++ [b[k]]) :=
  (h.swap.left hb ha hk hlt).swap
theorem WI.both {a b : List Acc} {i k : Nat} {r g : List Acc} (h : WI a b i k r g) (ha : a.Pairwise ltA) (hb : b.Pairwise ltA) (hi : i < a.length) (hk : k < b.length) (he : a[i].path = b[k].path) :
    (a[i] = b[k] → WI a b (i + 1) (k + 1) r g) ∧ (a[i] ≠ b[k] → WI a b (i + 1) (k + 1) (r ++ [a[i]]) (g ++ [b[k]])) := by
  have hai : a[i] ∈ a.drop i := by rw [List.drop_eq_getElem_cons hi]; exact List.mem_cons_self
  have hbk : b[k] ∈ b.drop k := by rw [List.drop_eq_getElem_cons hk]; exact List.mem_cons_self
  have hpa : (a.drop i).Pairwise ltA := ha.sublist (List.drop_sublist _ _)
  have hpb : (b.drop k).Pairwise ltA := hb.sublist (List.drop_sublist _ _)
  rw [List.drop_eq_getElem_cons hi] at hpa
  rw [List.drop_eq_getElem_cons hk] at hpb
  have ga := (List.pairwise_cons.1 hpa).1
  have gb := (List.pairwise_cons.1 hpb).1
  have eqv : ∀ x, ltA a[i] x ↔ ltA b[k] x := fun x => by unfold ltA; rw [he]
  have eqv2 : ∀ x, ltA x a[i] ↔ ltA x b[k] := fun x => by unfold ltA; rw [he]
  have hab : ∀ x ∈ a.take (i + 1), ∀ y ∈ b.drop (k + 1), ltA x y := by
    intro x hx y hy
    rw [List.take_succ_eq_append_getElem hi] at hx
    rcases List.mem_append.1 hx with hx | hx
    · exact h.ab x hx y (by rw [List.drop_eq_getElem_cons hk]; exact List.mem_cons_of_mem _ hy)
    · rw [List.mem_singleton.1 hx]; exact (eqv y).2 (gb y hy)
  have hba : ∀ y ∈ b.take (k + 1), ∀ x ∈ a.drop (i + 1), ltA y x := by
    intro y hy x hx
    rw [List.take_succ_eq_append_getElem hk] at hy
    rcases List.mem_append.1 hy with hy | hy
    · exact h.ba y hy x (by rw [List.drop_eq_getElem_cons hi]; exact List.mem_cons_of_mem _ hx)
    · rw [List.mem_singleton.1 hy]; exact (eqv x).1 (ga x hx)
  constructor
  · intro e
    refine ⟨hi, hk, ?_, ?_, hab, hba⟩
    · rw [minus_step hi, if_pos (by rw [e]; exact List.getElem_mem _), ← h.r, List.append_nil]
    · rw [minus_step hk, if_pos (by rw [← e]; exact List.getElem_mem _), ← h.g, List.append_nil]
  · intro hne
    have n1 : a[i] ∉ b := by
      intro hm
      rw [(List.take_append_drop k b).symm] at hm
      rcases List.mem_append.1 hm with hm | hm
      · exact ltA_irr _ (h.ba _ hm _ hai)
      · rw [List.drop_eq_getElem_cons hk] at hm
        rcases List.mem_cons.1 hm with e | hm
        · exact hne e
        · exact ltA_irr _ ((eqv _).2 (gb _ hm))
    have n2 : b[k] ∉ a := by
      intro hm
      rw [(List.take_append_drop i a).symm] at hm
      rcases List.mem_append.1 hm with hm | hm
      · exact ltA_irr _ (h.ab _ hm _ hbk)
      · rw [List.drop_eq_getElem_cons hi] at hm
        rcases List.mem_cons.1 hm with e | hm
        · exact hne e.symm
        · exact ltA_irr _ ((eqv _).1 (ga _ hm))
    refine ⟨hi, hk, ?_, ?_, hab, hba⟩
    · rw [minus_step hi, if_neg n1, ← h.r]
    · rw [minus_step hk, if_neg n2, ← h.g]
theorem WI.done {a b : List Acc} {i k : Nat} {r g : List Acc} (h : WI a b i k r g) (hi : ¬ i < a.length) (hk : ¬ k < b.length) : r = minusL a b ∧ g = minusL b a := by
  have h1 := h.r
  have h2 := h.g
  rw [List.take_of_length_le (by omega)] at h1 h2
  exact ⟨h1, h2⟩
theorem minus_sub (a b : List Acc) : (minusL a b).Sublist a := List.filter_sublist
end Go.Proofs.YtcnoopjacilceaaGreatDoor
namespace Go.Proofs.YtcnoopjacilceaaGreatDoor
attribute [local irreducible] PL QL PWPr PCalls Weak RetK Kontr PA
open Go.RowKit
open IntWalk renaming iteOmega → iO, toNatUp → tN
set_option linter.unusedVariables false
set_option linter.unusedSimpArgs false
set_option maxRecDepth 20000
def PredA (P : Program) (g : FuncId) (ks : List Nat) (os : List Ob) (l : List Acc) (q : Acc → Bool) : Prop := bodyOk P g = true ∧ ∀ x ∈ l, PCalls P g (.agg x.e :: ks.map fun k => .c (.ptr k 0)) os fun r os' => r = .c (.v (.bool (q x))) ∧ os' = os
def idxA (q : Acc → Bool) (l : List Acc) (k : Int) : Prop := (k = -1 ∧ ∀ x ∈ l, q x = false) ∨ ∃ i : Nat, k = i ∧ i < l.length ∧ q (l.getD i default) = true ∧ ∀ x ∈ l.take i, q x = false
theorem allSomeA : ∀ ks : List Nat, allSome (ks.map fun k => some (PV.c (.ptr k 0))) (ks.map fun k => PV.c (.ptr k 0))
  | [] => trivial
  | k :: ks => ⟨leP_refl _, allSomeA ks⟩
theorem indexFuncA_pure (l : List Acc) (hl : l.length ≤ 1000000000) (g : FuncId) (ks : List Nat) (os : List Ob) (q : Acc → Bool) (hp : PredA Tryz.prog g ks os l q) :
    PCalls Tryz.prog 102 [.c (.sl 3 (l.map Acc.d)), .c (.fn (.func g) [] ks)] os fun r os' => ∃ k, idxA q l k ∧ r = .c (.v (.int .i64 k)) ∧ os' = os := by
  refine pcalls_of_all Tryz.func102 rfl (by simp [Tryz.ntmps102]) ?_
  rw [Tryz.ntmps102, Tryz.results102]
  push_cast [iO, tN]
  repeat' (first | ((first | refine pG ?_ | refine pQ ?_ | refine pU ?_); push_cast [iO, tN]) | (refine pif (fun h => ?_) (fun h => ?_) <;> first | exact pN h | push_cast [iO, tN]))
  refine pwp_loop2 (α := Nat) (fun k => k ≤ l.length ∧ ∀ x ∈ l.take k, q x = false) (fun k => ⟨[(8, .c (.v (.int .i64 k))), (7, .c (.v (.int .i64 l.length))), (6, .c (.sl 3 (l.map Acc.d))), (0, .c (.sl 3 (l.map Acc.d))), (1, .c (.fn (.func g) [] ks))], os⟩) (fun k => l.length - k) 0 ⟨by omega, by simp⟩ (weak_slots (by push_cast [iO, tN]) rfl) ?_
  rintro k ⟨hk, hpre⟩
  by_cases hlt : k < l.length
  · have hm : l.getD k default ∈ l := by rw [getD_lt l hlt]; exact List.getElem_mem _
    have hc := hp.2 _ hm
    have hpre2 : q (l.getD k default) = false → ∀ x ∈ l.take (k + 1), q x = false := fun h x hx => by
      rw [List.take_succ_eq_append_getElem hlt] at hx
      rcases List.mem_append.1 hx with hx | hx
      · exact hpre x hx
      · simp at hx; subst hx; rw [← getD_lt l hlt]; exact h
    cases hq : q (l.getD k default)
    all_goals rw [hq] at hc
    all_goals repeat' (first |  (refine pl_call_all rfl (by push_cast [iO, tN]) rfl hp.1 (by push_cast [iO, tN]) ?_ hc ?_; (focus (unfold callArgs; push_cast [iO, tN]; exact allSomeA ks)); rintro r os ⟨rfl, rfl⟩; refine pl_of_pops ?_; push_cast [iO, tN])  | ((first | refine pG ?_ | refine pQ ?_ | refine pU ?_); push_cast [iO, tN]) | (refine pif (fun h => ?_) (fun h => ?_) <;> first | exact pN h | push_cast [iO, tN]))
    · exact ⟨k + 1, ⟨by omega, hpre2 hq⟩, weak_slots (by push_cast [iO, tN]) rfl, by omega⟩
    · exact ⟨_, rfl, by push_cast [iO, tN], k, .inr ⟨k, rfl, hlt, hq, hpre⟩, rfl, rfl⟩
  · rw [List.take_of_length_le (by omega)] at hpre
    repeat' (first | ((first | refine pG ?_ | refine pQ ?_ | refine pU ?_); push_cast [iO, tN]) | (refine pif (fun h => ?_) (fun h => ?_) <;> first | exact pN h | push_cast [iO, tN]))
    exact ⟨_, rfl, by push_cast [iO, tN], -1, .inl ⟨rfl, hpre⟩, rfl, rfl⟩
theorem containsFuncA_pure (l : List Acc) (hl : l.length ≤ 1000000000) (g : FuncId) (ks : List Nat) (os : List Ob) (q : Acc → Bool) (hp : PredA Tryz.prog g ks os l q) :
    PCalls Tryz.prog 71 [.c (.sl 3 (l.map Acc.d)), .c (.fn (.func g) [] ks)] os fun r os' => r = .c (.v (.bool (l.any q))) ∧ os' = os := by
  refine pcalls_of_all Tryz.func71 rfl (by simp [Tryz.ntmps71]) ?_
  rw [Tryz.ntmps71, Tryz.results71]
  push_cast [iO, tN]
  repeat' (first |  (refine pl_call_all rfl (by push_cast [iO, tN]) rfl (by kernel_rfl) (by push_cast [iO, tN]) ?_ (indexFuncA_pure l hl g ks os q hp) ?_; (focus (unfold callArgs; push_cast [iO, tN])); rintro r os ⟨k, hk, rfl, rfl⟩; refine pl_of_pops ?_; push_cast [iO, tN])  | ((first | refine pG ?_ | refine pQ ?_ | refine pU ?_); push_cast [iO, tN]) | (refine pif (fun h => ?_) (fun h => ?_) <;> first | exact pN h | push_cast [iO, tN]))
  refine ⟨_, rfl, by push_cast [iO, tN], ?_, rfl⟩
  rcases hk with ⟨rfl, h⟩ | ⟨i, rfl, hi, hq, _⟩
  · have : l.any q = false := by rw [List.any_eq_false]; intro x hx; simp [h x hx]
    rw [this]; rfl
  · have : l.any q = true := List.any_eq_true.2 ⟨l.getD i default, by rw [getD_lt l hi]; exact List.getElem_mem _, hq⟩
    rw [this]; simp
end Go.Proofs.YtcnoopjacilceaaGreatDoor
namespace Go.Proofs.YtcnoopjacilceaaGreatDoor
open Go.RowKit
open IntWalk renaming iteOmega → iO, toNatUp → tN
set_option linter.unusedVariables false
set_option linter.unusedSimpArgs false
theorem rest_trim (s : ByteArray) : (⟨(Lib.trimPrefix s.data.toList [47]).toArray⟩ : ByteArray) = restS s := by
  unfold restS slashS Lib.trimPrefix
  split
  · have e := Lib.extract_to_end s 1
    generalize s.extract 1 s.size = t at e
    cases t
    simp only at e
    congr
    rw [show ([47] : List UInt8).length = 1 from rfl, ← e]
  · rfl
theorem cutp_pure (s : ByteArray) : PCalls Tryz.prog 103 [.c (.v (.string s)), .c (.v (.string ⟨#[47]⟩))] [] fun r os => r = .two (.c (.v (.string (restS s)))) (.c (.v (.bool (slashS s)))) ∧ os = [] :=
  pcalls_plain2 [.string s, .string ⟨#[47]⟩] _ _ rfl rfl fun w _ => (strings_CutPrefix s ⟨#[47]⟩ w).mono fun e w' ⟨he, hw⟩ => by
    rw [he, hw]
    refine ⟨?_, Below.refl _ _⟩
    show Ending.returned (.tuple #[.string ⟨(Lib.trimPrefix s.data.toList [47]).toArray⟩, .bool (Lib.hasPrefix s.data.toList [47])]) = _
    rw [rest_trim]; rfl
end Go.Proofs.YtcnoopjacilceaaGreatDoor
namespace Go.Proofs.YtcnoopjacilceaaGreatDoor
attribute [local irreducible] PL QL PWPr PCalls Weak RetK Kontr PA
open Go.RowKit
open IntWalk renaming iteOmega → iO, toNatUp → tN
set_option linter.unusedVariables false
set_option linter.unusedSimpArgs false
set_option maxRecDepth 20000
def PredS (P : Program) (g : FuncId) (ks : List Nat) (os : List Ob) (l : List ByteArray) (q : ByteArray → Bool) : Prop := bodyOk P g = true ∧ ∀ x ∈ l, PCalls P g (.c (.v (.string x)) :: ks.map fun k => .c (.ptr k 0)) os fun r os' => r = .c (.v (.bool (q x))) ∧ os' = os
def idxS (q : ByteArray → Bool) (l : List ByteArray) (k : Int) : Prop := (k = -1 ∧ ∀ x ∈ l, q x = false) ∨ ∃ i : Nat, k = i ∧ i < l.length ∧ q (l.getD i default) = true ∧ ∀ x ∈ l.take i, q x = false
theorem allSomeS : ∀ ks : List Nat, allSome (ks.map fun k => some (PV.c (.ptr k 0))) (ks.map fun k => PV.c (.ptr k 0))
  | [] => trivial
  | k :: ks => ⟨leP_refl _, allSomeS ks⟩
theorem indexFuncS_pure (l : List ByteArray) (hl : l.length ≤ 1000000000) (g : FuncId) (ks : List Nat) (os : List Ob) (q : ByteArray → Bool) (hp : PredS Tryz.prog g ks os l q) :
    PCalls Tryz.prog 150 [.c (.sl 1 (l.map strD)), .c (.fn (.func g) [] ks)] os fun r os' => ∃ k, idxS q l k ∧ r = .c (.v (.int .i64 k)) ∧ os' = os := by
  refine pcalls_of_all Tryz.func150 rfl (by simp [Tryz.ntmps150]) ?_
  rw [Tryz.ntmps150, Tryz.results150]
  push_cast [iO, tN]
  repeat' (first | ((first | refine pG ?_ | refine pQ ?_ | refine pU ?_); push_cast [iO, tN]) | (refine pif (fun h => ?_) (fun h => ?_) <;> first | exact pN h | push_cast [iO, tN]))
  refine pwp_loop2 (α := Nat) (fun k => k ≤ l.length ∧ ∀ x ∈ l.take k, q x = false) (fun k => ⟨[(8, .c (.v (.int .i64 k))), (7, .c (.v (.int .i64 l.length))), (6, .c (.sl 1 (l.map strD))), (0, .c (.sl 1 (l.map strD))), (1, .c (.fn (.func g) [] ks))], os⟩) (fun k => l.length - k) 0 ⟨by omega, by simp⟩ (weak_slots (by push_cast [iO, tN]) rfl) ?_
  rintro k ⟨hk, hpre⟩
  by_cases hlt : k < l.length
  · have hm : l.getD k default ∈ l := by rw [getD_lt l hlt]; exact List.getElem_mem _
    have hc := hp.2 _ hm
    have hpre2 : q (l.getD k default) = false → ∀ x ∈ l.take (k + 1), q x = false := fun h x hx => by
      rw [List.take_succ_eq_append_getElem hlt] at hx
      rcases List.mem_append.1 hx with hx | hx
      · exact hpre x hx
      · simp at hx; subst hx; rw [← getD_lt l hlt]; exact h
    cases hq : q (l.getD k default)
    all_goals rw [hq] at hc
    all_goals repeat' (first |  (refine pl_call_all rfl (by push_cast [iO, tN]) rfl hp.1 (by push_cast [iO, tN]) ?_ hc ?_; (focus (unfold callArgs; push_cast [iO, tN]; exact allSomeS ks)); rintro r os ⟨rfl, rfl⟩; refine pl_of_pops ?_; push_cast [iO, tN])  | ((first | refine pG ?_ | refine pQ ?_ | refine pU ?_); push_cast [iO, tN]) | (refine pif (fun h => ?_) (fun h => ?_) <;> first | exact pN h | push_cast [iO, tN]))
    · exact ⟨k + 1, ⟨by omega, hpre2 hq⟩, weak_slots (by push_cast [iO, tN]) rfl, by omega⟩
    · exact ⟨_, rfl, by push_cast [iO, tN], k, .inr ⟨k, rfl, hlt, hq, hpre⟩, rfl, rfl⟩
  · rw [List.take_of_length_le (by omega)] at hpre
    repeat' (first | ((first | refine pG ?_ | refine pQ ?_ | refine pU ?_); push_cast [iO, tN]) | (refine pif (fun h => ?_) (fun h => ?_) <;> first | exact pN h | push_cast [iO, tN]))
    exact ⟨_, rfl, by push_cast [iO, tN], -1, .inl ⟨rfl, hpre⟩, rfl, rfl⟩
theorem containsFuncS_pure (l : List ByteArray) (hl : l.length ≤ 1000000000) (g : FuncId) (ks : List Nat) (os : List Ob) (q : ByteArray → Bool) (hp : PredS Tryz.prog g ks os l q) :
    PCalls Tryz.prog 129 [.c (.sl 1 (l.map strD)), .c (.fn (.func g) [] ks)] os fun r os' => r = .c (.v (.bool (l.any q))) ∧ os' = os := by
  refine pcalls_of_all Tryz.func129 rfl (by simp [Tryz.ntmps129]) ?_
  rw [Tryz.ntmps129, Tryz.results129]
  push_cast [iO, tN]
  repeat' (first |  (refine pl_call_all rfl (by push_cast [iO, tN]) rfl (by kernel_rfl) (by push_cast [iO, tN]) ?_ (indexFuncS_pure l hl g ks os q hp) ?_; (focus (unfold callArgs; push_cast [iO, tN])); rintro r os ⟨k, hk, rfl, rfl⟩; refine pl_of_pops ?_; push_cast [iO, tN])  | ((first | refine pG ?_ | refine pQ ?_ | refine pU ?_); push_cast [iO, tN]) | (refine pif (fun h => ?_) (fun h => ?_) <;> first | exact pN h | push_cast [iO, tN]))
  refine ⟨_, rfl, by push_cast [iO, tN], ?_, rfl⟩
  rcases hk with ⟨rfl, h⟩ | ⟨i, rfl, hi, hq, _⟩
  · have : l.any q = false := by rw [List.any_eq_false]; intro x hx; simp [h x hx]
    rw [this]; rfl
  · have : l.any q = true := List.any_eq_true.2 ⟨l.getD i default, by rw [getD_lt l hi]; exact List.getElem_mem _, hq⟩
    rw [this]; simp
end Go.Proofs.YtcnoopjacilceaaGreatDoor
