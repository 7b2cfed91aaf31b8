/- What the program computes, and the plain laws of it, part 51. -/
import Derived.Test.YtcnoopjacilceaaGreatDoorQ50
namespace Go.Proofs.YtcnoopjacilceaaGreatDoor
attribute [local irreducible] PL QL PWPr PCalls Weak RetK Kontr PA
open Go.RowKit
open IntWalk renaming iteOmega → iO, toNatUp → tN
set_option linter.unusedVariables false
set_option linter.unusedSimpArgs false
set_option maxRecDepth 20000
theorem cloneSe_pure (l : List Ses) (hl : l.length ≤ 1000000000) :
    PCalls Tryz.prog 91 [.c (.sl 4 (l.map Ses.d))] [] fun r os => r = .c (.own 0 l.length) ∧ os = [.arr 81 4 (l.map Ses.d)] := by
  refine pcalls_adopt (R := fun r os => (r = .c (.own 0 l.length) ∧ os = [.arr 81 4 (l.map Ses.d)]) ∨ (r = .c (.v (.slice none 0 0)) ∧ os = [] ∧ l = [])) 81 4 (by omega) ?_ (by
    rintro r os (h | ⟨rfl, rfl, rfl⟩)
    · exact .inl h
    · exact .inr ⟨rfl, rfl, rfl⟩)
  by_cases h0 : l = []
  · subst h0
    refine pcalls_split0 (l1 := []) (l2 := []) fun A c => ?_
    cases A with
    | none =>
      refine PCalls.mono (R := fun r os => r = .c (.v (.slice none 0 0)) ∧ os = []) ?_ (fun r os h => .inr ⟨h.1, h.2, rfl⟩)
      refine pcalls_of Tryz.func91 rfl (by simp [Tryz.ntmps91]) ?_
      rw [Tryz.ntmps91, Tryz.results91]
      push_cast [iO, tN]
      repeat' (first | ((first | refine pG ?_ | refine pQ ?_ | refine pU ?_); push_cast [iO, tN]) | (refine pif (fun h => ?_) (fun h => ?_) <;> first | exact pN h | push_cast [iO, tN]))
      (refine retK_of [] ?_; push_cast [iO, tN])
    | some a =>
      refine PCalls.mono (R := fun r os => r = .c (.own 0 0) ∧ os = [.arr 81 4 []]) ?_ (fun r os h => .inl h)
      refine pcalls_of Tryz.func91 rfl (by simp [Tryz.ntmps91]) ?_
      rw [Tryz.ntmps91, Tryz.results91]
      push_cast [iO, tN]
      repeat' (first | ((first | refine pG ?_ | refine pQ ?_ | refine pU ?_); push_cast [iO, tN]) | (refine pif (fun h => ?_) (fun h => ?_) <;> first | exact pN h | push_cast [iO, tN]))
      (refine retK_of [0] ?_; push_cast [iO, tN])
  · have h1 : 0 < l.length := List.length_pos_iff.2 h0
    refine PCalls.mono (R := fun r os => r = .c (.own 0 l.length) ∧ os = [.arr 81 4 (l.map Ses.d)]) ?_ (fun r os h => .inl h)
    refine pcalls_of Tryz.func91 rfl (by simp [Tryz.ntmps91]) ?_
    rw [Tryz.ntmps91, Tryz.results91]
    push_cast [iO, tN]
    repeat' (first | ((first | refine pG ?_ | refine pQ ?_ | refine pU ?_); push_cast [iO, tN]) | (refine pif (fun h => ?_) (fun h => ?_) <;> first | exact pN h | push_cast [iO, tN]))
    (refine retK_of [0] ?_; push_cast [iO, tN])
def turn1 (p : ByteArray) (n : Int) (x : Ses) : Ses := if x.seat = p then { x with active := decide (x.id = n) } else x
def turnK (s : List Ses) (p : ByteArray) (n : Int) (k : Nat) : List Ses := (s.take k).map (turn1 p n) ++ s.drop k
theorem turnK_zero (s : List Ses) (p : ByteArray) (n : Int) : turnK s p n 0 = s := by simp [turnK]
theorem turnK_all (s : List Ses) (p : ByteArray) (n : Int) : turnK s p n s.length = turnM s p n := by
  unfold turnK turnM
  rw [List.take_length, List.drop_length, List.append_nil]
  rfl
theorem turnK_len (s : List Ses) (p : ByteArray) (n : Int) (k : Nat) : (turnK s p n k).length = s.length := by
  unfold turnK
  rw [List.length_append, List.length_map, List.length_take, List.length_drop]
  omega
theorem turnK_get {s : List Ses} (p : ByteArray) (n : Int) {k : Nat} (hk : k < s.length) : (turnK s p n k).getD k default = s.getD k default := by
  unfold turnK
  rw [List.getD_eq_getElem?_getD, List.getElem?_append_right (by simp; omega), List.length_map, List.length_take, Nat.min_eq_left (by omega), Nat.sub_self, List.getElem?_drop, Nat.add_zero, ← List.getD_eq_getElem?_getD]
theorem turnK_step {s : List Ses} (p : ByteArray) (n : Int) {k : Nat} (hk : k < s.length) : (turnK s p n k).set k (turn1 p n (s.getD k default)) = turnK s p n (k + 1) := by
  unfold turnK
  rw [List.set_append_right _ _ (by simp; omega), List.length_map, List.length_take, Nat.min_eq_left (by omega), Nat.sub_self, List.drop_eq_getElem_cons hk, List.set_cons_zero, List.take_succ_eq_append_getElem hk, List.map_append, List.map_singleton, List.append_assoc, List.singleton_append, getD_lt s hk]
theorem turnK_skip {s : List Ses} {p : ByteArray} (n : Int) {k : Nat} (hk : k < s.length) (h : (s.getD k default).seat ≠ p) : turnK s p n k = turnK s p n (k + 1) := by
  rw [← turnK_step p n hk]
  have e : turn1 p n (s.getD k default) = (turnK s p n k).getD k default := by rw [turnK_get p n hk]; unfold turn1; rw [if_neg h]
  rw [e]
  have hlt : k < (turnK s p n k).length := by rw [turnK_len]; exact hk
  rw [getD_lt _ hlt, List.set_getElem_self]
set_option maxHeartbeats 4000000 in
theorem turned_pure (nx : Int) (s : List Ses) (p : ByteArray) (n : Int) (hl : s.length ≤ 1000000) :
    PCalls Tryz.prog 50 [.agg (sesE nx s), .c (.v (.string p)), .c (.v (.int .i64 n))] [] fun r os => r = .agg (sesE nx (turnM s p n)) ∧ os = [] := by
  have hc := cloneSe_pure s (by omega)
  refine pcalls_of Tryz.func50 rfl (by simp [Tryz.ntmps50]) ?_
  rw [Tryz.ntmps50, Tryz.results50]
  push_cast [iO, tN]
  have cB : CutB 9 [14, 15, 16] := trivial
  repeat' (first |  ((refine plc [] (hc) ?_ ?_; push_cast [iO, tN]; rintro r os ⟨rfl, rfl⟩; push_cast [iO, tN]))  | ((first | refine pC ?_ | refine pQC ?_ | refine pU ?_); push_cast [iO, tN]) | (refine pif (fun h => ?_) (fun h => ?_) <;> first | exact pN h | push_cast [iO, tN]))
  (apply pwp_loop3 (α := Nat) 9 [14, 15, 16] (fun k => [(16, .c (.v (.int .i64 k)))]) (fun k => [(2, .arr 81 4 ((turnK s p n k).map Ses.d))]) (fun k => k ≤ s.length) (fun k => s.length - k) (0); (focus ((try push_cast [iO, tN]); rfl)); (focus exact (Nat.zero_le _)); (focus ((refine weak_fg ?_; try push_cast [iO, tN]); (try (simp only [turnK_zero])))))
  intro k hk
  push_cast [iO, tN]
  have hlk := turnK_len s p n k
  by_cases hlt : k < s.length
  case neg =>
    have hk2 : k = s.length := by omega
    subst hk2
    rw [turnK_all]
    have htl : (turnM s p n).length = s.length := by rw [← turnK_all, turnK_len]
    have htk : List.take s.length ((turnM s p n).map Ses.d) = (turnM s p n).map Ses.d := List.take_of_length_le (by rw [List.length_map]; omega)
    refine pwp_weak (weak_frz 2 (by omega)) ?_
    push_cast [iO, tN, htl, htk]
    repeat' (first | ((first | refine pC ?_ | refine pQC ?_ | refine pU ?_); push_cast [iO, tN]) | (refine pif (fun h => ?_) (fun h => ?_) <;> first | exact pN h | push_cast [iO, tN]))
    (refine retK_of [] ?_; push_cast [iO, tN])
  have hg := turnK_get p n hlt
  by_cases h1 : (s.getD k default).seat = p
  · have hs := turnK_step p n hlt
    have hX : ((turnK s p n k).map Ses.d).set k [.v (.int .i64 (s.getD k default).id), .v (.string (s.getD k default).user), .v (.string (s.getD k default).seat), .v (.bool (decide ((s.getD k default).id = n)))] = (turnK s p n (k + 1)).map Ses.d := by rw [← hs, List.map_set]; unfold turn1; rw [if_pos h1]; rfl
    by_cases h2 : (s.getD k default).id = n
    · rw [decide_eq_true h2, h2, h1] at hX
      repeat' (first | ((first | refine pC ?_ | refine pQC ?_ | refine pU ?_); push_cast [iO, tN, hlk, hg, h1, h2]) | (refine pif (fun h => ?_) (fun h => ?_) <;> first | exact pN h | push_cast [iO, tN, hlk, hg, h1, h2]))
      exact ⟨k + 1, by omega, by (refine weak_fg ?_; push_cast [iO, tN, hX]), by omega⟩
    · rw [decide_eq_false h2, h1] at hX
      repeat' (first | ((first | refine pC ?_ | refine pQC ?_ | refine pU ?_); push_cast [iO, tN, hlk, hg, h1, h2]) | (refine pif (fun h => ?_) (fun h => ?_) <;> first | exact pN h | push_cast [iO, tN, hlk, hg, h1, h2]))
      exact ⟨k + 1, by omega, by (refine weak_fg ?_; push_cast [iO, tN, hX]), by omega⟩
  · have hs := turnK_skip n hlt h1
    repeat' (first | ((first | refine pC ?_ | refine pQC ?_ | refine pU ?_); push_cast [iO, tN, hlk, hg, h1]) | (refine pif (fun h => ?_) (fun h => ?_) <;> first | exact pN h | push_cast [iO, tN, hlk, hg, h1]))
    exact ⟨k + 1, by omega, by (refine weak_fg ?_; push_cast [iO, tN, hs]), by omega⟩
set_option maxHeartbeats 4000000 in
theorem switch_pure (nx : Int) (s : List Ses) (p : ByteArray) (hl : s.length ≤ 1000000) :
    PCalls Tryz.prog 19 [.agg (sesE nx s), .c (.v (.string p))] [] fun r os => (r = .three (.agg [.v (.int .i64 0), .v (.slice none 0 0)]) (.c (.v (.int .i64 0))) (.c (.v (.int .i64 373))) ∧ os = []) ∨ ∃ n, (∃ x ∈ s, x.seat = p ∧ x.id = n) ∧ r = .three (.agg (sesE nx (turnM s p n))) (.c (.v (.int .i64 n))) (.c (.v (.int .i64 0))) ∧ os = [] := by
  have ho := sesOf_pure nx s p hl
  have hfl : (s.filter fun x => decide (x.seat = p)).length ≤ 1000000 := Nat.le_trans (List.length_filter_le _ _) hl
  have hmm : ∀ x ∈ (s.filter fun x => decide (x.seat = p)), x ∈ s ∧ x.seat = p := fun x hx => by
    obtain ⟨h1, h2⟩ := List.mem_filter.1 hx
    exact ⟨h1, by simpa using h2⟩
  obtain ⟨l, hll⟩ : ∃ l, (s.filter fun x => decide (x.seat = p)) = l := ⟨_, rfl⟩
  rw [hll] at ho hfl hmm
  have hac := active_pure l hfl
  have htu := fun n => turned_pure nx s p n hl
  refine pcalls_of Tryz.func19 rfl (by simp [Tryz.ntmps19]) ?_
  rw [Tryz.ntmps19, Tryz.results19]
  push_cast [iO, tN]
  have cB : CutB 9 [] := trivial
  by_cases h0 : l = []
  · subst h0
    repeat' (first |  ((refine plc [] (ho) ?_ ?_; push_cast [iO, tN]; rintro r os ⟨rfl, rfl⟩; push_cast [iO, tN]))  | ((first | refine pC ?_ | refine pQC ?_ | refine pU ?_); push_cast [iO, tN]) | (refine pif (fun h => ?_) (fun h => ?_) <;> first | exact pN h | push_cast [iO, tN]))
    (refine retK_of [] ?_; push_cast [iO, tN])
    exact ⟨_, _, leP_refl _, leOs_refl _, .inl ⟨rfl, rfl⟩⟩
  have h1 : 0 < l.length := List.length_pos_iff.2 h0
  have h1' : ¬ l.length = 0 := by omega
  repeat' (first | ((refine plc [] (ho) ?_ ?_; push_cast [iO, tN, h1']; rintro r os ⟨rfl, rfl⟩; push_cast [iO, tN, h1'])) | ((refine plc [] (hac) ?_ ?_; push_cast [iO, tN, h1']; rintro r os ⟨k, hk, rfl, rfl⟩; push_cast [iO, tN, h1'])) | ((first | refine pC ?_ | refine pQC ?_ | refine pU ?_); push_cast [iO, tN, h1']) | (refine pif (fun h => ?_) (fun h => ?_) <;> first | exact pN h | push_cast [iO, tN, h1']))
  have hk0 : 0 ≤ k + 1 ∧ k + 1 ≤ 1000000000 := by
    rcases hk with ⟨rfl, _⟩ | ⟨i, rfl, hi, _⟩
    · exact ⟨by omega, by omega⟩
    · exact ⟨by omega, by omega⟩
  obtain ⟨j, hj, hjl⟩ : ∃ j : Nat, (k + 1) % (l.length : Int) = (j : Int) ∧ j < l.length := ⟨((k + 1) % (l.length : Int)).toNat, (Int.toNat_of_nonneg (Int.emod_nonneg _ (by omega))).symm, by have := Int.emod_lt_of_pos (k + 1) (b := (l.length : Int)) (by omega); omega⟩
  have hk1 : 0 ≤ k + 1 := hk0.1
  have hk2 : -9223372036854775808 ≤ k + 1 := by omega
  have hk3 : k + 1 ≤ 9223372036854775807 := by omega
  have hn0 : ¬ (l.length : Int) = 0 := by omega
  have hmj := hmm (l.getD j default) (by rw [getD_lt l hjl]; exact List.getElem_mem _)
  obtain ⟨n, hn⟩ : ∃ n, (l.getD j default).id = n := ⟨_, rfl⟩
  have htn := htu n
  push_cast [iO, tN, hj, hk1, hk2, hk3, hn0, hjl, hn]
  repeat' (first | ((refine plc [] (htn) ?_ ?_; push_cast [iO, tN, hj, hk1, hk2, hk3, hn0, hjl, hn]; rintro r os ⟨rfl, rfl⟩; push_cast [iO, tN, hj, hk1, hk2, hk3, hn0, hjl, hn])) | ((first | refine pC ?_ | refine pQC ?_ | refine pU ?_); push_cast [iO, tN, hj, hk1, hk2, hk3, hn0, hjl, hn]) | (refine pif (fun h => ?_) (fun h => ?_) <;> first | exact pN h | push_cast [iO, tN, hj, hk1, hk2, hk3, hn0, hjl, hn]))
  (refine retK_of [] ?_; push_cast [iO, tN])
  exact ⟨_, _, leP_refl _, leOs_refl _, .inr ⟨n, ⟨_, hmj.1, hmj.2, hn⟩, rfl, rfl⟩⟩
def boxPr : List Ob := [.box 65 [.v (.slice none 0 0)]]
attribute [push_cast] boxPr
theorem prune1_pure (x : Ses) : PCalls Tryz.prog 49 [.agg (x.d.map D.e), .c (.ptr 0 0)] boxPr fun r os => r = .c (.v (.bool false)) ∧ os = boxPr := by
  have hc := scontains_pure [] x.seat (by simp)
  rw [show inM x.seat [] = false from rfl] at hc
  refine pcalls_of Tryz.func49 rfl (by simp [Tryz.ntmps49]) ?_
  rw [Tryz.ntmps49, Tryz.results49]
  push_cast [iO, tN]
  repeat' (first |  ((refine plc [] (hc) ?_ ?_; push_cast [iO, tN]; rintro r os ⟨rfl, rfl⟩; push_cast [iO, tN]))  | ((first | refine pG ?_ | refine pQ ?_ | refine pU ?_); push_cast [iO, tN]) | (refine pif (fun h => ?_) (fun h => ?_) <;> first | exact pN h | push_cast [iO, tN]))
  (refine retK_of [0] ?_; push_cast [iO, tN])
set_option maxHeartbeats 1000000 in
theorem filPr (l : List Ses) (hl : l.length ≤ 1000000) :
    PCalls Tryz.prog 48 [.c (.sl 4 (l.map Ses.d)), .c (.fn (.func 49) [] [0])] boxPr fun r os => r = .c (.v (.slice none 0 0)) ∧ os = boxPr := by
  refine pcalls_of Tryz.func48 rfl (by simp [Tryz.ntmps48]) ?_
  rw [Tryz.ntmps48, Tryz.results48]
  push_cast [iO, tN]
  have cB : CutB 8 [8, 9, 10] := trivial
  repeat' (first | ((first | refine pC ?_ | refine pQC ?_ | refine pU ?_); push_cast [iO, tN]) | (refine pif (fun h => ?_) (fun h => ?_) <;> first | exact pN h | push_cast [iO, tN]))
  (apply pwp_loop3 (α := Nat) 8 [8, 9, 10] (fun k => [(10, .c (.v (.int .i64 k)))]) (fun k => []) (fun k => k ≤ l.length) (fun k => l.length - k) (0); (focus ((try push_cast [iO, tN]); rfl)); (focus exact (Nat.zero_le _)); (focus ((refine weak_fg ?_; try push_cast [iO, tN]); (try (skip)))))
  intro k hk
  push_cast [iO, tN]
  by_cases hlt : k < l.length
  · have hc := prune1_pure (l.getD k default)
    repeat' (first |  (refine plc [0] (hc) ?_ ?_; push_cast [iO, tN]; rintro r os ⟨rfl, rfl⟩; push_cast [iO, tN])  | ((first | refine pC ?_ | refine pQC ?_ | refine pU ?_); push_cast [iO, tN]) | (refine pif (fun h => ?_) (fun h => ?_) <;> first | exact pN h | push_cast [iO, tN]))
    exact ⟨k + 1, by omega, by (refine weak_fg ?_; push_cast [iO, tN]), by omega⟩
  · repeat' (first | ((first | refine pC ?_ | refine pQC ?_ | refine pU ?_); push_cast [iO, tN]) | (refine pif (fun h => ?_) (fun h => ?_) <;> first | exact pN h | push_cast [iO, tN]))
    (refine retK_of [0] ?_; push_cast [iO, tN])
theorem prune_pure (nx : Int) (s : List Ses) (hl : s.length ≤ 1000000) :
    PCalls Tryz.prog 18 [.agg (sesE nx s), .c (.v (.slice none 0 0))] [] fun r os => r = .agg [.v (.int .i64 nx), .v (.slice none 0 0)] ∧ os = [] := by
  have hf := filPr s hl
  refine pcalls_of Tryz.func18 rfl (by simp [Tryz.ntmps18]) ?_
  rw [Tryz.ntmps18, Tryz.results18]
  push_cast [iO, tN]
  repeat' (first |  ((refine plc [1] (hf) ?_ ?_; push_cast [iO, tN]; rintro r os ⟨rfl, rfl⟩; push_cast [iO, tN]))  | ((first | refine pG ?_ | refine pQ ?_ | refine pU ?_); push_cast [iO, tN]) | (refine pif (fun h => ?_) (fun h => ?_) <;> first | exact pN h | push_cast [iO, tN]))
  (refine retK_of [] ?_; push_cast [iO, tN])
end Go.Proofs.YtcnoopjacilceaaGreatDoor
namespace Go.Proofs.YtcnoopjacilceaaGreatDoor
attribute [local irreducible] PL QL PWPr PCalls Weak RetK Kontr PA
open Go.RowKit
open IntWalk renaming iteOmega → iO, toNatUp → tN
set_option linter.unusedVariables false
set_option linter.unusedSimpArgs false
set_option maxRecDepth 20000
theorem parts_rest {a : ByteArray} (h : slashS a = true) : parts a = ⟨#[]⟩ :: parts (restS a) := by
  unfold parts
  rw [slash_rest h, spl, if_pos rfl]
  rfl
theorem order_cmp {a b : ByteArray} (ha : okP1 a) (hb : okP1 b) : cmpL (parts a) (parts b) = cmpP a b := by
  obtain ⟨l, hl⟩ := ha
  obtain ⟨m, hm⟩ := hb
  unfold cmpP
  rw [hl, hm]
  unfold splitP at hl hm
  split at hl
  · rename_i h1
    split at hm
    · rename_i h2
      cases hl
      cases hm
      rw [parts_rest h1.1, parts_rest h2.1, cmpL, if_pos rfl]
    · cases hm
  · cases hl
theorem right_at {l : List Acc} (h : Right l) {i k : Nat} (hi : i < l.length) (hk : k < i) : ltA (l.getD k default) (l.getD i default) ∧ (l.getD k default).node ≠ (l.getD i default).node := by
  rw [getD_lt l hi, getD_lt l (by omega)]
  refine ⟨List.pairwise_iff_getElem.1 h.asc k i (by omega) hi hk, fun e => ?_⟩
  have := List.pairwise_iff_getElem.1 h.nodes k i (by rw [List.length_map]; omega) (by rw [List.length_map]; omega) hk
  rw [List.getElem_map, List.getElem_map] at this
  exact this e
set_option maxHeartbeats 2000000 in
theorem rright_pure (l : List Acc) (hl : l.length ≤ 1000000) (hR : Right l) (hz : ∀ y ∈ l, y.path.size ≤ 100000000) :
    PCalls Tryz.prog 16 [.c (.sl 3 (l.map Acc.d))] [] fun y os => y = .c (.v (.bool true)) ∧ os = [] := by
  refine pcalls_of Tryz.func16 rfl (by simp [Tryz.ntmps16]) ?_
  rw [Tryz.ntmps16, Tryz.results16]
  push_cast [iO, tN]
  have cB : CutB 7 [] := trivial
  repeat' (first | ((first | refine pC ?_ | refine pQC ?_ | refine pU ?_); push_cast [iO, tN]) | (refine pif (fun h => ?_) (fun h => ?_) <;> first | exact pN h | push_cast [iO, tN]))
  (apply pwp_loop3 (α := Nat) 7 [] (fun i => [(3, .c (.v (.int .i64 i)))]) (fun i => []) (fun i => i ≤ l.length) (fun i => l.length - i) (0); (focus ((try push_cast [iO, tN]); rfl)); (focus exact (by omega)); (focus ((refine weak_fg ?_; try push_cast [iO, tN]))))
  intro i hi
  push_cast [iO, tN]
  by_cases hlt : i < l.length
  · have hmem : ∀ k, k < l.length → l.getD k default ∈ l := fun k hk => by rw [getD_lt l hk]; exact List.getElem_mem _
    obtain ⟨p, hp⟩ := hR.ok _ (hmem i hlt)
    have hs := rsplit_pure (l.getD i default).path (hz _ (hmem i hlt))
    rw [hp] at hs
    simp only [rsplitR] at hs
    by_cases h0 : 0 < i
    · have hc := (right_at hR hlt (show i - 1 < i by omega)).1
      unfold ltA at hc
      rw [← order_cmp (hR.ok _ (hmem _ (by omega))) (hR.ok _ (hmem i hlt))] at hc
      have ho := rorder_pure (l.getD (i - 1) default).path (l.getD i default).path (hz _ (hmem _ (by omega))) (hz _ (hmem i hlt))
      generalize cmpL (parts (l.getD (i - 1) default).path) (parts (l.getD i default).path) = c at *
      repeat' (first |  (refine plc [] (hs) ?_ ?_; push_cast [iO, tN]; rintro r os ⟨rfl, rfl⟩; push_cast [iO, tN]) | (refine ql_call2 false rfl rfl (by kernel_rfl) (ho) (fun r os h => h.1) rfl ?_ ?_; push_cast [iO, tN]; refine ql_of_qops ?_; push_cast [iO, tN])  | ((first | refine pC ?_ | refine pQC ?_ | refine pU ?_); push_cast [iO, tN]) | (refine pif (fun h => ?_) (fun h => ?_) <;> first | exact pN h | push_cast [iO, tN]))
      (apply pwp_loop3 (α := Nat) 7 [] (fun k => [(6, .c (.v (.int .i64 k)))]) (fun k => []) (fun k => k ≤ i) (fun k => i - k) (0); (focus ((try push_cast [iO, tN]); rfl)); (focus exact (by omega)); (focus ((refine weak_fg ?_; try push_cast [iO, tN]))))
      intro k hk
      push_cast [iO, tN]
      by_cases hki : k < i
      · have hne := (right_at hR hlt hki).2
        repeat' (first | ((first | refine pC ?_ | refine pQC ?_ | refine pU ?_); push_cast [iO, tN, hne]) | (refine pif (fun h => ?_) (fun h => ?_) <;> first | exact pN h | push_cast [iO, tN, hne]))
        exact ⟨k + 1, by omega, by (refine weak_fg ?_; push_cast [iO, tN]), by omega⟩
      · repeat' (first | ((first | refine pC ?_ | refine pQC ?_ | refine pU ?_); push_cast [iO, tN]) | (refine pif (fun h => ?_) (fun h => ?_) <;> first | exact pN h | push_cast [iO, tN]))
        exact ⟨i + 1, by omega, by (refine weak_fg ?_; push_cast [iO, tN]), by omega⟩
    · have h0' : i = 0 := by omega
      subst h0'
      repeat' (first |  (refine plc [] (hs) ?_ ?_; push_cast [iO, tN]; rintro r os ⟨rfl, rfl⟩; push_cast [iO, tN])  | ((first | refine pC ?_ | refine pQC ?_ | refine pU ?_); push_cast [iO, tN]) | (refine pif (fun h => ?_) (fun h => ?_) <;> first | exact pN h | push_cast [iO, tN]))
      (apply pwp_loop3 (α := Nat) 7 [] (fun k => [(6, .c (.v (.int .i64 k)))]) (fun k => []) (fun k => k ≤ 0) (fun k => 0 - k) (0); (focus ((try push_cast [iO, tN]); rfl)); (focus exact (by omega)); (focus ((refine weak_fg ?_; try push_cast [iO, tN]))))
      intro k hk
      have hk0 : k = 0 := by omega
      subst hk0
      push_cast [iO, tN]
      repeat' (first | ((first | refine pC ?_ | refine pQC ?_ | refine pU ?_); push_cast [iO, tN]) | (refine pif (fun h => ?_) (fun h => ?_) <;> first | exact pN h | push_cast [iO, tN]))
      exact ⟨0 + 1, by omega, by (refine weak_fg ?_; push_cast [iO, tN]), by omega⟩
  · repeat' (first | ((first | refine pC ?_ | refine pQC ?_ | refine pU ?_); push_cast [iO, tN]) | (refine pif (fun h => ?_) (fun h => ?_) <;> first | exact pN h | push_cast [iO, tN]))
    (refine retK_of [] ?_; push_cast [iO, tN])
end Go.Proofs.YtcnoopjacilceaaGreatDoor
namespace Go.Proofs.YtcnoopjacilceaaGreatDoor
attribute [local irreducible] PL QL PWPr PCalls Weak RetK Kontr PA
open Go.RowKit
open IntWalk renaming iteOmega → iO, toNatUp → tN
set_option linter.unusedVariables false
set_option linter.unusedSimpArgs false
set_option maxRecDepth 20000
theorem wantC_len (l : List Dev) (rs : List Rec) (s : List Ses) : (wantM l rs s).length ≤ l.length := by unfold wantM; rw [List.length_map]; exact List.length_filter_le _ _
theorem plan_nil (l : List Acc) : planA l [] = l.map (Chg.mk 1) := by
  unfold planA minusL
  rw [List.filter_eq_self.2 fun x _ => by simp, List.filter_nil, List.map_nil, List.append_nil]
theorem right_nilC : Right [] := ⟨by simp, List.Pairwise.nil, List.nodup_nil⟩
theorem want_path {t : List Dev} (rs : List Rec) (s : List Ses) (hl : t.length ≤ 1000) (hz : ∀ d ∈ t, d.original.size ≤ 1000) : ∀ y ∈ wantM t rs s, y.path.size ≤ 100000000 := fun y hy => by
  obtain ⟨d, hd, rfl⟩ := List.mem_map.1 hy
  have := place_size (l := t) hl hz d.index
  show (placeM t d.index).size ≤ 100000000
  omega
set_option maxHeartbeats 8000000 in
theorem closedA_pure (L : List Int) (hL : ∀ x ∈ L, -9223372036854775808 ≤ x ∧ x ≤ 9223372036854775807) (hLl : L.length ≤ 9223372036854775807) :
    PCalls Tryz.prog 5 [.c (.sl 1 (L.map fun x => [D.v (.int .i64 x)]))] [] fun r os => r = .c (.v (.bool true)) ∧ os = [] := by
  have hs := site_pure L hL hLl
  refine pcalls_of Tryz.func5 rfl (by simp [Tryz.ntmps5]) ?_
  rw [Tryz.ntmps5, Tryz.results5]
  push_cast [iO, tN]
  have cB : CutB 9 [] := trivial
  repeat' (first | ((first | refine pC ?_ | refine pQC ?_ | refine pU ?_); push_cast [iO, tN]) | (refine pif (fun h => ?_) (fun h => ?_) <;> first | exact pN h | push_cast [iO, tN]))
  (refine plc [] (hs) ?_ ?_; push_cast [iO, tN]; rintro r os ⟨t, rs, nx, s, ht, hr, hso, rfl, rfl⟩; push_cast [iO, tN])
  have hlen := ht.len
  have hz : ∀ d ∈ t, d.original.size ≤ 1000 := fun d hd => by have := (ht.dev d hd).2.1; omega
  have ha : ∀ d ∈ t, d.attrs.length ≤ 1000000000 := fun d hd => by have := ht.att d hd; omega
  have hsl := hso.len
  have hW := want_pure t rs nx s ht.okt.p (by omega) hz ha hr (by omega)
  have hW1 := want_pure t rs 1 [] ht.okt.p (by omega) hz ha hr (by simp)
  have hW2 := want_pure t rs nx [] ht.okt.p (by omega) hz ha hr (by simp)
  rw [wantM_nil] at hW1 hW2
  have hwl := wantC_len t rs s
  have hR := want_right ht.okt ht.ord ht.nod rs s
  have hpz := want_path rs s (t := t) (by omega) hz
  obtain ⟨wl, hwe⟩ : ∃ wl, wantM t rs s = wl := ⟨_, rfl⟩
  rw [hwe] at hW hwl hR hpz
  have hP := plan_pure wl [] hR right_nilC (by omega) (by simp) hpz (by simp)
  rw [plan_nil] at hP
  have hg : ∀ k, k < wl.length → (wl.map (Chg.mk 1)).getD k default = ⟨1, wl.getD k default⟩ := fun k hk => by
    rw [getD_lt _ (by rw [List.length_map]; exact hk), List.getElem_map, getD_lt wl hk]
  have hpl : (wl.map (Chg.mk 1)).length = wl.length := List.length_map ..
  obtain ⟨pl, hple⟩ : ∃ pl, wl.map (Chg.mk 1) = pl := ⟨_, rfl⟩
  rw [hple] at hP hg hpl
  have hPr := prune_pure nx s (by omega)
  simp only [sesE] at hW hW1 hW2 hPr
  repeat' (first |  ((refine plc [] (hW) ?_ ?_; push_cast [iO, tN]; rintro r os ⟨rfl, rfl⟩; push_cast [iO, tN])) | ((refine plc [] (hW1) ?_ ?_; push_cast [iO, tN]; rintro r os ⟨rfl, rfl⟩; push_cast [iO, tN])) | ((refine plc [] (hP) ?_ ?_; push_cast [iO, tN]; rintro r os ⟨rfl, rfl⟩; push_cast [iO, tN]))  | ((first | refine pC ?_ | refine pQC ?_ | refine pU ?_); push_cast [iO, tN]) | (refine pif (fun h => ?_) (fun h => ?_) <;> first | exact pN h | push_cast [iO, tN]))
  (apply pwp_loop3 (α := Nat) 9 [] (fun k => [(8, .c (.v (.int .i64 k)))]) (fun k => []) (fun k => k ≤ wl.length) (fun k => wl.length - k) (0); (focus ((try push_cast [iO, tN]); rfl)); (focus exact (Nat.zero_le _)); (focus ((refine weak_fg ?_; try push_cast [iO, tN]); (try (skip)))))
  intro k hk
  push_cast [iO, tN]
  by_cases hlt : k < wl.length
  · have hgk := hg k hlt
    repeat' (first | ((first | refine pC ?_ | refine pQC ?_ | refine pU ?_); push_cast [iO, tN, hgk, hpl]) | (refine pif (fun h => ?_) (fun h => ?_) <;> first | exact pN h | push_cast [iO, tN, hgk, hpl]))
    exact ⟨k + 1, by omega, by (refine weak_fg ?_; push_cast [iO, tN]), by omega⟩
  · repeat' (first | (refine hidR 9 ?_) | ((first | refine pC ?_ | refine pQC ?_ | refine pU ?_); push_cast [iO, tN, hpl]) | (refine pif (fun h => ?_) (fun h => ?_) <;> first | exact pN h | push_cast [iO, tN, hpl]))
    refine unhid ?_
    (refine pwp_cut 9 [] ?_; refine pwp_drawn (by kernel_rfl) ?_; simp only [List.length_cons, List.length_nil, Nat.reduceAdd]; refine pah 0 ?_; push_cast [iO, tN,  hpl]; refine pah 1 ?_; push_cast [iO, tN,  hpl]; refine pah 2 ?_; push_cast [iO, tN,  hpl]; refine pah 3 ?_; push_cast [iO, tN,  hpl]; refine pah 4 ?_; push_cast [iO, tN,  hpl]; refine pah 5 ?_; push_cast [iO, tN,  hpl]; refine pah 7 ?_; push_cast [iO, tN,  hpl]; apply pa_hav; intro z7; apply pa_hav; intro z6; apply pa_hav; intro z5; apply pa_hav; intro z3; apply pa_hav; intro z4; apply pa_hav; intro z1; apply pa_hav; intro z2; refine pas [6, 8] ?_; push_cast [iO, tN,  hpl]; refine ⟨z1, z2⟩; refine pas [6, 9] ?_; push_cast [iO, tN,  hpl]; refine ⟨?_, ?_⟩; (focus (exact z3)); (focus ((first | ((refine plc [] (hPr) ?_ ?_; push_cast [iO, tN,  hpl]; rintro r os ⟨rfl, rfl⟩; push_cast [iO, tN,  hpl])) | ((refine plc [] (hW2) ?_ ?_; push_cast [iO, tN,  hpl]; rintro r os ⟨rfl, rfl⟩; push_cast [iO, tN,  hpl])) | ((refine plc [] (known_pure) ?_ ?_; push_cast [iO, tN,  hpl]; rintro r os ⟨rfl, rfl⟩; push_cast [iO, tN,  hpl]))); exact z4)); refine pas [8] ?_; push_cast [iO, tN,  hpl]; refine paw z3 ?_ <;> (refine weak_fg ?_; push_cast [iO, tN,  hpl]); refine pas [6] ?_; push_cast [iO, tN,  hpl]; refine z5; refine pas [9] ?_; push_cast [iO, tN,  hpl]; (focus ((first | ((refine plc [] (hPr) ?_ ?_; push_cast [iO, tN,  hpl]; rintro r os ⟨rfl, rfl⟩; push_cast [iO, tN,  hpl])) | ((refine plc [] (hW2) ?_ ?_; push_cast [iO, tN,  hpl]; rintro r os ⟨rfl, rfl⟩; push_cast [iO, tN,  hpl])) | ((refine plc [] (known_pure) ?_ ?_; push_cast [iO, tN,  hpl]; rintro r os ⟨rfl, rfl⟩; push_cast [iO, tN,  hpl]))); refine paw z5 ?_; refine weak_fg ?_; push_cast [iO, tN,  hpl])); refine pas [10] ?_; push_cast [iO, tN,  hpl]; (focus ((first | ((refine plc [] (hPr) ?_ ?_; push_cast [iO, tN,  hpl]; rintro r os ⟨rfl, rfl⟩; push_cast [iO, tN,  hpl])) | ((refine plc [] (hW2) ?_ ?_; push_cast [iO, tN,  hpl]; rintro r os ⟨rfl, rfl⟩; push_cast [iO, tN,  hpl])) | ((refine plc [] (known_pure) ?_ ?_; push_cast [iO, tN,  hpl]; rintro r os ⟨rfl, rfl⟩; push_cast [iO, tN,  hpl]))); refine pah 11 ?_; push_cast [iO, tN,  hpl]; refine pah 12 ?_; push_cast [iO, tN,  hpl]; refine pah 13 ?_; push_cast [iO, tN,  hpl]; refine pah 14 ?_; push_cast [iO, tN,  hpl]; exact z6)); refine pas [15] ?_; push_cast [iO, tN,  hpl]; (focus ((first | ((refine plc [] (hPr) ?_ ?_; push_cast [iO, tN,  hpl]; rintro r os ⟨rfl, rfl⟩; push_cast [iO, tN,  hpl])) | ((refine plc [] (hW2) ?_ ?_; push_cast [iO, tN,  hpl]; rintro r os ⟨rfl, rfl⟩; push_cast [iO, tN,  hpl])) | ((refine plc [] (known_pure) ?_ ?_; push_cast [iO, tN,  hpl]; rintro r os ⟨rfl, rfl⟩; push_cast [iO, tN,  hpl]))); refine pah 16 ?_; push_cast [iO, tN,  hpl]; refine pah 17 ?_; push_cast [iO, tN,  hpl]; exact paw z7 (weak_cutS 9 [] _))); push_cast [iO, tN,  hpl]; refine pad ?_; push_cast [iO, tN,  hpl])
    repeat' (first | ((first | refine pC ?_ | refine pQC ?_ | refine pU ?_); push_cast [iO, tN]) | (refine pif (fun h => ?_) (fun h => ?_) <;> first | exact pN h | push_cast [iO, tN]))
    (refine retK_of [] ?_; push_cast [iO, tN])
end Go.Proofs.YtcnoopjacilceaaGreatDoor
