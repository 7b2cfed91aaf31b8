/- What the program computes, and the plain laws of it, part 36. -/
import Derived.Lib.AppendZerosOnto
import Derived.Test.YtcnoopjacilceaaGreatDoorQ26
import Derived.Test.YtcnoopjacilceaaGreatDoorQ35
namespace Go.Proofs.YtcnoopjacilceaaGreatDoor
attribute [local irreducible] PL QL PWPr PCalls Weak RetK Kontr PA
open Go.RowKit
open IntWalk renaming iteOmega → iO, toNatUp → tN
set_option linter.unusedVariables false
set_option linter.unusedSimpArgs false
set_option maxRecDepth 20000
theorem idx_some {l : List Acc} {x : Acc} {k : Int} (h : idxA (fun y => decide (y = x)) l k) (hx : x ∈ l) (hn : l.Nodup) : ∃ i : Nat, k = i ∧ i < l.length ∧ l.take i ++ l.drop (i + 1) = l.filter fun y => decide (y ≠ x) := by
  rcases h with ⟨_, h⟩ | ⟨i, h, hi, hq, _⟩
  · exact absurd (h x hx) (by simp)
  · refine ⟨i, h, hi, ?_⟩
    rw [getD_lt l hi] at hq
    have hq := of_decide_eq_true hq
    have e := take_drop hi
    rw [hq] at e
    have hn2 := hn
    rw [e, List.nodup_append] at hn2
    obtain ⟨_, n2, n3⟩ := hn2
    obtain ⟨n4, _⟩ := List.nodup_cons.1 n2
    conv => rhs; rw [e]
    rw [List.filter_append, List.filter_cons_of_neg (by simp)]
    congr 1
    · exact (List.filter_eq_self.2 fun y hy => by simp only [ne_eq, decide_not, Bool.not_eq_true', decide_eq_false_iff_not]; intro he; exact n3 _ hy _ List.mem_cons_self he).symm
    · exact (List.filter_eq_self.2 fun y hy => by simp only [ne_eq, decide_not, Bool.not_eq_true', decide_eq_false_iff_not]; intro he; subst he; exact n4 hy).symm
theorem clash_any (x : Acc) (l : List Acc) : (l.any fun y => clashA x y) = decide (∃ y ∈ l, y.path = x.path ∨ y.node = x.node) := by
  rw [Bool.eq_iff_iff]
  simp [clashA]
set_option maxHeartbeats 1000000 in
theorem apply_taken (l : List Acc) (x : Acc) (hl : l.length ≤ 1000000) (h : ∃ y ∈ l, y.path = x.path ∨ y.node = x.node) :
    PCalls Tryz.prog 31 [.c (.sl 3 (l.map Acc.d)), .agg (Chg.mk 2 x).e] [] fun r os => r = (.two (.c (.v (.slice none 0 0))) (.c (.v (.int .i64 382)))) ∧ os = [] := by
  have hp : PredA Tryz.prog 72 [0] [.box 43 x.e] l (clashA x) := ⟨by kernel_rfl, fun y _ => applyF_pure x y⟩
  have hc := containsFuncA_pure l (by omega) 72 [0] _ (clashA x) hp
  rw [clash_any, decide_eq_true h] at hc
  refine pcalls_of Tryz.func31 rfl (by simp [Tryz.ntmps31]) ?_
  rw [Tryz.ntmps31, Tryz.results31]
  push_cast [iO, tN]
  have cB : CutB 12 [] := trivial
  repeat' (first |  (refine plc [1] (hc) ?_ ?_; push_cast [iO, tN]; rintro r os ⟨rfl, rfl⟩; push_cast [iO, tN])  | ((first | refine pC ?_ | refine pQC ?_ | refine pU ?_); push_cast [iO, tN]) | (refine pif (fun h => ?_) (fun h => ?_) <;> first | exact pN h | push_cast [iO, tN]))
  (refine retK_of [] ?_; push_cast [iO, tN])
set_option maxHeartbeats 1000000 in
theorem apply_rev_pure (l : List Acc) (x : Acc) (hl : l.length ≤ 1000000) (h : x ∈ l) (hn : l.Nodup) :
    PCalls Tryz.prog 31 [.c (.sl 3 (l.map Acc.d)), .agg (Chg.mk 1 x).e] [] fun r os => r = (.two (.c (.own 0 ((l.filter fun y => decide (y ≠ x)).length))) (.c (.v (.int .i64 0)))) ∧ os = [.arr 43 3 ((l.filter fun y => decide (y ≠ x)).map Acc.d)] := by
  have hx := (aindex_pure l x (by omega)).mono (R' := fun r os => ∃ i : Nat, (i < l.length ∧ l.take i ++ l.drop (i + 1) = l.filter fun y => decide (y ≠ x)) ∧ r = .c (.v (.int .i64 ((i : Int)))) ∧ os = []) (by
    rintro r os ⟨k, hk, rfl, rfl⟩
    obtain ⟨i, rfl, h1, h2⟩ := idx_some hk h hn
    exact ⟨i, ⟨h1, h2⟩, rfl, rfl⟩)
  have hc := clone_pure l (by omega)
  generalize l.filter (fun y => decide (y ≠ x)) = m at *
  refine pcalls_of Tryz.func31 rfl (by simp [Tryz.ntmps31]) ?_
  rw [Tryz.ntmps31, Tryz.results31]
  push_cast [iO, tN]
  have cB : CutB 12 [] := trivial
  repeat' (first |  (refine plc [] (hx) ?_ ?_; push_cast [iO, tN]; rintro r os ⟨i, ⟨hi, he⟩, rfl, rfl⟩; push_cast [iO, tN]) | (refine plc [] (hc) ?_ ?_; push_cast [iO, tN]; rintro r os ⟨rfl, rfl⟩; push_cast [iO, tN]) | (refine pl_call2 false [2] rfl rfl (by kernel_rfl) (delete_pure l i hi (by omega)) ?_ nofun ?_; push_cast [iO, tN]; rintro r os ⟨rfl, rfl⟩; refine pl_weak (weak_cutS 12 [33, 37] _) ?_; push_cast [iO, tN]; refine pl_weak (weak_trim 2 (l.length - 1) rfl) ?_; push_cast [iO, tN]; refine pl_of_pops ?_; push_cast [iO, tN])  | ((first | refine pC ?_ | refine pQC ?_ | refine pU ?_); push_cast [iO, tN]) | (refine pif (fun h => ?_) (fun h => ?_) <;> first | exact pN h | push_cast [iO, tN]))
  have hml : l.length - 1 = m.length := by rw [← he, List.length_append, List.length_take, List.length_drop]; omega
  have ht : ∀ z, List.take m.length (List.map Acc.d (List.take i l) ++ (List.map Acc.d (List.drop (i + 1) l) ++ z)) = m.map Acc.d := fun z => by
    rw [← List.append_assoc, ← List.map_append, he]
    exact List.take_left' (by rw [List.length_map])
  rw [hml, ht]
  (refine retK_of [2] ?_; push_cast [iO, tN])
end Go.Proofs.YtcnoopjacilceaaGreatDoor
namespace Go.Proofs.YtcnoopjacilceaaGreatDoor
open Go.RowKit
open IntWalk renaming iteOmega → iO, toNatUp → tN
set_option linter.unusedVariables false
set_option linter.unusedSimpArgs false
theorem infoGr : (Tryz.prog.info? 51).map (fun i => (i.zero, i.size, i.bytes)) = some (some (Value.agg #[.int .i64 0, .string ByteArray.empty, .string ByteArray.empty, .string ByteArray.empty]), 4, 56) := by kernel_rfl
set_option maxRecDepth 1000000 in
theorem grow_walk (n : Nat) (w : World) (hn : n ≤ 1099511627776) :
    Calls Tryz.prog 90 #[.slice none 0 0, .int .i64 (n : Int)] w fun e w' => ∃ vs, e = .returned vs ∧ w'.ownsRow w.heap.size 51 4 vs 0 [] ∧ Ext No w w' := by
  by_cases h0 : n = 0
  · subst h0
    go_enter Tryz.func90, Tryz.ntmps90
    go_wp2
    go_ret
    exact ⟨_, rfl, own_nil _ _ _ _, Ext.refl _ _⟩
  · obtain ⟨i, hi, hz, hs, hb⟩ := info_parts infoGr
    have hrun := Lib.run_append_nil_zeros (P := Tryz.prog) w 48 3 48 51 i _ .i64 .i64 Tryz.underlying48 Tryz.underlying3 hi hz n (by omega) (by rw [hs]; decide) (by omega) (by rw [hb]; omega)
    have hown : (w.drew.alloc (.cells (Builtin.zeroCells (Value.agg #[.int .i64 0, .string ByteArray.empty, .string ByteArray.empty, .string ByteArray.empty]).cells n ++ Builtin.zeroCells (Value.agg #[.int .i64 0, .string ByteArray.empty, .string ByteArray.empty, .string ByteArray.empty]).cells (grownCap w n 0 51 - n)) 51)).ownsRow w.heap.size 51 4 (.slice (some ⟨w.heap.size, 0, none⟩) 0 (grownCap w n 0 51)) 0 [] := by
      have hge := grownCap_ge w n 0 51
      have hcm : grownCap w n 0 51 ≤ maxLen := grownCap_le_maxLen w n 0 51 (by simp only [maxLen]; omega)
      refine ⟨rfl, .inr ⟨w.heap.size, _, _, rfl, Nat.le_refl _, heap_alloc_new w.drew _, Nat.zero_le _, hcm, ?_, by simp⟩⟩
      simp only [Array.size_append, size_zeroCells]
      show n * 4 + (grownCap w n 0 51 - n) * 4 = _
      omega
    have hE : Ext No w (w.drew.alloc (.cells (Builtin.zeroCells (Value.agg #[.int .i64 0, .string ByteArray.empty, .string ByteArray.empty, .string ByteArray.empty]).cells n ++ Builtin.zeroCells (Value.agg #[.int .i64 0, .string ByteArray.empty, .string ByteArray.empty, .string ByteArray.empty]).cells (grownCap w n 0 51 - n)) 51)) := (Ext.refl No w).drew.alloc _
    generalize w.drew.alloc (.cells (Builtin.zeroCells (Value.agg #[.int .i64 0, .string ByteArray.empty, .string ByteArray.empty, .string ByteArray.empty]).cells n ++ Builtin.zeroCells (Value.agg #[.int .i64 0, .string ByteArray.empty, .string ByteArray.empty, .string ByteArray.empty]).cells (grownCap w n 0 51 - n)) 51) = W1 at hrun hown hE
    have hcap := grownCap_ge w n 0 51
    generalize grownCap w n 0 51 = cap at hrun hown hcap
    have HR := Lib.hid hrun
    have HO := Lib.hid hown
    have HE := Lib.hid hE
    clear hrun hown hE hi hz hs hb
    go_enter Tryz.func90, Tryz.ntmps90
    go_wp2_with (at_builtin; refine Lib.wpList_append_run _ rfl (.tmp 20) (.tmp 21) 48 3 rfl (.slice none 0 0) (.int .i64 (n : Int)) rfl rfl _ W1 HR.out ?_)
    go_ret
    exact ⟨_, rfl, HO.out, HE.out⟩
theorem grow_pure (n : Nat) (hn : n ≤ 1000000000) :
    PCalls Tryz.prog 90 [.c (.v (.slice none 0 0)), .c (.v (.int .i64 n))] [] fun r os => r = .c (.own 0 0) ∧ os = [.arr 51 4 []] := fun Γ w xs hm hx => by
  have hxs := rp_vals (vs := [.slice none 0 0, .int .i64 (n : Int)]) hx
  rw [hxs]
  refine (grow_walk n w (by omega)).mono ?_
  rintro e w' ⟨v, rfl, hrow, hE⟩
  have hS := Same.of_ext hE
  have hn0 : Γ.n = 0 := hm.n
  obtain ⟨_, h2⟩ := hrow
  have fin : ∀ (b c : Nat) (v : Value), RO w' (Γ.push b c) Γ.n (.arr 51 4 []) → (0 < c → w.heap.size ≤ b) → OwnRep (Γ.push b c) Γ.n 0 v →
      ∃ r os' Γ' y, Ending.returned v = .returned y ∧ (r = .c (.own 0 0) ∧ os' = [.arr 51 4 []]) ∧ RP w' Γ' r y ∧ ([] : List Ob).length ≤ os'.length ∧ MemOk Γ' os' w' ∧ Grow ([] : List Ob).length Γ w Γ' w' := by
    intro b c v hro hb hrep
    rw [hn0] at hrep
    exact ⟨_, _, Γ.push b c, v, rfl, ⟨rfl, rfl⟩, ⟨by simp [G.push, hn0], hrep⟩, by simp, hm.push hS _ b c hro hb, grow_push hm hE b c hb (Nat.zero_le _)⟩
  rcases h2 with ⟨rfl, _⟩ | ⟨g, cap, cur, rfl, hb, hg, _, hcm, hsz, _⟩
  · exact fin 0 0 _ ⟨by simp, by omega, fun _ => rfl, fun h => absurd h (by simp [G.push, upd_same])⟩ (fun h => absurd h (by omega)) (.inl ⟨by simp [G.push, upd_same], ⟨none, rfl⟩, rfl⟩)
  · rcases Nat.eq_zero_or_pos cap with h0 | h0
    · subst h0
      exact fin 0 0 _ ⟨by simp, by omega, fun _ => rfl, fun h => absurd h (by simp [G.push, upd_same])⟩ (fun h => absurd h (by omega)) (.inl ⟨by simp [G.push, upd_same], ⟨_, rfl⟩, rfl⟩)
    · refine fin g cap _ ⟨by simp, by omega, fun _ => rfl, fun _ => ⟨cur, by simp only [G.push, upd_same]; exact hg, by simp only [G.push, upd_same]; exact hsz, by simp, by simp only [G.push, upd_same]; exact hcm, by simp [All2]⟩⟩ (fun _ => hb) (.inr ⟨by simp [G.push, upd_same, h0], by simp [G.push, upd_same], by simp⟩)
end Go.Proofs.YtcnoopjacilceaaGreatDoor
namespace Go.Proofs.YtcnoopjacilceaaGreatDoor
attribute [local irreducible] PL QL PWPr PCalls Weak RetK Kontr PA
open Go.RowKit
open IntWalk renaming iteOmega → iO, toNatUp → tN
set_option linter.unusedVariables false
set_option linter.unusedSimpArgs false
set_option maxRecDepth 20000
set_option maxHeartbeats 1000000 in
theorem concat_pure (A B : List Chg) (hA : A.length ≤ 1000000) (hB : B.length ≤ 1000000) :
    PCalls Tryz.prog 47 [.c (.sl 1 [[D.sl 4 (A.map Chg.d)], [D.sl 4 (B.map Chg.d)]])] [] fun r os => r = .c (.own 0 ((A ++ B).length)) ∧ os = [.arr 51 4 ((A ++ B).map Chg.d)] := by
  refine pcalls_of Tryz.func47 rfl (by simp [Tryz.ntmps47]) ?_
  rw [Tryz.ntmps47, Tryz.results47]
  push_cast [iO, tN]
  have cB : CutB 12 [25, 26, 27] := trivial
  repeat' (first | (refine Kont.use (by assumption) ?_) | (refine pwp_seq fun K hK => ?_) | (refine pwp_block ?_) | (refine pwp_scope ?_) | ((first | (refine pwp_cut 12 [25, 26, 27] ?_; first | refine pwp_region ?_ | refine pwp_quiet (by kernel_rfl) (by kernel_rfl) ?_) | refine pwp_exit ?_ | refine pwp_ret ?_ | refine pwp_skip ?_); push_cast [iO, tN]) | (refine pwp_cond ?_; push_cast [iO, tN]; try (refine ⟨fun h => ?_, fun h => ?_⟩ <;> (try simp only [decide_eq_true_eq, decide_eq_false_iff_not, cN] at h) <;> (try (first | contradiction | omega | exact cT h (by assumption) | exact cF h (by assumption))))))
  (apply pwp_loop3 (α := Nat) 12 [25, 26, 27] (fun k => [(11, .c (.v (.int .i64 k))), (3, .c (.v (.int .i64 (if k = 0 then 0 else if k = 1 then (A.length : Int) else A.length + B.length))))]) (fun k => []) (fun k => k ≤ 2) (fun k => 2 - k) (0); (focus ((try push_cast [iO, tN]); rfl)); (focus exact (by omega)); (focus ((refine weak_fg ?_; try push_cast [iO, tN]))))
  intro k hk
  have h3 : k = 0 ∨ k = 1 ∨ k = 2 := by omega
  rcases h3 with rfl | rfl | rfl
  · push_cast [iO, tN]
    repeat' (first | (refine Kont.use (by assumption) ?_) | (refine pwp_seq fun K hK => ?_) | (refine pwp_block ?_) | (refine pwp_scope ?_) | ((first | (refine pwp_cut 12 [25, 26, 27] ?_; first | refine pwp_region ?_ | refine pwp_quiet (by kernel_rfl) (by kernel_rfl) ?_) | refine pwp_exit ?_ | refine pwp_ret ?_ | refine pwp_skip ?_); push_cast [iO, tN]) | (refine pwp_cond ?_; push_cast [iO, tN]; try (refine ⟨fun h => ?_, fun h => ?_⟩ <;> (try simp only [decide_eq_true_eq, decide_eq_false_iff_not, cN] at h) <;> (try (first | contradiction | omega | exact cT h (by assumption) | exact cF h (by assumption))))))
    exact ⟨1, by omega, by (refine weak_fg ?_; push_cast [iO, tN]), by omega⟩
  · push_cast [iO, tN]
    repeat' (first | (refine Kont.use (by assumption) ?_) | (refine pwp_seq fun K hK => ?_) | (refine pwp_block ?_) | (refine pwp_scope ?_) | ((first | (refine pwp_cut 12 [25, 26, 27] ?_; first | refine pwp_region ?_ | refine pwp_quiet (by kernel_rfl) (by kernel_rfl) ?_) | refine pwp_exit ?_ | refine pwp_ret ?_ | refine pwp_skip ?_); push_cast [iO, tN]) | (refine pwp_cond ?_; push_cast [iO, tN]; try (refine ⟨fun h => ?_, fun h => ?_⟩ <;> (try simp only [decide_eq_true_eq, decide_eq_false_iff_not, cN] at h) <;> (try (first | contradiction | omega | exact cT h (by assumption) | exact cF h (by assumption))))))
    exact ⟨2, by omega, by (refine weak_fg ?_; push_cast [iO, tN]), by omega⟩
  · have hg := grow_pure (A.length + B.length) (by omega)
    push_cast [iO, tN]
    repeat' (first |  (refine plc [] (hg) ?_ ?_; push_cast [iO, tN]; rintro r os ⟨rfl, rfl⟩; push_cast [iO, tN])  | (refine Kont.use (by assumption) ?_) | (refine pwp_seq fun K hK => ?_) | (refine pwp_block ?_) | (refine pwp_scope ?_) | ((first | (refine pwp_cut 12 [25, 26, 27] ?_; first | refine pwp_region ?_ | refine pwp_quiet (by kernel_rfl) (by kernel_rfl) ?_) | refine pwp_exit ?_ | refine pwp_ret ?_ | refine pwp_skip ?_); push_cast [iO, tN]) | (refine pwp_cond ?_; push_cast [iO, tN]; try (refine ⟨fun h => ?_, fun h => ?_⟩ <;> (try simp only [decide_eq_true_eq, decide_eq_false_iff_not, cN] at h) <;> (try (first | contradiction | omega | exact cT h (by assumption) | exact cF h (by assumption))))))
    (apply pwp_loop3 (α := Nat) 12 [25, 26, 27] (fun k => [(27, .c (.v (.int .i64 k))), (6, .c (.own 0 (if k = 0 then 0 else if k = 1 then A.length else A.length + B.length)))]) (fun k => [(0, .arr 51 4 (if k = 0 then [] else if k = 1 then A.map Chg.d else (A ++ B).map Chg.d))]) (fun k => k ≤ 2) (fun k => 2 - k) (0); (focus ((try push_cast [iO, tN]); rfl)); (focus exact (by omega)); (focus ((refine weak_fg ?_; try push_cast [iO, tN]))))
    intro k hk
    have h3 : k = 0 ∨ k = 1 ∨ k = 2 := by omega
    rcases h3 with rfl | rfl | rfl
    · push_cast [iO, tN]
      repeat' (first | (refine Kont.use (by assumption) ?_) | (refine pwp_seq fun K hK => ?_) | (refine pwp_block ?_) | (refine pwp_scope ?_) | ((first | (refine pwp_cut 12 [25, 26, 27] ?_; first | refine pwp_region ?_ | refine pwp_quiet (by kernel_rfl) (by kernel_rfl) ?_) | refine pwp_exit ?_ | refine pwp_ret ?_ | refine pwp_skip ?_); push_cast [iO, tN]) | (refine pwp_cond ?_; push_cast [iO, tN]; try (refine ⟨fun h => ?_, fun h => ?_⟩ <;> (try simp only [decide_eq_true_eq, decide_eq_false_iff_not, cN] at h) <;> (try (first | contradiction | omega | exact cT h (by assumption) | exact cF h (by assumption))))))
      exact ⟨1, by omega, by (refine weak_fg ?_; push_cast [iO, tN]), by omega⟩
    · push_cast [iO, tN]
      repeat' (first | (refine Kont.use (by assumption) ?_) | (refine pwp_seq fun K hK => ?_) | (refine pwp_block ?_) | (refine pwp_scope ?_) | ((first | (refine pwp_cut 12 [25, 26, 27] ?_; first | refine pwp_region ?_ | refine pwp_quiet (by kernel_rfl) (by kernel_rfl) ?_) | refine pwp_exit ?_ | refine pwp_ret ?_ | refine pwp_skip ?_); push_cast [iO, tN]) | (refine pwp_cond ?_; push_cast [iO, tN]; try (refine ⟨fun h => ?_, fun h => ?_⟩ <;> (try simp only [decide_eq_true_eq, decide_eq_false_iff_not, cN] at h) <;> (try (first | contradiction | omega | exact cT h (by assumption) | exact cF h (by assumption))))))
      exact ⟨2, by omega, by (refine weak_fg ?_; push_cast [iO, tN]), by omega⟩
    · push_cast [iO, tN]
      repeat' (first | (refine Kont.use (by assumption) ?_) | (refine pwp_seq fun K hK => ?_) | (refine pwp_block ?_) | (refine pwp_scope ?_) | ((first | (refine pwp_cut 12 [25, 26, 27] ?_; first | refine pwp_region ?_ | refine pwp_quiet (by kernel_rfl) (by kernel_rfl) ?_) | refine pwp_exit ?_ | refine pwp_ret ?_ | refine pwp_skip ?_); push_cast [iO, tN]) | (refine pwp_cond ?_; push_cast [iO, tN]; try (refine ⟨fun h => ?_, fun h => ?_⟩ <;> (try simp only [decide_eq_true_eq, decide_eq_false_iff_not, cN] at h) <;> (try (first | contradiction | omega | exact cT h (by assumption) | exact cF h (by assumption))))))
      (refine retK_of [0] ?_; push_cast [iO, tN])
def planOs (r g : List Acc) : List Ob := [.box 90 [.own 2 r.length, .own 3 g.length], .box 89 [.v (.int .i64 1), .v (.int .i64 2)], .arr 51 4 ((r.map (Chg.mk 1)).map Chg.d), .arr 51 4 ((g.map (Chg.mk 2)).map Chg.d)]
def planR0 (r g : List Acc) (x : Acc) (y : PV) (os : List Ob) : Prop := y = .undef ∧ (os = planOs (r ++ [x]) g ∨ os = [.box 90 [.own 4 (r.length + 1), .own 3 g.length], .box 89 [.v (.int .i64 1), .v (.int .i64 2)], .arr 51 4 ((r.map (Chg.mk 1)).map Chg.d), .arr 51 4 ((g.map (Chg.mk 2)).map Chg.d), .arr 51 4 (((r ++ [x]).map (Chg.mk 1)).map Chg.d)])
def planR1 (r g : List Acc) (x : Acc) (y : PV) (os : List Ob) : Prop := y = .undef ∧ (os = planOs r (g ++ [x]) ∨ os = [.box 90 [.own 2 r.length, .own 4 (g.length + 1)], .box 89 [.v (.int .i64 1), .v (.int .i64 2)], .arr 51 4 ((r.map (Chg.mk 1)).map Chg.d), .arr 51 4 ((g.map (Chg.mk 2)).map Chg.d), .arr 51 4 (((g ++ [x]).map (Chg.mk 2)).map Chg.d)])
set_option maxHeartbeats 4000000 in
theorem planF0 (r g : List Acc) (x : Acc) (hr : r.length ≤ 1000000) :
    PCalls Tryz.prog 46 [.agg x.e, .c (.v (.int .i64 0)), .c (.ptr 0 0), .c (.ptr 1 0)] (planOs r g) (planR0 r g x) := by
  unfold planOs planR0 planOs
  refine pcalls_of Tryz.func46 rfl (by simp [Tryz.ntmps46]) ?_
  rw [Tryz.ntmps46, Tryz.results46]
  push_cast [iO, tN]
  repeat' (first |  (refine pwp_drawn (by kernel_rfl) ?_)  | (refine Kont.use (by assumption) ?_) | (refine pwp_seq fun K hK => ?_) | (refine pwp_block ?_) | (refine pwp_scope ?_) | ((first | (refine pwp_cut 12 [25, 26, 27] ?_; first | refine pwp_region ?_ | refine pwp_quiet (by kernel_rfl) (by kernel_rfl) ?_) | refine pwp_exit ?_ | refine pwp_ret ?_ | refine pwp_skip ?_); push_cast [iO, tN]) | (refine pwp_cond ?_; push_cast [iO, tN]; try (refine ⟨fun h => ?_, fun h => ?_⟩ <;> (try simp only [decide_eq_true_eq, decide_eq_false_iff_not, cN] at h) <;> (try (first | contradiction | omega | exact cT h (by assumption) | exact cF h (by assumption))))))
  (try simp only [List.length_cons, List.length_nil, Nat.reduceAdd]; repeat' first | (refine pl_app2 (e := 51) (sz := 4) (by' := 56) (rows := (r.map (Chg.mk 1)).map Chg.d) (ys := [(Chg.mk 1 x).d]) 2 rfl (by push_cast [iO, tN]) (by push_cast [iO, tN]) (by push_cast [iO, tN]) (by push_cast [iO, tN]) (by omega) (by push_cast [iO, tN]) (by push_cast [iO, tN]) (by push_cast [iO, tN]) (by push_cast [iO, tN]) (by simp) (by push_cast [iO, tN]; omega) (by push_cast [iO, tN]; omega) ?_ ?_ <;> (refine pl_of_pops ?_; push_cast [iO, tN])) | ((first | refine pah 0 ?_ | refine pah 1 ?_ | refine pah 2 ?_ | refine pah 4 ?_ | refine pah 5 ?_ | refine pah 8 ?_ | refine pah 11 ?_); push_cast [iO, tN]) | (refine pad ?_; try push_cast [iO, tN]) | ((first | refine pas [3] ?_ | refine pas [6] ?_ | refine pas [7] ?_ | refine pas [9] ?_ | refine pas [10] ?_ | refine pas [12] ?_); push_cast [iO, tN]) | ((first | refine pas [3, 6] ?_ | refine pas [3, 7] ?_ | refine pas [3, 9] ?_ | refine pas [3, 10] ?_ | refine pas [3, 12] ?_ | refine pas [6, 7] ?_ | refine pas [6, 9] ?_ | refine pas [6, 10] ?_ | refine pas [6, 12] ?_ | refine pas [7, 9] ?_ | refine pas [7, 10] ?_ | refine pas [7, 12] ?_ | refine pas [9, 10] ?_ | refine pas [9, 12] ?_ | refine pas [10, 12] ?_); push_cast [iO, tN]; refine ⟨?_, ?_⟩) | ((first | refine pas [3, 6, 7] ?_ | refine pas [3, 6, 9] ?_ | refine pas [3, 6, 10] ?_ | refine pas [3, 6, 12] ?_ | refine pas [3, 7, 9] ?_ | refine pas [3, 7, 10] ?_ | refine pas [3, 7, 12] ?_ | refine pas [3, 9, 10] ?_ | refine pas [3, 9, 12] ?_ | refine pas [3, 10, 12] ?_ | refine pas [6, 7, 9] ?_ | refine pas [6, 7, 10] ?_ | refine pas [6, 7, 12] ?_ | refine pas [6, 9, 10] ?_ | refine pas [6, 9, 12] ?_ | refine pas [6, 10, 12] ?_ | refine pas [7, 9, 10] ?_ | refine pas [7, 9, 12] ?_ | refine pas [7, 10, 12] ?_ | refine pas [9, 10, 12] ?_); push_cast [iO, tN]; refine ⟨?_, ?_, ?_⟩))
  all_goals first | (refine retK_of [0, 1, 2, 3, 5] ?_; push_cast [iO, tN]; exact ⟨_, _, leP_refl _, leOs_refl _, rfl, .inr rfl⟩) | (refine retK_of [0, 1, 2, 3] ?_; push_cast [iO, tN]; exact ⟨_, _, leP_refl _, leOs_refl _, rfl, .inl rfl⟩)
set_option maxHeartbeats 4000000 in
theorem planF1 (r g : List Acc) (x : Acc) (hr : g.length ≤ 1000000) :
    PCalls Tryz.prog 46 [.agg x.e, .c (.v (.int .i64 1)), .c (.ptr 0 0), .c (.ptr 1 0)] (planOs r g) (planR1 r g x) := by
  unfold planOs planR1 planOs
  refine pcalls_of Tryz.func46 rfl (by simp [Tryz.ntmps46]) ?_
  rw [Tryz.ntmps46, Tryz.results46]
  push_cast [iO, tN]
  repeat' (first |  (refine pwp_drawn (by kernel_rfl) ?_)  | (refine Kont.use (by assumption) ?_) | (refine pwp_seq fun K hK => ?_) | (refine pwp_block ?_) | (refine pwp_scope ?_) | ((first | (refine pwp_cut 12 [25, 26, 27] ?_; first | refine pwp_region ?_ | refine pwp_quiet (by kernel_rfl) (by kernel_rfl) ?_) | refine pwp_exit ?_ | refine pwp_ret ?_ | refine pwp_skip ?_); push_cast [iO, tN]) | (refine pwp_cond ?_; push_cast [iO, tN]; try (refine ⟨fun h => ?_, fun h => ?_⟩ <;> (try simp only [decide_eq_true_eq, decide_eq_false_iff_not, cN] at h) <;> (try (first | contradiction | omega | exact cT h (by assumption) | exact cF h (by assumption))))))
  (try simp only [List.length_cons, List.length_nil, Nat.reduceAdd]; repeat' first | (refine pl_app2 (e := 51) (sz := 4) (by' := 56) (rows := (g.map (Chg.mk 2)).map Chg.d) (ys := [(Chg.mk 2 x).d]) 3 rfl (by push_cast [iO, tN]) (by push_cast [iO, tN]) (by push_cast [iO, tN]) (by push_cast [iO, tN]) (by omega) (by push_cast [iO, tN]) (by push_cast [iO, tN]) (by push_cast [iO, tN]) (by push_cast [iO, tN]) (by simp) (by push_cast [iO, tN]; omega) (by push_cast [iO, tN]; omega) ?_ ?_ <;> (refine pl_of_pops ?_; push_cast [iO, tN])) | ((first | refine pah 0 ?_ | refine pah 1 ?_ | refine pah 2 ?_ | refine pah 4 ?_ | refine pah 5 ?_ | refine pah 8 ?_ | refine pah 11 ?_); push_cast [iO, tN]) | (refine pad ?_; try push_cast [iO, tN]) | ((first | refine pas [3] ?_ | refine pas [6] ?_ | refine pas [7] ?_ | refine pas [9] ?_ | refine pas [10] ?_ | refine pas [12] ?_); push_cast [iO, tN]) | ((first | refine pas [3, 6] ?_ | refine pas [3, 7] ?_ | refine pas [3, 9] ?_ | refine pas [3, 10] ?_ | refine pas [3, 12] ?_ | refine pas [6, 7] ?_ | refine pas [6, 9] ?_ | refine pas [6, 10] ?_ | refine pas [6, 12] ?_ | refine pas [7, 9] ?_ | refine pas [7, 10] ?_ | refine pas [7, 12] ?_ | refine pas [9, 10] ?_ | refine pas [9, 12] ?_ | refine pas [10, 12] ?_); push_cast [iO, tN]; refine ⟨?_, ?_⟩) | ((first | refine pas [3, 6, 7] ?_ | refine pas [3, 6, 9] ?_ | refine pas [3, 6, 10] ?_ | refine pas [3, 6, 12] ?_ | refine pas [3, 7, 9] ?_ | refine pas [3, 7, 10] ?_ | refine pas [3, 7, 12] ?_ | refine pas [3, 9, 10] ?_ | refine pas [3, 9, 12] ?_ | refine pas [3, 10, 12] ?_ | refine pas [6, 7, 9] ?_ | refine pas [6, 7, 10] ?_ | refine pas [6, 7, 12] ?_ | refine pas [6, 9, 10] ?_ | refine pas [6, 9, 12] ?_ | refine pas [6, 10, 12] ?_ | refine pas [7, 9, 10] ?_ | refine pas [7, 9, 12] ?_ | refine pas [7, 10, 12] ?_ | refine pas [9, 10, 12] ?_); push_cast [iO, tN]; refine ⟨?_, ?_, ?_⟩))
  all_goals first | (refine retK_of [0, 1, 2, 3, 5] ?_; push_cast [iO, tN]; exact ⟨_, _, leP_refl _, leOs_refl _, rfl, .inr rfl⟩) | (refine retK_of [0, 1, 2, 3] ?_; push_cast [iO, tN]; exact ⟨_, _, leP_refl _, leOs_refl _, rfl, .inl rfl⟩)
end Go.Proofs.YtcnoopjacilceaaGreatDoor
