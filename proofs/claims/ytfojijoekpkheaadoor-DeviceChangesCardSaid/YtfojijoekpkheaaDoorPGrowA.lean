/- slices.Grow of nothing. -/
import Derived.Test.YtfojijoekpkheaaDoorPLibB
import Derived.Test.YtfojijoekpkheaaDoorSetA
import Derived.Test.YtfojijoekpkheaaDoorPSet
import Derived.Test.YtfojijoekpkheaaDoorTab
import Derived.Lib.AppendZerosOnto
namespace Go.Proofs.YtfojijoekpkheaaDoor
open Go.RowKit
set_option linter.unusedVariables false
set_option linter.unusedSimpArgs false
theorem infoGr : (Tryd.prog.info? 50).map (fun i => (i.zero, i.size, i.bytes)) = some (some (Value.agg #[.string ByteArray.empty, .string ByteArray.empty]), 2, 32) := by kernel_rfl
set_option maxRecDepth 1000000 in
theorem grow_walk (n : Nat) (w : World) (hn : n ≤ 1099511627776) :
    Calls Tryd.prog 51 #[.slice none 0 0, .int .i64 (n : Int)] w fun e w' => ∃ vs, e = .returned vs ∧ w'.ownsRow w.heap.size 50 2 vs 0 [] ∧ Ext No w w' := by
  by_cases h0 : n = 0
  · subst h0
    go_enter Tryd.func51, Tryd.ntmps51
    go_wp2
    go_ret
    exact ⟨_, rfl, own_nil _ _ _ _, Ext.refl _ _⟩
  · obtain ⟨i, hi, hz, hs, hb⟩ := info_parts infoGr
    have hrun := Lib.run_append_nil_zeros (P := Tryd.prog) w 23 3 23 50 i _ .i64 .i64 Tryd.underlying23 Tryd.underlying3 hi hz n (by omega) (by rw [hs]; decide) (by omega) (by rw [hb]; omega)
    have hown : (w.drew.alloc (.cells (Builtin.zeroCells (Value.agg #[.string ByteArray.empty, .string ByteArray.empty]).cells n ++ Builtin.zeroCells (Value.agg #[.string ByteArray.empty, .string ByteArray.empty]).cells (grownCap w n 0 50 - n)) 50)).ownsRow w.heap.size 50 2 (.slice (some ⟨w.heap.size, 0, none⟩) 0 (grownCap w n 0 50)) 0 [] := by
      have hge := grownCap_ge w n 0 50
      have hcm : grownCap w n 0 50 ≤ maxLen := grownCap_le_maxLen w n 0 50 (by simp only [maxLen]; omega)
      refine ⟨rfl, .inr ⟨w.heap.size, _, _, rfl, Nat.le_refl _, heap_alloc_new w.drew _, Nat.zero_le _, hcm, ?_, by simp⟩⟩
      simp only [Array.size_append, size_zeroCells]
      show n * 2 + (grownCap w n 0 50 - n) * 2 = _
      omega
    have hE : Ext No w (w.drew.alloc (.cells (Builtin.zeroCells (Value.agg #[.string ByteArray.empty, .string ByteArray.empty]).cells n ++ Builtin.zeroCells (Value.agg #[.string ByteArray.empty, .string ByteArray.empty]).cells (grownCap w n 0 50 - n)) 50)) := (Ext.refl No w).drew.alloc _
    generalize w.drew.alloc (.cells (Builtin.zeroCells (Value.agg #[.string ByteArray.empty, .string ByteArray.empty]).cells n ++ Builtin.zeroCells (Value.agg #[.string ByteArray.empty, .string ByteArray.empty]).cells (grownCap w n 0 50 - n)) 50) = W1 at hrun hown hE
    have hcap := grownCap_ge w n 0 50
    generalize grownCap w n 0 50 = cap at hrun hown hcap
    have HR := Lib.hid hrun
    have HO := Lib.hid hown
    have HE := Lib.hid hE
    clear hrun hown hE hi hz hs hb
    go_enter Tryd.func51, Tryd.ntmps51
    go_wp2_with (at_builtin; refine Lib.wpList_append_run _ rfl (.tmp 20) (.tmp 21) 23 3 rfl (.slice none 0 0) (.int .i64 (n : Int)) rfl rfl _ W1 HR.out ?_)
    go_ret
    exact ⟨_, rfl, HO.out, HE.out⟩
theorem grow_pure (n : Nat) (hn : n ≤ 1000000000) :
    PCalls Tryd.prog 51 [.c (.v (.slice none 0 0)), .c (.v (.int .i64 n))] [] fun r os => r = .c (.own 0 0) ∧ os = [.arr 50 2 []] := fun Γ w xs hm hx => by
  have hxs := rp_vals (vs := [.slice none 0 0, .int .i64 (n : Int)]) hx
  rw [hxs]
  refine (grow_walk n w (by omega)).mono ?_
  rintro e w' ⟨v, rfl, hrow, hE⟩
  have hS := Same.of_ext hE
  have hn0 : Γ.n = 0 := hm.n
  obtain ⟨_, h2⟩ := hrow
  have fin : ∀ (b c : Nat) (v : Value), RO w' (Γ.push b c) Γ.n (.arr 50 2 []) → (0 < c → w.heap.size ≤ b) → OwnRep (Γ.push b c) Γ.n 0 v →
      ∃ r os' Γ' y, Ending.returned v = .returned y ∧ (r = .c (.own 0 0) ∧ os' = [.arr 50 2 []]) ∧ RP w' Γ' r y ∧ ([] : List Ob).length ≤ os'.length ∧ MemOk Γ' os' w' ∧ Grow ([] : List Ob).length Γ w Γ' w' := by
    intro b c v hro hb hrep
    rw [hn0] at hrep
    exact ⟨_, _, Γ.push b c, v, rfl, ⟨rfl, rfl⟩, ⟨by simp [G.push, hn0], hrep⟩, by simp, hm.push hS _ b c hro hb, grow_push hm hE b c hb (Nat.zero_le _)⟩
  rcases h2 with ⟨rfl, _⟩ | ⟨g, cap, cur, rfl, hb, hg, _, hcm, hsz, _⟩
  · exact fin 0 0 _ ⟨by simp, by omega, fun _ => rfl, fun h => absurd h (by simp [G.push, upd_same])⟩ (fun h => absurd h (by omega)) (.inl ⟨by simp [G.push, upd_same], ⟨none, rfl⟩, rfl⟩)
  · rcases Nat.eq_zero_or_pos cap with h0 | h0
    · subst h0
      exact fin 0 0 _ ⟨by simp, by omega, fun _ => rfl, fun h => absurd h (by simp [G.push, upd_same])⟩ (fun h => absurd h (by omega)) (.inl ⟨by simp [G.push, upd_same], ⟨_, rfl⟩, rfl⟩)
    · refine fin g cap _ ⟨by simp, by omega, fun _ => rfl, fun _ => ⟨cur, by simp only [G.push, upd_same]; exact hg, by simp only [G.push, upd_same]; exact hsz, by simp, by simp only [G.push, upd_same]; exact hcm, by simp [All2]⟩⟩ (fun _ => hb) (.inr ⟨by simp [G.push, upd_same, h0], by simp [G.push, upd_same], by simp⟩)
end Go.Proofs.YtfojijoekpkheaaDoor
