/- The law's known(): device.Node at a block device; its examples. -/
import Derived.Test.YtkkgapeghlnbeaaDoorMake
import Derived.Test.YtkkgapeghlnbeaaDoorShelfR
import Derived.Lib.SplitLaws
namespace Go.Proofs.YtkkgapeghlnbeaaDoor
open Go.RowKit
set_option linter.unusedVariables false
set_option linter.unusedSimpArgs false

/-- internal/bytealg.MaxLen reads as some integer -/
def MaxLen (w : World) : Prop := ∃ m, w.cell? ⟨0, 0, none⟩ = some (.int .i64 m)
theorem maxLen_of {w : World} (h : w.ShapedOpen Tryd.prog) : MaxLen w :=
  Go.Proofs.cell_of_shapedOpen_int (zero := #[.int .i64 0]) (t := 3) h (of_decide_eq_true (by kernel_rfl)) (by kernel_rfl) rfl (by kernel_rfl) (by kernel_rfl) Tryd.underlying3
theorem MaxLen.lt {w : World} (h : MaxLen w) : 0 < w.heap.size := by
  obtain ⟨m, hm⟩ := h
  rcases Nat.eq_zero_or_pos w.heap.size with h0 | h0
  · rw [World.cell?, Array.getElem?_eq_none (by rw [h0]; exact Nat.le_refl _)] at hm
    simp at hm
  · exact h0
theorem MaxLen.ext {w w' : World} {S : Nat → Prop} (h : MaxLen w) (e : Ext S w w') (hS : ¬ S 0) : MaxLen w' := by
  have h0 := h.lt
  obtain ⟨m, hm⟩ := h
  exact ⟨m, (e.cell (p := ⟨0, 0, none⟩) h0 hS).trans hm⟩

def nodeOf (o : ByteArray) : ByteArray := ⟨(Lib.replaceAll o.data.toList [33] [47]).toArray⟩
theorem numbered_walk (k : Int) (w : World) : Calls Tryd.prog 41 #[.int .i64 k] w fun e w' => e = .returned (.bool (k == 2 || k == 3)) ∧ w = w' := by
  by_cases h2 : k = 2
  · subst h2
    go_enter Tryd.func41, Tryd.ntmps41
    go_wp2
    go_ret
    exact ⟨rfl, rfl⟩
  · by_cases h3 : k = 3
    · subst h3
      go_enter Tryd.func41, Tryd.ntmps41
      go_wp2
      go_ret
      exact ⟨rfl, rfl⟩
    · have hr : (k == 2 || k == 3) = false := by simp [h2, h3]
      have hq2 : (k == 2) = false := by simpa using h2
      have hq3 : (k == 3) = false := by simpa using h3
      go_enter Tryd.func41, Tryd.ntmps41
      go_wp2
      go_ret
      exact ⟨ret_bool hr.symm, rfl⟩
theorem node_block (ix pa : Int) (nm o sub drv al : ByteArray) (nb : Int) (av : Value) (w : World) (hm : MaxLen w) (ho : o.size < 4294967281) :
    Calls Tryd.prog 28 #[.agg #[.int .i64 ix, .int .i64 pa, .string nm, .string o, .string sub, .string drv, .string al, .int .i64 2, .int .i64 nb, av]] w fun e w' =>
      e = .returned (.tuple #[.string (nodeOf o), .bool true]) ∧ Ext No w w' := by
  have h0 := hm.lt
  obtain ⟨m, hm0⟩ := hm
  have HO := Lib.hid ho
  have HC := Lib.hid (show o.size + Lib.countB o ⟨#[33]⟩ * (⟨#[47]⟩ : ByteArray).size ≤ 140737488355328 by
    have h := Lib.countB_le ⟨#[33]⟩ (by decide) _ o (Nat.le_refl _)
    show _ + _ * 1 ≤ _
    omega)
  clear ho
  go_enter Tryd.func28, Tryd.ntmps28
  go_wp2_with first | (go_at_call 41; refine (numbered_walk _ _).mono ?_; rintro e w1 ⟨rfl, rfl⟩) | (go_at_call 42; refine (strings_ReplaceAll o ⟨#[33]⟩ ⟨#[47]⟩ m _ HO.out ((((Ext.refl No w).alloc _).cell (p := ⟨0, 0, none⟩) h0 (fun h => h)).trans hm0) (by decide) HC.out).mono ?_; rintro e w1 ⟨rfl, hE1⟩)
  go_ret2
  exact ⟨rfl, ((Ext.refl No w).alloc _).trans (Ext.of_below hE1)⟩

/-! ### the examples -/
def ka : ByteArray := ⟨#[97]⟩
def kl : List At := [⟨⟨#[97]⟩, ⟨#[49]⟩⟩, ⟨⟨#[99]⟩, ⟨#[51]⟩⟩]
theorem kl_asc : Asc kl := by
  rw [← ascB_iff]
  simp [kl, ascB, bless, ByteArray.toList_eq]
  decide
theorem kl_set : devSet kl ⟨#[98]⟩ ⟨#[50]⟩ = [⟨⟨#[97]⟩, ⟨#[49]⟩⟩, ⟨⟨#[98]⟩, ⟨#[50]⟩⟩, ⟨⟨#[99]⟩, ⟨#[51]⟩⟩] := by
  rw [devSet_eq]
  have h1 : bless ⟨#[97]⟩ ⟨#[98]⟩ = true := by simp [bless, ByteArray.toList_eq]; decide
  have h2 : bless ⟨#[99]⟩ ⟨#[98]⟩ = false := by simp [bless, ByteArray.toList_eq]; decide
  simp [kl, insM, one, h1, h2]
theorem kl_up : ascB [⟨⟨#[97]⟩, ⟨#[49]⟩⟩, ⟨⟨#[98]⟩, ⟨#[50]⟩⟩, ⟨⟨#[99]⟩, ⟨#[51]⟩⟩] = true := by
  simp [ascB, bless, ByteArray.toList_eq]
  decide
theorem node_ex : nodeOf ⟨#[99, 99, 105, 115, 115, 33, 99, 48, 100, 48]⟩ = ⟨#[99, 99, 105, 115, 115, 47, 99, 48, 100, 48]⟩ := by decide +kernel
def kl3 : List At := [⟨⟨#[97]⟩, ⟨#[49]⟩⟩, ⟨⟨#[98]⟩, ⟨#[50]⟩⟩, ⟨⟨#[99]⟩, ⟨#[51]⟩⟩]
theorem kl_up' : ascB kl3 = true := kl_up
set_option maxRecDepth 1000000 in
theorem known_walk (w : World) (hm : MaxLen w) : Calls Tryd.prog 16 #[] w fun e w' => e = .returned (.bool true) ∧ Ext No w w' := by
  have h0 := hm.lt
  have hE0 : Ext No w (w.alloc (.cells #[.string ⟨#[97]⟩, .string ⟨#[49]⟩, .string ⟨#[99]⟩, .string ⟨#[51]⟩] 58)) := (Ext.refl No w).alloc _
  have HS := Lib.hid (set_walk (fun b => b = w.heap.size) (some ⟨w.heap.size, 0, none⟩) 2 kl ⟨#[98]⟩ ⟨#[50]⟩ (w.alloc (.cells #[.string ⟨#[97]⟩, .string ⟨#[49]⟩, .string ⟨#[99]⟩, .string ⟨#[51]⟩] 58)) (rd_new w _ (rows At.cells kl) 2 2 rfl) (by decide) (by decide) kl_asc)
  have HE0 := Lib.hid hE0
  have HM := Lib.hid hm
  clear hE0 hm
  go_enter Tryd.func16, Tryd.ntmps16
  go_wp2_with first
    | (go_at_call 13; refine HS.out.mono ?_; rintro e w1 ⟨v1, rfl, hO1, hE1⟩; rw [kl_set] at hO1; obtain ⟨A1, c1, rfl, hc1, _, hR1⟩ := own_form (n := 3) hO1; have HR1 := Lib.hid hR1; have hE1' := HE0.out.trans hE1; have HE1 := Lib.hid hE1'; have HM1 := Lib.hid (HM.out.ext hE1' (fun h => h)); clear hO1 hE1 hE1' HS HE0 hR1)
    | (go_at_call 28; refine (node_block 0 0 ⟨#[]⟩ ⟨#[99, 99, 105, 115, 115, 33, 99, 48, 100, 48]⟩ ⟨#[]⟩ ⟨#[]⟩ ⟨#[]⟩ 0 (.slice none 0 0) w1 HM1.out (by decide)).mono ?_; rintro e w2 ⟨rfl, hE2⟩; rw [node_ex]; obtain ⟨b1, o1, rfl, _, hs1, a0, a1⟩ := rd_at (l := kl3) (k := 1) (HR1.out.ext hE2 (fun _ _ h => h)) (by decide); have HR2 := Lib.hid (HR1.out.ext hE2 (fun _ _ h => h)); have HE2 := Lib.hid (HE1.out.trans hE2); have e0 : w2.cell? ⟨b1, o1 + 2, none⟩ = some (.string ⟨#[98]⟩) := a0; clear hE2 HR1 HE1 HM1 a0 a1)
    | (go_at_call 19; refine (sorted_walk _ _ c1 kl3 _ HR2.out (by decide)).mono ?_; rintro e w3 ⟨rfl, n3, rfl⟩; rw [kl_up'])
  go_ret
  exact ⟨rfl, HE2.out.drewN n3⟩
end Go.Proofs.YtkkgapeghlnbeaaDoor
