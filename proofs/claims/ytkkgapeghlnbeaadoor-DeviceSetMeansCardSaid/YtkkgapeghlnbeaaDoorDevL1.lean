/- The walk of DeviceSets. -/
import Derived.Test.YtkkgapeghlnbeaaDoorKnown
namespace Go.Proofs.YtkkgapeghlnbeaaDoor
open Go.RowKit
set_option linter.unusedVariables false
set_option linter.unusedSimpArgs false

/-- what turned only the block that was new at the start turned nothing old -/
theorem ext_new {w w' : World} {b : Nat} (h : Ext (· = b) w w') {W : World} (h0 : Ext No W w) (hb : W.heap.size ≤ b) : Ext No W w' :=
  h0.trans_new h (fun i hi => .inr (by rw [hi]; exact hb))
def names4 : List ByteArray := [⟨#[97]⟩, ⟨#[98]⟩, ⟨#[99, 111, 110, 116, 101, 110, 116]⟩, ⟨#[121]⟩]

set_option maxHeartbeats 2000000 in
set_option maxRecDepth 1000000 in
theorem sets_walk {w : World} (A : Option Addr) (L : List Int) (c : Nat) (hl : L.length ≤ 9223372036854775807) (hr : Rd w (fun _ => True) 1 A L.length (L.map (Value.int .i64)))
    (hb : ∀ i, i < L.length → -9223372036854775808 ≤ L.getD i 0 ∧ L.getD i 0 ≤ 9223372036854775807) (n v : ByteArray) (hm : MaxLen w) :
    Calls Tryd.prog 3 #[.slice A L.length c, .string n, .string v] w fun e w' => e = .returned (.bool true) ∧ Ext No w w' := by
  have hT0 := tape_new (T := 25) (c := c) hl hr hb
  have hE0 : Ext No w (w.alloc (.cells #[.slice A L.length c, .int .i64 0] 25)) := (Ext.refl No w).alloc _
  have hat := attrs_walk _ _ 0 L _ hT0 (by omega)
  have hsz : (w.alloc (.cells #[.slice A L.length c, .int .i64 0] 25)).heap.size = w.heap.size + 1 := by simp
  have HE0 := Lib.hid hE0
  have HAT := Lib.hid hat
  have HMX := Lib.hid hm
  have hw0 := hm.lt
  clear hT0 hE0 hat hr hb hm
  go_enter Tryd.func3, Tryd.ntmps3
  go_wp2_with (go_at_call 10; refine HAT.out.mono ?_; rintro e w1 ⟨vs, l, rfl, hM, hO, ⟨j, hj, hT⟩, hE1⟩)
  obtain ⟨Al, cl, rfl, hcl, _, hRl⟩ := own_form hO
  have hlen := hM.len
  have hE1' := ext_new hE1 HE0.out (Nat.le_refl _)
  have HR1 := Lib.hid hRl
  have HT1 := Lib.hid hT
  have HE1 := Lib.hid hE1'
  have HM := Lib.hid hM
  clear hRl hT hE1 hE1' hM hO HAT HE0
  have hbd := fold_bd (tapeAt L j) 2 (by omega)
  have hnx := next_walk _ _ j L 2 w1 HT1.out (by omega) (by omega)
  by_cases hz : fold (tapeAt L j) 2 = 0
  · rw [hz] at hnx
    clear hz hbd
    go_wp2_with first
      | (go_at_call 11; refine hnx.mono ?_; rintro e w2 ⟨rfl, hT2, hE2⟩; have hb2 := hT2.lt; have hr2 : Rd (w2.alloc (.cells #[.string ⟨#[97]⟩, .string ⟨#[98]⟩, .string ⟨#[99, 111, 110, 116, 101, 110, 116]⟩, .string ⟨#[121]⟩] 9)) (fun b => b = w2.heap.size) 1 (some ⟨w2.heap.size, 0, none⟩) 4 (rows strCells names4) := rd_new w2 _ (rows strCells names4) 4 1 rfl; have hE3 : Ext No w2 (w2.alloc (.cells #[.string ⟨#[97]⟩, .string ⟨#[98]⟩, .string ⟨#[99, 111, 110, 116, 101, 110, 116]⟩, .string ⟨#[121]⟩] 9)) := (Ext.refl No w2).alloc _; have HN2 := Lib.hid (one_walk _ _ (j + 1) L _ _ 4 names4 4 rfl _ (hT2.ext hE3 (fun _ _ h => h)) (by omega) hr2 (fun i hi => by omega) (by omega) (by omega)); have HR2 := Lib.hid ((HR1.out.ext hE2 (fun i hi h => by omega)).ext hE3 (fun _ _ h => h)); have HE2 := Lib.hid ((ext_new hE2 HE1.out (Nat.le_refl _)).trans hE3); clear hT2 hr2 hE3 hE2 hnx HT1 HR1 HE1)
      | (go_at_call 12; refine HN2.out.mono ?_; rintro e w3 ⟨⟨x, hx, rfl⟩, hT3, hE3⟩; have HR3 := Lib.hid (HR2.out.ext hE3 (fun i hi h => by omega)); have HE3 := Lib.hid (ext_new hE3 HE2.out (Nat.le_refl _)); clear hT3 hE3 HR2 HE2 HN2)
      | (at_builtin; refine wpList_append_rd rfl (.const (.slice none 0 0)) (.tmp 22) 26 rfl w3.heap.size 58 2 32 slAt _ 0 [] rfl (own_nil _ _ _ _) _ Al l.length cl (rows At.cells l) rfl HR3.out (rows_one At.one _) (by simp only [maxLen]; omega) (by omega) (Nat.le_refl _) ?_; intro v4 w4 hO4 hE4 hat4; rw [Nat.zero_add, List.nil_append] at hO4; have hE4' : Ext No w3 w4 := hE4.mono (fun k hk => by cases hk); obtain ⟨A4, c4, rfl, hc4, _, hR4⟩ := own_form hO4; have HW4 := Lib.hid hR4; have HL4 := Lib.hid (HR3.out.ext hE4' (fun _ _ h => h)); have HE4 := Lib.hid (HE3.out.trans hE4'); clear hO4 hE4 hat4 hR4 hE4')
      | (go_at_call 13; refine (set_walk _ Al cl l x v w4 HL4.out (by omega) hcl ((asc_pw l).2 HM.out.up)).mono ?_; rintro e w5 ⟨v5, rfl, hO5, hE5⟩; rw [devSet_eq] at hO5; obtain ⟨A5, c5, rfl, hc5, _, hR5⟩ := own_form hO5; have HS5 := Lib.hid hR5; have HL5 := Lib.hid (HL4.out.ext hE5 (fun _ _ h => h)); have HW5 := Lib.hid (HW4.out.ext hE5 (fun _ _ h => h)); have HE5 := Lib.hid (HE4.out.trans hE5); clear hO5 hE5 hR5 HL4 HW4 HE4)
      | (go_at_call 15; refine (refset_walk _ Al cl l x v w5 HL5.out (by omega)).mono ?_; rintro e w6 ⟨v6, rfl, hO6, hE6⟩; rw [refSet_eq ((asc_pw l).2 HM.out.up)] at hO6; obtain ⟨A6, c6, rfl, hc6, _, hR6⟩ := own_form hO6; have HS6 := Lib.hid (HS5.out.ext hE6 (fun _ _ h => h)); have HF6 := Lib.hid hR6; have HL6 := Lib.hid (HL5.out.ext hE6 (fun _ _ h => h)); have HW6 := Lib.hid (HW5.out.ext hE6 (fun _ _ h => h)); have HE6 := Lib.hid (HE5.out.trans hE6); have hil := insM_len x v l; clear hO6 hE6 hR6 HL5 HW5 HE5 HS5)
      | (go_at_call 14; refine (sameattrs_walk _ _ Al A4 cl c4 l l (w6.drewN n7) (HL6.out.drewN n7) (HW6.out.drewN n7) (by omega) (by omega)).mono ?_; rintro e w8 ⟨rfl, n8, rfl⟩; rw [decide_eq_true (rfl : l = l)])
      | (go_at_call 14; refine (sameattrs_walk _ _ A5 A6 c5 c6 (insM x v l) (insM x v l) w6 HS6.out HF6.out (by omega) (by omega)).mono ?_; rintro e w7 ⟨rfl, n7, rfl⟩; rw [decide_eq_true (rfl : insM x v l = insM x v l)])
      | (go_at_call 16; refine (known_walk (w6.drewN (n7 + n8)) (HMX.out.ext (HE6.out.drewN (n7 + n8)) (fun h => h))).mono ?_; rintro e w9 ⟨rfl, hE9⟩; have HE9 := Lib.hid ((HE6.out.drewN (n7 + n8)).trans hE9))
    
    go_ret
    exact ⟨rfl, HE9.out⟩
  · have hz1 : fold (tapeAt L j) 2 = 1 := by omega
    rw [hz1] at hnx
    clear hz hbd hz1
    go_wp2_with first
      | (go_at_call 11; refine hnx.mono ?_; rintro e w2 ⟨rfl, hT2, hE2⟩; have HR2 := Lib.hid (HR1.out.ext hE2 (fun i hi h => by omega)); have HE2 := Lib.hid (ext_new hE2 HE1.out (Nat.le_refl _)); clear hT2 hE2 hnx HT1 HR1 HE1)
      | (at_builtin; refine wpList_append_rd rfl (.const (.slice none 0 0)) (.tmp 22) 26 rfl w2.heap.size 58 2 32 slAt _ 0 [] rfl (own_nil _ _ _ _) _ Al l.length cl (rows At.cells l) rfl HR2.out (rows_one At.one _) (by simp only [maxLen]; omega) (by omega) (Nat.le_refl _) ?_; intro v4 w4 hO4 hE4 hat4; rw [Nat.zero_add, List.nil_append] at hO4; have hE4' : Ext No w2 w4 := hE4.mono (fun k hk => by cases hk); obtain ⟨A4, c4, rfl, hc4, _, hR4⟩ := own_form hO4; have HW4 := Lib.hid hR4; have HL4 := Lib.hid (HR2.out.ext hE4' (fun _ _ h => h)); have HE4 := Lib.hid (HE2.out.trans hE4'); clear hO4 hE4 hat4 hR4 hE4')
      | (go_at_call 13; refine (set_walk _ Al cl l n v w4 HL4.out (by omega) hcl ((asc_pw l).2 HM.out.up)).mono ?_; rintro e w5 ⟨v5, rfl, hO5, hE5⟩; rw [devSet_eq] at hO5; obtain ⟨A5, c5, rfl, hc5, _, hR5⟩ := own_form hO5; have HS5 := Lib.hid hR5; have HL5 := Lib.hid (HL4.out.ext hE5 (fun _ _ h => h)); have HW5 := Lib.hid (HW4.out.ext hE5 (fun _ _ h => h)); have HE5 := Lib.hid (HE4.out.trans hE5); clear hO5 hE5 hR5 HL4 HW4 HE4)
      | (go_at_call 15; refine (refset_walk _ Al cl l n v w5 HL5.out (by omega)).mono ?_; rintro e w6 ⟨v6, rfl, hO6, hE6⟩; rw [refSet_eq ((asc_pw l).2 HM.out.up)] at hO6; obtain ⟨A6, c6, rfl, hc6, _, hR6⟩ := own_form hO6; have HS6 := Lib.hid (HS5.out.ext hE6 (fun _ _ h => h)); have HF6 := Lib.hid hR6; have HL6 := Lib.hid (HL5.out.ext hE6 (fun _ _ h => h)); have HW6 := Lib.hid (HW5.out.ext hE6 (fun _ _ h => h)); have HE6 := Lib.hid (HE5.out.trans hE6); have hil := insM_len n v l; clear hO6 hE6 hR6 HL5 HW5 HE5 HS5)
      | (go_at_call 14; refine (sameattrs_walk _ _ Al A4 cl c4 l l (w6.drewN n7) (HL6.out.drewN n7) (HW6.out.drewN n7) (by omega) (by omega)).mono ?_; rintro e w8 ⟨rfl, n8, rfl⟩; rw [decide_eq_true (rfl : l = l)])
      | (go_at_call 14; refine (sameattrs_walk _ _ A5 A6 c5 c6 (insM n v l) (insM n v l) w6 HS6.out HF6.out (by omega) (by omega)).mono ?_; rintro e w7 ⟨rfl, n7, rfl⟩; rw [decide_eq_true (rfl : insM n v l = insM n v l)])
      | (go_at_call 16; refine (known_walk (w6.drewN (n7 + n8)) (HMX.out.ext (HE6.out.drewN (n7 + n8)) (fun h => h))).mono ?_; rintro e w9 ⟨rfl, hE9⟩; have HE9 := Lib.hid ((HE6.out.drewN (n7 + n8)).trans hE9))
    
    go_ret
    exact ⟨rfl, HE9.out⟩
end Go.Proofs.YtkkgapeghlnbeaaDoor
