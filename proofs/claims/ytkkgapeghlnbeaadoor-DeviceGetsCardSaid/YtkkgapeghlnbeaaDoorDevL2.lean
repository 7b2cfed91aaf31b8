/- The walk of DeviceGets. -/
import Derived.Test.YtkkgapeghlnbeaaDoorDevL1
namespace Go.Proofs.YtkkgapeghlnbeaaDoor
open Go.RowKit
set_option linter.unusedVariables false
set_option linter.unusedSimpArgs false

set_option maxHeartbeats 2000000 in
set_option maxRecDepth 1000000 in
theorem gets_walk {w : World} (Ar : Option Addr) (raw : List At) (cr : Nat) (hraw : raw.length ≤ 9223372036854775807) (hrr : Rd w (fun _ => True) 2 Ar raw.length (rows At.cells raw)) (n : ByteArray) (A : Option Addr) (L : List Int) (c : Nat) (hl : L.length ≤ 9223372036854775807) (hr : Rd w (fun _ => True) 1 A L.length (L.map (Value.int .i64)))
    (hb : ∀ i, i < L.length → -9223372036854775808 ≤ L.getD i 0 ∧ L.getD i 0 ≤ 9223372036854775807) (hm : MaxLen w) :
    Calls Tryd.prog 4 #[.slice Ar raw.length cr, .string n, .slice A L.length c] w fun e w' => e = .returned (.bool true) ∧ Ext No w w' := by
  have hT0 := tape_new (T := 25) (c := c) hl hr hb
  have hE0 : Ext No w (w.alloc (.cells #[.slice A L.length c, .int .i64 0] 25)) := (Ext.refl No w).alloc _
  have hat := attrs_walk _ _ 0 L _ hT0 (by omega)
  have hsz : (w.alloc (.cells #[.slice A L.length c, .int .i64 0] 25)).heap.size = w.heap.size + 1 := by simp
  have HE0 := Lib.hid hE0
  have HAT := Lib.hid hat
  have HMX := Lib.hid hm
  have hw0 := hm.lt
  have HRAW := Lib.hid hrr
  clear hT0 hE0 hat hr hb hm hrr
  go_enter Tryd.func4, Tryd.ntmps4
  go_wp2_with (go_at_call 10; refine HAT.out.mono ?_; rintro e w1 ⟨vs, l, rfl, hM, hO, ⟨j, hj, hT⟩, hE1⟩)
  obtain ⟨Al, cl, rfl, hcl, _, hRl⟩ := own_form hO
  have hlen := hM.len
  have hE1' := ext_new hE1 HE0.out (Nat.le_refl _)
  have HR1 := Lib.hid hRl
  have HT1 := Lib.hid hT
  have HE1 := Lib.hid hE1'
  have HM := Lib.hid hM
  clear hRl hT hE1 hE1' hM hO HAT HE0
  have hbd := fold_bd (tapeAt L j) 2 (by omega)
  have hnx := next_walk _ _ j L 2 w1 HT1.out (by omega) (by omega)
  by_cases hz : fold (tapeAt L j) 2 = 0
  · rw [hz] at hnx
    clear hz hbd
    go_wp2_with first
      | (go_at_call 11; refine hnx.mono ?_; rintro e w2 ⟨rfl, hT2, hE2⟩; have hb2 := hT2.lt; have hr2 : Rd (w2.alloc (.cells #[.string ⟨#[97]⟩, .string ⟨#[98]⟩, .string ⟨#[99, 111, 110, 116, 101, 110, 116]⟩, .string ⟨#[121]⟩] 9)) (fun b => b = w2.heap.size) 1 (some ⟨w2.heap.size, 0, none⟩) 4 (rows strCells names4) := rd_new w2 _ (rows strCells names4) 4 1 rfl; have hE3 : Ext No w2 (w2.alloc (.cells #[.string ⟨#[97]⟩, .string ⟨#[98]⟩, .string ⟨#[99, 111, 110, 116, 101, 110, 116]⟩, .string ⟨#[121]⟩] 9)) := (Ext.refl No w2).alloc _; have HN2 := Lib.hid (one_walk _ _ (j + 1) L _ _ 4 names4 4 rfl _ (hT2.ext hE3 (fun _ _ h => h)) (by omega) hr2 (fun i hi => by omega) (by omega) (by omega)); have HR2 := Lib.hid ((HR1.out.ext hE2 (fun i hi h => by omega)).ext hE3 (fun _ _ h => h)); have HE2 := Lib.hid ((ext_new hE2 HE1.out (Nat.le_refl _)).trans hE3); clear hT2 hr2 hE3 hE2 hnx HT1 HR1 HE1)
      | (go_at_call 12; refine HN2.out.mono ?_; rintro e w3 ⟨⟨x, hx, rfl⟩, hT3, hE3⟩; have HR3 := Lib.hid (HR2.out.ext hE3 (fun i hi h => by omega)); have HE3 := Lib.hid (ext_new hE3 HE2.out (Nat.le_refl _)); clear hT3 hE3 HR2 HE2 HN2)
      | (go_at_call 18; refine (refget_walk _ Al cl l x w6 HL6.out (by omega)).mono ?_; rintro e w7 ⟨rfl, hE7⟩; have HL7 := Lib.hid (HL6.out.ext hE7 (fun _ _ h => h)); have HE7 := Lib.hid (HE6.out.trans hE7); clear hE7 HL6 HE6)
      | (go_at_call 17; refine (get_walk _ Al cl l x w5 HL5.out (by omega)).mono ?_; rintro e w6 ⟨rfl, hE6⟩; have HL6 := Lib.hid (HL5.out.ext hE6 (fun _ _ h => h)); have HE6 := Lib.hid (HE5.out.trans hE6); clear hE6 HL5 HE5)
      | (go_at_call 18; refine (refget_walk _ Ar cr raw x w4 (HRAW.out.lt.ext HE4.out (fun _ _ h => h)) hraw).mono ?_; rintro e w5 ⟨rfl, hE5⟩; have HL5 := Lib.hid (HL4.out.ext hE5 (fun _ _ h => h)); have HE5 := Lib.hid (HE4.out.trans hE5); clear hE5 HL4 HE4)
      | (go_at_call 17; refine (get_walk _ Ar cr raw x w3 (HRAW.out.lt.ext HE3.out (fun _ _ h => h)) hraw).mono ?_; rintro e w4 ⟨rfl, hE4⟩; have HL4 := Lib.hid (HR3.out.ext hE4 (fun _ _ h => h)); have HE4 := Lib.hid (HE3.out.trans hE4); clear hE4)
      | (go_at_call 19; refine (sorted_walk _ Al cl l (w7.drewN (n8 + n9)) (HL7.out.drewN _) (by omega)).mono ?_; rintro e w10 ⟨rfl, n10, rfl⟩; rw [(ascB_iff l).2 ((asc_pw l).2 HM.out.up)])
      | (go_at_call 20; refine (refsorted_walk _ Ar cr raw (w7.drewN n8) (HRAW.out.lt.ext (HE7.out.drewN n8) (fun _ _ h => h)) hraw).mono ?_; rintro e w9 ⟨rfl, n9, rfl⟩)
      | (go_at_call 19; refine (sorted_walk _ Ar cr raw w7 (HRAW.out.lt.ext HE7.out (fun _ _ h => h)) hraw).mono ?_; rintro e w8 ⟨rfl, n8, rfl⟩)
      | (go_at_call 16; refine (known_walk _ (HMX.out.ext (HE7.out.drewN (n8 + n9 + n10)) (fun h => h))).mono ?_; rintro e w11 ⟨rfl, hE11⟩; have HE11 := Lib.hid ((HE7.out.drewN (n8 + n9 + n10)).trans hE11))
    go_ret
    exact ⟨rfl, HE11.out⟩
  · have hz1 : fold (tapeAt L j) 2 = 1 := by omega
    rw [hz1] at hnx
    clear hz hbd hz1
    go_wp2_with first
      | (go_at_call 11; refine hnx.mono ?_; rintro e w2 ⟨rfl, hT2, hE2⟩; have HR2 := Lib.hid (HR1.out.ext hE2 (fun i hi h => by omega)); have HE2 := Lib.hid (ext_new hE2 HE1.out (Nat.le_refl _)); clear hT2 hE2 hnx HT1 HR1 HE1)
      | (go_at_call 18; refine (refget_walk _ Al cl l n w6 HL6.out (by omega)).mono ?_; rintro e w7 ⟨rfl, hE7⟩; have HL7 := Lib.hid (HL6.out.ext hE7 (fun _ _ h => h)); have HE7 := Lib.hid (HE6.out.trans hE7); clear hE7 HL6 HE6)
      | (go_at_call 17; refine (get_walk _ Al cl l n w5 HL5.out (by omega)).mono ?_; rintro e w6 ⟨rfl, hE6⟩; have HL6 := Lib.hid (HL5.out.ext hE6 (fun _ _ h => h)); have HE6 := Lib.hid (HE5.out.trans hE6); clear hE6 HL5 HE5)
      | (go_at_call 18; refine (refget_walk _ Ar cr raw n w4 (HRAW.out.lt.ext HE4.out (fun _ _ h => h)) hraw).mono ?_; rintro e w5 ⟨rfl, hE5⟩; have HL5 := Lib.hid (HL4.out.ext hE5 (fun _ _ h => h)); have HE5 := Lib.hid (HE4.out.trans hE5); clear hE5 HL4 HE4)
      | (go_at_call 17; refine (get_walk _ Ar cr raw n w2 (HRAW.out.lt.ext HE2.out (fun _ _ h => h)) hraw).mono ?_; rintro e w4 ⟨rfl, hE4⟩; have HL4 := Lib.hid (HR2.out.ext hE4 (fun _ _ h => h)); have HE4 := Lib.hid (HE2.out.trans hE4); clear hE4)
      | (go_at_call 19; refine (sorted_walk _ Al cl l (w7.drewN (n8 + n9)) (HL7.out.drewN _) (by omega)).mono ?_; rintro e w10 ⟨rfl, n10, rfl⟩; rw [(ascB_iff l).2 ((asc_pw l).2 HM.out.up)])
      | (go_at_call 20; refine (refsorted_walk _ Ar cr raw (w7.drewN n8) (HRAW.out.lt.ext (HE7.out.drewN n8) (fun _ _ h => h)) hraw).mono ?_; rintro e w9 ⟨rfl, n9, rfl⟩)
      | (go_at_call 19; refine (sorted_walk _ Ar cr raw w7 (HRAW.out.lt.ext HE7.out (fun _ _ h => h)) hraw).mono ?_; rintro e w8 ⟨rfl, n8, rfl⟩)
      | (go_at_call 16; refine (known_walk _ (HMX.out.ext (HE7.out.drewN (n8 + n9 + n10)) (fun h => h))).mono ?_; rintro e w11 ⟨rfl, hE11⟩; have HE11 := Lib.hid ((HE7.out.drewN (n8 + n9 + n10)).trans hE11))
    go_ret
    exact ⟨rfl, HE11.out⟩
end Go.Proofs.YtkkgapeghlnbeaaDoor
