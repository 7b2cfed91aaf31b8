/- The sanity check of the law package. -/
import Derived.Test.YtfibfahgdjhhkaaSockC
namespace Go.Proofs.Ytfibfahgdjhhkaa
open Go.RowKit
set_option linter.unusedVariables false
set_option linter.unusedSimpArgs false

theorem known_walk (w : World) : Calls Try.prog 10 #[] w fun e w' => e = .returned (.bool true) ∧ Ext No w w' := by
  go_enter Try.func10, Try.ntmps10
  go_wp2_with fail
  refine (new_good 2 w (by omega) (by omega)).mono ?_
  rintro e w1 ⟨rfl, hs1, hE1⟩
  have HE1 := Lib.hid hE1
  have HS1 := Lib.hid hs1
  clear hE1 hs1
  go_wp2_with fail
  refine (send_room _ _ _ _ _ ⟨1, 0, 0, ByteArray.empty, ByteArray.empty⟩ w1 HS1.out (by decide)).mono ?_
  rintro e w2 ⟨rfl, hs2, hE2⟩
  have HE2 := Lib.hid (HE1.out.trans_new hE2 (fun i h => .inr (by omega)))
  have HS2 := Lib.hid hs2
  clear hE2 hs2 HE1 HS1
  go_wp2_with fail
  refine (send_room _ _ _ _ _ ⟨2, 0, 0, ByteArray.empty, ByteArray.empty⟩ w2 HS2.out (by decide)).mono ?_
  rintro e w3 ⟨rfl, hs3, hE3⟩
  have HE3 := Lib.hid (HE2.out.trans_new hE3 (fun i h => .inr (by omega)))
  have HS3 := Lib.hid hs3
  clear hE3 hs3 HE2 HS2
  go_wp2_with fail
  refine (send_full _ _ _ _ _ ⟨3, 0, 0, ByteArray.empty, ByteArray.empty⟩ w3 HS3.out (by decide)).mono ?_
  rintro e w4 ⟨rfl, hs4, hE4⟩
  have HE4 := Lib.hid (HE3.out.trans_new hE4 (fun i h => .inr (by omega)))
  have HS4 := Lib.hid hs4
  clear hE4 hs4 HE3 HS3
  go_wp2_with fail
  refine (recv_walk _ _ _ _ _ 1 w4 HS4.out).mono ?_
  rintro e w5 ⟨rfl, hb5, hs5, hE5⟩
  have c0 := hb5.cell 0
  simp [flat, Ev.cells] at c0
  have HE5 := Lib.hid (HE4.out.trans_new hE5 (fun i h => .inr (by omega)))
  have HS5 := Lib.hid hs5
  clear hE5 hs5 HE4 HS4 hb5
  go_wp2_with fail
  refine (send_room _ _ _ _ _ ⟨4, 0, 0, ByteArray.empty, ByteArray.empty⟩ w5 HS5.out (by decide)).mono ?_
  rintro e w6 ⟨rfl, hs6, hE6⟩
  have HE6 := Lib.hid (HE5.out.trans_new hE6 (fun i h => .inr (by omega)))
  have HS6 := Lib.hid hs6
  clear hE6 hs6 HE5 HS5 c0
  go_wp2_with fail
  refine (lost_walk _ _ _ _ _ w6 HS6.out).mono ?_
  rintro e w7 ⟨rfl, hs7, hE7⟩
  have HE7 := Lib.hid (HE6.out.trans_new hE7 (fun i h => .inr (by omega)))
  have HS7 := Lib.hid hs7
  clear hE7 hs7 HE6 HS6
  go_wp2_with fail
  refine (lost_walk _ _ _ _ _ w7 HS7.out).mono ?_
  rintro e w8 ⟨rfl, hs8, hE8⟩
  have HE8 := Lib.hid (HE7.out.trans_new hE8 (fun i h => .inr (by omega)))
  have HS8 := Lib.hid hs8
  clear hE8 hs8 HE7 HS7
  go_wp2_with fail
  refine (len_walk _ _ _ _ _ w8 HS8.out).mono ?_
  rintro e w9 ⟨rfl, rfl⟩
  go_wp2_with fail
  go_ret
  exact ⟨rfl, HE8.out⟩
end Go.Proofs.Ytfibfahgdjhhkaa
