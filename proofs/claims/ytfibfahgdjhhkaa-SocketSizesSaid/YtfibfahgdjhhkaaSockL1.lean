/- SocketSizes: the walk. -/
import Derived.Test.YtfibfahgdjhhkaaSockK
namespace Go.Proofs.Ytfibfahgdjhhkaa
open Go.RowKit
set_option linter.unusedVariables false
set_option linter.unusedSimpArgs false

set_option maxRecDepth 100000 in
theorem sizes_walk (n : Int) (hn : -9223372036854775808 ≤ n ∧ n ≤ 9223372036854775807) (m : Int) (hm : -9223372036854775808 ≤ m ∧ m ≤ 9223372036854775807) (w : World) :
    Calls Try.prog 4 #[.int .i64 n, .int .i64 m] w fun e w' => e = .returned (.bool true) ∧ Ext No w w' := by
  obtain ⟨hf1, hf2⟩ := fold_bd m 256 (by omega)
  obtain ⟨q, hq⟩ : ∃ q : Nat, 1 + fold m 256 = (q : Int) := ⟨(1 + fold m 256).toNat, by omega⟩
  have hq1 : 1 ≤ q := by omega
  have hq2 : q ≤ 256 := by omega
  have HM := Lib.hid hm
  clear hm
  by_cases hgood : 1 ≤ n ∧ n ≤ 256
  · obtain ⟨n', rfl⟩ := Int.eq_ofNat_of_zero_le (show 0 ≤ n by omega)
    go_enter Try.func4, Try.ntmps4
    go_wp2_with fail
    refine (new_good n' w (by omega) (by omega)).mono ?_
    rintro e w1 ⟨rfl, _, hE1⟩
    have HE1 := Lib.hid hE1
    clear hE1
    go_wp2_with fail
    refine (refnew_good n' w1 (by omega) (by omega)).mono ?_
    rintro e w2 ⟨rfl, hE2⟩
    have HE2 := Lib.hid (HE1.out.trans hE2)
    clear hE2 HE1
    go_wp2_with fail
    refine (known_walk _).mono ?_
    rintro e w3 ⟨rfl, hE3⟩
    have HE3 := Lib.hid ((HE2.out.alloc (.cells #[.int .i64 (n' : Int), .slice none 0 0, .bool false] 33)).trans hE3)
    clear hE3 HE2
    go_wp2_with fail
    refine (fold_walk m 256 w3 HM.out.1 HM.out.2 (by omega)).mono ?_
    rintro e w4 ⟨rfl, rfl⟩
    go_wp2_with fail
    refine (new_good q w3 hq1 hq2).mono ?_
    rintro e w4 ⟨rfl, hs4, hE4⟩
    have HQ := Lib.hid hq
    have HE4 := Lib.hid (HE3.out.trans hE4)
    have HS4 := Lib.hid hs4
    have hz3 := Lib.hid HE3.out.size
    clear hE4 hs4 HE3 hq
    go_wp2_with fail
    go_loopw [11] (fun i wr => ∃ k : Nat, k ≤ q ∧ i = .int .i64 (k : Int) ∧ (∃ evs : List Ev, evs.length = k ∧ Sock wr (w3.heap.size + 1) w3.heap.size q evs false) ∧ Ext No w wr) (fun i _ => q - (intOf i).toNat)
    case atStart => exact ⟨0, Nat.zero_le _, rfl, ⟨[], rfl, HS4.out⟩, HE4.out⟩
    case round =>
      obtain ⟨k, hk, rfl, ⟨evs, hlen, hs⟩, hE⟩ := hrel
      have HL := Lib.hid hlen
      have HS := Lib.hid hs
      have HE := Lib.hid hE
      clear hlen hs hE
      by_cases hlt : k < q
      · go_wp2_with fail
        refine (send_room _ _ _ _ _ ⟨k, 0, 0, ByteArray.empty, ByteArray.empty⟩ wr HS.out (by rw [HL.out]; exact hlt)).mono ?_
        rintro e w5 ⟨rfl, hs5, hE5⟩
        have HS5 := Lib.hid hs5
        have HE5 := Lib.hid (HE.out.trans_new hE5 (fun i h => .inr (by have := hz3.out; omega)))
        clear hs5 hE5
        go_wp2_with fail
        go_roundw
        case rel => exact ⟨k + 1, by omega, by go_num, ⟨_, by simp [HL.out], HS5.out⟩, HE5.out⟩
        case measure => simp [intOf]; omega
      · obtain rfl : k = q := by omega
        go_wp2_with fail
        refine (send_full _ _ _ _ _ ⟨0, 0, 0, ByteArray.empty, ByteArray.empty⟩ wr HS.out HL.out).mono ?_
        rintro e w5 ⟨rfl, hs5, hE5⟩
        have HS5 := Lib.hid hs5
        have HE5 := Lib.hid (HE.out.trans_new hE5 (fun i h => .inr (by have := hz3.out; omega)))
        clear hs5 hE5
        go_wp2_with fail
        refine (len_walk _ _ _ _ _ w5 HS5.out).mono ?_
        rintro e w6 ⟨rfl, rfl⟩
        have hl1 := HL.out
        go_wp2_with fail
        refine (recv_walk _ _ _ _ _ ((k : Int) + 1) w5 HS5.out).mono ?_
        rintro e w6 ⟨rfl, hb6, hs6, hE6⟩
        have hm6 : min ((k : Int) + 1).toNat evs.length = k := by omega
        have hd6 : (evs.drop ((k : Int) + 1).toNat).length = 0 := by rw [List.length_drop]; omega
        rw [hm6]
        have HS6 := Lib.hid hs6
        have HE6 := Lib.hid (HE5.out.trans_new hE6 (fun i h => .inr (by have := hz3.out; omega)))
        have HD6 := Lib.hid hd6
        clear hs6 hE6 hb6 hm6 hd6 hl1
        go_wp2_with fail
        refine (len_walk _ _ _ _ _ w6 HS6.out).mono ?_
        rintro e w7 ⟨rfl, rfl⟩
        rw [HD6.out]
        go_wp2_with fail
        go_ret
        exact ⟨rfl, HE6.out⟩
  · go_enter Try.func4, Try.ntmps4
    go_wp2_with fail
    refine (new_bad n w (by omega)).mono ?_
    rintro e w1 ⟨rfl, rfl⟩
    have HE1 := Lib.hid (Ext.refl No w)
    go_wp2_with fail
    refine (refnew_bad n w (by omega)).mono ?_
    rintro e w2 ⟨rfl, hE2⟩
    have HE2 := Lib.hid (HE1.out.trans hE2)
    clear hE2 HE1
    go_wp2_with fail
    refine (known_walk _).mono ?_
    rintro e w3 ⟨rfl, hE3⟩
    have HE3 := Lib.hid ((HE2.out.alloc (.cells #[.int .i64 0, .slice none 0 0, .bool false] 33)).trans hE3)
    clear hE3 HE2
    go_wp2_with fail
    refine (fold_walk m 256 w3 HM.out.1 HM.out.2 (by omega)).mono ?_
    rintro e w4 ⟨rfl, rfl⟩
    go_wp2_with fail
    refine (new_good q w3 hq1 hq2).mono ?_
    rintro e w4 ⟨rfl, hs4, hE4⟩
    have HQ := Lib.hid hq
    have HE4 := Lib.hid (HE3.out.trans hE4)
    have HS4 := Lib.hid hs4
    have hz3 := Lib.hid HE3.out.size
    clear hE4 hs4 HE3 hq
    go_wp2_with fail
    go_loopw [11] (fun i wr => ∃ k : Nat, k ≤ q ∧ i = .int .i64 (k : Int) ∧ (∃ evs : List Ev, evs.length = k ∧ Sock wr (w3.heap.size + 1) w3.heap.size q evs false) ∧ Ext No w wr) (fun i _ => q - (intOf i).toNat)
    case atStart => exact ⟨0, Nat.zero_le _, rfl, ⟨[], rfl, HS4.out⟩, HE4.out⟩
    case round =>
      obtain ⟨k, hk, rfl, ⟨evs, hlen, hs⟩, hE⟩ := hrel
      have HL := Lib.hid hlen
      have HS := Lib.hid hs
      have HE := Lib.hid hE
      clear hlen hs hE
      by_cases hlt : k < q
      · go_wp2_with fail
        refine (send_room _ _ _ _ _ ⟨k, 0, 0, ByteArray.empty, ByteArray.empty⟩ wr HS.out (by rw [HL.out]; exact hlt)).mono ?_
        rintro e w5 ⟨rfl, hs5, hE5⟩
        have HS5 := Lib.hid hs5
        have HE5 := Lib.hid (HE.out.trans_new hE5 (fun i h => .inr (by have := hz3.out; omega)))
        clear hs5 hE5
        go_wp2_with fail
        go_roundw
        case rel => exact ⟨k + 1, by omega, by go_num, ⟨_, by simp [HL.out], HS5.out⟩, HE5.out⟩
        case measure => simp [intOf]; omega
      · obtain rfl : k = q := by omega
        go_wp2_with fail
        refine (send_full _ _ _ _ _ ⟨0, 0, 0, ByteArray.empty, ByteArray.empty⟩ wr HS.out HL.out).mono ?_
        rintro e w5 ⟨rfl, hs5, hE5⟩
        have HS5 := Lib.hid hs5
        have HE5 := Lib.hid (HE.out.trans_new hE5 (fun i h => .inr (by have := hz3.out; omega)))
        clear hs5 hE5
        go_wp2_with fail
        refine (len_walk _ _ _ _ _ w5 HS5.out).mono ?_
        rintro e w6 ⟨rfl, rfl⟩
        have hl1 := HL.out
        go_wp2_with fail
        refine (recv_walk _ _ _ _ _ ((k : Int) + 1) w5 HS5.out).mono ?_
        rintro e w6 ⟨rfl, hb6, hs6, hE6⟩
        have hm6 : min ((k : Int) + 1).toNat evs.length = k := by omega
        have hd6 : (evs.drop ((k : Int) + 1).toNat).length = 0 := by rw [List.length_drop]; omega
        rw [hm6]
        have HS6 := Lib.hid hs6
        have HE6 := Lib.hid (HE5.out.trans_new hE6 (fun i h => .inr (by have := hz3.out; omega)))
        have HD6 := Lib.hid hd6
        clear hs6 hE6 hb6 hm6 hd6 hl1
        go_wp2_with fail
        refine (len_walk _ _ _ _ _ w6 HS6.out).mono ?_
        rintro e w7 ⟨rfl, rfl⟩
        rw [HD6.out]
        go_wp2_with fail
        go_ret
        exact ⟨rfl, HE6.out⟩
end Go.Proofs.Ytfibfahgdjhhkaa
