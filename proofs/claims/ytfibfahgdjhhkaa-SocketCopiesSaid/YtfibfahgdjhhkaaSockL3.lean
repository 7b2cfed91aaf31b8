/- SocketCopies: the walk. -/
import Derived.Test.YtfibfahgdjhhkaaSockK
namespace Go.Proofs.Ytfibfahgdjhhkaa
open Go.RowKit
set_option linter.unusedVariables false
set_option linter.unusedSimpArgs false

theorem send_any (b r cap : Nat) (evs : List Ev) (lost : Bool) (v : Ev) (w : World) (hs : Sock w b r cap evs lost) :
    Calls Try.prog 16 #[.pointer (some ⟨b, 0, none⟩), v.agg] w fun e w' => ∃ (z : Int) (evs' : List Ev) (lost' : Bool), e = .returned (.int .i64 z) ∧ Sock w' b r cap evs' lost' ∧ Ext (fun k => k = b ∨ k = r) w w' := by
  by_cases h : evs.length = cap
  · exact (send_full b r cap evs lost v w hs h).mono fun e w' ⟨he, h1, h2⟩ => ⟨61, evs, true, he, h1, h2⟩
  · have hr : evs.length < cap := by
      obtain ⟨_, _, h, _, _⟩ := hs
      omega
    exact (send_room b r cap evs lost v w hs hr).mono fun e w' ⟨he, h1, h2⟩ => ⟨0, _, lost, he, h1, h2⟩

theorem Sock.lt {w : World} {b r cap : Nat} {evs : List Ev} {lost : Bool} (h : Sock w b r cap evs lost) : b < w.heap.size ∧ r < w.heap.size := by
  obtain ⟨⟨first, C, kc, h1, h2, h3⟩, _⟩ := h
  exact ⟨h1.lt, h2.lt⟩

set_option maxRecDepth 100000 in
theorem copies_walk (w : World) (A : Option Addr) (L : List Int) (c : Nat) (hl : L.length ≤ 9223372036854775807) (hr : Rd w (fun _ => True) 1 A L.length (L.map (Value.int .i64)))
    (hb : ∀ i, i < L.length → -9223372036854775808 ≤ L.getD i 0 ∧ L.getD i 0 ≤ 9223372036854775807) :
    Calls Try.prog 6 #[.slice A L.length c] w fun e w' => e = .returned (.bool true) ∧ Ext No w w' := by
  have HT0 := Lib.hid (tape_new (T := 26) (c := c) hl hr hb)
  clear hl hr hb
  obtain ⟨hf1, hf2⟩ := fold_bd (tapeAt L 0) 5 (by omega)
  obtain ⟨q, hq⟩ : ∃ q : Nat, 1 + fold (tapeAt L 0) 5 = (q : Int) := ⟨(1 + fold (tapeAt L 0) 5).toNat, by omega⟩
  have hq1 : 1 ≤ q := by omega
  have hq2 : q ≤ 256 := by omega
  go_enter Try.func6, Try.ntmps6
  go_wp2_with fail
  refine (next_walk _ _ 0 L 5 _ HT0.out (by omega) (by omega)).mono ?_
  rintro e w1 ⟨rfl, ht1, hE1⟩
  have HT1 := Lib.hid ht1
  have HE1 := Lib.hid (((Ext.refl No w).alloc (.cells #[.slice A L.length c, .int .i64 0] 26)).trans_new hE1 (fun i hi => .inr (by omega)))
  have hz1 := Lib.hid ht1.lt
  clear ht1 hE1 HT0
  go_wp2_with fail
  refine (new_good q w1 hq1 hq2).mono ?_
  rintro e w2 ⟨rfl, hs2, hE2⟩
  have HQ := Lib.hid hq
  have HS2 := Lib.hid hs2
  have HT2 := Lib.hid (HT1.out.ext hE2 (fun i _ h => h))
  have HE2 := Lib.hid (HE1.out.trans hE2)
  clear hs2 hE2 hq HT1 HE1 hf1 hf2
  go_wp2_with fail
  refine (known_walk w2).mono ?_
  rintro e w3 ⟨rfl, hE3⟩
  have HS3 := Lib.hid (HS2.out.ext hE3 (fun h => h) (fun h => h))
  have HT3 := Lib.hid (HT2.out.ext hE3 (fun i _ h => h))
  have HE3 := Lib.hid (HE2.out.trans hE3)
  obtain ⟨bt, hbt⟩ : ∃ bt, w.heap.size = bt := ⟨_, rfl⟩
  obtain ⟨b, hbb⟩ : ∃ b, w1.heap.size = b := ⟨_, rfl⟩
  have hlt1 : bt < b := by have := hz1.out; omega
  rw [hbt] at HT3 ⊢
  rw [hbb] at HS3 ⊢
  have HB0 := Lib.hid hbt
  clear hE3 HS2 HT2 HE2 hz1 hbt hbb
  go_wp2_with fail
  obtain ⟨hg1, hg2⟩ := fold_bd (tapeAt L 1) 9 (by omega)
  refine (next_walk _ _ 1 L 9 _ HT3.out (by omega) (by omega)).mono ?_
  rintro e w4 ⟨rfl, ht4, hE4⟩
  obtain ⟨k0, hk0⟩ : ∃ k0 : Nat, fold (tapeAt L 1) 9 = (k0 : Int) := ⟨(fold (tapeAt L 1) 9).toNat, by omega⟩
  rw [hk0]
  have hk9 : k0 < 9 := by omega
  have HT4 := Lib.hid ht4
  have HS4 := Lib.hid (HS3.out.ext hE4 (by omega) (by omega))
  have HE4 := Lib.hid (HE3.out.trans_new hE4 (fun i hi => .inr (by have := HB0.out; omega)))
  clear ht4 hE4 HT3 HS3 HE3 hg1 hg2 hk0
  go_wp2_with fail
  go_loopw [6] (fun i wr => ∃ (n tk : Nat) (evs : List Ev) (lost : Bool), i = .int .i64 (n : Int) ∧ n + tk ≤ 100 ∧ tk + n ≤ 11 ∧ Sock wr (b + 1) b q evs lost ∧ TapeIs 26 wr bt L tk ∧ Ext No w wr) (fun i _ => (intOf i).toNat)
  case atStart => exact ⟨k0, 2, [], false, rfl, by omega, by omega, HS4.out, HT4.out, HE4.out⟩
  case round =>
    obtain ⟨n, tk, evs, lost, rfl, hn1, hn2, hs, ht, hE⟩ := hrel
    have HS := Lib.hid hs
    have HT := Lib.hid ht
    have HE := Lib.hid hE
    clear hs ht hE HS4 HT4 HE4
    by_cases hpos : 0 < n
    · obtain ⟨hy1, hy2⟩ := fold_bd (tapeAt L tk) 4 (by omega)
      go_wp2_with fail
      refine (next_walk _ _ tk L 4 _ HT.out (by omega) (by omega)).mono ?_
      rintro e w5 ⟨rfl, ht5, hE5⟩
      obtain ⟨y, hy⟩ : ∃ y, fold (tapeAt L tk) 4 = y := ⟨_, rfl⟩
      rw [hy]
      have HT5 := Lib.hid ht5
      have HS5 := Lib.hid (HS.out.ext hE5 (by omega) (by omega))
      have HE5 := Lib.hid (HE.out.trans_new hE5 (fun i hi => .inr (by have := HB0.out; omega)))
      clear ht5 hE5 HT HS HE hy hy1 hy2
      by_cases h0 : y = 0
      · subst h0
        go_wp2_with fail
        refine (recv_walk _ _ _ _ _ 1 _ HS5.out).mono ?_
        rintro e w6 ⟨rfl, _, hs6, hE6⟩
        have HS6 := Lib.hid hs6
        have HT6 := Lib.hid (HT5.out.ext hE6 (fun i hi h => by omega))
        have HE6 := Lib.hid (HE5.out.trans_new hE6 (fun i hi => .inr (by have := HB0.out; omega)))
        clear hs6 hE6 HS5 HT5 HE5
        go_wp2_with fail
        refine (send_any _ _ _ _ _ ⟨n, 0, 0, ByteArray.empty, ByteArray.empty⟩ _ HS6.out).mono ?_
        rintro e w7 ⟨z, evs', lost', rfl, hs7, hE7⟩
        have HS7 := Lib.hid hs7
        have HT7 := Lib.hid (HT6.out.ext hE7 (fun i hi h => by omega))
        have HE7 := Lib.hid (HE6.out.trans_new hE7 (fun i hi => .inr (by have := HB0.out; omega)))
        clear hs7 hE7 HS6 HT6 HE6
        go_wp2_with fail
        go_roundw
        case rel => exact ⟨n - 1, tk + 1, evs', lost', by go_num, by omega, by omega, HS7.out, HT7.out, HE7.out⟩
        case measure => simp [intOf]; omega
      · have n0 : (y == 0) = false := by simpa using h0
        clear h0
        go_wp2_with fail
        refine (send_any _ _ _ _ _ ⟨n, 0, 0, ByteArray.empty, ByteArray.empty⟩ _ HS5.out).mono ?_
        rintro e w7 ⟨z, evs', lost', rfl, hs7, hE7⟩
        have HS7 := Lib.hid hs7
        have HT7 := Lib.hid (HT5.out.ext hE7 (fun i hi h => by omega))
        have HE7 := Lib.hid (HE5.out.trans_new hE7 (fun i hi => .inr (by have := HB0.out; omega)))
        clear hs7 hE7 HS5 HT5 HE5
        go_wp2_with fail
        go_roundw
        case rel => exact ⟨n - 1, tk + 1, evs', lost', by go_num, by omega, by omega, HS7.out, HT7.out, HE7.out⟩
        case measure => simp [intOf]; omega
    · obtain rfl : n = 0 := by omega
      obtain ⟨hl1, hl2⟩ := HS.out.lt
      go_wp2_with fail
      refine (copy_walk _ _ _ _ _ _ HS.out).mono ?_
      rintro e w5 ⟨rfl, ga, hga, ha5, hE5⟩
      obtain ⟨pa, hpa⟩ : ∃ pa, wr.heap.size = pa := ⟨_, rfl⟩
      rw [hpa] at ha5 hl1 hl2 hga ⊢
      obtain ⟨hl3, hl4⟩ := ha5.lt
      have HA5 := Lib.hid ha5
      have HS5 := Lib.hid (HS.out.ext hE5 (fun h => h) (fun h => h))
      have HT5 := Lib.hid (HT.out.ext hE5 (fun _ _ h => h))
      have HE5 := Lib.hid (HE.out.trans hE5)
      clear ha5 hE5 HS HT HE hpa
      go_wp2_with fail
      refine (copy_walk _ _ _ _ _ _ HS5.out).mono ?_
      rintro e w6 ⟨rfl, gb, hgb, hb6, hE6⟩
      obtain ⟨pb, hpb⟩ : ∃ pb, w5.heap.size = pb := ⟨_, rfl⟩
      rw [hpb] at hb6 hl3 hl4 hgb ⊢
      have HA6 := Lib.hid (HA5.out.ext hE6 (fun h => h) (fun h => h))
      have HS6 := Lib.hid (HS5.out.ext hE6 (fun h => h) (fun h => h))
      have HT6 := Lib.hid (HT5.out.ext hE6 (fun _ _ h => h))
      have HE6 := Lib.hid (HE5.out.trans hE6)
      have HB6 := Lib.hid hb6
      clear hb6 hE6 HA5 HS5 HT5 HE5 hpb
      go_wp2_with fail
      obtain ⟨hg1, hg2⟩ := fold_bd (tapeAt L tk) 6 (by omega)
      refine (next_walk _ _ tk L 6 _ HT6.out (by omega) (by omega)).mono ?_
      rintro e w7 ⟨rfl, ht7, hE7⟩
      obtain ⟨k1, hk1⟩ : ∃ k1 : Nat, fold (tapeAt L tk) 6 = (k1 : Int) := ⟨(fold (tapeAt L tk) 6).toNat, by omega⟩
      rw [hk1]
      have hk6 : k1 < 6 := by omega
      have HT7 := Lib.hid ht7
      have HA7 := Lib.hid (HA6.out.ext hE7 (by omega) (by omega))
      have HB7 := Lib.hid (HB6.out.ext hE7 (by omega) (by omega))
      have HS7 := Lib.hid (HS6.out.ext hE7 (by omega) (by omega))
      have HE7 := Lib.hid (HE6.out.trans_new hE7 (fun i hi => .inr (by have := HB0.out; omega)))
      clear ht7 hE7 HT6 HA6 HB6 HS6 HE6 hg1 hg2 hk1
      go_wp2_with fail
      go_loopw [9] (fun i ws => ∃ (m tj : Nat) (evb : List Ev) (lob : Bool), i = .int .i64 (m : Int) ∧ m ≤ 6 ∧ tj + m ≤ 30 ∧ Sock ws (b + 1) b q evs lost ∧ Sock ws pa ga q evs lost ∧ Sock ws pb gb q evb lob ∧ TapeIs 26 ws bt L tj ∧ Ext No w ws) (fun i _ => (intOf i).toNat)
      case atStart => exact ⟨k1, tk + 1, evs, lost, rfl, by omega, by omega, HS7.out, HA7.out, HB7.out, HT7.out, HE7.out⟩
      case round =>
        obtain ⟨m, tj, evb, lob, rfl, hm1, hm2, hs, ha, hb, ht, hE⟩ := hrel
        have HS := Lib.hid hs
        have HA := Lib.hid ha
        have HB := Lib.hid hb
        have HT := Lib.hid ht
        have HE := Lib.hid hE
        clear hs ha hb ht hE HS7 HA7 HB7 HT7 HE7
        by_cases hpos : 0 < m
        · go_wp2_with fail
          refine (next_walk _ _ tj L 3 _ HT.out (by omega) (by omega)).mono ?_
          rintro e w8 ⟨rfl, ht8, hE8⟩
          have HT8 := Lib.hid ht8
          have HA8 := Lib.hid (HA.out.ext hE8 (by omega) (by omega))
          have HB8 := Lib.hid (HB.out.ext hE8 (by omega) (by omega))
          have HS8 := Lib.hid (HS.out.ext hE8 (by omega) (by omega))
          have HE8 := Lib.hid (HE.out.trans_new hE8 (fun i hi => .inr (by have := HB0.out; omega)))
          clear ht8 hE8 HT HA HB HS HE
          go_wp2_with fail
          refine (recv_walk _ _ _ _ _ (fold (tapeAt L tj) 3) _ HB8.out).mono ?_
          rintro e w9 ⟨rfl, _, hb9, hE9⟩
          have HB9 := Lib.hid hb9
          have HT9 := Lib.hid (HT8.out.ext hE9 (fun i hi h => by omega))
          have HA9 := Lib.hid (HA8.out.ext hE9 (by omega) (by omega))
          have HS9 := Lib.hid (HS8.out.ext hE9 (by omega) (by omega))
          have HE9 := Lib.hid (HE8.out.trans_new hE9 (fun i hi => .inr (by have := HB0.out; omega)))
          clear hb9 hE9 HT8 HA8 HB8 HS8 HE8
          go_wp2_with fail
          refine (send_any _ _ _ _ _ ⟨100 + m, 0, 0, ByteArray.empty, ByteArray.empty⟩ _ HB9.out).mono ?_
          rintro e w10 ⟨z, evb', lob', rfl, hb10, hE10⟩
          have HB10 := Lib.hid hb10
          have HT10 := Lib.hid (HT9.out.ext hE10 (fun i hi h => by omega))
          have HA10 := Lib.hid (HA9.out.ext hE10 (by omega) (by omega))
          have HS10 := Lib.hid (HS9.out.ext hE10 (by omega) (by omega))
          have HE10 := Lib.hid (HE9.out.trans_new hE10 (fun i hi => .inr (by have := HB0.out; omega)))
          clear hb10 hE10 HT9 HA9 HB9 HS9 HE9
          go_wp2_with fail
          refine (lost_walk _ _ _ _ _ _ HB10.out).mono ?_
          rintro e w11 ⟨rfl, hb11, hE11⟩
          have HB11 := Lib.hid hb11
          have HT11 := Lib.hid (HT10.out.ext hE11 (fun i hi h => by omega))
          have HA11 := Lib.hid (HA10.out.ext hE11 (by omega) (by omega))
          have HS11 := Lib.hid (HS10.out.ext hE11 (by omega) (by omega))
          have HE11 := Lib.hid (HE10.out.trans_new hE11 (fun i hi => .inr (by have := HB0.out; omega)))
          clear hb11 hE11 HT10 HA10 HB10 HS10 HE10
          go_wp2_with fail
          go_roundw
          case rel => exact ⟨m - 1, tj + 1, evb', false, by go_num, by omega, by omega, HS11.out, HA11.out, HB11.out, HT11.out, HE11.out⟩
          case measure => simp [intOf]; omega
        · obtain rfl : m = 0 := by omega
          go_wp2_with fail
          refine (len_walk _ _ _ _ _ _ HA.out).mono ?_
          rintro e w8 ⟨rfl, rfl⟩
          go_wp2_with fail
          refine (len_walk _ _ _ _ _ _ HS.out).mono ?_
          rintro e w8 ⟨rfl, rfl⟩
          go_wp2_with fail
          refine (lost_walk _ _ _ _ _ _ HA.out).mono ?_
          rintro e w8 ⟨rfl, ha8, hE8⟩
          have HA8 := Lib.hid ha8
          have HS8 := Lib.hid (HS.out.ext hE8 (by omega) (by omega))
          have HE8 := Lib.hid (HE.out.trans_new hE8 (fun i hi => .inr (by have := HB0.out; omega)))
          clear ha8 hE8 HA HS HE
          go_wp2_with fail
          refine (lost_walk _ _ _ _ _ _ HS8.out).mono ?_
          rintro e w9 ⟨rfl, hs9, hE9⟩
          have HS9 := Lib.hid hs9
          have HA9 := Lib.hid (HA8.out.ext hE9 (by omega) (by omega))
          have HE9 := Lib.hid (HE8.out.trans_new hE9 (fun i hi => .inr (by have := HB0.out; omega)))
          clear hs9 hE9 HA8 HS8 HE8
          go_wp2_with fail
          refine (recv_walk _ _ _ _ _ 9 _ HA9.out).mono ?_
          rintro e w10 ⟨rfl, hr10, _, hE10⟩
          have HR10 := Lib.hid hr10
          have HS10 := Lib.hid (HS9.out.ext hE10 (by omega) (by omega))
          have HE10 := Lib.hid (HE9.out.trans_new hE10 (fun i hi => .inr (by have := HB0.out; omega)))
          have hl10 := Lib.hid hr10.lt
          have hb9 := Lib.hid HS9.out.lt
          obtain ⟨X, hX⟩ : ∃ X, X = evs.take (9 : Int).toNat := ⟨_, rfl⟩
          have hXl : min (9 : Int).toNat evs.length = X.length := by rw [hX, List.length_take]
          have hX9 : X.length ≤ 9 := by rw [← hXl]; exact Nat.min_le_left _ _
          rw [hXl]
          rw [← hX] at HR10
          have HXL := Lib.hid hXl
          have HXX := Lib.hid hX
          clear hr10 hE10 HA9 HS9 HE9 hX hXl
          go_wp2_with fail
          refine (recv_walk _ _ _ _ _ 9 _ HS10.out).mono ?_
          rintro e w11 ⟨rfl, hr11, _, hE11⟩
          rw [HXL.out]
          rw [← HXX.out] at hr11
          have HR11 := Lib.hid hr11
          have HR10' := Lib.hid (HR10.out.ext hE11 (by have := hb9.out; omega))
          have HE11 := Lib.hid (HE10.out.trans_new hE11 (fun i hi => .inr (by have := HB0.out; omega)))
          clear hr11 hE11 HR10 HS10 HE10
          go_wp2_with fail
          refine (same_walk _ _ _ _ _ _ X X w11 (rd_blk HR10'.out (flat_length _)) (rd_blk HR11.out (flat_length _)) (by omega) (by omega)).mono ?_
          rintro e w12 ⟨rfl, m, rfl⟩
          go_wp2_with fail
          go_ret
          exact ⟨by simp, HE11.out.drewN _⟩
end Go.Proofs.Ytfibfahgdjhhkaa
