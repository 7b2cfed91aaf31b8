/- SocketPlays: the walk. -/
import Derived.Test.YtfibfahgdjhhkaaSockK
import Derived.Deep.RegionWith
namespace Go.Proofs.Ytfibfahgdjhhkaa
open Go.RowKit
set_option linter.unusedVariables false
set_option linter.unusedSimpArgs false

/-- what Send makes of a socket: the events, the mark, the answer -/
def sendM (cap : Nat) (evs : List Ev) (lost : Bool) (v : Ev) : List Ev × Bool × Int := if evs.length < cap then (evs ++ [v], lost, 0) else (evs, true, 61)

theorem send_m (b r cap : Nat) (evs : List Ev) (lost : Bool) (v : Ev) (w : World) (hs : Sock w b r cap evs lost) :
    Calls Try.prog 16 #[.pointer (some ⟨b, 0, none⟩), v.agg] w fun e w' => e = .returned (.int .i64 (sendM cap evs lost v).2.2) ∧ Sock w' b r cap (sendM cap evs lost v).1 (sendM cap evs lost v).2.1 ∧ Ext (fun k => k = b ∨ k = r) w w' := by
  unfold sendM
  by_cases h : evs.length < cap
  · rw [if_pos h]; exact send_room b r cap evs lost v w hs h
  · rw [if_neg h]
    refine send_full b r cap evs lost v w hs ?_
    obtain ⟨_, _, h2, _, _⟩ := hs
    omega

theorem refsend_m (cap : Nat) (P : Nat → Prop) (vs : Value) (evs : List Ev) (lost : Bool) (v : Ev) (w : World) (hr : EvSl w P vs evs) (hc : cap ≤ 256) (hP : ∀ g, P g → g < w.heap.size) :
    Calls Try.prog 15 #[.agg #[.int .i64 (cap : Int), vs, .bool lost], v.agg] w fun e w' =>
      ∃ vs', e = .returned (.tuple #[.agg #[.int .i64 (cap : Int), vs', .bool (sendM cap evs lost v).2.1], .int .i64 (sendM cap evs lost v).2.2]) ∧ EvSl w' (fun g => P g ∨ w.heap.size ≤ g) vs' (sendM cap evs lost v).1 ∧ Ext No w w' := by
  obtain ⟨A, c, rfl, hlc, hrd⟩ := hr
  unfold sendM
  by_cases h : evs.length < cap
  · rw [if_pos h]
    refine (refsend_room cap P A evs c lost v w hrd h hc).mono ?_
    rintro e w' ⟨A', c', rfl, hr', hcl, hE⟩
    refine ⟨_, rfl, ⟨A', c', by simp, by simpa using hcl, ?_⟩, hE⟩
    have := hr'.more (Q := fun g => P g ∨ w.heap.size ≤ g) (fun b hb => .inr hb)
    simpa using this
  · rw [if_neg h]
    refine (refsend_full cap A evs.length c lost v w (by omega)).mono ?_
    rintro e w' ⟨rfl, hE⟩
    exact ⟨_, rfl, ⟨A, c, rfl, hlc, (hrd.ext hE (fun _ _ h => h)).more (fun b hb => .inl hb)⟩, hE⟩

theorem len_quiet (b r cap : Nat) (evs : List Ev) (lost : Bool) (w : World) (n : Nat) (hs : Sock w b r cap evs lost) :
    Calls Try.prog 17 #[.pointer (some ⟨b, 0, none⟩)] (w.drewN n) fun e w' => e = .returned (.int .i64 (evs.length : Int)) ∧ w' = w.drewN n := by
  have hs' : Sock (w.drewN n) b r cap evs lost := hs.ext ((Ext.refl No w).drewN n) (fun h => h) (fun h => h)
  exact (len_walk b r cap evs lost (w.drewN n) hs').mono fun e w' ⟨h1, h2⟩ => ⟨h1, h2.symm⟩

theorem Sock.drewN {w : World} {b r cap : Nat} {evs : List Ev} {lost : Bool} (h : Sock w b r cap evs lost) (n : Nat) : Sock (w.drewN n) b r cap evs lost := h.ext ((Ext.refl No w).drewN n) (fun h => h) (fun h => h)
theorem Sock.drew {w : World} {b r cap : Nat} {evs : List Ev} {lost : Bool} (h : Sock w b r cap evs lost) : Sock w.drew b r cap evs lost := h.ext ((Ext.refl No w).drew) (fun h => h) (fun h => h)
theorem TapeIs.drewN {T : TypeId} {w : World} {b : Nat} {L : List Int} {k : Nat} (h : TapeIs T w b L k) (n : Nat) : TapeIs T (w.drewN n) b L k := h.ext ((Ext.refl No w).drewN n) (fun _ _ h => h)
theorem TapeIs.drew {T : TypeId} {w : World} {b : Nat} {L : List Int} {k : Nat} (h : TapeIs T w b L k) : TapeIs T w.drew b L k := h.ext ((Ext.refl No w).drew) (fun _ _ h => h)
theorem EvSl.at_ {w : World} {P : Nat → Prop} {A : Option Addr} {l : List Ev} (h : Rd w P 5 A l.length (flat l)) {k : Nat} (hk : k < l.length) : ∃ b o, A = some ⟨b, o, none⟩ := by
  obtain ⟨b, o, h, _⟩ := rd_ev h hk
  exact ⟨b, o, h⟩

set_option maxRecDepth 100000 in
set_option maxHeartbeats 1000000 in
theorem plays_walk (w : World) (A : Option Addr) (L : List Int) (c : Nat) (hl : L.length ≤ 9223372036854775807) (hr : Rd w (fun _ => True) 1 A L.length (L.map (Value.int .i64)))
    (hb : ∀ i, i < L.length → -9223372036854775808 ≤ L.getD i 0 ∧ L.getD i 0 ≤ 9223372036854775807)
    (A2 : Option Addr) (raw : List Ev) (c2 : Nat) (hraw0 : raw.length ≤ 9223372036854775807) (hraw : Rd w (fun _ => True) 5 A2 raw.length (flat raw)) :
    Calls Try.prog 3 #[.slice A L.length c, .slice A2 raw.length c2] w fun e w' => e = .returned (.bool true) ∧ Ext No w w' := by
  have HT0 := Lib.hid (tape_new (T := 26) (c := c) hl hr hb)
  have HRAW := Lib.hid hraw.lt
  clear hl hr hb hraw
  obtain ⟨hf1, hf2⟩ := fold_bd (tapeAt L 0) 6 (by omega)
  obtain ⟨q, hq⟩ : ∃ q : Nat, 1 + fold (tapeAt L 0) 6 = (q : Int) := ⟨(1 + fold (tapeAt L 0) 6).toNat, by omega⟩
  have hq1 : 1 ≤ q := by omega
  have hq2 : q ≤ 256 := by omega
  go_enter Try.func3, Try.ntmps3
  go_wp2_with fail
  refine (next_walk _ _ 0 L 6 _ HT0.out (by omega) (by omega)).mono ?_
  rintro e w1 ⟨rfl, ht1, hE1⟩
  have HT1 := Lib.hid ht1
  have HE1 := Lib.hid (((Ext.refl No w).alloc (.cells #[.slice A L.length c, .int .i64 0] 26)).trans_new hE1 (fun i hi => .inr (by omega)))
  have hz1 := Lib.hid ht1.lt
  clear ht1 hE1 HT0
  go_wp2_with fail
  refine (new_good q w1 hq1 hq2).mono ?_
  rintro e w2 ⟨rfl, hs2, hE2⟩
  have HQ := Lib.hid hq
  have HS2 := Lib.hid hs2
  have HT2 := Lib.hid (HT1.out.ext hE2 (fun i _ h => h))
  have HE2 := Lib.hid (HE1.out.trans hE2)
  clear hs2 hE2 hq HT1 HE1 hf1 hf2
  go_wp2_with fail
  refine (refnew_good (q : Int) w2 (by omega) (by omega)).mono ?_
  rintro e w3 ⟨rfl, hE3⟩
  have HS3 := Lib.hid (HS2.out.ext hE3 (fun h => h) (fun h => h))
  have HT3 := Lib.hid (HT2.out.ext hE3 (fun i _ h => h))
  have HE3 := Lib.hid (HE2.out.trans hE3)
  have hz3 : w1.heap.size + 1 < w3.heap.size := by
    obtain ⟨⟨_, _, _, h, _⟩, _⟩ := HS3.out
    exact h.lt
  obtain ⟨bt, hbt⟩ : ∃ bt, w.heap.size = bt := ⟨_, rfl⟩
  obtain ⟨b, hbb⟩ : ∃ b, w1.heap.size = b := ⟨_, rfl⟩
  obtain ⟨pw, hpw⟩ : ∃ pw, w3.heap.size = pw := ⟨_, rfl⟩
  have hlt1 : bt < b := by have := hz1.out; omega
  have hlt2 : b + 1 < pw := by omega
  have hEa : Ext No w3 (w3.alloc (.cells #[.int .i64 (q : Int), .slice none 0 0, .bool false] 33)) := (Ext.refl _ _).alloc _
  have hba := Blk.new w3 33 #[.int .i64 (q : Int), .slice none 0 0, .bool false]
  have HSa := Lib.hid (HS3.out.ext hEa (fun h => h) (fun h => h))
  have HTa := Lib.hid (HT3.out.ext hEa (fun i _ h => h))
  have HEa := Lib.hid (HE3.out.trans hEa)
  rw [hpw] at hba
  rw [hbt] at HTa ⊢
  rw [hbb] at HSa ⊢
  have HBa := Lib.hid hba
  have HB0 := Lib.hid hbt
  have HPW := Lib.hid hpw
  clear hE3 HS2 HT2 HE2 hz3 hz1 hbt hbb HS3 HT3 HE3 hEa hba hpw
  go_wp2_with fail
  refine (known_walk _).mono ?_
  rintro e w4 ⟨rfl, hE4⟩
  rw [HPW.out]
  have HS4 := Lib.hid (HSa.out.ext hE4 (fun h => h) (fun h => h))
  have HT4 := Lib.hid (HTa.out.ext hE4 (fun i _ h => h))
  have HE4 := Lib.hid (HEa.out.trans hE4)
  have HB4 := Lib.hid (HBa.out.ext hE4 (fun h => h))
  clear hE4 HSa HTa HEa HBa
  go_wp2_with fail
  obtain ⟨hg1, hg2⟩ := fold_bd (tapeAt L 1) 40 (by omega)
  refine (next_walk _ _ 1 L 40 _ HT4.out (by omega) (by omega)).mono ?_
  rintro e w5 ⟨rfl, ht5, hE5⟩
  obtain ⟨k0, hk0⟩ : ∃ k0 : Nat, fold (tapeAt L 1) 40 = (k0 : Int) := ⟨(fold (tapeAt L 1) 40).toNat, by omega⟩
  rw [hk0]
  have hk9 : k0 < 40 := by omega
  have HT5 := Lib.hid ht5
  have HS5 := Lib.hid (HS4.out.ext hE5 (by omega) (by omega))
  have HB5 := Lib.hid (HB4.out.ext hE5 (by omega))
  have HE5 := Lib.hid (HE4.out.trans_new hE5 (fun i hi => .inr (by have := HB0.out; omega)))
  clear ht5 hE5 HT4 HS4 HE4 HB4 hg1 hg2 hk0
  go_wp2_with fail
  go_loopw [11] (fun i wr => ∃ (n tk : Nat) (evs : List Ev) (lost : Bool) (vs : Value), i = .int .i64 (n : Int) ∧ n ≤ 40 ∧ tk + 5 * n ≤ 300 ∧ Sock wr (b + 1) b q evs lost ∧ Blk wr pw 33 #[.int .i64 (q : Int), vs, .bool lost] ∧ EvSl wr (fun g => pw < g ∧ g < wr.heap.size) vs evs ∧ TapeIs 26 wr bt L tk ∧ Ext No w wr) (fun i _ => (intOf i).toNat)
  case atStart => exact ⟨k0, 2, [], false, .slice none 0 0, rfl, by omega, by omega, HS5.out, HB5.out, ⟨none, 0, rfl, Nat.le_refl _, Rd.nil⟩, HT5.out, HE5.out⟩
  case round =>
    obtain ⟨n, tk, evs, lost, vs, rfl, hn1, hn2, hs, hbw, hv, ht, hE⟩ := hrel
    have HS := Lib.hid hs
    have HBW := Lib.hid hbw
    have HV := Lib.hid hv
    have HT := Lib.hid ht
    have HE := Lib.hid hE
    have hev : evs.length ≤ 256 := by
      obtain ⟨_, _, h2, _, h3⟩ := hs
      omega
    clear hs hbw hv ht hE HS5 HT5 HE5 HB5
    by_cases hpos : 0 < n
    · obtain ⟨hx1, hx2⟩ := fold_bd (tapeAt L tk) 6 (by omega)
      obtain ⟨x, hx⟩ : ∃ x, fold (tapeAt L tk) 6 = x := ⟨_, rfl⟩
      rw [hx] at hx1 hx2
      have HX := Lib.hid hx
      clear hx
      go_wp2_with fail
      refine (next_walk _ _ tk L 6 _ HT.out (by omega) (by omega)).mono ?_
      rintro e w6 ⟨rfl, ht6, hE6⟩
      rw [HX.out]
      have HT6 := Lib.hid ht6
      have HS6 := Lib.hid (HS.out.ext hE6 (by omega) (by omega))
      have HBW6 := Lib.hid (HBW.out.ext hE6 (by omega))
      have HV6 := Lib.hid ((HV.out.ext hE6 (fun g hg => by omega)).more (Q := fun g => pw < g ∧ g < w6.heap.size) (fun g hg => ⟨hg.1, Nat.lt_of_lt_of_le hg.2 hE6.size⟩))
      have HE6 := Lib.hid (HE.out.trans_new hE6 (fun i hi => .inr (by have := HB0.out; omega)))
      clear ht6 hE6 HT HS HE HBW HV
      by_cases h0 : x = 0
      · subst h0
        go_wp2_with fail
        obtain ⟨hy1, hy2⟩ := fold_bd (tapeAt L (tk + 1)) 6 (by omega)
        refine (next_walk _ _ (tk + 1) L 6 _ HT6.out (by omega) (by omega)).mono ?_
        rintro e w7 ⟨rfl, ht7, hE7⟩
        obtain ⟨y, hy⟩ : ∃ y, fold (tapeAt L (tk + 1)) 6 = y := ⟨_, rfl⟩
        rw [hy] at hy1 hy2 ⊢
        have HT7 := Lib.hid ht7
        have HS7 := Lib.hid (HS6.out.ext hE7 (by omega) (by omega))
        have HBW7 := Lib.hid (HBW6.out.ext hE7 (by omega))
        have HV7 := Lib.hid ((HV6.out.ext hE7 (fun g hg => by omega)).more (Q := fun g => pw < g ∧ g < w7.heap.size) (fun g hg => ⟨hg.1, Nat.lt_of_lt_of_le hg.2 hE7.size⟩))
        have HE7 := Lib.hid (HE6.out.trans_new hE7 (fun i hi => .inr (by have := HB0.out; omega)))
        clear ht7 hE7 HT6 HS6 HE6 HBW6 HV6 hy
        go_wp2_with fail
        refine (recv_walk _ _ _ _ _ (y - 1) _ HS7.out).mono ?_
        rintro e w8 ⟨rfl, hr8, hs8, hE8⟩
        have hl8 := Lib.hid HBW7.out.lt
        have HS8 := Lib.hid hs8
        have HR8 := Lib.hid hr8
        have HT8 := Lib.hid (HT7.out.ext hE8 (fun i hi h => by omega))
        have hbw8 := HBW7.out.ext hE8 (by omega)
        have HV8 := Lib.hid ((HV7.out.ext hE8 (fun g hg => by omega)).more (Q := fun g => pw < g ∧ g < w8.heap.size) (fun g hg => ⟨hg.1, Nat.lt_of_lt_of_le hg.2 hE8.size⟩))
        have HE8 := Lib.hid (HE7.out.trans_new hE8 (fun i hi => .inr (by have := HB0.out; omega)))
        obtain ⟨X, hX⟩ : ∃ X, X = evs.take (y - 1).toNat := ⟨_, rfl⟩
        obtain ⟨Y, hY⟩ : ∃ Y, Y = evs.drop (y - 1).toNat := ⟨_, rfl⟩
        have hXl : min (y - 1).toNat evs.length = X.length := by rw [hX, List.length_take]
        have hX9 : X.length ≤ 256 := by rw [← hXl]; exact Nat.le_trans (Nat.min_le_right _ _) hev
        rw [hXl]
        rw [← hX] at HR8
        rw [← hY] at HS8
        have HXX := Lib.hid hX
        have HYY := Lib.hid hY
        have k0 := hbw8.cell 0
        have k1 := hbw8.cell 1
        have k2 := hbw8.cell 2
        obtain ⟨Av, cv, hvv, hcv, hrv⟩ := HV8.out
        rw [hvv] at k1
        simp at k0 k1 k2
        have HBW8 := Lib.hid hbw8
        have HRV := Lib.hid hrv
        clear hr8 hs8 hE8 HS7 HT7 HE7 HV7 hX hXl hY hbw8 hrv HBW7 HV8
        go_wp2_with fail
        refine (refrecv_walk q _ Av evs cv lost (y - 1) _ HRV.out hcv hev).mono ?_
        rintro e w9 ⟨v1, v2, rfl, hv1, hv2, hE9⟩
        rw [← HYY.out] at hv1
        rw [← HXX.out] at hv2
        obtain ⟨A1, c1, rfl, hc1, hr1⟩ := hv1
        obtain ⟨A3, c3, rfl, hc3, hr3⟩ := hv2
        have HS9 := Lib.hid (HS8.out.ext hE9 (fun h => h) (fun h => h))
        have HT9 := Lib.hid (HT8.out.ext hE9 (fun _ _ h => h))
        have HR9 := Lib.hid (HR8.out.ext hE9 (fun h => h))
        have HE9 := Lib.hid (HE8.out.trans hE9)
        have hbw9 := HBW8.out.ext hE9 (fun h => h)
        have hlt9 : pw < w8.heap.size := HBW8.out.lt
        have hz9 : w8.heap.size ≤ w9.heap.size := hE9.size
        have m0 := hbw9.cell 0
        have m1 := hbw9.cell 1
        have m2 := hbw9.cell 2
        have mz := hbw9.frozen
        rw [hvv] at m1
        simp at m0 m1 m2
        have HBW9 := Lib.hid hbw9
        have HR1 := Lib.hid hr1
        have HR3 := Lib.hid hr3
        have HVV := Lib.hid hvv
        have hl9 : pw < w9.heap.size := by omega
        clear hE9 HS8 HT8 HR8 HE8 HBW8 hbw9 hr1 hr3 k0 k1 k2 hvv
        go_wp2_with fail
        have ES : Ext (fun k => k = pw) w9 ((((w9.setCell ⟨pw, 0, none⟩ (.int .i64 (q : Int))).setCell ⟨pw, 1, none⟩ (.slice A1 Y.length c1)).setCell ⟨pw, 2, none⟩ (.bool lost)).alloc (.cells #[.int .i64 (q : Int), .slice A1 Y.length c1, .bool lost] 33)) :=
          ((((Ext.refl (fun k => k = pw) w9).setCell (p := ⟨pw, 0, none⟩) (.inl rfl) _).setCell (p := ⟨pw, 1, none⟩) (.inl rfl) _).setCell (p := ⟨pw, 2, none⟩) (.inl rfl) _).alloc _
        have hbwA := (((HBW9.out.set_ 0 (.int .i64 (q : Int))).set_ 1 (.slice A1 Y.length c1)).set_ 2 (.bool lost)).alloc (.cells #[.int .i64 (q : Int), .slice A1 Y.length c1, .bool lost] 33)
        refine (same_walk _ _ _ _ _ _ X X _ (rd_blk (HR9.out.ext ES (by have := hl8.out; omega)) (flat_length _)) (HR3.out.ext ES (fun g hg => by omega)) (by omega) (by omega)).mono ?_
        rintro e wA ⟨rfl, nd, rfl⟩
        have HSA := Lib.hid ((HS9.out.ext ES (by omega) (by omega)).ext ((Ext.refl No _).drewN nd) (fun h => h) (fun h => h))
        have HTA := Lib.hid ((HT9.out.ext ES (fun i hi h => by omega)).ext ((Ext.refl No _).drewN nd) (fun _ _ h => h))
        have HEA := Lib.hid ((HE9.out.trans_new ES (fun i hi => .inr (by have := HB0.out; omega))).drewN nd)
        have hrA := (HR1.out.ext ES (fun g hg => by omega)).drewN nd
        have hbwB := hbwA.drewN nd
        simp at hbwB
        have HRA := Lib.hid hrA
        have hYl : Y.length ≤ 256 := by rw [HYY.out, List.length_drop]; omega
        obtain ⟨wB, hwB⟩ : ∃ wB, wB = ((((w9.setCell ⟨pw, 0, none⟩ (.int .i64 (q : Int))).setCell ⟨pw, 1, none⟩ (.slice A1 Y.length c1)).setCell ⟨pw, 2, none⟩ (.bool lost)).alloc (.cells #[.int .i64 (q : Int), .slice A1 Y.length c1, .bool lost] 33)).drewN nd := ⟨_, rfl⟩
        rw [← hwB] at hbwB HRA HSA HTA HEA ⊢
        have p1 := hbwB.cell 1
        simp at p1
        have HBWA := Lib.hid hbwB
        have hszB : w9.heap.size < wB.heap.size := by rw [hwB]; simp [World.drewN]
        clear ES hbwA hbwB hrA HS9 HT9 HE9 HBW9 HR1 HR3 HR9 m0 m1 m2 mz hwB
        go_wp2_with fail
        go_quiet ((go_at_call 17; exact Calls.quiet_of_same (len_quiet _ _ _ _ _ _ _ HSA.out)))
        go_wp2_with fail
        go_roundw
        case rel => exact ⟨n - 1, tk + 2, Y, lost, _, by go_num, by omega, by omega, HSA.out.drewN _, HBWA.out, ⟨A1, c1, rfl, hc1, (HRA.out.lt.and HRA.out).more (fun g hg => ⟨by omega, hg.1⟩)⟩, HTA.out.drewN _, HEA.out.drewN _⟩
        case measure => simp [intOf]; omega
      · by_cases h1 : x = 1
        · subst h1
          have hbw6 := HBW6.out
          have m2 := hbw6.cell 2
          simp at m2
          have HV6' := HV6
          clear hbw6
          go_wp2_with fail
          go_region_with
            (go_at_call 14
             refine (lost_walk (b + 1) b q evs lost _ HS6.out.drew).mono ?_
             rintro e w7 ⟨rfl, hs7, hE7⟩
             have hbw7 := HBW6.out.drew.ext hE7 (by omega)
             have n2 := hbw7.cell 2
             have nz := hbw7.frozen
             simp at n2
             have HS7 := Lib.hid hs7
             have HBW7 := Lib.hid hbw7
             have HEE7 := Lib.hid hE7
             clear hs7 hbw7 hE7)
          all_goals
            have HT7 := Lib.hid (HT6.out.drew.ext HEE7.out (fun i hi h => by omega))
            have HE7 := Lib.hid (HE6.out.drew.trans_new HEE7.out (fun i hi => .inr (by have := HB0.out; omega)))
            obtain ⟨Av, cv, hvv, hcv, hrv⟩ := HV6.out
            have hr7 := (hrv.drew.ext HEE7.out (fun g hg => by omega)).more (Q := fun g => pw < g ∧ g < w7.heap.size) (fun g hg => ⟨hg.1, Nat.lt_of_lt_of_le hg.2 HEE7.out.size⟩)
            have ES : Ext (fun k => k = pw) w7 (w7.setCell ⟨pw, 2, none⟩ (.bool false)) := (Ext.refl (fun k => k = pw) w7).setCell (p := ⟨pw, 2, none⟩) (.inl rfl) _
            have hbw8 := HBW7.out.set_ 2 (.bool false)
            have HS8 := Lib.hid (HS7.out.ext ES (by omega) (by omega))
            have HT8 := Lib.hid (HT7.out.ext ES (fun i hi h => by omega))
            have HE8 := Lib.hid (HE7.out.trans_new ES (fun i hi => .inr (by have := HB0.out; omega)))
            have hr8 := (hr7.ext ES (fun g hg => by omega))
            simp at hbw8
            have p1 := hbw8.cell 1
            rw [hvv] at p1
            simp at p1
            have HVV := Lib.hid hvv
            have HBW8 := Lib.hid hbw8
            have HR8 := Lib.hid hr8
            clear ES hbw8 hr7 hr8 hrv hvv HV6' m2
            go_wp2_with fail
            go_quiet ((go_at_call 17; exact Calls.quiet_of_same (len_quiet _ _ _ _ _ _ _ HS8.out)))
            go_wp2_with fail
            go_roundw
            case rel => exact ⟨n - 1, tk + 1, evs, false, _, by go_num, by omega, by omega, HS8.out.drewN _, HBW8.out, ⟨Av, cv, HVV.out, hcv, HR8.out.more (fun g hg => ⟨hg.1, by simpa [World.drewN] using hg.2⟩)⟩, HT8.out.drewN _, HE8.out.drewN _⟩
            case measure => simp [intOf]; omega
        · have n0 : (x == 0) = false := by simpa using h0
          have n1 : (x == 1) = false := by simpa using h1
          clear h0 h1
          obtain ⟨hz1, hz2⟩ := fold_bd (tapeAt L (tk + 1)) 9 (by omega)
          go_wp2_with fail
          refine (next_walk _ _ (tk + 1) L 9 _ HT6.out (by omega) (by omega)).mono ?_
          rintro e w7 ⟨rfl, ht7, hE7⟩
          obtain ⟨z, hz⟩ : ∃ z, fold (tapeAt L (tk + 1)) 9 = z := ⟨_, rfl⟩
          rw [hz] at hz1 hz2 ⊢
          have HT7 := Lib.hid ht7
          have HS7 := Lib.hid (HS6.out.ext hE7 (by omega) (by omega))
          have HBW7 := Lib.hid (HBW6.out.ext hE7 (by omega))
          have HV7 := Lib.hid ((HV6.out.ext hE7 (fun g hg => by omega)).more (Q := fun g => pw < g ∧ g < w7.heap.size) (fun g hg => ⟨hg.1, Nat.lt_of_lt_of_le hg.2 hE7.size⟩))
          have HE7 := Lib.hid (HE6.out.trans_new hE7 (fun i hi => .inr (by have := HB0.out; omega)))
          clear ht7 hE7 HT6 HS6 HE6 HBW6 HV6 hz
          obtain ⟨pv, hpv⟩ : ∃ pv, w7.heap.size = pv := ⟨_, rfl⟩
          obtain ⟨V, hV⟩ : ∃ V : Ev, V = ⟨n, 0, z, ⟨#[]⟩, ⟨#[]⟩⟩ := ⟨_, rfl⟩
          obtain ⟨wt, hwt⟩ : ∃ wt, wt = w7.alloc (.cells #[.int .i64 (n : Int), .int .i64 0, .int .i64 z, .string ⟨#[]⟩, .string ⟨#[]⟩] 42) := ⟨_, rfl⟩
          have hEt : Ext No w7 wt := by rw [hwt]; exact (Ext.refl _ _).alloc _
          have HPVt := Lib.hid (show Blk wt pv 42 #[.int .i64 V.seq, .int .i64 V.act, .int .i64 V.idx, .string V.path, .string V.old] by rw [hwt, hV, ← hpv]; exact Blk.new w7 _ _)
          have HSt := Lib.hid (HS7.out.ext hEt (fun h => h) (fun h => h))
          have HTt := Lib.hid (HT7.out.ext hEt (fun _ _ h => h))
          have HBWt := Lib.hid (HBW7.out.ext hEt (fun h => h))
          have HVt := Lib.hid ((HV7.out.ext hEt (fun g _ h => h)).more (Q := fun g => pw < g ∧ g < pv) (fun g hg => ⟨hg.1, by rw [← hpv]; exact hg.2⟩))
          have HEt := Lib.hid (HE7.out.trans hEt)
          have hpwv : pw < pv := by rw [← hpv]; exact HBW7.out.lt
          have HWT := Lib.hid hwt
          have HPVV := Lib.hid hpv
          obtain ⟨tj, htj⟩ : ∃ tj, tk + 2 = tj := ⟨_, rfl⟩
          have htj2 : tj ≤ tk + 2 := by omega
          rw [show tk + 1 + 1 = tj by omega] at HTt
          have HV0 := Lib.hid hV
          clear hEt HT7 HS7 HE7 HV7 hwt hpv hV htj
          by_cases hr0 : raw.length = 0
          · have hlen0 : ¬ 0 < raw.length := by omega
            have k0 := HBW7.out.cell 0
            have k1 := HBW7.out.cell 1
            have k2 := HBW7.out.cell 2
            simp at k0 k1 k2
            have hpw7 : pw < w7.heap.size := by rw [HPVV.out]; exact hpwv
            clear hr0
            go_wp2_with fail
            rw [← HWT.out]
            clear k0 k1 k2 hpw7
            have a0 : True := trivial
            have a1 : True := trivial
            have a2 : True := trivial
            have a3 : True := trivial
            have a4 : True := trivial
            have k0 : True := trivial
            have k1 : True := trivial
            have k2 : True := trivial
            rw [HV0.out] at HPVt
            rw [HPVV.out]
            refine (refsend_m q _ vs evs lost ⟨n, 0, z, ⟨#[]⟩, ⟨#[]⟩⟩ _ HVt.out hq2 (fun g hg => by have := HPVt.out.lt; omega)).mono ?_
            rintro e w9 ⟨vs', rfl, hv9, hE9⟩
            generalize hM : sendM q evs lost ⟨n, 0, z, ⟨#[]⟩, ⟨#[]⟩⟩ = M at hv9 ⊢
            obtain ⟨evs', lost', zz⟩ := M
            simp only at hv9 ⊢
            have HM := Lib.hid hM
            have hlt9 : pw < wt.heap.size := HBWt.out.lt
            have hz9 : wt.heap.size ≤ w9.heap.size := hE9.size
            have hvt9 : pv < wt.heap.size := HPVt.out.lt
            obtain ⟨Av, cv, hvv, hcv, hrv⟩ := hv9
            subst hvv
            have HS9 := Lib.hid (HSt.out.ext hE9 (fun h => h) (fun h => h))
            have HT9 := Lib.hid (HTt.out.ext hE9 (fun _ _ h => h))
            have HE9 := Lib.hid (HEt.out.trans hE9)
            have hbw9 := HBWt.out.ext hE9 (fun h => h)
            have hpv9 := HPVt.out.ext hE9 (fun h => h)
            have m0 := hbw9.cell 0
            have m1 := hbw9.cell 1
            have m2 := hbw9.cell 2
            have mz := hbw9.frozen
            have b0 := hpv9.cell 0
            have b1 := hpv9.cell 1
            have b2 := hpv9.cell 2
            have b3 := hpv9.cell 3
            have b4 := hpv9.cell 4
            simp at m0 m1 m2 b0 b1 b2 b3 b4
            have HBW9 := Lib.hid hbw9
            have HRV := Lib.hid hrv
            have hl9 : pw < w9.heap.size := by omega
            have hl9v : pv < w9.heap.size := by omega
            clear hE9 HSt HTt HEt HBWt HPVt HVt hbw9 hpv9 hrv hM a0 a1 a2 a3 a4 k0 k1 k2
            go_wp2_with fail
            have ES : Ext (fun k => k = pw) w9 ((((w9.setCell ⟨pw, 0, none⟩ (.int .i64 (q : Int))).setCell ⟨pw, 1, none⟩ (.slice Av evs'.length cv)).setCell ⟨pw, 2, none⟩ (.bool lost')).alloc (.cells #[.int .i64 (q : Int), .slice Av evs'.length cv, .bool lost'] 33)) :=
              ((((Ext.refl (fun k => k = pw) w9).setCell (p := ⟨pw, 0, none⟩) (.inl rfl) _).setCell (p := ⟨pw, 1, none⟩) (.inl rfl) _).setCell (p := ⟨pw, 2, none⟩) (.inl rfl) _).alloc _
            have hbwA := (((HBW9.out.set_ 0 (.int .i64 (q : Int))).set_ 1 (.slice Av evs'.length cv)).set_ 2 (.bool lost')).alloc (.cells #[.int .i64 (q : Int), .slice Av evs'.length cv, .bool lost'] 33)
            simp at hbwA
            have HSA := Lib.hid (HS9.out.ext ES (by omega) (by omega))
            have HTA := Lib.hid (HT9.out.ext ES (fun i hi h => by omega))
            have HEA := Lib.hid (HE9.out.trans_new ES (fun i hi => .inr (by have := HB0.out; omega)))
            have hrA := HRV.out.ext ES (fun g hg => by omega)
            obtain ⟨wA, hwA⟩ : ∃ wA, wA = ((((w9.setCell ⟨pw, 0, none⟩ (.int .i64 (q : Int))).setCell ⟨pw, 1, none⟩ (.slice Av evs'.length cv)).setCell ⟨pw, 2, none⟩ (.bool lost')).alloc (.cells #[.int .i64 (q : Int), .slice Av evs'.length cv, .bool lost'] 33)) := ⟨_, rfl⟩
            have hszA : w9.heap.size < wA.heap.size := by rw [hwA]; simp
            rw [← hwA] at hbwA hrA HSA HTA HEA ⊢
            clear ES HS9 HT9 HE9 HBW9 HRV m0 m1 m2 mz b0 b1 b2 b3 b4 hwA
            refine (send_m (b + 1) b q evs lost ⟨n, 0, z, ⟨#[]⟩, ⟨#[]⟩⟩ _ HSA.out).mono ?_
            rintro e wB ⟨rfl, hsB, hEB⟩
            rw [HM.out] at hsB ⊢
            simp only at hsB ⊢
            have HSB := Lib.hid hsB
            have HTB := Lib.hid (HTA.out.ext hEB (fun i hi h => by omega))
            have HEB := Lib.hid (HEA.out.trans_new hEB (fun i hi => .inr (by have := HB0.out; omega)))
            have hbwB := hbwA.ext hEB (by omega)
            have HRB := Lib.hid ((hrA.ext hEB (fun g hg => by omega)).more (Q := fun g => pw < g ) (fun g hg => by omega))
            have p1 := hbwB.cell 1
            simp at p1
            have HBWB := Lib.hid hbwB
            have hevB : evs'.length ≤ 256 := by
              obtain ⟨_, _, h2, _, h3⟩ := hsB
              omega
            clear hsB hEB hbwA hbwB hrA HSA HTA HEA
            go_wp2_with fail
            go_quiet ((go_at_call 17; exact Calls.quiet_of_same (len_quiet _ _ _ _ _ _ _ HSB.out)))
            go_wp2_with fail
            go_roundw
            case rel => exact ⟨n - 1, tj, evs', lost', _, by go_num, by omega, by omega, HSB.out.drewN _, HBWB.out, ⟨Av, cv, rfl, hcv, (HRB.out.lt.and HRB.out).more (fun g hg => ⟨hg.2, by simpa [World.drewN] using hg.1⟩)⟩, HTB.out.drewN _, HEB.out.drewN _⟩
            case measure => simp [intOf]; omega
          · have hlen0 : 0 < raw.length := by omega
            obtain ⟨ht1, ht2⟩ := fold_bd (tapeAt L tj) 2 (by omega)
            clear hr0
            go_wp2_with fail
            rw [← HWT.out, HPVV.out]
            refine (next_walk _ _ tj L 2 _ HTt.out (by omega) (by omega)).mono ?_
            rintro e w8 ⟨rfl, ht8, hE8⟩
            obtain ⟨t2, hteq⟩ : ∃ t2, fold (tapeAt L tj) 2 = t2 := ⟨_, rfl⟩
            rw [hteq]
            have HT8 := Lib.hid ht8
            have HS8 := Lib.hid (HSt.out.ext hE8 (by omega) (by omega))
            have HBW8 := Lib.hid (HBWt.out.ext hE8 (by omega))
            have HPV8 := Lib.hid (HPVt.out.ext hE8 (by omega))
            have HV8 := Lib.hid (HVt.out.ext hE8 (fun g hg => by omega))
            have HE8 := Lib.hid (HEt.out.trans_new hE8 (fun i hi => .inr (by have := HB0.out; omega)))
            clear ht8 hE8 HTt HSt HEt HBWt HVt HPVt hteq ht1 ht2 HWT HPVV
            by_cases ht0 : t2 = 0
            · subst ht0
              go_wp2_with fail
              obtain ⟨hi1, hi2⟩ := fold_bd (tapeAt L (tj + 1)) (raw.length : Int) (by omega)
              refine (next_walk _ _ (tj + 1) L (raw.length : Int) _ HT8.out (by omega) (by omega)).mono ?_
              rintro e wu ⟨rfl, htu, hEu⟩
              obtain ⟨iu, hiu⟩ : ∃ iu : Nat, fold (tapeAt L (tj + 1)) (raw.length : Int) = (iu : Int) := ⟨(fold (tapeAt L (tj + 1)) (raw.length : Int)).toNat, by omega⟩
              rw [hiu]
              have hiu2 : iu < raw.length := by omega
              have HTu := Lib.hid htu
              have HSu := Lib.hid (HS8.out.ext hEu (by omega) (by omega))
              have hbwu := HBW8.out.ext hEu (by omega)
              have hpvu := HPV8.out.ext hEu (by omega)
              have HVu := Lib.hid (HV8.out.ext hEu (fun g hg => by omega))
              have HEu := Lib.hid (HE8.out.trans_new hEu (fun i hi => .inr (by have := HB0.out; omega)))
              have hru := HRAW.out.ext HEu.out (fun _ _ h => h)
              obtain ⟨br, or, rfl, r0, r1, r2, r3, r4⟩ := rd_ev hru hiu2
              obtain ⟨br', _, hbr, hbr2, _, _⟩ := HRAW.out.get hlen0
              have hbre : br = br' := by injection hbr with hbr; injection hbr
              have hbrv : br ≠ pv := by have := HB0.out; omega
              have hne : ¬ pw = pv := by omega
              have hne' : ¬ pv = pw := by omega
              have u0 := hpvu.cell 0
              have u1 := hpvu.cell 1
              have u2 := hpvu.cell 2
              have u3 := hpvu.cell 3
              have u4 := hpvu.cell 4
              have uz := hpvu.frozen
              have k0 := hbwu.cell 0
              have k1 := hbwu.cell 1
              have k2 := hbwu.cell 2
              simp at u0 u1 u2 u3 u4 k0 k1 k2
              have HPVu := Lib.hid hpvu
              have HBWu := Lib.hid hbwu
              obtain ⟨V', hV'⟩ : ∃ V' : Ev, V' = raw[iu] := ⟨_, rfl⟩
              rw [← hV'] at r0 r1 r2 r3 r4
              clear htu hEu HT8 HS8 HE8 HBW8 HV8 HPV8 hi1 hi2 hiu hru hbr hpvu hbwu hV' hbre hbr2 HV0
              obtain ⟨wt', hwt'⟩ : ∃ wt', wt' = ((((wu.setCell ⟨pv, 0, none⟩ (.int .i64 V'.seq)).setCell ⟨pv, 1, none⟩ (.int .i64 V'.act)).setCell ⟨pv, 2, none⟩ (.int .i64 V'.idx)).setCell ⟨pv, 3, none⟩ (.string V'.path)).setCell ⟨pv, 4, none⟩ (.string V'.old) := ⟨_, rfl⟩
              have ESu : Ext (fun k => k = pv) wu wt' := by
                rw [hwt']
                exact (((((Ext.refl (fun k => k = pv) wu).setCell (p := ⟨pv, 0, none⟩) (.inl rfl) _).setCell (p := ⟨pv, 1, none⟩) (.inl rfl) _).setCell (p := ⟨pv, 2, none⟩) (.inl rfl) _).setCell (p := ⟨pv, 3, none⟩) (.inl rfl) _).setCell (p := ⟨pv, 4, none⟩) (.inl rfl) _
              have hpvt := ((((HPVu.out.set_ 0 (.int .i64 V'.seq)).set_ 1 (.int .i64 V'.act)).set_ 2 (.int .i64 V'.idx)).set_ 3 (.string V'.path)).set_ 4 (.string V'.old)
              rw [← hwt'] at hpvt
              simp at hpvt
              have HWT' := Lib.hid hwt'
              have HPVt := Lib.hid hpvt
              have HTt := Lib.hid (HTu.out.ext ESu (fun i hi h => by omega))
              have HSt := Lib.hid (HSu.out.ext ESu (by omega) (by omega))
              have HBWt := Lib.hid (HBWu.out.ext ESu hne)
              have HEt := Lib.hid (HEu.out.trans_new ESu (fun i hi => .inr (by have := HB0.out; omega)))
              have HVt := Lib.hid (HVu.out.ext ESu (fun g hg => by omega))
              clear hwt' ESu hpvt HTu HSu HBWu HEu HVu HPVu
              go_wp2_with fail
              rw [← HWT'.out]
              clear k0 k1 k2 u0 u1 u2 u3 u4 uz r0 r1 r2 r3 r4
              have a0 : True := trivial
              have a1 : True := trivial
              have a2 : True := trivial
              have a3 : True := trivial
              have a4 : True := trivial
              have k0 : True := trivial
              have k1 : True := trivial
              have k2 : True := trivial
              refine (refsend_m q _ vs evs lost V' _ HVt.out hq2 (fun g hg => by have := HPVt.out.lt; omega)).mono ?_
              rintro e w9 ⟨vs', rfl, hv9, hE9⟩
              generalize hM : sendM q evs lost V' = M at hv9 ⊢
              obtain ⟨evs', lost', zz⟩ := M
              simp only at hv9 ⊢
              have HM := Lib.hid hM
              have hlt9 : pw < wt'.heap.size := HBWt.out.lt
              have hz9 : wt'.heap.size ≤ w9.heap.size := hE9.size
              have hvt9 : pv < wt'.heap.size := HPVt.out.lt
              obtain ⟨Av, cv, hvv, hcv, hrv⟩ := hv9
              subst hvv
              have HS9 := Lib.hid (HSt.out.ext hE9 (fun h => h) (fun h => h))
              have HT9 := Lib.hid (HTt.out.ext hE9 (fun _ _ h => h))
              have HE9 := Lib.hid (HEt.out.trans hE9)
              have hbw9 := HBWt.out.ext hE9 (fun h => h)
              have hpv9 := HPVt.out.ext hE9 (fun h => h)
              have m0 := hbw9.cell 0
              have m1 := hbw9.cell 1
              have m2 := hbw9.cell 2
              have mz := hbw9.frozen
              have b0 := hpv9.cell 0
              have b1 := hpv9.cell 1
              have b2 := hpv9.cell 2
              have b3 := hpv9.cell 3
              have b4 := hpv9.cell 4
              simp at m0 m1 m2 b0 b1 b2 b3 b4
              have HBW9 := Lib.hid hbw9
              have HRV := Lib.hid hrv
              have hl9 : pw < w9.heap.size := by omega
              have hl9v : pv < w9.heap.size := by omega
              clear hE9 HSt HTt HEt HBWt HPVt HVt hbw9 hpv9 hrv hM a0 a1 a2 a3 a4 k0 k1 k2
              go_wp2_with fail
              have ES : Ext (fun k => k = pw) w9 ((((w9.setCell ⟨pw, 0, none⟩ (.int .i64 (q : Int))).setCell ⟨pw, 1, none⟩ (.slice Av evs'.length cv)).setCell ⟨pw, 2, none⟩ (.bool lost')).alloc (.cells #[.int .i64 (q : Int), .slice Av evs'.length cv, .bool lost'] 33)) :=
                ((((Ext.refl (fun k => k = pw) w9).setCell (p := ⟨pw, 0, none⟩) (.inl rfl) _).setCell (p := ⟨pw, 1, none⟩) (.inl rfl) _).setCell (p := ⟨pw, 2, none⟩) (.inl rfl) _).alloc _
              have hbwA := (((HBW9.out.set_ 0 (.int .i64 (q : Int))).set_ 1 (.slice Av evs'.length cv)).set_ 2 (.bool lost')).alloc (.cells #[.int .i64 (q : Int), .slice Av evs'.length cv, .bool lost'] 33)
              simp at hbwA
              have HSA := Lib.hid (HS9.out.ext ES (by omega) (by omega))
              have HTA := Lib.hid (HT9.out.ext ES (fun i hi h => by omega))
              have HEA := Lib.hid (HE9.out.trans_new ES (fun i hi => .inr (by have := HB0.out; omega)))
              have hrA := HRV.out.ext ES (fun g hg => by omega)
              obtain ⟨wA, hwA⟩ : ∃ wA, wA = ((((w9.setCell ⟨pw, 0, none⟩ (.int .i64 (q : Int))).setCell ⟨pw, 1, none⟩ (.slice Av evs'.length cv)).setCell ⟨pw, 2, none⟩ (.bool lost')).alloc (.cells #[.int .i64 (q : Int), .slice Av evs'.length cv, .bool lost'] 33)) := ⟨_, rfl⟩
              have hszA : w9.heap.size < wA.heap.size := by rw [hwA]; simp
              rw [← hwA] at hbwA hrA HSA HTA HEA ⊢
              clear ES HS9 HT9 HE9 HBW9 HRV m0 m1 m2 mz b0 b1 b2 b3 b4 hwA
              refine (send_m (b + 1) b q evs lost V' _ HSA.out).mono ?_
              rintro e wB ⟨rfl, hsB, hEB⟩
              rw [HM.out] at hsB ⊢
              simp only at hsB ⊢
              have HSB := Lib.hid hsB
              have HTB := Lib.hid (HTA.out.ext hEB (fun i hi h => by omega))
              have HEB := Lib.hid (HEA.out.trans_new hEB (fun i hi => .inr (by have := HB0.out; omega)))
              have hbwB := hbwA.ext hEB (by omega)
              have HRB := Lib.hid ((hrA.ext hEB (fun g hg => by omega)).more (Q := fun g => pw < g ) (fun g hg => by omega))
              have p1 := hbwB.cell 1
              simp at p1
              have HBWB := Lib.hid hbwB
              have hevB : evs'.length ≤ 256 := by
                obtain ⟨_, _, h2, _, h3⟩ := hsB
                omega
              clear hsB hEB hbwA hbwB hrA HSA HTA HEA
              go_wp2_with fail
              go_quiet ((go_at_call 17; exact Calls.quiet_of_same (len_quiet _ _ _ _ _ _ _ HSB.out)))
              go_wp2_with fail
              go_roundw
              case rel => exact ⟨n - 1, (tj + 1 + 1), evs', lost', _, by go_num, by omega, by omega, HSB.out.drewN _, HBWB.out, ⟨Av, cv, rfl, hcv, (HRB.out.lt.and HRB.out).more (fun g hg => ⟨hg.2, by simpa [World.drewN] using hg.1⟩)⟩, HTB.out.drewN _, HEB.out.drewN _⟩
              case measure => simp [intOf]; omega
            · have nt : (t2 == 0) = false := by simpa using ht0
              clear ht0 HV0
              have HPVt := HPV8
              have HSt := HS8
              have HTt := HT8
              have HBWt := HBW8
              have HVt := HV8
              have HEt := HE8
              clear HPV8 HS8 HT8 HBW8 HV8 HE8
              have a0 := HPVt.out.cell 0
              have a1 := HPVt.out.cell 1
              have a2 := HPVt.out.cell 2
              have a3 := HPVt.out.cell 3
              have a4 := HPVt.out.cell 4
              have k0 := HBWt.out.cell 0
              have k1 := HBWt.out.cell 1
              have k2 := HBWt.out.cell 2
              simp at a0 a1 a2 a3 a4 k0 k1 k2
              go_wp2_with fail
              refine (refsend_m q _ vs evs lost V _ HVt.out hq2 (fun g hg => by have := HPVt.out.lt; omega)).mono ?_
              rintro e w9 ⟨vs', rfl, hv9, hE9⟩
              generalize hM : sendM q evs lost V = M at hv9 ⊢
              obtain ⟨evs', lost', zz⟩ := M
              simp only at hv9 ⊢
              have HM := Lib.hid hM
              have hlt9 : pw < w8.heap.size := HBWt.out.lt
              have hz9 : w8.heap.size ≤ w9.heap.size := hE9.size
              have hvt9 : pv < w8.heap.size := HPVt.out.lt
              obtain ⟨Av, cv, hvv, hcv, hrv⟩ := hv9
              subst hvv
              have HS9 := Lib.hid (HSt.out.ext hE9 (fun h => h) (fun h => h))
              have HT9 := Lib.hid (HTt.out.ext hE9 (fun _ _ h => h))
              have HE9 := Lib.hid (HEt.out.trans hE9)
              have hbw9 := HBWt.out.ext hE9 (fun h => h)
              have hpv9 := HPVt.out.ext hE9 (fun h => h)
              have m0 := hbw9.cell 0
              have m1 := hbw9.cell 1
              have m2 := hbw9.cell 2
              have mz := hbw9.frozen
              have b0 := hpv9.cell 0
              have b1 := hpv9.cell 1
              have b2 := hpv9.cell 2
              have b3 := hpv9.cell 3
              have b4 := hpv9.cell 4
              simp at m0 m1 m2 b0 b1 b2 b3 b4
              have HBW9 := Lib.hid hbw9
              have HRV := Lib.hid hrv
              have hl9 : pw < w9.heap.size := by omega
              have hl9v : pv < w9.heap.size := by omega
              clear hE9 HSt HTt HEt HBWt HPVt HVt hbw9 hpv9 hrv hM a0 a1 a2 a3 a4 k0 k1 k2
              go_wp2_with fail
              have ES : Ext (fun k => k = pw) w9 ((((w9.setCell ⟨pw, 0, none⟩ (.int .i64 (q : Int))).setCell ⟨pw, 1, none⟩ (.slice Av evs'.length cv)).setCell ⟨pw, 2, none⟩ (.bool lost')).alloc (.cells #[.int .i64 (q : Int), .slice Av evs'.length cv, .bool lost'] 33)) :=
                ((((Ext.refl (fun k => k = pw) w9).setCell (p := ⟨pw, 0, none⟩) (.inl rfl) _).setCell (p := ⟨pw, 1, none⟩) (.inl rfl) _).setCell (p := ⟨pw, 2, none⟩) (.inl rfl) _).alloc _
              have hbwA := (((HBW9.out.set_ 0 (.int .i64 (q : Int))).set_ 1 (.slice Av evs'.length cv)).set_ 2 (.bool lost')).alloc (.cells #[.int .i64 (q : Int), .slice Av evs'.length cv, .bool lost'] 33)
              simp at hbwA
              have HSA := Lib.hid (HS9.out.ext ES (by omega) (by omega))
              have HTA := Lib.hid (HT9.out.ext ES (fun i hi h => by omega))
              have HEA := Lib.hid (HE9.out.trans_new ES (fun i hi => .inr (by have := HB0.out; omega)))
              have hrA := HRV.out.ext ES (fun g hg => by omega)
              obtain ⟨wA, hwA⟩ : ∃ wA, wA = ((((w9.setCell ⟨pw, 0, none⟩ (.int .i64 (q : Int))).setCell ⟨pw, 1, none⟩ (.slice Av evs'.length cv)).setCell ⟨pw, 2, none⟩ (.bool lost')).alloc (.cells #[.int .i64 (q : Int), .slice Av evs'.length cv, .bool lost'] 33)) := ⟨_, rfl⟩
              have hszA : w9.heap.size < wA.heap.size := by rw [hwA]; simp
              rw [← hwA] at hbwA hrA HSA HTA HEA ⊢
              clear ES HS9 HT9 HE9 HBW9 HRV m0 m1 m2 mz b0 b1 b2 b3 b4 hwA
              refine (send_m (b + 1) b q evs lost V _ HSA.out).mono ?_
              rintro e wB ⟨rfl, hsB, hEB⟩
              rw [HM.out] at hsB ⊢
              simp only at hsB ⊢
              have HSB := Lib.hid hsB
              have HTB := Lib.hid (HTA.out.ext hEB (fun i hi h => by omega))
              have HEB := Lib.hid (HEA.out.trans_new hEB (fun i hi => .inr (by have := HB0.out; omega)))
              have hbwB := hbwA.ext hEB (by omega)
              have HRB := Lib.hid ((hrA.ext hEB (fun g hg => by omega)).more (Q := fun g => pw < g ) (fun g hg => by omega))
              have p1 := hbwB.cell 1
              simp at p1
              have HBWB := Lib.hid hbwB
              have hevB : evs'.length ≤ 256 := by
                obtain ⟨_, _, h2, _, h3⟩ := hsB
                omega
              clear hsB hEB hbwA hbwB hrA HSA HTA HEA
              go_wp2_with fail
              go_quiet ((go_at_call 17; exact Calls.quiet_of_same (len_quiet _ _ _ _ _ _ _ HSB.out)))
              go_wp2_with fail
              go_roundw
              case rel => exact ⟨n - 1, (tj + 1), evs', lost', _, by go_num, by omega, by omega, HSB.out.drewN _, HBWB.out, ⟨Av, cv, rfl, hcv, (HRB.out.lt.and HRB.out).more (fun g hg => ⟨hg.2, by simpa [World.drewN] using hg.1⟩)⟩, HTB.out.drewN _, HEB.out.drewN _⟩
              case measure => simp [intOf]; omega
    · go_wp2_with fail
      go_ret
      exact ⟨rfl, HE.out⟩
end Go.Proofs.Ytfibfahgdjhhkaa
