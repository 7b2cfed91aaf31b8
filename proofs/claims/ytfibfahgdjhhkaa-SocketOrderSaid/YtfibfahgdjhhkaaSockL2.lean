/- SocketOrder: the walk. -/
import Derived.Test.YtfibfahgdjhhkaaSockK
namespace Go.Proofs.Ytfibfahgdjhhkaa
open Go.RowKit
set_option linter.unusedVariables false
set_option linter.unusedSimpArgs false

/-- two lists of events that the call itself builds by append -/
structure Two (wr : World) (B : Nat) (v6 v7 : Value) (S G : List Ev) : Prop where
  sent : wr.ownsRow B 42 5 v6 S.length (flat S)
  got : wr.ownsRow B 42 5 v7 G.length (flat G)
  apart : ∀ g, v6.ownBlock = some g → v7.ownBlock ≠ some g

section
variable {wr w' : World} {B : Nat} {v6 v7 v' : Value} {S G X : List Ev} {T : Nat → Prop}
theorem Two.ext (h : Two wr B v6 v7 S G) (hE : Ext T wr w') (hT : ∀ g, B ≤ g → ¬ T g) : Two w' B v6 v7 S G :=
  ⟨own_ext h.sent hE (fun g hg => hT g (h.sent.lt g hg).1), own_ext h.got hE (fun g hg => hT g (h.got.lt g hg).1), h.apart⟩
theorem Two.app7 {n : Nat} (h : Two wr B v6 v7 S G) (hn : n = X.length) (ho : w'.ownsRow B 42 5 v' (G.length + n) (flat G ++ flat X)) (hE : Ext (fun k => v7.ownBlock = some k) wr w')
    (hat : v'.ownBlock = v7.ownBlock ∨ v'.ownBlock = some wr.heap.size) : Two w' B v6 v' S (G ++ X) :=
  ⟨own_ext h.sent hE (fun g hg => h.apart g hg), by rw [flat_append, List.length_append, ← hn]; exact ho, fun g hg => by
    rcases hat with e | e <;> rw [e]
    · exact h.apart g hg
    · have := (h.sent.lt g hg).2
      intro e; injection e; omega⟩
theorem Two.app6 {n : Nat} (h : Two wr B v6 v7 S G) (hn : n = X.length) (ho : w'.ownsRow B 42 5 v' (S.length + n) (flat S ++ flat X)) (hE : Ext (fun k => v6.ownBlock = some k) wr w')
    (hat : v'.ownBlock = v6.ownBlock ∨ v'.ownBlock = some wr.heap.size) : Two w' B v' v7 (S ++ X) G :=
  ⟨by rw [flat_append, List.length_append, ← hn]; exact ho, own_ext h.got hE (fun g hg e => h.apart g e hg), fun g hg => by
    rcases hat with e | e <;> rw [e] at hg
    · exact h.apart g hg
    · injection hg with hg
      intro e
      have := (h.got.lt g e).2
      omega⟩
end

set_option maxRecDepth 100000 in
theorem order_walk (w : World) (A : Option Addr) (L : List Int) (c : Nat) (hl : L.length ≤ 9223372036854775807) (hr : Rd w (fun _ => True) 1 A L.length (L.map (Value.int .i64)))
    (hb : ∀ i, i < L.length → -9223372036854775808 ≤ L.getD i 0 ∧ L.getD i 0 ≤ 9223372036854775807) :
    Calls Try.prog 5 #[.slice A L.length c] w fun e w' => e = .returned (.bool true) ∧ Ext No w w' := by
  have HT0 := Lib.hid (tape_new (T := 26) (c := c) hl hr hb)
  clear hl hr hb
  obtain ⟨hf1, hf2⟩ := fold_bd (tapeAt L 0) 5 (by omega)
  obtain ⟨q, hq⟩ : ∃ q : Nat, 1 + fold (tapeAt L 0) 5 = (q : Int) := ⟨(1 + fold (tapeAt L 0) 5).toNat, by omega⟩
  have hq1 : 1 ≤ q := by omega
  have hq2 : q ≤ 256 := by omega
  go_enter Try.func5, Try.ntmps5
  go_wp2_with fail
  refine (next_walk _ _ 0 L 5 _ HT0.out (by omega) (by omega)).mono ?_
  rintro e w1 ⟨rfl, ht1, hE1⟩
  have HT1 := Lib.hid ht1
  have HE1 := Lib.hid (((Ext.refl No w).alloc (.cells #[.slice A L.length c, .int .i64 0] 26)).trans_new hE1 (fun i hi => .inr (by omega)))
  have hz1 := Lib.hid ht1.lt
  clear ht1 hE1 HT0
  go_wp2_with fail
  refine (new_good q w1 hq1 hq2).mono ?_
  rintro e w2 ⟨rfl, hs2, hE2⟩
  have HQ := Lib.hid hq
  have HS2 := Lib.hid hs2
  have HT2 := Lib.hid (HT1.out.ext hE2 (fun i _ h => h))
  have HE2 := Lib.hid (HE1.out.trans hE2)
  clear hs2 hE2 hq HT1 HE1 hf1 hf2
  go_wp2_with fail
  refine (known_walk w2).mono ?_
  rintro e w3 ⟨rfl, hE3⟩
  have HS3 := Lib.hid (HS2.out.ext hE3 (fun h => h) (fun h => h))
  have HT3 := Lib.hid (HT2.out.ext hE3 (fun i _ h => h))
  have HE3 := Lib.hid (HE2.out.trans hE3)
  have hz3 : w1.heap.size + 1 < w3.heap.size := by
    obtain ⟨⟨_, _, _, h, _⟩, _⟩ := HS3.out
    exact h.lt
  obtain ⟨bt, hbt⟩ : ∃ bt, w.heap.size = bt := ⟨_, rfl⟩
  obtain ⟨b, hbb⟩ : ∃ b, w1.heap.size = b := ⟨_, rfl⟩
  obtain ⟨B, hBB⟩ : ∃ B, w3.heap.size = B := ⟨_, rfl⟩
  have hlt1 : bt < b := by have := hz1.out; omega
  have hlt2 : b + 1 < B := by omega
  rw [hbt] at HT3 ⊢
  rw [hbb] at HS3 ⊢
  have HB0 := Lib.hid hbt
  have HB2 := Lib.hid hBB
  clear hE3 HS2 HT2 HE2 hz3 hz1 hbt hbb hBB
  go_wp2_with fail
  go_loopw [6, 7, 8, 9] (fun v6 v7 lo k wr => ∃ (n tk : Nat) (S G evs : List Ev) (lost : Bool), n ≤ 60 ∧ k = .int .i64 (n : Int) ∧ lo = .bool lost ∧ Two wr B v6 v7 S G ∧ Sock wr (b + 1) b q evs lost ∧ TapeIs 26 wr bt L tk ∧ Ext No w wr ∧ S = G ++ evs ∧ tk ≤ 3 * n ∧ S.length ≤ n ∧ B ≤ wr.heap.size)
    (fun _ _ _ k _ => 60 - (intOf k).toNat)
  case atStart => exact ⟨1, 1, [], [], [], false, by omega, rfl, rfl, ⟨own_nil _ _ _ _, own_nil _ _ _ _, fun g h => by simp [Value.ownBlock] at h⟩, HS3.out, HT3.out, HE3.out, rfl, by omega, by simp, by rw [HB2.out]; exact Nat.le_refl _⟩
  case round =>
    obtain ⟨n, tk, S, G, evs, lost, hn, rfl, rfl, htwo, hs, ht, hE, heq, htk, hSl, hBw⟩ := hrel
    clear HS3 HT3 HE3
    have hGl : G.length + evs.length = S.length := by rw [heq, List.length_append]
    obtain ⟨A6, c6, hv6, _⟩ := own_form htwo.sent
    obtain ⟨A7, c7, hv7, _⟩ := own_form htwo.got
    subst hv6
    subst hv7
    have HW := Lib.hid htwo
    have HS := Lib.hid hs
    have HT := Lib.hid ht
    have HE := Lib.hid hE
    have HQ1 := Lib.hid heq
    have hwb := Lib.hid HB0.out
    clear htwo hs ht hE heq
    by_cases hlt : n < 60
    · obtain ⟨hx1, hx2⟩ := fold_bd (tapeAt L tk) 5 (by omega)
      obtain ⟨x, hx⟩ : ∃ x, fold (tapeAt L tk) 5 = x := ⟨_, rfl⟩
      rw [hx] at hx1 hx2
      have HX := Lib.hid hx
      clear hx
      go_wp2_with fail
      refine (next_walk _ _ tk L 5 _ HT.out (by omega) (by omega)).mono ?_
      rintro e w4 ⟨rfl, ht4, hE4⟩
      rw [HX.out]
      have HT4 := Lib.hid ht4
      have HS4 := Lib.hid (HS.out.ext hE4 (by omega) (by omega))
      have HW4 := Lib.hid (HW.out.ext hE4 (fun g _ => by omega))
      have HE4 := Lib.hid (HE.out.trans_new hE4 (fun i hi => .inr (by have := hwb.out; omega)))
      have hB4 : B ≤ w4.heap.size := Nat.le_trans hBw hE4.size
      clear ht4 hE4 HT HS HW HE hBw
      by_cases h0 : x = 0
      · subst h0
        obtain ⟨hy1, hy2⟩ := fold_bd (tapeAt L (tk + 1)) 4 (by omega)
        obtain ⟨y, hy⟩ : ∃ y, fold (tapeAt L (tk + 1)) 4 = y := ⟨_, rfl⟩
        rw [hy] at hy1 hy2
        have HY := Lib.hid hy
        clear hy
        go_wp2_with fail
        refine (next_walk _ _ (tk + 1) L 4 _ HT4.out (by omega) (by omega)).mono ?_
        rintro e w5 ⟨rfl, ht5, hE5⟩
        rw [HY.out]
        have HT5 := Lib.hid ht5
        have HS5 := Lib.hid (HS4.out.ext hE5 (by omega) (by omega))
        have HW5 := Lib.hid (HW4.out.ext hE5 (fun g _ => by omega))
        have HE5 := Lib.hid (HE4.out.trans_new hE5 (fun i hi => .inr (by have := hwb.out; omega)))
        have hB5 : B ≤ w5.heap.size := Nat.le_trans hB4 hE5.size
        clear ht5 hE5 HT4 HS4 HW4 HE4 hB4
        go_wp2_with fail
        refine (recv_walk _ _ _ _ _ y _ HS5.out).mono ?_
        rintro e w6 ⟨rfl, hb6, hs6, hE6⟩
        have HR6 := Lib.hid hb6
        have HS6 := Lib.hid hs6
        have HT6 := Lib.hid (HT5.out.ext hE6 (fun i hi h => by omega))
        have HW6 := Lib.hid (HW5.out.ext hE6 (fun g hg => by omega))
        have HE6 := Lib.hid (HE5.out.trans_new hE6 (fun i hi => .inr (by have := hwb.out; omega)))
        have hB6 : B ≤ w6.heap.size := Nat.le_trans hB5 hE6.size
        obtain ⟨X, hX⟩ : ∃ X, X = evs.take y.toNat := ⟨_, rfl⟩
        obtain ⟨Y, hY⟩ : ∃ Y, Y = evs.drop y.toNat := ⟨_, rfl⟩
        have hXl : min y.toNat evs.length = X.length := by rw [hX, List.length_take]
        have hXY : X.length + Y.length = evs.length := by rw [hX, hY, List.length_take, List.length_drop]; omega
        have hev : evs = X ++ Y := by rw [hX, hY, List.take_append_drop]
        rw [hXl]
        rw [← hX] at HR6
        rw [← hY] at HS6
        have HEV := Lib.hid hev
        clear hb6 hs6 hE6 HS5 HT5 HW5 HE5 hB5 hX hY hXl hev
        go_wp2_with (at_builtin; refine wpList_append_rd rfl (.tmp 49) (.tmp 53) 23 rfl B 42 5 56 slEv (.slice A7 G.length c7) G.length (flat G) rfl HW6.out.got (fun b => b = w5.heap.size) (some ⟨w5.heap.size, 0, none⟩) X.length X.length (flat X) rfl (rd_blk HR6.out (flat_length _)) (flat_one _) (by simp only [maxLen]; omega) (by omega) hB6 ?_)
        intro v' w7 hown hE7 hat
        have htwo7 := HW6.out.app7 rfl hown hE7 hat
        have hB7 : B ≤ w7.heap.size := Nat.le_trans hB6 hE7.size
        have HS7 := Lib.hid (HS6.out.ext hE7 (fun h => by have := (HW6.out.got.lt _ h).1; omega) (fun h => by have := (HW6.out.got.lt _ h).1; omega))
        have HT7 := Lib.hid (HT6.out.ext hE7 (fun i hi h => by have := (HW6.out.got.lt _ h).1; omega))
        have HE7 := Lib.hid (HE6.out.trans_new hE7 (fun i hi => .inr (by have := (HW6.out.got.lt _ hi).1; have := hwb.out; omega)))
        obtain ⟨A8, c8, hv', _⟩ := own_form htwo7.got
        subst hv'
        have hl8 : (G ++ X).length = G.length + X.length := List.length_append
        rw [hl8] at htwo7 ⊢
        have HW7 := Lib.hid htwo7
        have i1 : G.length + X.length + Y.length ≤ S.length := by omega
        have i2 : S.length ≤ G.length + X.length + Y.length := by omega
        have HGL := Lib.hid hGl
        clear htwo7 hown hE7 hat HS6 HT6 HW6 HE6 hB6 HR6 hl8 hGl hXY
        go_wp2_with fail
        refine (len_walk _ _ _ _ _ w7 HS7.out).mono ?_
        rintro e w8 ⟨rfl, rfl⟩
        go_wp2_with fail
        go_roundw
        case rel => exact ⟨n + 1, tk + 2, S, G ++ X, Y, lost, by omega, by go_num, rfl, HW7.out, HS7.out, HT7.out, HE7.out, by rw [HQ1.out, HEV.out, List.append_assoc], by omega, by omega, hB7⟩
        case measure => simp [intOf]; omega
      · by_cases h1 : x = 1
        · subst h1
          go_wp2_with fail
          refine (lost_walk _ _ _ _ _ _ HS4.out).mono ?_
          rintro e w5 ⟨rfl, hs5, hE5⟩
          have HS5 := Lib.hid hs5
          have HT5 := Lib.hid (HT4.out.ext hE5 (fun i hi h => by omega))
          have HW5 := Lib.hid (HW4.out.ext hE5 (fun g hg => by omega))
          have HE5 := Lib.hid (HE4.out.trans_new hE5 (fun i hi => .inr (by have := hwb.out; omega)))
          have hB5 : B ≤ w5.heap.size := Nat.le_trans hB4 hE5.size
          clear hs5 hE5 HT4 HS4 HW4 HE4 hB4
          have i1 : G.length + evs.length ≤ S.length := by omega
          have i2 : S.length ≤ G.length + evs.length := by omega
          have HGL := Lib.hid hGl
          clear hGl
          go_wp2_with fail
          refine (len_walk _ _ _ _ _ w5 HS5.out).mono ?_
          rintro e w8 ⟨rfl, rfl⟩
          go_wp2_with fail
          go_roundw
          case rel => exact ⟨n + 1, tk + 1, S, G, evs, false, by omega, by go_num, rfl, HW5.out, HS5.out, HT5.out, HE5.out, HQ1.out, by omega, by omega, hB5⟩
          case measure => simp [intOf]; omega
        · skip
          have hev4 : Ext No w4 (w4.alloc (.cells #[.int .i64 (n : Int), .int .i64 0, .int .i64 0, .string ByteArray.empty, .string ByteArray.empty] 42)) := (Ext.refl No w4).alloc _
          have HSa := Lib.hid (HS4.out.ext hev4 (fun h => h) (fun h => h))
          have HTa := Lib.hid (HT4.out.ext hev4 (fun _ _ h => h))
          have HWa := Lib.hid (HW4.out.ext hev4 (fun _ _ h => h))
          have HEa := Lib.hid (HE4.out.trans hev4)
          clear hev4
          have n0 : (x == 0) = false := by simpa using h0
          have n1 : (x == 1) = false := by simpa using h1
          clear h0 h1
          by_cases hfull : evs.length = q
          · have HF := Lib.hid hfull
            clear hfull
            go_wp2_with fail
            refine (send_full _ _ _ _ _ ⟨n, 0, 0, ByteArray.empty, ByteArray.empty⟩ _ HSa.out HF.out).mono ?_
            rintro e w5 ⟨rfl, hs5, hE5⟩
            have HS5 := Lib.hid hs5
            have HT5 := Lib.hid (HTa.out.ext hE5 (fun i hi h => by omega))
            have HW5 := Lib.hid (HWa.out.ext hE5 (fun g hg => by omega))
            have HE5 := Lib.hid (HEa.out.trans_new hE5 (fun i hi => .inr (by have := hwb.out; omega)))
            have hB5 : B ≤ w5.heap.size := Nat.le_trans hB4 (by have := hE5.size; simp at this; omega)
            clear hs5 hE5 HT4 HS4 HW4 HE4 hB4 HSa HTa HWa HEa
            have i1 : G.length + evs.length ≤ S.length := by omega
            have i2 : S.length ≤ G.length + evs.length := by omega
            have HGL := Lib.hid hGl
            clear hGl
            go_wp2_with fail
            refine (len_walk _ _ _ _ _ w5 HS5.out).mono ?_
            rintro e w8 ⟨rfl, rfl⟩
            go_wp2_with fail
            go_roundw
            case rel => exact ⟨n + 1, tk + 1, S, G, evs, true, by omega, by go_num, rfl, HW5.out, HS5.out, HT5.out, HE5.out, HQ1.out, by omega, by omega, hB5⟩
            case measure => simp [intOf]; omega
          · have hroom : evs.length < q := by
              obtain ⟨_, _, h, _, _⟩ := HS4.out
              omega
            go_wp2_with fail
            refine (send_room _ _ _ _ _ ⟨n, 0, 0, ByteArray.empty, ByteArray.empty⟩ _ HSa.out hroom).mono ?_
            rintro e w5 ⟨rfl, hs5, hE5⟩
            have HS5 := Lib.hid hs5
            have HT5 := Lib.hid (HTa.out.ext hE5 (fun i hi h => by omega))
            have HW5 := Lib.hid (HWa.out.ext hE5 (fun g hg => by omega))
            have HE5 := Lib.hid (HEa.out.trans_new hE5 (fun i hi => .inr (by have := hwb.out; omega)))
            have hB5 : B ≤ w5.heap.size := Nat.le_trans hB4 (by have := hE5.size; simp at this; omega)
            have kb := (Blk.new w4 42 #[.int .i64 (n : Int), .int .i64 0, .int .i64 0, .string ByteArray.empty, .string ByteArray.empty]).ext hE5 (by omega)
            have e0 := kb.cell 0
            have e1 := kb.cell 1
            have e2 := kb.cell 2
            have e3 := kb.cell 3
            have e4 := kb.cell 4
            simp at e0 e1 e2 e3 e4
            clear hs5 hE5 HT4 HS4 HW4 HE4 hB4 HSa HTa HWa HEa kb
            go_wp2_with (at_builtin; refine wpList_append_rd rfl (.tmp 43) (.tmp 45) 23 rfl B 42 5 56 slEv (.slice A6 S.length c6) S.length (flat S) rfl (HW5.out.sent.alloc _) (fun b => b = w5.heap.size) (some ⟨w5.heap.size, 0, none⟩) 1 1 (flat [⟨n, 0, 0, ByteArray.empty, ByteArray.empty⟩]) rfl (rd_new w5 _ (flat [⟨n, 0, 0, ByteArray.empty, ByteArray.empty⟩]) 1 5 rfl) (flat_one _) (by simp only [maxLen]; omega) (by omega) (by simp; omega) ?_)
            intro v' w6 hown hE6 hat
            have hE5a : Ext No w5 (w5.alloc (.cells (flat [⟨n, 0, 0, ByteArray.empty, ByteArray.empty⟩]).toArray 42)) := (Ext.refl No w5).alloc _
            have htwo6 := (HW5.out.ext hE5a (fun _ _ h => h)).app6 (X := [⟨n, 0, 0, ByteArray.empty, ByteArray.empty⟩]) rfl hown hE6 (by simpa using hat)
            have HS6 := Lib.hid ((HS5.out.ext hE5a (fun h => h) (fun h => h)).ext hE6 (fun h => by have := (HW5.out.sent.lt _ h).1; omega) (fun h => by have := (HW5.out.sent.lt _ h).1; omega))
            have HT6 := Lib.hid ((HT5.out.ext hE5a (fun _ _ h => h)).ext hE6 (fun i hi h => by have := (HW5.out.sent.lt _ h).1; omega))
            have HE6 := Lib.hid ((HE5.out.trans hE5a).trans_new hE6 (fun i hi => .inr (by have := (HW5.out.sent.lt _ hi).1; have := hwb.out; omega)))
            have hB6 : B ≤ w6.heap.size := Nat.le_trans hB5 (Nat.le_trans hE5a.size hE6.size)
            obtain ⟨A8, c8, hv', _⟩ := own_form htwo6.sent
            subst hv'
            have hl8 : (S ++ [(⟨n, 0, 0, ByteArray.empty, ByteArray.empty⟩ : Ev)]).length = S.length + 1 := List.length_append
            have hl9 : (evs ++ [(⟨n, 0, 0, ByteArray.empty, ByteArray.empty⟩ : Ev)]).length = evs.length + 1 := List.length_append
            rw [hl8] at htwo6 ⊢
            have HW6 := Lib.hid htwo6
            have i1 : G.length + evs.length ≤ S.length := by omega
            have i2 : S.length ≤ G.length + evs.length := by omega
            have HGL := Lib.hid hGl
            have HL9 := Lib.hid hl9
            clear htwo6 hown hE6 hat hE5a HS5 HT5 HW5 HE5 hB5 hl8 hl9 hGl e0 e1 e2 e3 e4
            go_wp2_with fail
            refine (len_walk _ _ _ _ _ w6 HS6.out).mono ?_
            rintro e w8 ⟨rfl, rfl⟩
            rw [HL9.out]
            go_wp2_with fail
            go_roundw
            case rel => exact ⟨n + 1, tk + 1, _, G, _, lost, by omega, by go_num, rfl, HW6.out, HS6.out, HT6.out, HE6.out, by rw [HQ1.out, List.append_assoc], by omega, by simp; omega, hB6⟩
            case measure => simp [intOf]; omega
    · go_wp2_with fail
      refine (len_walk _ _ _ _ _ wr HS.out).mono ?_
      rintro e w8 ⟨rfl, rfl⟩
      go_wp2_with fail
      refine (recv_walk _ _ _ _ _ (evs.length : Int) _ HS.out).mono ?_
      rintro e w6 ⟨rfl, hb6, hs6, hE6⟩
      have hm6 : min (evs.length : Int).toNat evs.length = evs.length := by simp
      have ht6 : evs.take (evs.length : Int).toNat = evs := by simp
      rw [hm6]
      rw [ht6] at hb6
      have HR6 := Lib.hid hb6
      have HW6 := Lib.hid (HW.out.ext hE6 (fun g hg => by omega))
      have HE6 := Lib.hid (HE.out.trans_new hE6 (fun i hi => .inr (by have := hwb.out; omega)))
      have hB6 : B ≤ w6.heap.size := Nat.le_trans hBw hE6.size
      clear hm6 ht6 hb6 hs6 hE6 HS HW HE hBw
      go_wp2_with (at_builtin; refine wpList_append_rd rfl (.tmp 69) (.tmp 73) 23 rfl B 42 5 56 slEv (.slice A7 G.length c7) G.length (flat G) rfl HW6.out.got (fun b => b = wr.heap.size) (some ⟨wr.heap.size, 0, none⟩) evs.length evs.length (flat evs) rfl (rd_blk HR6.out (flat_length _)) (flat_one _) (by simp only [maxLen]; omega) (by omega) hB6 ?_)
      intro v' w7 hown hE7 hat
      have htwo7 := HW6.out.app7 (X := evs) rfl (by rw [hGl]; exact hown) hE7 hat
      rw [← HQ1.out] at htwo7
      have HE7 := Lib.hid (HE6.out.trans_new hE7 (fun i hi => .inr (by have := (HW6.out.got.lt _ hi).1; have := hwb.out; omega)))
      obtain ⟨A8, c8, hv', _, _, hrd8⟩ := own_form htwo7.got
      obtain ⟨A9, c9, hv9, _, _, hrd9⟩ := own_form htwo7.sent
      obtain ⟨rfl, _, rfl⟩ : A6 = A9 ∧ S.length = S.length ∧ c6 = c9 := by simpa using hv9
      subst hv'
      have HR8 := Lib.hid hrd8
      have HR9 := Lib.hid hrd9
      have hl1 : S.length ≤ 9223372036854775807 := by omega
      have HL1 := Lib.hid hl1
      clear htwo7 hown hE7 hat HW6 HE6 hB6 HR6 hrd8 hrd9 hv9 hl1
      go_wp2_with fail
      refine (same_walk _ _ _ _ _ _ S S w7 HR8.out HR9.out HL1.out HL1.out).mono ?_
      rintro e w8 ⟨rfl, m, rfl⟩
      go_wp2_with fail
      go_ret
      exact ⟨rfl, HE7.out.drewN _⟩
end Go.Proofs.Ytfibfahgdjhhkaa
