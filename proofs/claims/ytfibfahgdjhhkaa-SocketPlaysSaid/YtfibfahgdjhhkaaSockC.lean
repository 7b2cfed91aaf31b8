/- The reference's New, Send, Receive; Clone and Copy. -/
import Derived.Test.YtfibfahgdjhhkaaSockB
import Derived.Deep.RegionLaw
namespace Go.Proofs.Ytfibfahgdjhhkaa
open Go.RowKit
set_option linter.unusedVariables false
set_option linter.unusedSimpArgs false

theorem refnew_bad (n : Int) (w : World) (h : n < 1 ∨ 256 < n) : Calls Try.prog 9 #[.int .i64 n] w fun e w' =>
    e = .returned (.tuple #[.agg #[.int .i64 0, .slice none 0 0, .bool false], .int .i64 60]) ∧ Ext No w w' := by
  rcases h with h | h
  · go_enter Try.func9, Try.ntmps9
    go_wp2
    exact bodyPost_ret (v := .tuple #[.agg #[.int .i64 0, .slice none 0 0, .bool false], .int .i64 60]) (by simp [results, Try.results9, go_sem]) rfl ⟨rfl, (Ext.refl _ _).alloc _⟩
  · have h' : ¬ n < 1 := by omega
    go_enter Try.func9, Try.ntmps9
    go_wp2
    exact bodyPost_ret (v := .tuple #[.agg #[.int .i64 0, .slice none 0 0, .bool false], .int .i64 60]) (by simp [results, Try.results9, go_sem]) rfl ⟨rfl, (Ext.refl _ _).alloc _⟩

theorem refnew_good (n : Int) (w : World) (h : 1 ≤ n) (h' : n ≤ 256) : Calls Try.prog 9 #[.int .i64 n] w fun e w' =>
    e = .returned (.tuple #[.agg #[.int .i64 n, .slice none 0 0, .bool false], .int .i64 0]) ∧ Ext No w w' := by
  go_enter Try.func9, Try.ntmps9
  go_wp2
  exact bodyPost_ret (v := .tuple #[.agg #[.int .i64 n, .slice none 0 0, .bool false], .int .i64 0]) (by simp [results, Try.results9, go_sem]) rfl ⟨rfl, (Ext.refl _ _).alloc _⟩

theorem refsend_full (cap : Nat) (A : Option Addr) (n c : Nat) (lost : Bool) (v : Ev) (w : World) (hfull : cap ≤ n) :
    Calls Try.prog 15 #[.agg #[.int .i64 (cap : Int), .slice A n c, .bool lost], v.agg] w fun e w' =>
      e = .returned (.tuple #[.agg #[.int .i64 (cap : Int), .slice A n c, .bool true], .int .i64 61]) ∧ Ext No w w' := by
  unfold Ev.agg
  go_enter Try.func15, Try.ntmps15
  go_wp2
  exact bodyPost_ret (v := .tuple #[.agg #[.int .i64 (cap : Int), .slice A n c, .bool true], .int .i64 61]) (by simp [results, Try.results15, go_sem]) rfl ⟨rfl, (((Ext.refl _ _).alloc _).alloc _).alloc _⟩

theorem refsend_room (cap : Nat) (P : Nat → Prop) (A : Option Addr) (evs : List Ev) (c : Nat) (lost : Bool) (v : Ev) (w : World) (hr : Rd w P 5 A evs.length (flat evs)) (hroom : evs.length < cap) (hc : cap ≤ 256) :
    Calls Try.prog 15 #[.agg #[.int .i64 (cap : Int), .slice A evs.length c, .bool lost], v.agg] w fun e w' =>
      ∃ A' c', e = .returned (.tuple #[.agg #[.int .i64 (cap : Int), .slice A' (evs.length + 1) c', .bool lost], .int .i64 0]) ∧ Rd w' (w.heap.size ≤ ·) 5 A' (evs.length + 1) (flat (evs ++ [v])) ∧ evs.length + 1 ≤ c' ∧ Ext No w w' := by
  obtain ⟨W0, hW0⟩ : ∃ W0, W0 = ((w.alloc (.cells #[.int .i64 (cap : Int), .slice A evs.length c, .bool lost] 33)).alloc (.cells #[.int .i64 v.seq, .int .i64 v.act, .int .i64 v.idx, .string v.path, .string v.old] 42)).alloc (.cells #[.int .i64 0, .slice none 0 0, .bool false] 33) := ⟨_, rfl⟩
  have E0 : Ext No w W0 := by rw [hW0]; exact (((Ext.refl No w).alloc _).alloc _).alloc _
  have hz0 : W0.heap.size = w.heap.size + 1 + 1 + 1 := by rw [hW0]; simp
  have k0 : Blk W0 w.heap.size 33 #[.int .i64 (cap : Int), .slice A evs.length c, .bool lost] := by rw [hW0]; exact ((Blk.new w _ _).alloc _).alloc _
  have k1 : Blk W0 (w.heap.size + 1) 42 #[.int .i64 v.seq, .int .i64 v.act, .int .i64 v.idx, .string v.path, .string v.old] := by rw [hW0]; exact (Blk.new_at _ _ _ (by simp)).alloc _
  have k2 : Blk W0 (w.heap.size + 1 + 1) 33 #[.int .i64 0, .slice none 0 0, .bool false] := by rw [hW0]; exact Blk.new_at _ _ _ (by simp)
  have HR := Lib.hid (hr.ext E0 (fun _ _ h => h))
  have HW0 := Lib.hid hW0
  have K0 := Lib.hid k0
  have K1 := Lib.hid k1
  have K2 := Lib.hid k2
  have HE0 := Lib.hid E0
  unfold Ev.agg
  go_enter Try.func15, Try.ntmps15
  clear k0 k1 k2 E0 hW0 hz0 hr
  go_wp2
  rw [← HW0.out]
  have hz0 : W0.heap.size = w.heap.size + 1 + 1 + 1 := by rw [HW0.out]; simp
  have HZ0 := Lib.hid hz0
  have hl0 : w.heap.size < W0.heap.size := by omega
  have hl1 : w.heap.size + 1 < W0.heap.size := by omega
  have b1 := K0.out.cell 1
  have e0 := K1.out.cell 0
  have e1 := K1.out.cell 1
  have e2 := K1.out.cell 2
  have e3 := K1.out.cell 3
  have e4 := K1.out.cell 4
  simp at b1 e0 e1 e2 e3 e4
  have K3 := Lib.hid (Blk.new W0.drew 42 #[.int .i64 v.seq, .int .i64 v.act, .int .i64 v.idx, .string v.path, .string v.old])
  clear hz0
  go_region_law (first
    | (refine step_append_rd rfl (.const (.slice none 0 0)) (.tmp 15) 23 rfl (w.heap.size + 1 + 1 + 1) 42 5 56 slEv (.slice none 0 0) 0 [] rfl (own_nil _ _ _ _) P A evs.length c (flat evs) rfl HR.out.drew (flat_one _) (by simp only [maxLen]; omega) (by omega) (by have := HZ0.out; simp; omega) ?_
       intro v1 w1 hown1 hE1 hat1
       simp only [Nat.zero_add, List.nil_append] at hown1
       have k1' := K1.out.drew.ext hE1 (fun h => by simp [Value.ownBlock] at h)
       have e0 := k1'.cell 0
       have e1 := k1'.cell 1
       have e2 := k1'.cell 2
       have e3 := k1'.cell 3
       have e4 := k1'.cell 4
       simp at e0 e1 e2 e3 e4
       have k0' := Lib.hid (K0.out.drew.ext hE1 (fun h => by simp [Value.ownBlock] at h))
       have k2' := Lib.hid (K2.out.drew.ext hE1 (fun h => by simp [Value.ownBlock] at h))
       have hown1 := Lib.hid hown1
       have hE1 := Lib.hid hE1
       clear k1' hat1)
    | (refine step_append_rd rfl (.const (.slice none 0 0)) (.tmp 15) 23 rfl (w.heap.size + 1 + 1 + 1) 42 5 56 slEv (.slice none 0 0) 0 [] rfl (own_nil _ _ _ _) P A evs.length c (flat evs) rfl ((HR.out.ext ((Ext.refl No W0).alloc (.cells #[.int .i64 v.seq, .int .i64 v.act, .int .i64 v.idx, .string v.path, .string v.old] 42)) (fun _ _ h => h)).drew) (flat_one _) (by simp only [maxLen]; omega) (by omega) (by have := HZ0.out; simp; omega) ?_
       intro v1 w1 hown1 hE1 hat1
       simp only [Nat.zero_add, List.nil_append] at hown1
       have k0' := Lib.hid ((K0.out.drew.alloc _).ext hE1 (fun h => by simp [Value.ownBlock] at h))
       have k2' := Lib.hid ((K2.out.drew.alloc _).ext hE1 (fun h => by simp [Value.ownBlock] at h))
       have k3' := Lib.hid (K3.out.ext hE1 (fun h => by simp [Value.ownBlock] at h))
       have hown1 := Lib.hid hown1
       have hE1 := Lib.hid hE1
       clear hat1)
    | (refine step_append_rd rfl (.tmp 16) (.tmp 18) 23 rfl (w.heap.size + 1 + 1 + 1) 42 5 56 slEv v1 evs.length (flat evs) rfl (hown1.out.alloc _) (fun b => b = w1.heap.size) (some ⟨w1.heap.size, 0, none⟩) 1 1 (flat [v]) rfl (rd_new w1 _ (flat [v]) 1 5 rfl) (flat_one _) (by simp only [maxLen]; omega) (by omega) (by have := hE1.out.size; have := HZ0.out; simp at *; omega) ?_
       intro v2 w2 hown2 hE2 hat2
       have k0'' := (k0'.out.alloc _).ext hE2 (fun h => by have := (hown1.out.lt _ h).1; omega)
       have k2'' := (k2'.out.alloc _).ext hE2 (fun h => by have := (hown1.out.lt _ h).1; omega)
       obtain ⟨A2, c2, hv2, hle2, hlt2, hrd2⟩ := own_form hown2
       subst hv2
       have d0 := k0''.cell 0
       have d1 := k0''.cell 1
       have d2 := k0''.cell 2
       have z0 := k0''.frozen
       have g0 := k2''.cell 0
       have g1 := k2''.cell 1
       have g2 := k2''.cell 2
       have z2 := k2''.frozen
       simp at d0 d1 d2 g0 g1 g2
       have hrd2 := Lib.hid hrd2
       have HE2 := Lib.hid (((HE0.out.drew.trans_new hE1.out (fun i h => by simp [Value.ownBlock] at h)).alloc _).trans_new hE2 (fun i h => .inr (by have := (hown1.out.lt _ h).1; omega)))
       clear k0'' k2'' hown2 hE2 hat2 hlt2)
    | (refine step_append_rd rfl (.tmp 16) (.tmp 18) 23 rfl (w.heap.size + 1 + 1 + 1) 42 5 56 slEv v1 evs.length (flat evs) rfl hown1.out (fun b => b = W0.heap.size) (some ⟨W0.heap.size, 0, none⟩) 1 1 (flat [v]) rfl (rd_blk (xs := flat [v]) k3'.out rfl) (flat_one _) (by simp only [maxLen]; omega) (by omega) (by have := hE1.out.size; have := HZ0.out; simp at *; omega) ?_
       intro v2 w2 hown2 hE2 hat2
       have k0'' := k0'.out.ext hE2 (fun h => by have := (hown1.out.lt _ h).1; omega)
       have k2'' := k2'.out.ext hE2 (fun h => by have := (hown1.out.lt _ h).1; omega)
       obtain ⟨A2, c2, hv2, hle2, hlt2, hrd2⟩ := own_form hown2
       subst hv2
       have d0 := k0''.cell 0
       have d1 := k0''.cell 1
       have d2 := k0''.cell 2
       have z0 := k0''.frozen
       have g0 := k2''.cell 0
       have g1 := k2''.cell 1
       have g2 := k2''.cell 2
       have z2 := k2''.frozen
       simp at d0 d1 d2 g0 g1 g2
       have hrd2 := Lib.hid hrd2
       have HE2 := Lib.hid (((HE0.out.alloc _).drew.trans_new hE1.out (fun i h => by simp [Value.ownBlock] at h)).trans_new hE2 (fun i h => .inr (by have := (hown1.out.lt _ h).1; omega)))
       clear k0'' k2'' hown2 hE2 hat2 hlt2))
  all_goals go_wp2
  all_goals
    have ES : Ext (fun k => k = w.heap.size ∨ k = w.heap.size + 1 + 1) w2 ((((w2.setCell ⟨w.heap.size, 1, none⟩ (.slice A2 (evs.length + 1) c2)).setCell ⟨w.heap.size + 1 + 1, 0, none⟩ (.int .i64 (cap : Int))).setCell ⟨w.heap.size + 1 + 1, 1, none⟩ (.slice A2 (evs.length + 1) c2)).setCell ⟨w.heap.size + 1 + 1, 2, none⟩ (.bool lost)) :=
      ((((Ext.refl _ w2).setCell (p := ⟨w.heap.size, 1, none⟩) (.inl (.inl rfl)) _).setCell (p := ⟨w.heap.size + 1 + 1, 0, none⟩) (.inl (.inr rfl)) _).setCell (p := ⟨w.heap.size + 1 + 1, 1, none⟩) (.inl (.inr rfl)) _).setCell (p := ⟨w.heap.size + 1 + 1, 2, none⟩) (.inl (.inr rfl)) _
    refine bodyPost_ret (v := .tuple #[.agg #[.int .i64 (cap : Int), .slice A2 (evs.length + 1) c2, .bool lost], .int .i64 0]) (by simp [results, Try.results15, go_sem, g0, g1, g2]) rfl ⟨A2, c2, rfl, ?_, hle2, HE2.out.trans_new ES (fun i hi => .inr (by omega))⟩
    rw [flat_append]
    exact (hrd2.out.ext ES (fun b hb => by omega)).more (fun b hb => by omega)

/-- the slice value v reads as the events l, in blocks that P allows -/
def EvSl (w : World) (P : Nat → Prop) (v : Value) (l : List Ev) : Prop := ∃ A c, v = .slice A l.length c ∧ l.length ≤ c ∧ Rd w P 5 A l.length (flat l)
theorem EvSl.ext {w w' : World} {P S : Nat → Prop} {v : Value} {l : List Ev} (h : EvSl w P v l) (e : Ext S w w') (hS : ∀ b, P b → ¬ S b) : EvSl w' P v l := by
  obtain ⟨A, c, rfl, hc, hr⟩ := h
  exact ⟨A, c, rfl, hc, hr.ext e hS⟩
theorem EvSl.more {w : World} {P Q : Nat → Prop} {v : Value} {l : List Ev} (h : EvSl w P v l) (hP : ∀ b, P b → Q b) : EvSl w Q v l := by
  obtain ⟨A, c, rfl, hc, hr⟩ := h
  exact ⟨A, c, rfl, hc, hr.more hP⟩
theorem flat_take (l : List Ev) (k : Nat) (h : k ≤ l.length) : (flat l).take (k * 5) = flat (l.take k) := by
  have h1 := flat_append (l.take k) (l.drop k)
  rw [List.take_append_drop] at h1
  rw [h1, List.take_append_of_le_length (by rw [flat_length, List.length_take]; omega), List.take_of_length_le (by rw [flat_length, List.length_take]; omega)]
theorem flat_drop (l : List Ev) (k : Nat) (h : k ≤ l.length) : (flat l).drop (k * 5) = flat (l.drop k) := by
  have h1 := flat_append (l.take k) (l.drop k)
  rw [List.take_append_drop] at h1
  rw [h1, List.drop_append_of_le_length (by rw [flat_length, List.length_take]; omega), List.drop_eq_nil_of_le (by rw [flat_length, List.length_take]; omega), List.nil_append]

theorem refrecv_walk (cap : Nat) (P : Nat → Prop) (A : Option Addr) (evs : List Ev) (c : Nat) (lost : Bool) (most : Int) (w : World) (hr : Rd w P 5 A evs.length (flat evs)) (hc : evs.length ≤ c) (hl : evs.length ≤ 256) :
    Calls Try.prog 12 #[.agg #[.int .i64 (cap : Int), .slice A evs.length c, .bool lost], .int .i64 most] w fun e w' =>
      ∃ v1 v2, e = .returned (.tuple #[.agg #[.int .i64 (cap : Int), v1, .bool lost], v2]) ∧ EvSl w' (w.heap.size ≤ ·) v1 (evs.drop most.toNat) ∧ EvSl w' (w.heap.size ≤ ·) v2 (evs.take most.toNat) ∧ Ext No w w' := by
  obtain ⟨q, hq⟩ : ∃ q, q = most.toNat := ⟨_, rfl⟩
  obtain ⟨n, hn⟩ : ∃ n, n = min q evs.length := ⟨_, rfl⟩
  rw [← hq]
  obtain ⟨p, hmin⟩ : ∃ p, (if (evs.length : Int) < most then (evs.length : Int) else most) = p := ⟨_, rfl⟩
  have hmax : (if 0 < p then p else 0) = (n : Int) := by rw [hn, ← hmin]; split <;> split <;> omega
  have hnl : n ≤ evs.length := by omega
  have hnc : n ≤ c := by omega
  obtain ⟨A2, hA2⟩ : ∃ A2, (if c = n then A else A.map (·.add (n * 5))) = A2 := ⟨_, rfl⟩
  have HQ := Lib.hid hq
  have HN := Lib.hid hn
  have HR := Lib.hid hr
  clear hq hn hr
  have HA2 := Lib.hid hA2
  have hnl' : (evs.take q).length = n := by rw [List.length_take, HN.out]
  have hnd' : (evs.drop q).length = evs.length - n := by rw [List.length_drop, HN.out]; omega
  have htk : (flat evs).take (n * 5) = flat (evs.take q) := by
    rw [flat_take _ _ hnl, HN.out]
    rcases Nat.le_total q evs.length with h | h
    · rw [Nat.min_eq_left h]
    · rw [Nat.min_eq_right h, List.take_of_length_le (Nat.le_refl _), List.take_of_length_le h]
  have hdk : (flat evs).drop (n * 5) = flat (evs.drop q) := by
    rw [flat_drop _ _ hnl, HN.out]
    rcases Nat.le_total q evs.length with h | h
    · rw [Nat.min_eq_left h]
    · rw [Nat.min_eq_right h, List.drop_eq_nil_of_le (Nat.le_refl _), List.drop_eq_nil_of_le h]
  have HTK := Lib.hid htk
  have HDK := Lib.hid hdk
  have HNL := Lib.hid hnl'
  have HND := Lib.hid hnd'
  clear htk hdk hnl' hnd'
  go_enter Try.func12, Try.ntmps12
  go_wp2_with (first
    | (at_builtin
       refine wpList_append_rd rfl (.const (.slice none 0 0)) (.tmp 17) 23 rfl (w.heap.size + 1 + 1) 42 5 56 slEv (.slice none 0 0) 0 [] rfl (own_nil _ _ _ _) P A n c _ rfl ((HR.out.ext (((Ext.refl No w).alloc _).alloc _) (fun _ _ h => h)).take_ hnl) (by rw [HTK.out]; exact flat_one _) (by simp only [maxLen]; omega) (by omega) (by simp) ?_
       intro v1 w1 hown1 hE1 hat1
       simp only [Nat.zero_add, List.nil_append] at hown1
       have k0 := ((Blk.new w 33 #[.int .i64 (cap : Int), .slice A evs.length c, .bool lost]).alloc (.cells #[.int .i64 0, .slice none 0 0, .bool false] 33)).ext hE1 (fun h => by simp [Value.ownBlock] at h)
       have k1 := (Blk.new_at (w.alloc (.cells #[.int .i64 (cap : Int), .slice A evs.length c, .bool lost] 33)) 33 #[.int .i64 0, .slice none 0 0, .bool false] (n := w.heap.size + 1) (by simp)).ext hE1 (fun h => by simp [Value.ownBlock] at h)
       have c0 := k0.cell 0
       have c1 := k0.cell 1
       simp at c0 c1
       have HE1 := Lib.hid ((((Ext.refl No w).alloc _).alloc _).trans_new hE1 (fun i h => by simp [Value.ownBlock] at h))
       have HO1 := Lib.hid hown1
       have K0 := Lib.hid k0
       have K1 := Lib.hid k1
       clear hown1 hE1 k0 k1 hmin hmax)
    | (at_builtin
       refine wpList_append_rd rfl (.const (.slice none 0 0)) (.tmp 22) 23 rfl (w.heap.size + 1 + 1) 42 5 56 slEv (.slice none 0 0) 0 [] rfl (own_nil _ _ _ _) P A2 (evs.length - n) (c - n) _ rfl (by rw [← HA2.out]; exact (HR.out.ext HE1.out (fun _ _ h => h)).cut hnl hc) (by rw [HDK.out]; exact flat_one _) (by simp only [maxLen]; omega) (by omega) (by have := K1.out.lt; omega) ?_
       intro v2 w2 hown2 hE2 hat2
       simp only [Nat.zero_add, List.nil_append] at hown2
       have k0 := K0.out.ext hE2 (fun h => by simp [Value.ownBlock] at h)
       have k1 := K1.out.ext hE2 (fun h => by simp [Value.ownBlock] at h)
       have HO3 := Lib.hid (own_ext HO1.out hE2 (fun g _ h => by simp [Value.ownBlock] at h))
       have HE3 := Lib.hid (HE1.out.trans_new hE2 (fun i h => by simp [Value.ownBlock] at h))
       obtain ⟨A3, c3, hv2, hle3, hlt3, hrd3⟩ := own_form hown2
       subst hv2
       have d0 := k0.cell 0
       have d1 := k0.cell 1
       have d2 := k0.cell 2
       have z0 := k0.frozen
       have g0 := k1.cell 0
       have g1 := k1.cell 1
       have g2 := k1.cell 2
       have z1 := k1.frozen
       simp at d0 d1 d2 g0 g1 g2
       have HD3 := Lib.hid hrd3
       clear c0 c1 k0 k1 hown2 hE2 hat2 hlt3 hrd3 hat1))
  have ES : Ext (fun k => k = w.heap.size ∨ k = w.heap.size + 1) w2 ((((w2.setCell ⟨w.heap.size, 1, none⟩ (.slice A3 (evs.length - n) c3)).setCell ⟨w.heap.size + 1, 0, none⟩ (.int .i64 (cap : Int))).setCell ⟨w.heap.size + 1, 1, none⟩ (.slice A3 (evs.length - n) c3)).setCell ⟨w.heap.size + 1, 2, none⟩ (.bool lost)) :=
    ((((Ext.refl _ w2).setCell (p := ⟨w.heap.size, 1, none⟩) (.inl (.inl rfl)) _).setCell (p := ⟨w.heap.size + 1, 0, none⟩) (.inl (.inr rfl)) _).setCell (p := ⟨w.heap.size + 1, 1, none⟩) (.inl (.inr rfl)) _).setCell (p := ⟨w.heap.size + 1, 2, none⟩) (.inl (.inr rfl)) _
  obtain ⟨A4, c4, hv1, hle4, hlt4, hrd4⟩ := own_form HO3.out
  refine bodyPost_ret (v := .tuple #[.agg #[.int .i64 (cap : Int), .slice A3 (evs.length - n) c3, .bool lost], v1]) (by simp [results, Try.results12, go_sem, g0, g1, g2]) rfl ⟨_, _, rfl, ⟨A3, c3, by rw [HND.out], by rw [HND.out]; exact hle3, ?_⟩, ⟨A4, c4, by rw [HNL.out]; exact hv1, by rw [HNL.out]; exact hle4, ?_⟩, HE3.out.trans_new ES (fun i hi => .inr (by omega))⟩
  · rw [HND.out, ← HDK.out]; exact (HD3.out.ext ES (fun b hb => by omega)).more (fun b hb => by omega)
  · rw [HNL.out, ← HTK.out]; exact (hrd4.ext ES (fun b hb => by omega)).more (fun b hb => by omega)

theorem clone_walk (r cap kc : Nat) (C : Array Value) (w : World) (hr : Blk w r 42 C) (hs : cap * 5 ≤ C.size) (ho : ∀ u ∈ C.toList.take (cap * 5), u.oneCell' = true) (hp : 1 ≤ cap) (hm : cap ≤ 256) :
    Calls Try.prog 20 #[.slice (some ⟨r, 0, none⟩) cap kc] w fun e w' =>
      ∃ g k D, e = .returned (.slice (some ⟨g, 0, none⟩) cap k) ∧ w.heap.size ≤ g ∧ Blk w' g 42 D ∧ D.toList.take (cap * 5) = C.toList.take (cap * 5) ∧ cap ≤ k ∧ D.size = k * 5 ∧ Ext No w w' := by
  have HR := Lib.hid hr
  clear hr
  have heq := fun W : World => Lib.run_eql_slice_nil (P := Try.prog) W 23 42 (some ⟨r, 0, none⟩) cap kc 0 0 Try.underlying23
  simp only [Option.isNone_some] at heq
  obtain ⟨xs, hxs⟩ : ∃ xs, xs = C.toList.take (cap * 5) := ⟨_, rfl⟩
  have ho' : ∀ u ∈ xs, u.oneCell' = true := fun u hu => ho u (by rw [hxs] at hu; exact hu)
  rw [← hxs]
  have HX := Lib.hid hxs
  have HO := Lib.hid ho'
  clear hxs ho ho'
  go_enter Try.func20, Try.ntmps20
  go_wp2_with (at_builtin; refine wpList_append_rd rfl (.tmp 5) (.tmp 6) 23 rfl w.heap.size 42 5 56 slEv (.slice (some ⟨w.heap.size, 0, none⟩) 0 0) 0 [] rfl ?_ (fun b => b = r) (some ⟨r, 0, none⟩) cap kc xs rfl ?_ HO.out (by simp only [maxLen]; omega) (by omega) (by simp) ?_)
  · have := own_blk (Blk.new w 42 #[]) (Nat.le_refl _) (cap := 0) (n := 0) (size := 5) rfl (Nat.le_refl 0) (by simp [maxLen])
    simpa using this
  · refine ⟨by rw [HX.out, List.length_take, Array.length_toList]; exact Nat.min_eq_left hs, fun _ => ⟨r, 0, rfl, rfl, by have := HR.out.lt; simp; omega, fun j u hu => ?_⟩⟩
    rw [(HR.out.alloc _).cell, Nat.zero_add]
    rw [HX.out, List.getElem?_take] at hu
    split at hu
    · simpa using hu
    · cases hu
  · intro v' w' hown hE hat
    obtain ⟨hl, h2⟩ := hown
    rcases h2 with ⟨_, h0⟩ | ⟨g, k, D, hv, hb, hg, hk, _, hD, htake⟩
    · omega
    · subst hv
      have HG := Lib.hid hg
      have HT := Lib.hid htake
      have HD := Lib.hid hD
      have HE := Lib.hid hE
      have HL := Lib.hid hl
      clear hg htake hD hE hat hl heq
      go_wp2
      go_ret
      exact ⟨g, k, D, rfl, hb, HG.out, by have := HT.out; simpa using this, by simpa using hk, HD.out, ((Ext.refl No w).alloc _).trans_new HE.out (fun i h => by simp [Value.ownBlock] at h; omega)⟩

theorem ring_take {C D : Array Value} {cap first : Nat} {evs : List Ev} (hR : Ring C cap first evs) (hD : D.toList.take (cap * 5) = C.toList.take (cap * 5)) (hs : cap * 5 ≤ D.size) (hf : first < cap) : Ring D cap first evs := by
  refine ⟨hs, fun i h j hj => ?_, by rw [hD]; exact hR.2.2⟩
  rw [← hR.2.1 i h j hj]
  have hm : (first + i) % cap < cap := Nat.mod_lt _ (by omega)
  have e1 : ∀ X : Array Value, X[(first + i) % cap * 5 + j]? = (X.toList.take (cap * 5))[(first + i) % cap * 5 + j]? := by
    intro X
    rw [List.getElem?_take, if_pos (by omega), Array.getElem?_toList]
  rw [e1 D, e1 C, hD]

theorem copy_walk (b r cap : Nat) (evs : List Ev) (lost : Bool) (w : World) (hs : Sock w b r cap evs lost) :
    Calls Try.prog 19 #[.pointer (some ⟨b, 0, none⟩)] w fun e w' =>
      e = .returned (.pointer (some ⟨w.heap.size, 0, none⟩)) ∧ ∃ g, w.heap.size < g ∧ Sock w' w.heap.size g cap evs lost ∧ Ext No w w' := by
  obtain ⟨⟨first, C, kc, hb, hr, hR, hf, hkc⟩, hne, hl, hp, hm⟩ := hs
  have hlt := hb.lt
  have h0 := hb.cell 0
  have h1 := hb.cell 1
  have h2 := hb.cell 2
  have h3 := hb.cell 3
  simp at h0 h1 h2 h3
  have HB := Lib.hid hb
  have HR := Lib.hid hr
  have HRR := Lib.hid hR
  clear hb hr hR
  go_enter Try.func19, Try.ntmps19
  go_wp2_with (
    (go_at_call 20
     refine (clone_walk r cap kc C _ (HR.out.alloc _) HRR.out.1 HRR.out.2.2 hp hm).mono ?_
     rintro e w' ⟨g, k, D, rfl, hg, hG, hD, hk, hS, hE⟩
     have hb1 := (Blk.new w 52 #[.slice (some ⟨r, 0, none⟩) cap kc, .int .i64 (first : Int), .int .i64 (evs.length : Int), .bool lost]).ext hE (fun h => h)
     have d0 := hb1.cell 0
     have z0 := hb1.frozen 0
     simp at d0 hg
     have HB1 := Lib.hid hb1
     have HG := Lib.hid hG
     have HD := Lib.hid hD
     have HS := Lib.hid hS
     have HE := Lib.hid (((Ext.refl No w).alloc _).trans hE)
     clear hb1 hG hD hS hE))
  go_ret
  have B2 := HB1.out.set_ 0 (.slice (some ⟨g, 0, none⟩) cap k)
  refine ⟨rfl, g, by omega, ⟨⟨first, D, k, by simpa using B2, HG.out.far (p := ⟨w.heap.size, 0, none⟩) (by simp; omega) _, ring_take HRR.out HD.out (by rw [HS.out]; omega) hf, hf, hk⟩, by omega, hl, hp, hm⟩, HE.out.setCell (p := ⟨w.heap.size, 0, none⟩) (.inr (Nat.le_refl _)) _⟩
end Go.Proofs.Ytfibfahgdjhhkaa
