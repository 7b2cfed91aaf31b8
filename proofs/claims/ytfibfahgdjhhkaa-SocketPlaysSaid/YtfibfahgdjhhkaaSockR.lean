/- Receive. -/
import Derived.Test.YtfibfahgdjhhkaaSockA
namespace Go.Proofs.Ytfibfahgdjhhkaa
open Go.RowKit
set_option linter.unusedVariables false
set_option linter.unusedSimpArgs false

theorem flat_get (l : List Ev) : ∀ j, (flat l)[j]? = (l[j / 5]?).bind fun e => (e.cells)[j % 5]? := by
  induction l with
  | nil => intro j; simp [flat]
  | cons e l ih =>
    intro j
    have h : flat (e :: l) = e.cells ++ flat l := by simp [flat]
    have hl : e.cells.length = 5 := rfl
    rw [h]
    by_cases hj : j < 5
    · rw [List.getElem?_append_left (by omega), show j / 5 = 0 by omega, show j % 5 = j by omega]; simp
    · rw [List.getElem?_append_right (by omega), hl, ih, show (j - 5) / 5 = j / 5 - 1 by omega, show (j - 5) % 5 = j % 5 by omega]
      obtain ⟨k, hk⟩ : ∃ k, j / 5 = k + 1 := ⟨j / 5 - 1, by omega⟩
      rw [hk]; simp
theorem flat_one (l : List Ev) : ∀ v ∈ flat l, v.oneCell' = true := by
  intro v hv
  simp only [flat, List.mem_flatMap] at hv
  obtain ⟨e, _, he⟩ := hv
  simp only [Ev.cells, List.mem_cons, List.not_mem_nil, or_false] at he
  rcases he with h | h | h | h | h <;> subst h <;> rfl
theorem ring_at {C : Array Value} {cap first : Nat} {evs : List Ev} (hR : Ring C cap first evs) {i : Nat} (h : i < evs.length) {j : Nat} {v : Value} (hv : (evs[i].cells)[j]? = some v) :
    C[(first + i) % cap * 5 + j]? = some v := by
  have hj : j < 5 := by
    have := (List.getElem?_eq_some_iff.1 hv).1
    simpa [Ev.cells] using this
  rw [hR.2.1 i h j hj, hv]
theorem ring_src1 {C : Array Value} {cap first k : Nat} {evs : List Ev} (hR : Ring C cap first evs) (hk : first + k ≤ cap) (hl : k ≤ evs.length) :
    ∀ (j : Nat) (v : Value), (flat (evs.take k))[j]? = some v → C[first * 5 + j]? = some v := by
  intro j v hv
  rw [flat_get] at hv
  obtain ⟨e, he, hv⟩ := Option.bind_eq_some_iff.1 hv
  obtain ⟨hlt, rfl⟩ := List.getElem?_eq_some_iff.1 he
  simp only [List.length_take] at hlt
  simp only [List.getElem_take] at hv
  have h := ring_at hR (i := j / 5) (by omega) hv
  rw [Nat.mod_eq_of_lt (by omega)] at h
  rw [← h]
  congr 1
  omega
theorem ring_src2 {C : Array Value} {cap first k n : Nat} {evs : List Ev} (hR : Ring C cap first evs) (hf : first < cap) (hk : k = cap - first) (hn : k + n ≤ evs.length) (hl : evs.length ≤ cap) :
    ∀ (j : Nat) (v : Value), (flat ((evs.drop k).take n))[j]? = some v → C[j]? = some v := by
  intro j v hv
  rw [flat_get] at hv
  obtain ⟨e, he, hv⟩ := Option.bind_eq_some_iff.1 hv
  obtain ⟨hlt, rfl⟩ := List.getElem?_eq_some_iff.1 he
  simp only [List.length_take, List.length_drop] at hlt
  simp only [List.getElem_take, List.getElem_drop] at hv
  have h := ring_at hR (i := k + j / 5) (by omega) hv
  rw [modc _ _ (by omega), if_neg (by omega)] at h
  rw [← h]
  congr 1
  omega
theorem ring_pop {C : Array Value} {cap first m n : Nat} {evs : List Ev} (hR : Ring C cap first evs) (hf : first < cap) (hm : m = (first + n) % cap) (hn : n ≤ evs.length) (hl : evs.length ≤ cap) :
    Ring C cap m (evs.drop n) := by
  refine ⟨hR.1, fun i h j hj => ?_, hR.2.2⟩
  simp only [List.length_drop] at h
  rw [List.getElem_drop, ← hR.2.1 (n + i) (by omega) j hj, hm, Nat.mod_add_mod, Nat.add_assoc]
theorem sizeEv : (Try.prog.info? 42).map (·.size) = some 5 := by kernel_rfl
theorem over_two (n k1 k2 : Nat) (Z A B : List Value) (hZ : Z.length = n * 5) (hA : A.length = k1 * 5) (hB : B.length = k2 * 5) (h : k1 + k2 = n) : over (over Z 0 A) (k1 * 5) B = A ++ B := by
  unfold over
  rw [hA]
  simp only [List.take_zero, List.nil_append, Nat.zero_add]
  rw [List.take_append_of_le_length (by omega), List.take_of_length_le (by omega), List.drop_eq_nil_of_le (by simp [hA, hB, hZ]; omega), List.append_nil]

theorem recv_walk (b r cap : Nat) (evs : List Ev) (lost : Bool) (most : Int) (w : World) (hs : Sock w b r cap evs lost) :
    Calls Try.prog 11 #[.pointer (some ⟨b, 0, none⟩), .int .i64 most] w fun e w' =>
      e = .returned (.slice (some ⟨w.heap.size, 0, none⟩) (min most.toNat evs.length) (min most.toNat evs.length)) ∧ Blk w' w.heap.size 42 (flat (evs.take most.toNat)).toArray ∧ Sock w' b r cap (evs.drop most.toNat) lost ∧ Ext (fun k => k = b ∨ k = r) w w' := by
  obtain ⟨⟨first, C, kc, hb, hr, hR, hf, hkc⟩, hne, hl, hp, hm⟩ := hs
  have hlt := hb.lt
  have hltr := hr.lt
  have h0 := hb.cell 0
  have h1 := hb.cell 1
  have h2 := hb.cell 2
  simp at h0 h1 h2
  obtain ⟨q, hq⟩ : ∃ q, q = most.toNat := ⟨_, rfl⟩
  obtain ⟨n, hn⟩ : ∃ n, n = min q evs.length := ⟨_, rfl⟩
  rw [← hq, ← hn]
  have hmax : (if most < 0 then (0 : Int) else most) = (q : Int) := by split <;> omega
  have hmin : (if evs.length < q then (evs.length : Int) else (q : Int)) = (n : Int) := by rw [hn]; split <;> omega
  have hnl : n ≤ evs.length := by rw [hn]; exact Nat.min_le_right _ _
  obtain ⟨i, hi, hz, hsz, hby⟩ := info_parts infoEv
  have hmk := fun W : World => run_make (P := Try.prog) W 23 42 i _ Try.underlying23 hi hz .i64 .i64 (n : Int) (n : Int) (by omega) (by omega) (by rw [hby]; omega) (by omega)
  rw [hsz] at hmk
  simp only [Int.toNat_natCast] at hmk
  have hfc : first ≤ cap := by omega
  have hfn : ¬ kc = first := by omega
  obtain ⟨k1, hk1⟩ : ∃ k1, k1 = Nat.min (cap - first) n := ⟨_, rfl⟩
  obtain ⟨k2, hk2⟩ : ∃ k2, k2 = Nat.min cap (n - k1) := ⟨_, rfl⟩
  have hk1n : k1 ≤ n := by rw [hk1]; exact Nat.min_le_right _ _
  obtain ⟨m, hm0⟩ : ∃ m, m = (first + n) % cap := ⟨_, rfl⟩
  have hmc : m < cap := by rw [hm0]; exact Nat.mod_lt _ (by omega)
  have e1 : IntKind.i64.wrap ((first : Int) + (n : Int)) = (first : Int) + (n : Int) := IntWalk.i64_in _ (by omega)
  have e2 : ((first : Int) + (n : Int)).tmod (cap : Int) = (m : Int) := by
    rw [Int.tmod_eq_emod_of_nonneg (by omega), hm0]; simp
  have e3 : ¬ cap = 0 := by omega
  have hk1c : first + k1 ≤ cap := by have : k1 ≤ cap - first := by rw [hk1]; exact Nat.min_le_left _ _
                                     omega
  have hk2n : k1 + k2 = n := by
    have a1 : k1 = min (cap - first) n := hk1
    have a2 : k2 = min cap (n - k1) := hk2
    omega
  have hk2f : 0 < k2 → k1 = cap - first := by
    have a1 : k1 = min (cap - first) n := hk1
    have a2 : k2 = min cap (n - k1) := hk2
    omega
  obtain ⟨cs1, hcs1⟩ : ∃ cs1, cs1 = flat (evs.take k1) := ⟨_, rfl⟩
  obtain ⟨cs2, hcs2⟩ : ∃ cs2, cs2 = flat ((evs.drop k1).take k2) := ⟨_, rfl⟩
  have hl1 : cs1.length = k1 * 5 := by rw [hcs1, flat_length, List.length_take]; congr 1; omega
  have hl2 : cs2.length = k2 * 5 := by rw [hcs2, flat_length, List.length_take, List.length_drop]; congr 1; omega
  have hs1 : ∀ (j : Nat) (v : Value), cs1[j]? = some v → C[first * 5 + j]? = some v := by rw [hcs1]; exact ring_src1 hR hk1c (by omega)
  have hs2 : 0 < k2 → ∀ (j : Nat) (v : Value), cs2[j]? = some v → C[j]? = some v := by intro h; rw [hcs2]; exact ring_src2 hR hf (hk2f h) (by omega) hl
  have ho1 : ∀ v ∈ cs1, v.oneCell' = true := by rw [hcs1]; exact flat_one _
  have ho2 : ∀ v ∈ cs2, v.oneCell' = true := by rw [hcs2]; exact flat_one _
  have hall : cs1 ++ cs2 = flat (evs.take q) := by
    rw [hcs1, hcs2, ← flat_append]
    congr 1
    rw [show List.take k1 evs ++ List.take k2 (List.drop k1 evs) = List.take (k1 + k2) evs from (List.take_add).symm, hk2n, hn]
    rcases Nat.le_total q evs.length with h | h
    · rw [Nat.min_eq_left h]
    · rw [Nat.min_eq_right h, List.take_of_length_le (Nat.le_refl _), List.take_of_length_le h]
  have hdrop : evs.drop n = evs.drop q := by
    rw [hn]
    rcases Nat.le_total q evs.length with h | h
    · rw [Nat.min_eq_left h]
    · rw [Nat.min_eq_right h, List.drop_eq_nil_of_le (Nat.le_refl _), List.drop_eq_nil_of_le h]
  have HS1 := Lib.hid hs1
  have HS2 := Lib.hid hs2
  have HO1 := Lib.hid ho1
  have HO2 := Lib.hid ho2
  have HA := Lib.hid hall
  have HD := Lib.hid hdrop
  have HL1 := Lib.hid hl1
  have HL2 := Lib.hid hl2
  have H2N := Lib.hid hk2n
  have H2F := Lib.hid hk2f
  clear hs1 hs2 ho1 ho2 hall hdrop hl1 hl2 hk2n hk2f
  have HK1 := Lib.hid hk1
  have HK2 := Lib.hid hk2
  have HM := Lib.hid hm0
  have HC1 := Lib.hid hcs1
  have HC2 := Lib.hid hcs2
  clear hk1 hk2 hm0 hcs1 hcs2
  have HB := Lib.hid hb
  have HR := Lib.hid hr
  have HRR := Lib.hid hR
  have HN := Lib.hid hn
  have HQ := Lib.hid hq
  clear hi hz hsz hby hb hr hR hn hq
  go_enter Try.func11, Try.ntmps11
  go_wp2_with fail
  clear hmk hmax hmin
  refine region_tail 10 (by kernel_rfl) (by kernel_rfl) ?_
  simp only [List.take_succ_cons, List.take_zero, List.drop_succ_cons, List.drop_zero]
  repeat still_step
  refine wpStill_nil ?_
  refine wpList_copy_sz rfl (.tmp 15) (.tmp 24) 23 23 rfl 42 5 Try.underlying23 sizeEv _ _ _ _ _ _ rfl rfl w.heap.size 0 k1 _ 42 cs1 (Blk.new w _ _).drew HK1.out HL1.out (fun _ => rfl)
    (fun _ => ⟨r, first * 5, rfl, fun j v hv => by rw [((HR.out.alloc _).drew).cell]; exact HS1.out j v hv⟩) (by simp [size_madeCells, HL1.out]; omega) HO1.out ?_
  intro w1 hB1 hE1
  have b1 := (((HB.out.alloc (.cells (madeCells #[.int .i64 0, .int .i64 0, .int .i64 0, .string ByteArray.empty, .string ByteArray.empty] (n * 5)) 42)).drew).ext hE1 (by omega))
  have r1 := (((HR.out.alloc (.cells (madeCells #[.int .i64 0, .int .i64 0, .int .i64 0, .string ByteArray.empty, .string ByteArray.empty] (n * 5)) 42)).drew).ext hE1 (by omega))
  have c0 := b1.cell 0
  have c1 := b1.cell 1
  have c2 := b1.cell 2
  simp at c0 c1 c2
  have HB1 := Lib.hid b1
  have HR1 := Lib.hid r1
  have HN1 := Lib.hid hB1
  have HE1 := Lib.hid hE1
  obtain ⟨A2, hA2⟩ : ∃ A2 : Option Addr, (if n = k1 then some (⟨w.heap.size, 0, none⟩ : Addr) else some ⟨w.heap.size, k1 * 5, none⟩) = A2 := ⟨_, rfl⟩
  clear b1 r1 hB1 hE1 h0 h1 h2
  go_wp2_with fail
  refine region_tail 7 (by kernel_rfl) (by kernel_rfl) ?_
  simp only [List.take_succ_cons, List.take_zero, List.drop_succ_cons, List.drop_zero]
  repeat still_step
  refine wpStill_nil ?_
  refine wpList_copy_sz rfl (.tmp 28) (.tmp 32) 23 23 rfl 42 5 Try.underlying23 sizeEv _ _ _ _ _ _ rfl rfl w.heap.size (k1 * 5) k2 _ 42 cs2 HN1.out.drew HK2.out HL2.out
    (fun h => by have := H2N.out; rw [← hA2, if_neg (by omega)])
    (fun h => ⟨r, 0, rfl, fun j v hv => by rw [HR1.out.drew.cell, Nat.zero_add]; exact HS2.out h j v hv⟩) (by have := H2N.out; have := HL1.out; have := HL2.out; simp [over, size_madeCells]; omega) HO2.out ?_
  intro w2 hB2 hE2
  have hsz1 : w.heap.size < w1.heap.size := by have := HE1.out.size; simp at this; omega
  have b2 := HB1.out.drew.ext hE2 (by omega)
  have r2 := HR1.out.drew.ext hE2 (by omega)
  have d0 := b2.cell 0
  have d1 := b2.cell 1
  have d2 := b2.cell 2
  have f1 := b2.frozen 1
  have f2 := b2.frozen 2
  simp at d0 d1 d2
  have HB2 := Lib.hid b2
  have HR2 := Lib.hid r2
  have HN2 := Lib.hid hB2
  have HE2 := Lib.hid hE2
  clear b2 r2 hB2 hE2 c0 c1 c2 hA2
  go_wp2_with fail
  refine region_tail 16 (by kernel_rfl) (by kernel_rfl) ?_
  simp only [List.take_succ_cons, List.take_zero, List.drop_succ_cons, List.drop_zero]
  repeat still_step
  refine wpStill_nil ?_
  go_wp2
  go_ret
  have hnl' : ((evs.drop n).length : Int) = (evs.length : Int) - (n : Int) := by rw [List.length_drop]; omega
  have hA := hne
  have hB : r ≠ b := Ne.symm hne
  have hb0 : b ≠ w.heap.size := by omega
  have HB3 := ((HB2.out.set_ 1 (.int .i64 (m : Int))).set_ 2 (.int .i64 ((evs.length : Int) - (n : Int)))).drew
  have HR3 := ((HR2.out.far (p := ⟨b, 1, none⟩) hB (.int .i64 (m : Int))).far (p := ⟨b, 2, none⟩) hB (.int .i64 ((evs.length : Int) - (n : Int)))).drew
  have HN3 := ((HN2.out.far (p := ⟨b, 1, none⟩) (Ne.symm hb0) (.int .i64 (m : Int))).far (p := ⟨b, 2, none⟩) (Ne.symm hb0) (.int .i64 ((evs.length : Int) - (n : Int)))).drew
  rw [over_two n k1 k2 _ _ _ (by simp [size_madeCells]) HL1.out HL2.out H2N.out, HA.out] at HN3
  have E1 : Ext (fun k => k = b ∨ k = r) w w2 := (((Ext.refl _ w).alloc _).drew.trans_new HE1.out (fun i hi => .inr (by omega))).drew.trans_new HE2.out (fun i hi => .inr (by omega))
  refine ⟨rfl, HN3, ⟨⟨m, C, kc, ?_, HR3, ?_, hmc, hkc⟩, hne, ?_, hp, hm⟩, ((E1.setCell (p := ⟨b, 1, none⟩) (.inl (.inl rfl)) _).setCell (p := ⟨b, 2, none⟩) (.inl (.inl rfl)) _).drew⟩
  · rw [← HD.out, hnl']; simpa using HB3
  · rw [← HD.out]; exact ring_pop HRR.out hf HM.out hnl hl
  · rw [List.length_drop]; omega
end Go.Proofs.Ytfibfahgdjhhkaa
