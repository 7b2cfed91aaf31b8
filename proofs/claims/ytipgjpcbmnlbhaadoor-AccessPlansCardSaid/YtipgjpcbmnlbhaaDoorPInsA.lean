/- slices.Insert of one row. -/
import Derived.Test.YtipgjpcbmnlbhaaDoorPLibB
import Derived.Test.YtipgjpcbmnlbhaaDoorSetA
import Derived.Test.YtipgjpcbmnlbhaaDoorAccA
import Derived.Test.YtipgjpcbmnlbhaaDoorTab
import Derived.Test.YtipgjpcbmnlbhaaDoorPureV
import Derived.Lib.AppendZerosOnto
import Derived.Lib.Overlaps
import Derived.Laws.Externs
import Derived.Laws.IdiomCopy
namespace Go.Proofs.YtipgjpcbmnlbhaaDoor
open Go.RowKit
set_option linter.unusedVariables false
set_option linter.unusedSimpArgs false
theorem infoIn : (Tryd.prog.info? 31).map (fun i => (i.zero, i.size, i.bytes)) = some (some (Value.agg #[.string ByteArray.empty, .string ByteArray.empty, .string ByteArray.empty]), 3, 48) := by kernel_rfl
theorem sizeIn : (Tryd.prog.info? 31).map (·.size) = some 3 := by kernel_rfl
theorem slIn : SlT Tryd.prog 23 31 3 48 := by
  obtain ⟨i, hi, hz, hs, hb⟩ := info_parts infoIn
  exact ⟨Tryd.underlying23, ⟨i, _, hi, hz, hs, hb, rfl⟩, by decide⟩
theorem shape_of_cell {w : World} {a : Addr} {v : Value} (h : w.cell? a = some v) : ∃ t k, w.shape? a.block = some (t, k + 1) := by
  unfold World.cell? at h
  unfold World.shape?
  split at h
  · rename_i c t fz hh
    split at h
    · cases h
    · have := (Array.getElem?_eq_some_iff.1 h).1
      exact ⟨t, c.size - 1, by simp only [Option.some.injEq, Prod.mk.injEq, true_and]; omega⟩
  · cases h
theorem run_overlaps_data {P : Program} (w : World) (tS tR e : TypeId) (ht : P.underlying tS = some (.slice e)) (size : Nat) (hz : ∀ w, (Go.sizeOf e).run P w = .ok size w)
    (a b : Addr) (la ca lb cb : Nat) (hne : a.block ≠ b.block) (tA tB : TypeId) (kA kB : Nat)
    (hsa : w.shape? a.block = some (tA, kA + 1)) (hsb : w.shape? b.block = some (tB, kB + 1)) (hfb : w.frozen? b = false) (hfe : w.frozen? { block := b.block, off := kB + 1 } = false) :
    (Extern.SlicesOverlaps.overlaps #[tS, tS] #[tR] #[.slice (some a) la ca, .slice (some b) lb cb]).run P w = .ok (.bool false) w := by
  have hnb : (a.block != b.block) = true := by simpa using hne
  have hnb' : (a.block == b.block) = false := by simpa using hne
  change Sem.run P (α := Value) (do
    let some t := (#[tS, tS] : Array TypeId)[0]? | stuck "slices.overlaps: no parameter types"
    let .slice elem ← underlying t | stuck "slices.overlaps: slice type expected"
    let size ← sizeOf elem
    match (some a : Option Addr), (some b : Option Addr) with
    | some a, some b =>
      if la = 0 ∨ lb = 0 ∨ size = 0 then pure (Value.bool false)
      else if a.block != b.block && (← frozen a) && (← frozen b) then unsupported .addressObserved
      else do
        if a.block != b.block then do
          noView a; noView b
          if ← mayBeOne a b then return Value.bool ((← choose (.extern "sameAddr.stringBytes" 2)) == 1)
        pure (Value.bool (a.block == b.block && a.off < b.off + lb * size && b.off < a.off + la * size))
    | _, _ => pure (Value.bool false)) w = _
  by_cases h0 : la = 0 ∨ lb = 0 ∨ size = 0
  · simp [run_underlying ht, hz, h0]
  · cases hfa : w.frozen? a <;> cases hfk : w.frozen? { block := a.block, off := kA + 1 } <;>
      simp [run_underlying ht, hz, h0, hnb, hnb', frozen, noView, viewAt, mayBeOne, stringish, shape, Sem.run, hsa, hsb, hfa, hfb, hfe, hfk]
theorem ovl_in (w : World) (b vb vo bo m vc lb cb : Nat) (cur : Array Value) (v0 : Value) (hb : Blk w b 31 cur) (hv : w.cell? ⟨vb, vo, none⟩ = some v0) (hne : vb ≠ b) (h0 : 0 < cur.size) :
    (callFunc 43 #[.slice (some ⟨vb, vo, none⟩) m vc, .slice (some ⟨b, bo, none⟩) lb cb]).run Tryd.prog w = .ok (.value (.bool false)) w := by
  obtain ⟨i, hi, hz, hs, hb'⟩ := info_parts infoIn
  have hz' : ∀ w, (Go.sizeOf 31).run Tryd.prog w = .ok 3 w := fun w => by simp [sizeOf, typeInfo, hi, hs]
  obtain ⟨tA, kA, e1⟩ := shape_of_cell hv
  have e2 : w.shape? b = some (31, cur.size - 1 + 1) := by unfold World.shape?; rw [hb]; simp only [Option.some.injEq, Prod.mk.injEq, true_and]; omega
  rw [run_callFunc_extern Tryd.func43 (by kernel_rfl) (by kernel_rfl) (by kernel_rfl) (e := Extern.SlicesOverlaps.overlaps #[23, 23] #[4]) (by kernel_rfl),
    run_overlaps_data w 23 4 31 Tryd.underlying23 3 hz' ⟨vb, vo, none⟩ ⟨b, bo, none⟩ m vc lb cb hne _ _ _ _ e1 e2 (hb.frozen _) (hb.frozen _)]
  rfl
set_option maxHeartbeats 4000000 in
set_option maxRecDepth 100000 in
theorem ins_room (w : World) (b vb vo n c vc i : Nat) (cur : Array Value) (vs : List Value) (hb : Blk w b 31 cur) (hv : ∀ j v, vs[j]? = some v → w.cell? ⟨vb, vo + j, none⟩ = some v) (hvs : vs.length = 3) (hvb : vb < w.heap.size) (hne : vb ≠ b) (hi : i < n) (hn : n + 1 ≤ c) (hc : c ≤ 9223372036854775807)
    (hs : cur.size = c * 3) (h1 : ∀ v ∈ cur.toList.take (n * 3), v.oneCell' = true) (h2 : ∀ v ∈ vs, v.oneCell' = true) :
    Calls Tryd.prog 29 #[.slice (some ⟨b, 0, none⟩) n c, .int .i64 i, .slice (some ⟨vb, vo, none⟩) 1 vc] w fun e w' =>
      e = .returned (.slice (some ⟨b, 0, none⟩) (n + 1) c) ∧ Blk w' b 31 (over (over cur.toList ((i + 1) * 3) ((cur.toList.take (n * 3)).drop (i * 3))) (i * 3) vs).toArray ∧ Ext (· = b) w w' := by
  have hov := fun lb cb => ovl_in w b vb vo ((i + 1) * 3) 1 vc lb cb cur vs[0] hb (by have := hv 0 vs[0] (List.getElem?_eq_getElem (by omega)); simpa using this) hne (by omega)
  obtain ⟨cs, hcs⟩ : ∃ cs, cs = (cur.toList.take (n * 3)).drop (i * 3) := ⟨_, rfl⟩
  have hcl : cs.length = (n - i) * 3 := by rw [hcs, List.length_drop, List.length_take, Array.length_toList, hs]; omega
  have hsrc : ∀ j v, cs[j]? = some v → w.cell? ⟨b, i * 3 + j, none⟩ = some v := fun j v h => by
    rw [hb.cell]
    rw [hcs, List.getElem?_drop, List.getElem?_take] at h
    split at h
    · rw [Array.getElem?_toList] at h; exact h
    · cases h
  have h1' : ∀ v ∈ cs, v.oneCell' = true := fun v h => h1 v (by rw [hcs] at h; exact List.mem_of_mem_drop h)
  have hvl : vs.length = 1 * 3 := by omega
  rw [← hcs]
  have hf1 : (i + 1) * 3 + cs.length ≤ cur.size := by rw [hcl, hs, ← Nat.add_mul]; exact Nat.mul_le_mul_right _ (by omega)
  have hf2 : i * 3 + vs.length ≤ (over cur.toList ((i + 1) * 3) cs).toArray.size := by
    have : (i + 1) * 3 ≤ c * 3 := Nat.mul_le_mul_right _ (by omega)
    simp [over]
    omega
  have HB := Lib.hid hb
  have HV := Lib.hid hv
  have HS := Lib.hid hsrc
  have H1 := Lib.hid h1'
  have H2 := Lib.hid h2
  have HCL := Lib.hid hcl
  have HVL := Lib.hid hvl
  have HF1 := Lib.hid hf1
  have HF2 := Lib.hid hf2
  have H3 := Lib.hid hs
  clear hb hv hsrc h1' h2 h1 hs hcl hvl hf1 hf2 hcs
  have hw1 : IntKind.i64.wrap ((i : Int) + 1) = (i : Int) + 1 := by rw [IntKind.wrap_i64]; omega
  have htn : ((i : Int) + 1).toNat = i + 1 := by omega
  have hb1 : (0 : Int) ≤ (i : Int) + 1 := by omega
  have hb3 : (i : Int) + 1 ≤ (n : Int) + 1 := by omega
  have hb5 : (i : Int) ≤ (n : Int) + 1 := by omega
  have hb2 : ¬ (c = i + 1) := by omega
  have hb4 : ¬ (c = i) := by omega
  go_enter Tryd.func29, Tryd.ntmps29
  go_wp2_with (simp only [hov])
  refine region_tail 8 (by kernel_rfl) (by kernel_rfl) ?_
  simp only [List.take_succ_cons, List.take_zero, List.drop_succ_cons, List.drop_zero]
  repeat still_step
  refine wpStill_nil ?_
  refine wpList_copy_sz rfl (.tmp 73) (.tmp 76) 23 23 rfl 31 3 Tryd.underlying23 sizeIn _ _ _ _ _ _ rfl rfl b ((i + 1) * 3) (n - i) cur 31 cs HB.out.drew (by simp only [Nat.min_def]; split <;> omega) HCL.out (fun _ => rfl)
    (fun _ => ⟨b, i * 3, rfl, fun j v h => HS.out j v h⟩) HF1.out H1.out ?_
  intro w1 hB1 hE1
  have hv1 : ∀ j v, vs[j]? = some v → w1.cell? ⟨vb, vo + j, none⟩ = some v := fun j v h => by rw [hE1.cell (p := ⟨vb, vo + j, none⟩) hvb hne]; exact HV.out j v h
  have HB1 := Lib.hid hB1
  have HE1 := Lib.hid hE1
  have HV1 := Lib.hid hv1
  clear hB1 hE1 hv1
  have hm1 : 1 = Nat.min 1 (n + 1 - i) := by simp only [Nat.min_def]; split <;> omega
  have HM := Lib.hid hm1
  clear hm1
  go_wp2_with (refine wpList_copy_sz rfl (.tmp 80) (.tmp 81) 23 23 rfl 31 3 Tryd.underlying23 sizeIn _ _ _ _ _ _ rfl rfl b (i * 3) 1 _ 31 vs HB1.out HM.out HVL.out (fun _ => rfl) (fun _ => ⟨vb, vo, rfl, HV1.out⟩) HF2.out H2.out ?_; intro w2 hB2 hE2; have HB2 := Lib.hid hB2; have HE2 := Lib.hid hE2; clear hB2 hE2)
  go_ret
  exact ⟨rfl, HB2.out, ((Ext.refl _ w).drew.trans HE1.out).trans HE2.out⟩
set_option maxHeartbeats 4000000 in
set_option maxRecDepth 100000 in
theorem ins_grow (w : World) (b vb vo n c vc i : Nat) (cur : Array Value) (vs : List Value) (hb : Blk w b 31 cur) (hv : ∀ j v, vs[j]? = some v → w.cell? ⟨vb, vo + j, none⟩ = some v) (hvs : vs.length = 3) (hvb : vb < w.heap.size) (hi : i < n) (hn : n = c) (hc : n ≤ 1000000000)
    (hs : cur.size = c * 3) (h1 : ∀ v ∈ cur.toList.take (n * 3), v.oneCell' = true) (h2 : ∀ v ∈ vs, v.oneCell' = true) :
    Calls Tryd.prog 29 #[.slice (some ⟨b, 0, none⟩) n c, .int .i64 i, .slice (some ⟨vb, vo, none⟩) 1 vc] w fun e w' => ∃ G new,
      e = .returned (.slice (some ⟨w.heap.size, 0, none⟩) (n + 1) G) ∧ n + 1 ≤ G ∧ G ≤ maxLen ∧ new.size = G * 3 ∧ Blk w' w.heap.size 31 new ∧ new.toList.take ((n + 1) * 3) = (cur.toList.take (n * 3)).take (i * 3) ++ (vs ++ (cur.toList.take (n * 3)).drop (i * 3)) ∧ Ext No w w' := by
  subst hn
  obtain ⟨i0, hi0, hz0, hzs, hzb⟩ := info_parts infoIn
  obtain ⟨cs, hcs⟩ : ∃ cs, cs = (cur.toList.take (n * 3)).drop (i * 3) := ⟨_, rfl⟩
  obtain ⟨hd, hhd⟩ : ∃ hd, hd = (cur.toList.take (n * 3)).take (i * 3) := ⟨_, rfl⟩
  have hcl : cs.length = (n - i) * 3 := by rw [hcs, List.length_drop, List.length_take, Array.length_toList, hs]; omega
  have hhl : hd.length = i * 3 := by rw [hhd, List.length_take, List.length_take, Array.length_toList, hs]; omega
  have hat : ∀ k l j v, ((cur.toList.take k).drop l)[j]? = some v → w.cell? ⟨b, l + j, none⟩ = some v := fun k l j v h => by
    rw [hb.cell]
    rw [List.getElem?_drop, List.getElem?_take] at h
    split at h
    · rw [Array.getElem?_toList] at h; exact h
    · cases h
  have hsrc : ∀ j v, cs[j]? = some v → w.cell? ⟨b, i * 3 + j, none⟩ = some v := fun j v h => hat _ _ j v (by rw [hcs] at h; exact h)
  have hold : (Builtin.firstCells i0.size i (.slice (some ⟨b, 0, none⟩) i n)).run Tryd.prog w.drew = .ok hd.toArray w.drew := by
    rw [hzs]
    refine run_firstCells_some w.drew 3 i ⟨b, 0, none⟩ i n hd hhl (fun j v hj => ?_)
    rw [Addr.add_lit]
    refine hat (n * 3) 0 j v ?_
    rw [hhd, List.getElem?_take] at hj
    split at hj
    · rw [List.drop_zero]; exact hj
    · cases hj
  have hkk : (n : Int) + 1 - (i : Int) = ((n + 1 - i : Nat) : Int) := by omega
  have hik : i + (n + 1 - i) = n + 1 := by omega
  have hrz : ∀ ty, (Builtin.append_ #[23, 3] ty #[.slice (some ⟨b, 0, none⟩) i n, .int .i64 ((n : Int) + 1 - (i : Int))]).run Tryd.prog w =
      .ok (.slice (some ⟨w.heap.size, 0, none⟩) (n + 1) (grownCap w (n + 1) n 31)) (w.drew.alloc (.cells (hd.toArray ++ Builtin.zeroCells (Value.agg #[.string ByteArray.empty, .string ByteArray.empty, .string ByteArray.empty]).cells (n + 1 - i) ++ Builtin.zeroCells (Value.agg #[.string ByteArray.empty, .string ByteArray.empty, .string ByteArray.empty]).cells (grownCap w (n + 1) n 31 - (n + 1))) 31)) := fun ty => by
    have h := Lib.run_append_grow_zeros w 23 3 ty 31 i0 _ .i64 .i64 Tryd.underlying23 Tryd.underlying3 hi0 hz0 (some ⟨b, 0, none⟩) i n hd hold (n + 1 - i) (by omega) (by rw [hzs]; decide) (by omega) (by omega) (by rw [hzb]; omega) (by rw [hzb, hik]; exact growslice_fits (by omega) (by omega))
    rw [hik] at h
    rw [hkk]
    exact h
  have hGn : n + 1 ≤ grownCap w (n + 1) n 31 := grownCap_ge w _ _ _
  have hGm : grownCap w (n + 1) n 31 ≤ maxLen := grownCap_le_maxLen w (n + 1) n 31 (by unfold maxLen; omega)
  obtain ⟨G, hG⟩ : ∃ G, G = grownCap w (n + 1) n 31 := ⟨_, rfl⟩
  rw [← hG] at hrz hGn hGm
  generalize hROW : hd.toArray ++ Builtin.zeroCells (Value.agg #[.string ByteArray.empty, .string ByteArray.empty, .string ByteArray.empty]).cells (n + 1 - i) ++ Builtin.zeroCells (Value.agg #[.string ByteArray.empty, .string ByteArray.empty, .string ByteArray.empty]).cells (G - (n + 1)) = ROW at hrz
  have hRs : ROW.size = G * 3 := by
    rw [← hROW]
    simp only [Array.size_append, size_zeroCells, List.size_toArray, hhl]
    show i * 3 + (n + 1 - i) * 3 + (G - (n + 1)) * 3 = G * 3
    rw [← Nat.add_mul, ← Nat.add_mul]
    congr 1
    omega
  have hRt : ROW.toList.take (i * 3) = hd := by
    rw [← hROW, Array.toList_append, Array.toList_append, List.append_assoc]
    exact List.take_left' hhl
  have hf1 : i * 3 + vs.length ≤ ROW.size := by
    have : (i + 1) * 3 ≤ G * 3 := Nat.mul_le_mul_right _ (by omega)
    rw [hRs]
    omega
  have hvl : vs.length = 1 * 3 := by omega
  have hf2 : (i + 1) * 3 + cs.length ≤ (over ROW.toList (i * 3) vs).toArray.size := by
    have : (n + 1) * 3 ≤ G * 3 := Nat.mul_le_mul_right _ (by omega)
    have e : (i + 1) * 3 + (n - i) * 3 = (n + 1) * 3 := by rw [← Nat.add_mul]; congr 1; omega
    have hlen : (over ROW.toList (i * 3) vs).length = ROW.size := by simp [over]; omega
    rw [List.size_toArray, hlen, hcl, hRs]
    omega
  have hfin : (over (over ROW.toList (i * 3) vs) ((i + 1) * 3) cs).take ((n + 1) * 3) = hd ++ (vs ++ cs) := by
    have e1 : (over ROW.toList (i * 3) vs).take ((i + 1) * 3) = hd ++ vs := by
      unfold over
      rw [hRt, ← List.append_assoc]
      exact List.take_left' (by rw [List.length_append, hhl, hvl]; omega)
    unfold over at e1 ⊢
    rw [e1, List.append_assoc, ← List.append_assoc, ← List.append_assoc]
    rw [List.append_assoc hd]
    refine List.take_left' ?_
    simp only [List.length_append, hhl, hvl, hcl]
    have e : (n - i) + (i + 1) = n + 1 := by omega
    rw [← e, Nat.add_mul, Nat.add_mul]
    omega
  have h1' : ∀ v ∈ cs, v.oneCell' = true := fun v h => h1 v (by rw [hcs] at h; exact List.mem_of_mem_drop h)
  have hbN : b < w.heap.size := hb.lt
  have hns : (over (over ROW.toList (i * 3) vs) ((i + 1) * 3) cs).toArray.size = G * 3 := by
    have hlen : (over ROW.toList (i * 3) vs).length = ROW.size := by simp [over]; omega
    rw [List.size_toArray] at hf2
    rw [List.size_toArray, ← hRs, ← hlen]
    generalize over ROW.toList (i * 3) vs = Z at hf2
    simp [over]
    omega
  have hm1 : 1 = Nat.min 1 (n + 1 - i) := by simp only [Nat.min_def]; split <;> omega
  have hm2 : n - i = Nat.min (n - i) (n - i) := by simp only [Nat.min_def]; split <;> omega
  have HM1 := Lib.hid hm1
  have HM2 := Lib.hid hm2
  have HB := Lib.hid hb
  have HV := Lib.hid hv
  have HS := Lib.hid hsrc
  have H1 := Lib.hid h1'
  have H2 := Lib.hid h2
  have HCL := Lib.hid hcl
  have HVL := Lib.hid hvl
  have HF1 := Lib.hid hf1
  have HF2 := Lib.hid hf2
  have HFN := Lib.hid hfin
  have HNS := Lib.hid hns
  have HRS := Lib.hid hRs
  have HRZ := Lib.hid hrz
  have HGM := Lib.hid hGm
  have HCS := Lib.hid hcs
  have HHD := Lib.hid hhd
  clear hm1 hm2 hb hv hsrc h1' h2 h1 hs hcl hvl hf1 hf2 hfin hns hRs hrz hGm hcs hhd hold hat hG hROW hRt hhl hkk hik hi0 hz0 hzs hzb
  have hw1 : IntKind.i64.wrap ((i : Int) + 1) = (i : Int) + 1 := by rw [IntKind.wrap_i64]; omega
  have hw2 : IntKind.i64.wrap ((n : Int) + 1) = (n : Int) + 1 := by rw [IntKind.wrap_i64]; omega
  have htn : ((i : Int) + 1).toNat = i + 1 := by omega
  have hb1 : (0 : Int) ≤ (i : Int) + 1 := by omega
  have hb3 : (i : Int) + 1 ≤ (n : Int) + 1 := by omega
  have hb5 : (i : Int) ≤ (n : Int) + 1 := by omega
  have hb7 : (i : Int) ≤ (n : Int) := by omega
  have hb6 : (n : Int) < (n : Int) + 1 := by omega
  have hGi : ¬ (G = i) := by omega
  have hGim : ¬ (G = i + 1) := by omega
  have hci : ¬ (n = i) := by omega
  go_enter Tryd.func29, Tryd.ntmps29
  go_wp2_with (first
    | (at_builtin; refine Lib.wpList_append_run _ rfl _ _ _ _ rfl _ _ rfl rfl _ _ (HRZ.out _) ?_)
    | (refine wpList_copy_sz rfl (.tmp 43) (.tmp 44) 23 23 rfl 31 3 Tryd.underlying23 sizeIn _ _ _ _ _ _ rfl rfl w.heap.size (i * 3) 1 ROW 31 vs (Blk.new w 31 ROW).drew HM1.out HVL.out (fun _ => rfl) (fun _ => ⟨vb, vo, rfl, fun j v h => (World.cell?_alloc_past (w := w) (.cells ROW 31) vb (vo + j) hvb).trans (HV.out j v h)⟩) HF1.out H2.out ?_; intro w2 hB2 hE2; have HB2 := Lib.hid hB2; have HE2 := Lib.hid hE2; clear hB2 hE2))
  refine region_tail 8 (by kernel_rfl) (by kernel_rfl) ?_
  simp only [List.take_succ_cons, List.take_zero, List.drop_succ_cons, List.drop_zero]
  repeat still_step
  refine wpStill_nil ?_
  refine wpList_copy_sz rfl (.tmp 50) (.tmp 53) 23 23 rfl 31 3 Tryd.underlying23 sizeIn _ _ _ _ _ _ rfl rfl w.heap.size ((i + 1) * 3) (n - i) _ 31 cs HB2.out.drew HM2.out HCL.out (fun _ => rfl)
    (fun _ => ⟨b, i * 3, rfl, fun j v h => by
      have e1 := HE2.out.cell (p := ⟨b, i * 3 + j, none⟩) (by simp; omega) (by simp; omega)
      have e2 := World.cell?_alloc_past (w := w) (.cells ROW 31) b (i * 3 + j) hbN
      exact (e1.trans e2).trans (HS.out j v h)⟩) HF2.out H1.out ?_
  intro w3 hB3 hE3
  go_wp2
  go_ret
  refine ⟨G, rfl, hGn, HGM.out, _, HNS.out, hB3, ?_, ?_⟩
  · have := HFN.out
    rw [HCS.out, HHD.out] at this
    rw [HCS.out]
    exact this
  · exact (((Ext.refl No w).alloc _).drew.trans_new HE2.out (fun k hk => .inr (by omega))).drew.trans_new hE3 (fun k hk => .inr (by omega))
theorem over_ins (cur vs cs : List Value) (i n : Nat) (hi : i < n) (hn : (n + 1) * 3 ≤ cur.length) (hvs : vs.length = 3) (hcs : cs.length = (n - i) * 3) :
    (over (over cur ((i + 1) * 3) cs) (i * 3) vs).take ((n + 1) * 3) = cur.take (i * 3) ++ (vs ++ cs) ∧ (over (over cur ((i + 1) * 3) cs) (i * 3) vs).length = cur.length := by
  have e0 : (n - i) + (i + 1) = n + 1 := by omega
  have e1 : (i + 1) * 3 + cs.length = (n + 1) * 3 := by rw [hcs, ← e0, Nat.add_mul (n - i)]; omega
  have e2 : i * 3 + 3 = (i + 1) * 3 := by omega
  unfold over
  rw [hvs, e1, e2]
  have a1 : (cur.take ((i + 1) * 3) ++ (cs ++ cur.drop ((n + 1) * 3))).take (i * 3) = cur.take (i * 3) := by
    rw [List.take_append_of_le_length (by rw [List.length_take]; omega), List.take_take, Nat.min_eq_left (by omega)]
  have a2 : (cur.take ((i + 1) * 3) ++ (cs ++ cur.drop ((n + 1) * 3))).drop ((i + 1) * 3) = cs ++ cur.drop ((n + 1) * 3) := List.drop_left' (by rw [List.length_take]; omega)
  rw [a1, a2]
  constructor
  · rw [← List.append_assoc, ← List.append_assoc, List.append_assoc (cur.take (i * 3))]
    exact List.take_left' (by simp only [List.length_append, List.length_take, hvs]; omega)
  · simp only [List.length_append, List.length_take, List.length_drop, hvs]
    omega
set_option maxHeartbeats 1000000 in
theorem insert_end (l : List Acc) (x : Acc) (hl : l.length ≤ 1000000) :
    PCalls Tryd.prog 29 [.c (.own 0 l.length), .c (.v (.int .i64 ((l.length : Int)))), .c (.sl 3 [Acc.d x])] [.arr 31 3 (l.map Acc.d)] fun r os =>
      (r = .c (.own 0 (l.length + 1)) ∧ os = [.arr 31 3 ((l ++ [x]).map Acc.d)]) ∨ (r = .c (.own 1 (l.length + 1)) ∧ os = [.arr 31 3 (l.map Acc.d), .arr 31 3 ((l ++ [x]).map Acc.d)]) := by
  refine pcalls_of Tryd.func29 rfl (by simp [Tryd.ntmps29]) ?_
  rw [Tryd.ntmps29, Tryd.results29]
  push_cast [eq_self, iff_self, IntWalk.iteOmega, IntWalk.toNatUp]
  by_cases h0 : l.length = 0
  · have h0' := eq_true h0
    repeat' (first | (refine pl_app2 (e := 31) (sz := 3) (by' := 48) (rows := l.map Acc.d) (ys := [Acc.d x]) 0 rfl (by push_cast [eq_self, iff_self, IntWalk.iteOmega, IntWalk.toNatUp, h0', if_true]) (by push_cast [eq_self, iff_self, IntWalk.iteOmega, IntWalk.toNatUp, h0', if_true]) (by push_cast [eq_self, iff_self, IntWalk.iteOmega, IntWalk.toNatUp, h0', if_true]) (by push_cast [eq_self, iff_self, IntWalk.iteOmega, IntWalk.toNatUp, h0', if_true]) (by omega) (by push_cast [eq_self, iff_self, IntWalk.iteOmega, IntWalk.toNatUp, h0', if_true]) (by push_cast [eq_self, iff_self, IntWalk.iteOmega, IntWalk.toNatUp, h0', if_true]) (by push_cast [eq_self, iff_self, IntWalk.iteOmega, IntWalk.toNatUp, h0', if_true]) (by push_cast [eq_self, iff_self, IntWalk.iteOmega, IntWalk.toNatUp, h0', if_true]) (by simp) (by push_cast [eq_self, iff_self, IntWalk.iteOmega, IntWalk.toNatUp, h0', if_true]; omega) (by push_cast [eq_self, iff_self, IntWalk.iteOmega, IntWalk.toNatUp, h0', if_true]; omega) ?_ ?_ <;> (refine pl_of_pops ?_; push_cast [eq_self, iff_self, IntWalk.iteOmega, IntWalk.toNatUp, h0', if_true])) | (refine Kont.use (by assumption) ?_) | (refine pwp_seq fun K hK => ?_) | (refine pwp_block ?_) | (refine pwp_scope ?_) | ((first | refine pwp_region ?_ | refine pwp_quiet (by kernel_rfl) (by kernel_rfl) ?_ | refine pwp_exit ?_ | refine pwp_ret ?_ | refine pwp_skip ?_); push_cast [eq_self, iff_self, IntWalk.iteOmega, IntWalk.toNatUp, h0', if_true]) | (refine pwp_cond ?_; push_cast [eq_self, iff_self, IntWalk.iteOmega, IntWalk.toNatUp, h0', if_true]; try (refine ⟨fun h => ?_, fun h => ?_⟩ <;> (try simp only [decide_eq_true_eq, decide_eq_false_iff_not, Bool.not_eq_true', Bool.not_eq_false', Int.not_lt, Int.not_le, Nat.not_lt, Nat.not_le] at h) <;> (try (first | contradiction | (exfalso; omega) | exact nomatch (Eq.trans (Eq.symm h) (by assumption) : true = false) | exact nomatch (Eq.trans (Eq.symm h) (by assumption) : false = true))))))
    all_goals first | (refine retK_of [0] ?_; push_cast [eq_self, iff_self, IntWalk.iteOmega, IntWalk.toNatUp]; exact ⟨_, _, leP_refl _, leOs_refl _, .inl ⟨rfl, rfl⟩⟩) | (refine retK_of [0, 1] ?_; push_cast [eq_self, iff_self, IntWalk.iteOmega, IntWalk.toNatUp]; exact ⟨_, _, leP_refl _, leOs_refl _, .inr ⟨rfl, rfl⟩⟩)
  · have h0' := eq_false h0
    repeat' (first | (refine pl_app2 (e := 31) (sz := 3) (by' := 48) (rows := l.map Acc.d) (ys := [Acc.d x]) 0 rfl (by push_cast [eq_self, iff_self, IntWalk.iteOmega, IntWalk.toNatUp, h0', if_false]) (by push_cast [eq_self, iff_self, IntWalk.iteOmega, IntWalk.toNatUp, h0', if_false]) (by push_cast [eq_self, iff_self, IntWalk.iteOmega, IntWalk.toNatUp, h0', if_false]) (by push_cast [eq_self, iff_self, IntWalk.iteOmega, IntWalk.toNatUp, h0', if_false]) (by omega) (by push_cast [eq_self, iff_self, IntWalk.iteOmega, IntWalk.toNatUp, h0', if_false]) (by push_cast [eq_self, iff_self, IntWalk.iteOmega, IntWalk.toNatUp, h0', if_false]) (by push_cast [eq_self, iff_self, IntWalk.iteOmega, IntWalk.toNatUp, h0', if_false]) (by push_cast [eq_self, iff_self, IntWalk.iteOmega, IntWalk.toNatUp, h0', if_false]) (by simp) (by push_cast [eq_self, iff_self, IntWalk.iteOmega, IntWalk.toNatUp, h0', if_false]; omega) (by push_cast [eq_self, iff_self, IntWalk.iteOmega, IntWalk.toNatUp, h0', if_false]; omega) ?_ ?_ <;> (refine pl_of_pops ?_; push_cast [eq_self, iff_self, IntWalk.iteOmega, IntWalk.toNatUp, h0', if_false])) | (refine Kont.use (by assumption) ?_) | (refine pwp_seq fun K hK => ?_) | (refine pwp_block ?_) | (refine pwp_scope ?_) | ((first | refine pwp_region ?_ | refine pwp_quiet (by kernel_rfl) (by kernel_rfl) ?_ | refine pwp_exit ?_ | refine pwp_ret ?_ | refine pwp_skip ?_); push_cast [eq_self, iff_self, IntWalk.iteOmega, IntWalk.toNatUp, h0', if_false]) | (refine pwp_cond ?_; push_cast [eq_self, iff_self, IntWalk.iteOmega, IntWalk.toNatUp, h0', if_false]; try (refine ⟨fun h => ?_, fun h => ?_⟩ <;> (try simp only [decide_eq_true_eq, decide_eq_false_iff_not, Bool.not_eq_true', Bool.not_eq_false', Int.not_lt, Int.not_le, Nat.not_lt, Nat.not_le] at h) <;> (try (first | contradiction | (exfalso; omega) | exact nomatch (Eq.trans (Eq.symm h) (by assumption) : true = false) | exact nomatch (Eq.trans (Eq.symm h) (by assumption) : false = true))))))
    all_goals first | (refine retK_of [0] ?_; push_cast [eq_self, iff_self, IntWalk.iteOmega, IntWalk.toNatUp]; exact ⟨_, _, leP_refl _, leOs_refl _, .inl ⟨rfl, rfl⟩⟩) | (refine retK_of [0, 1] ?_; push_cast [eq_self, iff_self, IntWalk.iteOmega, IntWalk.toNatUp]; exact ⟨_, _, leP_refl _, leOs_refl _, .inr ⟨rfl, rfl⟩⟩)
set_option maxHeartbeats 1000000 in
theorem insert_pure (l : List Acc) (x : Acc) (i : Nat) (hi : i ≤ l.length) (hl : l.length ≤ 1000000) :
    PCalls Tryd.prog 29 [.c (.own 0 l.length), .c (.v (.int .i64 i)), .c (.sl 3 [Acc.d x])] [.arr 31 3 (l.map Acc.d)] fun r os =>
      (r = .c (.own 0 (l.length + 1)) ∧ os = [.arr 31 3 ((l.take i ++ x :: l.drop i).map Acc.d)]) ∨ (r = .c (.own 1 (l.length + 1)) ∧ os = [.arr 31 3 (l.map Acc.d), .arr 31 3 ((l.take i ++ x :: l.drop i).map Acc.d)]) := by
  rcases Nat.eq_or_lt_of_le hi with rfl | hi
  · have := insert_end l x hl
    rw [List.take_length, List.drop_length]
    exact this
  unfold PCalls
  intro Γ w xs hm hx
  obtain ⟨y, m1, rfl, hy, hx⟩ := All2.cons_l.1 hx
  obtain ⟨y2, m2, rfl, hy2, hx⟩ := All2.cons_l.1 hx
  obtain ⟨y3, m3, rfl, hy3, hx⟩ := All2.cons_l.1 hx
  rw [All2.nil_l] at hx
  subst hx
  obtain ⟨rfl, _⟩ := hy2
  have hy3' : RD w Γ.I (.sl 3 [Acc.d x]) y3 := hy3
  rw [rd_sl] at hy3'
  obtain ⟨A, c3, vs, rfl, hc3, ⟨hvl, hvat⟩, hr1, hrx⟩ := hy3'
  obtain ⟨vb, vo, rfl, hIv, hvb, hvc⟩ := hvat (by simp)
  have hvl' : vs.length = 3 := by simpa using hvl
  have hrow : ∀ r ∈ l.map Acc.d, r.length = 3 := fun r hr => by obtain ⟨z, _, rfl⟩ := List.mem_map.1 hr; rfl
  have hn1 : Γ.n = 1 := by rw [hm.n]; rfl
  have hk : 0 < Γ.n := by omega
  rcases hy.2 with ⟨_, _, h0⟩ | ⟨hc, rfl, hle⟩
  · omega
  obtain ⟨g1, g2, g3, g4⟩ := hm.ob 0 _ rfl
  obtain ⟨cur, hb, hs, hle2, hmx, hrd⟩ := g4 hc
  rw [List.length_map] at hrd
  have hne : vb ≠ Γ.β 0 := fun e => hm.off 0 hk hc (e ▸ hIv)
  have h1 := rd_one hrd
  have h2 : ∀ v ∈ vs, v.oneCell' = true := rd_one hrx
  have hfl : ∀ k, k ≤ l.length → (l.map Acc.d).flatten.take (k * 3) = ((l.take k).map Acc.d).flatten ∧ (l.map Acc.d).flatten.drop (k * 3) = ((l.drop k).map Acc.d).flatten := fun k hkk => by
    rw [take_rows hrow (by rw [List.length_map]; exact hkk), drop_rows hrow (by rw [List.length_map]; exact hkk), List.map_take, List.map_drop]
    exact ⟨rfl, rfl⟩
  have hins : ((l.take i ++ x :: l.drop i).map Acc.d).flatten = (l.map Acc.d).flatten.take (i * 3) ++ ([Acc.d x].flatten ++ (l.map Acc.d).flatten.drop (i * 3)) := by
    rw [(hfl i (by omega)).1, (hfl i (by omega)).2]
    simp [List.flatten_append]
  have hlen : (l.take i ++ x :: l.drop i).length = l.length + 1 := by simp; omega
  have hcz : cur.toList.length = Γ.cap 0 * 3 := by rw [Array.length_toList, hs]
  have hle2' : l.length ≤ Γ.cap 0 := by simpa using hle2
  have hcsl : ((cur.toList.take (l.length * 3)).drop (i * 3)).length = (l.length - i) * 3 := by
    have : l.length * 3 ≤ Γ.cap 0 * 3 := Nat.mul_le_mul_right _ hle2'
    rw [List.length_drop, List.length_take, hcz]
    omega
  have htt : (cur.toList.take (l.length * 3)).take (i * 3) = cur.toList.take (i * 3) := by rw [List.take_take, Nat.min_eq_left (Nat.mul_le_mul_right _ (by omega))]
  have hrd2 : All2 (RD w Γ.I) ((l.take i ++ x :: l.drop i).map Acc.d).flatten ((cur.toList.take (l.length * 3)).take (i * 3) ++ (vs ++ (cur.toList.take (l.length * 3)).drop (i * 3))) := by
    rw [hins]
    exact (hrd.take _).append (hrx.append (hrd.drop _))
  by_cases hroom : l.length + 1 ≤ Γ.cap 0
  · refine (ins_room w (Γ.β 0) vb vo l.length (Γ.cap 0) c3 i cur vs hb hvc hvl' hvb hne hi hroom (by simpa [maxLen] using hmx) hs h1 h2).mono ?_
    rintro e w' ⟨rfl, hB, hE⟩
    have hs' : Stay w Γ.I w' Γ.I := ⟨hE.size, fun b hb' hl => hE.block b hl fun e => hm.off 0 hk hc (e ▸ hb'), fun _ h => h⟩
    obtain ⟨o1, o2⟩ := over_ins cur.toList vs ((cur.toList.take (l.length * 3)).drop (i * 3)) i l.length hi (by rw [hcz]; exact Nat.mul_le_mul_right _ hroom) hvl' hcsl
    have hro : RO w' Γ 0 (.arr 31 3 ((l.take i ++ x :: l.drop i).map Acc.d)) := by
      refine ⟨fun r hr => by obtain ⟨z, _, rfl⟩ := List.mem_map.1 hr; rfl, by decide, fun h => absurd h (by omega), fun _ => ⟨_, hB, by rw [List.size_toArray, o2, hcz], by rw [List.length_map, hlen]; exact hroom, hmx, ?_⟩⟩
      rw [List.length_map, hlen, o1, ← htt]
      exact hrd2.mono fun d y h => RD.stay hs' d y h
    exact ⟨_, _, Γ, _, rfl, .inl ⟨rfl, rfl⟩, ⟨hk, .inr ⟨hc, rfl, hroom⟩⟩, by simp, (hm.set_ hk hc hE _ hro).1, grow_set hk hc hE⟩
  · refine (ins_grow w (Γ.β 0) vb vo l.length (Γ.cap 0) c3 i cur vs hb hvc hvl' hvb hi (by omega) (by omega) hs h1 h2).mono ?_
    rintro e w' ⟨gc, new, rfl, q1, q2, q3, q4, q5, hE⟩
    have hS := Same.of_ext hE
    have hst := hS.stay Γ.I
    have hro : RO w' (Γ.push w.heap.size gc) Γ.n (.arr 31 3 ((l.take i ++ x :: l.drop i).map Acc.d)) := by
      refine ⟨fun r hr => by obtain ⟨z, _, rfl⟩ := List.mem_map.1 hr; rfl, by decide, fun h => ?_, fun _ => ⟨new, ?_, ?_, ?_, ?_, ?_⟩⟩
      · simp only [G.push, upd_same] at h; omega
      · simp only [G.push, upd_same]; exact q4
      · simp only [G.push, upd_same]; exact q3
      · simp only [G.push, upd_same, List.length_map, hlen]; exact q1
      · simp only [G.push, upd_same]; exact q2
      · rw [List.length_map, hlen, q5]
        exact hrd2.mono fun d y h => RD.stay hst d y h
    refine ⟨_, _, Γ.push w.heap.size gc, _, rfl, .inr ⟨rfl, rfl⟩, ⟨by simp [G.push, hn1], .inr ?_⟩, by simp, hm.push hS _ _ _ hro (fun _ => Nat.le_refl _), grow_push hm hE _ _ (fun _ => Nat.le_refl _) (by simp [hn1])⟩
    simp only [G.push, hn1, upd_same]
    exact ⟨by omega, trivial, q1⟩
end Go.Proofs.YtipgjpcbmnlbhaaDoor
