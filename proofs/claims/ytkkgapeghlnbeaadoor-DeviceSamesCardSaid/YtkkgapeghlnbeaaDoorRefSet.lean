/- The reference's Set. -/
import Derived.Test.YtkkgapeghlnbeaaDoorAttr
namespace Go.Proofs.YtkkgapeghlnbeaaDoor
open Go.RowKit
set_option linter.unusedVariables false
set_option linter.unusedSimpArgs false

/-- one round of the reference's Set: what has been put out, and whether the new value stands there -/
def setStep (n v : ByteArray) (s : List At × Bool) (x : At) : List At × Bool :=
  let ins := !s.2 && !bless x.name n
  let o := if ins then s.1 ++ [⟨n, v⟩] else s.1
  (if x.name = n then o else o ++ [x], s.2 || ins)
def setTo (n v : ByteArray) (l : List At) : List At × Bool := l.foldl (setStep n v) ([], decide (v = ⟨#[]⟩))
def refSet (l : List At) (n v : ByteArray) : List At := if (setTo n v l).2 then (setTo n v l).1 else (setTo n v l).1 ++ [⟨n, v⟩]
theorem setTo_snoc (n v : ByteArray) (l : List At) (x : At) : setTo n v (l ++ [x]) = setStep n v (setTo n v l) x := by simp [setTo]
theorem step_len (n v : ByteArray) (s : List At × Bool) (x : At) : (setStep n v s x).1.length ≤ s.1.length + 2 := by
  obtain ⟨o, d⟩ := s
  simp only [setStep]
  split <;> split <;> simp
theorem fold_len (n v : ByteArray) (l : List At) : ∀ s : List At × Bool, (l.foldl (setStep n v) s).1.length ≤ s.1.length + 2 * l.length := by
  induction l with
  | nil => intro s; simp
  | cons x l ih =>
    intro s
    have h1 := ih (setStep n v s x)
    have h2 := step_len n v s x
    simp only [List.foldl_cons, List.length_cons]
    omega
theorem setTo_len (n v : ByteArray) (l : List At) : (setTo n v l).1.length ≤ 2 * l.length := by
  have := fold_len n v l ([], decide (v = ⟨#[]⟩))
  simpa [setTo] using this
theorem refSet_len (l : List At) (n v : ByteArray) : (refSet l n v).length ≤ 2 * l.length + 1 := by
  have := setTo_len n v l
  unfold refSet
  split <;> simp <;> omega

theorem take_succ' (l : List At) (k : Nat) (h : k < l.length) : l.take (k + 1) = l.take k ++ [l[k]] := by
  rw [List.take_succ_eq_append_getElem h]

set_option maxHeartbeats 1000000 in
theorem refset_walk (P : Nat → Prop) (A : Option Addr) (c : Nat) (l : List At) (n v : ByteArray) (w : World) (hl : Rd w P 2 A l.length (rows At.cells l)) (hb : l.length ≤ 1099511627776) :
    Calls Tryd.prog 15 #[.slice A l.length c, .string n, .string v] w fun e w' =>
      ∃ vs, e = .returned vs ∧ w'.ownsRow w.heap.size 58 2 vs (refSet l n v).length (rows At.cells (refSet l n v)) ∧ Ext No w w' := by
  have HA := Lib.hid hl.lt
  have hd0 : v.toList.isEmpty = decide (v = ⟨#[]⟩) := by
    have h0 : ByteArray.toList ⟨#[]⟩ = [] := by simp [ByteArray.toList_eq]
    rw [Bool.eq_iff_iff, List.isEmpty_iff, decide_eq_true_eq, ← blist_inj, h0]
  have HD0 := Lib.hid hd0
  clear hl hd0
  go_enter Tryd.func15, Tryd.ntmps15
  go_wp2
  go_loopw [7, 8, 9] (fun vs d i wr => ∃ k : Nat, k ≤ l.length ∧ i = .int .i64 (k : Int) ∧ d = .bool (setTo n v (l.take k)).2 ∧ wr.ownsRow w.heap.size 58 2 vs (setTo n v (l.take k)).1.length (rows At.cells (setTo n v (l.take k)).1) ∧ Ext No w wr) (fun _ _ i _ => l.length - (intOf i).toNat)
  case atStart => exact ⟨0, by omega, rfl, by rw [HD0.out]; rfl, own_nil _ _ _ _, Ext.refl _ _⟩
  case round =>
    obtain ⟨k, hk, rfl, rfl, hown, hE⟩ := hrel
    have hlen := setTo_len n v (l.take k)
    have hlen2 : (l.take k).length = k := by rw [List.length_take]; omega
    rw [hlen2] at hlen
    have hz := Lib.hid hE.size
    have HE := Lib.hid hE
    have HO := Lib.hid hown
    clear hown hE hlen2
    by_cases hlt : k < l.length
    · have hsn : setTo n v (l.take (k + 1)) = setStep n v (setTo n v (l.take k)) l[k] := by rw [take_succ' l k hlt, setTo_snoc]
      generalize setTo n v (l.take k) = s at hsn HO hlen ⊢
      obtain ⟨o, d⟩ := s
      simp only at hlen HO ⊢
      have HSN := Lib.hid hsn
      clear hsn
      obtain ⟨b1, o1, rfl, hbP, hbs, a0, a1⟩ := rd_at (HA.out.ext HE.out (fun _ _ h => h)) hlt
      have hbw : b1 < w.heap.size := hbP
      obtain ⟨x, hx⟩ : ∃ x, x = l[k] := ⟨_, rfl⟩
      rw [← hx] at a0 a1 HSN
      clear hx hbP
      cases hbl : bless x.name n
      · cases d
        · by_cases hxn : x.name = n
          · have hq : Op.bytesLess x.name.toList n.toList = false := hbl
            have hs : setStep n v (o, false) x = (o ++ [(⟨n, v⟩ : At)], true) := by unfold setStep; simp only [hbl]; simp [hxn]
            rw [hs] at HSN
            have hx : (x.name.toList == n.toList) = true := by rw [hxn]; simp
            clear hbl hxn hs
            go_wp2_with (at_builtin; refine wpList_append_rd rfl (.tmp 29) (.tmp 33) 26 rfl w.heap.size 58 2 32 slAt _ _ _ rfl (HO.out.alloc _) (fun b => b = wr.heap.size) (some ⟨wr.heap.size, 0, none⟩) 1 1 (rows At.cells [(⟨n, v⟩ : At)]) rfl (rd_new wr _ (rows At.cells [(⟨n, v⟩ : At)]) 1 2 rfl) (rows_one At.one _) (by simp only [maxLen]; omega) (by omega) (by have := hz.out; simp; omega) ?_)
            intro v1 w1 hown1 hE1 hat1
            have hEa : Ext No wr (wr.alloc (.cells (rows At.cells [(⟨n, v⟩ : At)]).toArray 58)) := (Ext.refl No wr).alloc _
            have HE1 := Lib.hid ((HE.out.trans hEa).trans_new hE1 (fun i h => .inr (HO.out.lt _ h).1))
            rw [← rows_append] at hown1
            have hz1 := Lib.hid HE1.out.size
            have c0 : w1.cell? ⟨b1, o1 + k * 2, none⟩ = some (.string x.name) := (hE1.cell (p := ⟨b1, o1 + k * 2, none⟩) (by simp; omega) (fun h => absurd (HO.out.lt _ h).1 (by show ¬ _ ≤ b1; omega))).trans ((hEa.cell (p := ⟨b1, o1 + k * 2, none⟩) hbs (fun h => h)).trans a0)
            have c1 : w1.cell? ⟨b1, o1 + k * 2 + 1, none⟩ = some (.string x.value) := (hE1.cell (p := ⟨b1, o1 + k * 2 + 1, none⟩) (by simp; omega) (fun h => absurd (HO.out.lt _ h).1 (by show ¬ _ ≤ b1; omega))).trans ((hEa.cell (p := ⟨b1, o1 + k * 2 + 1, none⟩) hbs (fun h => h)).trans a1)
            have HO1 := Lib.hid (show w1.ownsRow w.heap.size 58 2 v1 (o ++ [(⟨n, v⟩ : At)]).length (rows At.cells (o ++ [(⟨n, v⟩ : At)])) by rw [List.length_append]; exact hown1)
            have hlen1 : (o ++ [(⟨n, v⟩ : At)]).length ≤ 2 * k + 1 := by simp; omega
            clear hown1 hE1 hat1 hEa a0 a1
            go_wp2_with fail
            go_roundw
            case rel => exact ⟨k + 1, by omega, by go_num, by rw [HSN.out], by rw [HSN.out]; exact HO1.out, HE1.out⟩
            case measure => simp [intOf]; omega
          · have hq : Op.bytesLess x.name.toList n.toList = false := hbl
            have hs : setStep n v (o, false) x = (o ++ [(⟨n, v⟩ : At)] ++ [x], true) := by unfold setStep; simp only [hbl]; simp [hxn]
            rw [hs] at HSN
            have hx : (x.name.toList == n.toList) = false := by rw [beq_eq_false_iff_ne, ne_eq, blist_inj]; exact hxn
            clear hbl hxn hs
            go_wp2_with (at_builtin; refine wpList_append_rd rfl (.tmp 29) (.tmp 33) 26 rfl w.heap.size 58 2 32 slAt _ _ _ rfl (HO.out.alloc _) (fun b => b = wr.heap.size) (some ⟨wr.heap.size, 0, none⟩) 1 1 (rows At.cells [(⟨n, v⟩ : At)]) rfl (rd_new wr _ (rows At.cells [(⟨n, v⟩ : At)]) 1 2 rfl) (rows_one At.one _) (by simp only [maxLen]; omega) (by omega) (by have := hz.out; simp; omega) ?_)
            intro v1 w1 hown1 hE1 hat1
            have hEa : Ext No wr (wr.alloc (.cells (rows At.cells [(⟨n, v⟩ : At)]).toArray 58)) := (Ext.refl No wr).alloc _
            have HE1 := Lib.hid ((HE.out.trans hEa).trans_new hE1 (fun i h => .inr (HO.out.lt _ h).1))
            rw [← rows_append] at hown1
            have hz1 := Lib.hid HE1.out.size
            have c0 : w1.cell? ⟨b1, o1 + k * 2, none⟩ = some (.string x.name) := (hE1.cell (p := ⟨b1, o1 + k * 2, none⟩) (by simp; omega) (fun h => absurd (HO.out.lt _ h).1 (by show ¬ _ ≤ b1; omega))).trans ((hEa.cell (p := ⟨b1, o1 + k * 2, none⟩) hbs (fun h => h)).trans a0)
            have c1 : w1.cell? ⟨b1, o1 + k * 2 + 1, none⟩ = some (.string x.value) := (hE1.cell (p := ⟨b1, o1 + k * 2 + 1, none⟩) (by simp; omega) (fun h => absurd (HO.out.lt _ h).1 (by show ¬ _ ≤ b1; omega))).trans ((hEa.cell (p := ⟨b1, o1 + k * 2 + 1, none⟩) hbs (fun h => h)).trans a1)
            have HO1 := Lib.hid (show w1.ownsRow w.heap.size 58 2 v1 (o ++ [(⟨n, v⟩ : At)]).length (rows At.cells (o ++ [(⟨n, v⟩ : At)])) by rw [List.length_append]; exact hown1)
            have hlen1 : (o ++ [(⟨n, v⟩ : At)]).length ≤ 2 * k + 1 := by simp; omega
            clear hown1 hE1 hat1 hEa a0 a1
            obtain ⟨oo, hoo⟩ : ∃ oo, oo = o ++ [(⟨n, v⟩ : At)] := ⟨_, rfl⟩
            rw [← hoo] at HO1 HSN hlen1
            clear hoo
            go_wp2_with (at_builtin; refine wpList_append_rd rfl (.tmp 42) (.tmp 47) 26 rfl w.heap.size 58 2 32 slAt _ _ _ rfl (HO1.out.alloc _) (fun b => b = w1.heap.size) (some ⟨w1.heap.size, 0, none⟩) 1 1 (rows At.cells [x]) rfl (rd_new w1 _ (rows At.cells [x]) 1 2 rfl) (rows_one At.one _) (by simp only [maxLen]; omega) (by omega) (by have := hz1.out; simp; omega) ?_)
            intro v2 w2 hown2 hE2 hat2
            have hEb : Ext No w1 (w1.alloc (.cells (rows At.cells [x]).toArray 58)) := (Ext.refl No w1).alloc _
            have HE2 := Lib.hid ((HE1.out.trans hEb).trans_new hE2 (fun i h => .inr (HO1.out.lt _ h).1))
            rw [← rows_append] at hown2
            have HO2 := Lib.hid (show w2.ownsRow w.heap.size 58 2 v2 (oo ++ [x]).length (rows At.cells (oo ++ [x])) by rw [List.length_append]; exact hown2)
            clear hown2 hE2 hat2 hEb c0 c1
            go_wp2_with fail
            go_roundw
            case rel => exact ⟨k + 1, by omega, by go_num, by rw [HSN.out], by rw [HSN.out]; exact HO2.out, HE2.out⟩
            case measure => simp [intOf]; omega
        · by_cases hxn : x.name = n
          · have hq : Op.bytesLess x.name.toList n.toList = false := hbl
            have hs : setStep n v (o, true) x = (o, true) := by unfold setStep; simp only [hbl]; simp [hxn]
            rw [hs] at HSN
            have hx : (x.name.toList == n.toList) = true := by rw [hxn]; simp
            clear hbl hxn hs
            go_wp2_with fail
            go_roundw
            case rel => exact ⟨k + 1, by omega, by go_num, by rw [HSN.out], by rw [HSN.out]; exact HO.out, HE.out⟩
            case measure => simp [intOf]; omega
          · have hq : Op.bytesLess x.name.toList n.toList = false := hbl
            have hs : setStep n v (o, true) x = (o ++ [x], true) := by unfold setStep; simp only [hbl]; simp [hxn]
            rw [hs] at HSN
            have hx : (x.name.toList == n.toList) = false := by rw [beq_eq_false_iff_ne, ne_eq, blist_inj]; exact hxn
            clear hbl hxn hs
            go_wp2_with (at_builtin; refine wpList_append_rd rfl (.tmp 42) (.tmp 47) 26 rfl w.heap.size 58 2 32 slAt _ _ _ rfl (HO.out.alloc _) (fun b => b = wr.heap.size) (some ⟨wr.heap.size, 0, none⟩) 1 1 (rows At.cells [x]) rfl (rd_new wr _ (rows At.cells [x]) 1 2 rfl) (rows_one At.one _) (by simp only [maxLen]; omega) (by omega) (by have := hz.out; simp; omega) ?_)
            intro v1 w1 hown1 hE1 hat1
            have hEa : Ext No wr (wr.alloc (.cells (rows At.cells [x]).toArray 58)) := (Ext.refl No wr).alloc _
            have HE1 := Lib.hid ((HE.out.trans hEa).trans_new hE1 (fun i h => .inr (HO.out.lt _ h).1))
            rw [← rows_append] at hown1
            have HO1 := Lib.hid (show w1.ownsRow w.heap.size 58 2 v1 (o ++ [x]).length (rows At.cells (o ++ [x])) by rw [List.length_append]; exact hown1)
            clear hown1 hE1 hat1 hEa
            go_wp2_with fail
            go_roundw
            case rel => exact ⟨k + 1, by omega, by go_num, by rw [HSN.out], by rw [HSN.out]; exact HO1.out, HE1.out⟩
            case measure => simp [intOf]; omega
      · cases d
        · by_cases hxn : x.name = n
          · have hq : Op.bytesLess x.name.toList n.toList = true := hbl
            have hs : setStep n v (o, false) x = (o, false) := by unfold setStep; simp only [hbl]; simp [hxn]
            rw [hs] at HSN
            have hx : (x.name.toList == n.toList) = true := by rw [hxn]; simp
            clear hbl hxn hs
            go_wp2_with fail
            go_roundw
            case rel => exact ⟨k + 1, by omega, by go_num, by rw [HSN.out], by rw [HSN.out]; exact HO.out, HE.out⟩
            case measure => simp [intOf]; omega
          · have hq : Op.bytesLess x.name.toList n.toList = true := hbl
            have hs : setStep n v (o, false) x = (o ++ [x], false) := by unfold setStep; simp only [hbl]; simp [hxn]
            rw [hs] at HSN
            have hx : (x.name.toList == n.toList) = false := by rw [beq_eq_false_iff_ne, ne_eq, blist_inj]; exact hxn
            clear hbl hxn hs
            go_wp2_with (at_builtin; refine wpList_append_rd rfl (.tmp 42) (.tmp 47) 26 rfl w.heap.size 58 2 32 slAt _ _ _ rfl (HO.out.alloc _) (fun b => b = wr.heap.size) (some ⟨wr.heap.size, 0, none⟩) 1 1 (rows At.cells [x]) rfl (rd_new wr _ (rows At.cells [x]) 1 2 rfl) (rows_one At.one _) (by simp only [maxLen]; omega) (by omega) (by have := hz.out; simp; omega) ?_)
            intro v1 w1 hown1 hE1 hat1
            have hEa : Ext No wr (wr.alloc (.cells (rows At.cells [x]).toArray 58)) := (Ext.refl No wr).alloc _
            have HE1 := Lib.hid ((HE.out.trans hEa).trans_new hE1 (fun i h => .inr (HO.out.lt _ h).1))
            rw [← rows_append] at hown1
            have HO1 := Lib.hid (show w1.ownsRow w.heap.size 58 2 v1 (o ++ [x]).length (rows At.cells (o ++ [x])) by rw [List.length_append]; exact hown1)
            clear hown1 hE1 hat1 hEa
            go_wp2_with fail
            go_roundw
            case rel => exact ⟨k + 1, by omega, by go_num, by rw [HSN.out], by rw [HSN.out]; exact HO1.out, HE1.out⟩
            case measure => simp [intOf]; omega
        · by_cases hxn : x.name = n
          · have hq : Op.bytesLess x.name.toList n.toList = true := hbl
            have hs : setStep n v (o, true) x = (o, true) := by unfold setStep; simp only [hbl]; simp [hxn]
            rw [hs] at HSN
            have hx : (x.name.toList == n.toList) = true := by rw [hxn]; simp
            clear hbl hxn hs
            go_wp2_with fail
            go_roundw
            case rel => exact ⟨k + 1, by omega, by go_num, by rw [HSN.out], by rw [HSN.out]; exact HO.out, HE.out⟩
            case measure => simp [intOf]; omega
          · have hq : Op.bytesLess x.name.toList n.toList = true := hbl
            have hs : setStep n v (o, true) x = (o ++ [x], true) := by unfold setStep; simp only [hbl]; simp [hxn]
            rw [hs] at HSN
            have hx : (x.name.toList == n.toList) = false := by rw [beq_eq_false_iff_ne, ne_eq, blist_inj]; exact hxn
            clear hbl hxn hs
            go_wp2_with (at_builtin; refine wpList_append_rd rfl (.tmp 42) (.tmp 47) 26 rfl w.heap.size 58 2 32 slAt _ _ _ rfl (HO.out.alloc _) (fun b => b = wr.heap.size) (some ⟨wr.heap.size, 0, none⟩) 1 1 (rows At.cells [x]) rfl (rd_new wr _ (rows At.cells [x]) 1 2 rfl) (rows_one At.one _) (by simp only [maxLen]; omega) (by omega) (by have := hz.out; simp; omega) ?_)
            intro v1 w1 hown1 hE1 hat1
            have hEa : Ext No wr (wr.alloc (.cells (rows At.cells [x]).toArray 58)) := (Ext.refl No wr).alloc _
            have HE1 := Lib.hid ((HE.out.trans hEa).trans_new hE1 (fun i h => .inr (HO.out.lt _ h).1))
            rw [← rows_append] at hown1
            have HO1 := Lib.hid (show w1.ownsRow w.heap.size 58 2 v1 (o ++ [x]).length (rows At.cells (o ++ [x])) by rw [List.length_append]; exact hown1)
            clear hown1 hE1 hat1 hEa
            go_wp2_with fail
            go_roundw
            case rel => exact ⟨k + 1, by omega, by go_num, by rw [HSN.out], by rw [HSN.out]; exact HO1.out, HE1.out⟩
            case measure => simp [intOf]; omega
    · have hk' : l.take k = l := List.take_of_length_le (by omega)
      rw [hk'] at HO hlen ⊢
      have hfin : refSet l n v = if (setTo n v l).2 then (setTo n v l).1 else (setTo n v l).1 ++ [(⟨n, v⟩ : At)] := rfl
      generalize setTo n v l = s at HO hlen hfin ⊢
      obtain ⟨o, d⟩ := s
      simp only at hlen HO hfin ⊢
      have HF := Lib.hid hfin
      clear hfin hk'
      cases d
      · go_wp2_with (at_builtin; refine wpList_append_rd rfl (.tmp 51) (.tmp 55) 26 rfl w.heap.size 58 2 32 slAt _ _ _ rfl (HO.out.alloc _) (fun b => b = wr.heap.size) (some ⟨wr.heap.size, 0, none⟩) 1 1 (rows At.cells [(⟨n, v⟩ : At)]) rfl (rd_new wr _ (rows At.cells [(⟨n, v⟩ : At)]) 1 2 rfl) (rows_one At.one _) (by simp only [maxLen]; omega) (by omega) (by have := hz.out; simp; omega) ?_)
        intro v1 w1 hown1 hE1 hat1
        have hEa : Ext No wr (wr.alloc (.cells (rows At.cells [(⟨n, v⟩ : At)]).toArray 58)) := (Ext.refl No wr).alloc _
        have HE1 := Lib.hid ((HE.out.trans hEa).trans_new hE1 (fun i h => .inr (HO.out.lt _ h).1))
        rw [← rows_append] at hown1
        have HO1 := Lib.hid (show w1.ownsRow w.heap.size 58 2 v1 (o ++ [(⟨n, v⟩ : At)]).length (rows At.cells (o ++ [(⟨n, v⟩ : At)])) by rw [List.length_append]; exact hown1)
        clear hown1 hE1 hat1 hEa
        go_wp2_with fail
        go_ret
        exact ⟨_, rfl, by rw [HF.out]; exact HO1.out, HE1.out⟩
      · go_wp2_with fail
        go_ret
        exact ⟨_, rfl, by rw [HF.out]; exact HO.out, HE.out⟩
end Go.Proofs.YtkkgapeghlnbeaaDoor
