/- slices.Concat of two slices; device.Set. -/
import Derived.Test.YtkkgapeghlnbeaaDoorSet
namespace Go.Proofs.YtkkgapeghlnbeaaDoor
open Go.RowKit
set_option linter.unusedVariables false
set_option linter.unusedSimpArgs false

set_option maxHeartbeats 1000000 in
theorem concat_walk (b : Nat) (A1 A2 : Option Addr) (c1 c2 : Nat) (P Q : Nat → Prop) (l m : List At) (w : World) (k1 k2 : Nat) (hk1 : l.length = k1) (hk2 : m.length = k2) (h1 : Rd w P 2 A1 k1 (rows At.cells l)) (h2 : Rd w Q 2 A2 k2 (rows At.cells m))
    (hc0 : w.cell? ⟨b, 0, none⟩ = some (.slice A1 k1 c1)) (hc1 : w.cell? ⟨b, 1, none⟩ = some (.slice A2 k2 c2)) (hb : b < w.heap.size) (hsum : l.length + m.length ≤ 1099511627776) :
    Calls Tryd.prog 37 #[.slice (some ⟨b, 0, none⟩) 2 2] w fun e w' => ∃ vs, e = .returned vs ∧ w'.ownsRow w.heap.size 58 2 vs (l ++ m).length (rows At.cells (l ++ m)) ∧ Ext No w w' := by
  subst hk1
  subst hk2
  have R1 := Lib.hid h1.lt
  have R2 := Lib.hid h2.lt
  clear h1 h2
  go_enter Tryd.func37, Tryd.ntmps37
  go_wp2
  go_loopw [3, 5, 11] (fun s e i wr => ((i = .int .i64 0 ∧ s = .int .i64 0) ∨ (i = .int .i64 1 ∧ s = .int .i64 (l.length : Int)) ∨ (i = .int .i64 2 ∧ s = .int .i64 ((l.length + m.length : Nat) : Int))) ∧ w = wr) (fun _ _ i _ => 2 - (intOf i).toNat)
  case atStart => exact ⟨.inl ⟨rfl, rfl⟩, rfl⟩
  case round =>
    obtain ⟨⟨rfl, rfl⟩ | ⟨rfl, rfl⟩ | ⟨rfl, rfl⟩, rfl⟩ := hrel
    · go_wp2
      go_roundw
      case rel => exact ⟨.inr (.inl ⟨rfl, by go_num⟩), by trivial⟩
      case measure => simp [intOf]
    · go_wp2
      go_roundw
      case rel => exact ⟨.inr (.inr ⟨rfl, by go_num⟩), by trivial⟩
      case measure => simp [intOf]
    · go_wp2_with (go_at_call 59; refine (grow_walk _ _ hsum).mono ?_; rintro e w0 ⟨v0, rfl, hO0, hE0⟩)
      go_loopw [6, 8, 27] (fun vs e i wr => Ext No w wr ∧ ((i = .int .i64 0 ∧ wr.ownsRow w.heap.size 58 2 vs 0 []) ∨ (i = .int .i64 1 ∧ wr.ownsRow w.heap.size 58 2 vs l.length (rows At.cells l)) ∨ (i = .int .i64 2 ∧ wr.ownsRow w.heap.size 58 2 vs (l ++ m).length (rows At.cells (l ++ m))))) (fun _ _ i _ => 2 - (intOf i).toNat)
      case atStart => exact ⟨hE0, .inl ⟨rfl, hO0⟩⟩
      case round =>
        obtain ⟨hE, ⟨rfl, hO⟩ | ⟨rfl, hO⟩ | ⟨rfl, hO⟩⟩ := hrel
        · have HE := Lib.hid hE
          have hc0' := (hE.cell (p := ⟨b, 0, none⟩) hb (fun h => h)).trans hc0
          have HO := Lib.hid hO
          have HZ := Lib.hid hE.size
          clear hO hE hO0 hE0
          go_wp2_with (at_builtin; refine wpList_append_rd rfl (.tmp 31) (.tmp 32) 26 rfl w.heap.size 58 2 32 slAt _ 0 [] rfl HO.out (· < w.heap.size) A1 l.length c1 (rows At.cells l) rfl (R1.out.ext HE.out (fun _ _ h => h)) (rows_one At.one _) (by simp only [maxLen]; omega) (by omega) HZ.out ?_)
          intro v1 w1 hO1 hE1 hat1
          (try simp only [Nat.zero_add, List.nil_append] at hO1)
          have HE1 := Lib.hid (HE.out.trans_new hE1 (fun i h => .inr (HO.out.lt _ h).1))
          have HO1 := Lib.hid hO1
          clear hO1 hE1 hat1 hc0'
          go_wp2_with fail
          go_roundw
          case rel => exact ⟨HE1.out, .inr (.inl ⟨rfl, HO1.out⟩)⟩
          case measure => simp [intOf]
        · have HE := Lib.hid hE
          have hc1' := (hE.cell (p := ⟨b, 1, none⟩) hb (fun h => h)).trans hc1
          have HO := Lib.hid hO
          have HZ := Lib.hid hE.size
          clear hO hE hO0 hE0
          go_wp2_with (at_builtin; refine wpList_append_rd rfl (.tmp 31) (.tmp 32) 26 rfl w.heap.size 58 2 32 slAt _ l.length _ rfl HO.out (· < w.heap.size) A2 m.length c2 (rows At.cells m) rfl (R2.out.ext HE.out (fun _ _ h => h)) (rows_one At.one _) (by simp only [maxLen]; omega) (by omega) HZ.out ?_)
          intro v1 w1 hO1 hE1 hat1
          rw [← rows_append, ← List.length_append] at hO1
          have HE1 := Lib.hid (HE.out.trans_new hE1 (fun i h => .inr (HO.out.lt _ h).1))
          have HO1 := Lib.hid hO1
          clear hO1 hE1 hat1 hc1'
          go_wp2_with fail
          go_roundw
          case rel => exact ⟨HE1.out, .inr (.inr ⟨rfl, HO1.out⟩)⟩
          case measure => simp [intOf]
        · have HE := Lib.hid hE
          have HO := Lib.hid hO
          clear hO hE hO0 hE0
          go_wp2_with fail
          go_ret
          exact ⟨_, rfl, HO.out, HE.out⟩

theorem own_low {w : World} {base base' : Nat} {e : TypeId} {size n : Nat} {v : Value} {xs : List Value} (h : w.ownsRow base e size v n xs) (hb : base' ≤ base) : w.ownsRow base' e size v n xs := by
  obtain ⟨hl, h2⟩ := h
  refine ⟨hl, ?_⟩
  rcases h2 with h2 | ⟨g, cap, cur, rfl, hg, r⟩
  · exact .inl h2
  · exact .inr ⟨g, cap, cur, rfl, by omega, r⟩

set_option maxHeartbeats 1000000 in
theorem set_walk (P : Nat → Prop) (A : Option Addr) (c : Nat) (l : List At) (n v : ByteArray) (w : World) (hl : Rd w P 2 A l.length (rows At.cells l)) (hb : l.length ≤ 549755813888) (hcap : l.length ≤ c) (hasc : Asc l) :
    Calls Tryd.prog 13 #[.slice A l.length c, .string n, .string v] w fun e w' =>
      ∃ vs, e = .returned vs ∧ w'.ownsRow w.heap.size 58 2 vs (devSet l n v).length (rows At.cells (devSet l n v)) ∧ Ext No w w' := by
  have hle := pos_le l n
  have hS := search_walk P A c l n w hl (by omega) hasc
  obtain ⟨i, hi⟩ : ∃ i, i = pos l n := ⟨_, rfl⟩
  obtain ⟨f, hf⟩ : ∃ f, f = hit l n := ⟨_, rfl⟩
  rw [← hi, ← hf] at hS
  rw [← hi] at hle
  have hfl : f = true → i < l.length := by rw [hf, hi]; exact hit_lt
  have hdef : devSet l n v = l.take i ++ (if v = ⟨#[]⟩ then [] else [⟨n, v⟩]) ++ l.drop (if f then i + 1 else i) := by rw [hi, hf]; rfl
  have HD := Lib.hid hdef
  have HA := Lib.hid hl.lt
  clear hdef hi hf hasc hl
  obtain ⟨A2, hA2⟩ : ∃ A2, (if c = i then A else A.map (·.add (i * 2))) = A2 := ⟨_, rfl⟩
  go_enter Tryd.func13, Tryd.ntmps13
  go_wp2_with (go_at_call 34; refine hS.mono ?_; rintro e w1 ⟨rfl, hE1⟩)
  go_quiet (fail)
  have hr1 : Rd w (· < w.heap.size) 2 A i (rows At.cells (l.take i)) := by rw [← rows_take At.len l i hle]; exact HA.out.take_ hle
  have hr2 : Rd w (· < w.heap.size) 2 A2 (l.length - i) (rows At.cells (l.drop i)) := by rw [← rows_drop At.len l i hle, ← hA2]; exact HA.out.cut hle hcap
  have HR1 := Lib.hid hr1
  have hA2' := hA2
  clear hr1 hA2'
  cases f
  · have HR2 := Lib.hid hr2
    clear hr2
    by_cases hv : v = ⟨#[]⟩
    · subst hv
      have hE2 := hE1.drewN nq
      have hE3 : Ext No w ((w1.drewN nq).alloc (.cells #[.slice A i i, .slice A2 (l.length - i) (c - i)] 26)) := hE2.alloc _
      have hB := Blk.new (w1.drewN nq) 26 #[.slice A i i, .slice A2 (l.length - i) (c - i)]
      have hcon := concat_walk w1.heap.size A A2 i (c - i) _ _ (l.take i) (l.drop i) _ i (l.length - i) (by first | (simp; done) | (simp; omega)) (by first | (simp; done) | (simp; omega)) (HR1.out.ext hE3 (fun _ _ h => h)) (HR2.out.ext hE3 (fun _ _ h => h)) (hB.cell 0) (hB.cell 1) hB.lt (by first | (simp; done) | (simp; omega))
      have HC := Lib.hid hcon
      have HE3 := Lib.hid hE3
      clear hcon hE3 hB hE2 hE1 hS
      go_wp2_with (go_at_call 37; refine HC.out.mono ?_; rintro e w2 ⟨vs, rfl, hO, hE4⟩)
      go_ret
      exact ⟨_, rfl, by rw [HD.out]; simpa using own_low hO HE3.out.size, HE3.out.trans hE4⟩
    · have HV := Lib.hid (show v.toList.isEmpty = false by rw [Bool.eq_false_iff, ne_eq, List.isEmpty_iff, show ([] : List UInt8) = (⟨#[]⟩ : ByteArray).toList by simp [ByteArray.toList_eq], blist_inj]; exact hv)
      have hE2 := hE1.drewN nq
      obtain ⟨va, w2, hrun, hOa, hEa⟩ := run_append_full (P := Tryd.prog) ((w1.drewN nq).alloc (.cells #[.string n, .string v] 58)) w.heap.size 26 26 58 2 32 slAt _ _ A i _ (HR1.out.ext (hE2.alloc (.cells #[.string n, .string v] 58)) (fun _ _ h => h)) (some ⟨w1.heap.size, 0, none⟩) 1 1 (rows At.cells [(⟨n, v⟩ : At)]) (rd_new (w1.drewN nq) _ (rows At.cells [(⟨n, v⟩ : At)]) 1 2 rfl) (by omega) (by simp only [maxLen]; omega) (by omega) (hE2.alloc (.cells #[.string n, .string v] 58)).size
      have hE3 : Ext No w w2 := (hE2.alloc (.cells #[.string n, .string v] 58)).trans hEa
      rw [← rows_append] at hOa
      obtain ⟨Aa, ca, rfl, hca, _, hRa⟩ := own_form hOa
      have hE5 : Ext No w2 (w2.alloc (.cells #[.slice Aa (i + 1) ca, .slice A2 (l.length - i) (c - i)] 26)) := (Ext.refl No w2).alloc _
      have hB := Blk.new w2 26 #[.slice Aa (i + 1) ca, .slice A2 (l.length - i) (c - i)]
      have hcon := concat_walk w2.heap.size Aa A2 ca (c - i) _ _ (l.take i ++ [(⟨n, v⟩ : At)]) (l.drop i) _ (i + 1) (l.length - i) (by first | (simp; done) | (simp; omega)) (by first | (simp; done) | (simp; omega)) (hRa.ext hE5 (fun _ _ h => h)) (HR2.out.ext (hE3.trans hE5) (fun _ _ h => h)) (hB.cell 0) (hB.cell 1) hB.lt (by first | (simp; done) | (simp; omega))
      have HC := Lib.hid hcon
      have HE3 := Lib.hid (hE3.trans hE5)
      have HRUN := Lib.hid hrun
      clear hcon hE3 hB hE2 hE1 hS hE5 hRa hOa hEa hrun
      have hvl : v.toList.isEmpty = false := HV.out
      go_wp2_with first | (go_at_call 37; refine HC.out.mono ?_; rintro e w3 ⟨vs, rfl, hO, hE4⟩) | (at_builtin; refine Lib.wpList_append_run _ rfl (.tmp 33) (.tmp 37) 26 26 rfl (.slice A i i) (.slice (some ⟨w1.heap.size, 0, none⟩) 1 1) rfl rfl _ w2 HRUN.out ?_)
      go_ret
      exact ⟨_, rfl, by rw [HD.out]; simpa [hv] using own_low hO HE3.out.size, HE3.out.trans hE4⟩
  · have hil := hfl rfl
    by_cases hc1 : c - i = 1
    · have hr3 : Rd w (· < w.heap.size) 2 A2 (l.length - i - 1) (rows At.cells (l.drop (i + 1))) := by
        have h := hr2.cut (k := 1) (cap := c - i) (by omega) (by omega)
        have e := rows_drop At.len (l.drop i) 1 (by simp; omega)
        rw [e, List.drop_drop, if_pos hc1] at h
        exact h
      have HR2 := Lib.hid hr3
      clear hr2 hr3
      by_cases hv : v = ⟨#[]⟩
      · subst hv
        have hE2 := hE1.drewN nq
        have hE3 : Ext No w ((w1.drewN nq).alloc (.cells #[.slice A i i, .slice A2 (l.length - i - 1) 0] 26)) := hE2.alloc _
        have hB := Blk.new (w1.drewN nq) 26 #[.slice A i i, .slice A2 (l.length - i - 1) 0]
        have hcon := concat_walk w1.heap.size A A2 i 0 _ _ (l.take i) (l.drop (i + 1)) _ i (l.length - i - 1) (by first | (simp; done) | (simp; omega)) (by first | (simp; done) | (simp; omega)) (HR1.out.ext hE3 (fun _ _ h => h)) (HR2.out.ext hE3 (fun _ _ h => h)) (hB.cell 0) (hB.cell 1) hB.lt (by first | (simp; done) | (simp; omega))
        have HC := Lib.hid hcon
        have HE3 := Lib.hid hE3
        clear hcon hE3 hB hE2 hE1 hS
        go_wp2_with (go_at_call 37; refine HC.out.mono ?_; rintro e w2 ⟨vs, rfl, hO, hE4⟩)
        go_ret
        exact ⟨_, rfl, by rw [HD.out]; simpa using own_low hO HE3.out.size, HE3.out.trans hE4⟩
      · have HV := Lib.hid (show v.toList.isEmpty = false by rw [Bool.eq_false_iff, ne_eq, List.isEmpty_iff, show ([] : List UInt8) = (⟨#[]⟩ : ByteArray).toList by simp [ByteArray.toList_eq], blist_inj]; exact hv)
        have hE2 := hE1.drewN nq
        obtain ⟨va, w2, hrun, hOa, hEa⟩ := run_append_full (P := Tryd.prog) ((w1.drewN nq).alloc (.cells #[.string n, .string v] 58)) w.heap.size 26 26 58 2 32 slAt _ _ A i _ (HR1.out.ext (hE2.alloc (.cells #[.string n, .string v] 58)) (fun _ _ h => h)) (some ⟨w1.heap.size, 0, none⟩) 1 1 (rows At.cells [(⟨n, v⟩ : At)]) (rd_new (w1.drewN nq) _ (rows At.cells [(⟨n, v⟩ : At)]) 1 2 rfl) (by omega) (by simp only [maxLen]; omega) (by omega) (hE2.alloc (.cells #[.string n, .string v] 58)).size
        have hE3 : Ext No w w2 := (hE2.alloc (.cells #[.string n, .string v] 58)).trans hEa
        rw [← rows_append] at hOa
        obtain ⟨Aa, ca, rfl, hca, _, hRa⟩ := own_form hOa
        have hE5 : Ext No w2 (w2.alloc (.cells #[.slice Aa (i + 1) ca, .slice A2 (l.length - i - 1) 0] 26)) := (Ext.refl No w2).alloc _
        have hB := Blk.new w2 26 #[.slice Aa (i + 1) ca, .slice A2 (l.length - i - 1) 0]
        have hcon := concat_walk w2.heap.size Aa A2 ca 0 _ _ (l.take i ++ [(⟨n, v⟩ : At)]) (l.drop (i + 1)) _ (i + 1) (l.length - i - 1) (by first | (simp; done) | (simp; omega)) (by first | (simp; done) | (simp; omega)) (hRa.ext hE5 (fun _ _ h => h)) (HR2.out.ext (hE3.trans hE5) (fun _ _ h => h)) (hB.cell 0) (hB.cell 1) hB.lt (by first | (simp; done) | (simp; omega))
        have HC := Lib.hid hcon
        have HE3 := Lib.hid (hE3.trans hE5)
        have HRUN := Lib.hid hrun
        clear hcon hE3 hB hE2 hE1 hS hE5 hRa hOa hEa hrun
        have hvl : v.toList.isEmpty = false := HV.out
        go_wp2_with first | (go_at_call 37; refine HC.out.mono ?_; rintro e w3 ⟨vs, rfl, hO, hE4⟩) | (at_builtin; refine Lib.wpList_append_run _ rfl (.tmp 33) (.tmp 37) 26 26 rfl (.slice A i i) (.slice (some ⟨w1.heap.size, 0, none⟩) 1 1) rfl rfl _ w2 HRUN.out ?_)
        go_ret
        exact ⟨_, rfl, by rw [HD.out]; simpa [hv] using own_low hO HE3.out.size, HE3.out.trans hE4⟩
    · have hr3 : Rd w (· < w.heap.size) 2 (A2.map (·.add 2)) (l.length - i - 1) (rows At.cells (l.drop (i + 1))) := by
        have h := hr2.cut (k := 1) (cap := c - i) (by omega) (by omega)
        have e := rows_drop At.len (l.drop i) 1 (by simp; omega)
        rw [e, List.drop_drop, if_neg hc1] at h
        exact h
      obtain ⟨b2, o2, rfl, _, _, _⟩ := hr2.get (by omega)
      obtain ⟨A3, hA3⟩ : ∃ A3 : Option Addr, some (⟨b2, o2 + 2, none⟩ : Addr) = A3 := ⟨_, rfl⟩
      have hr4 : Rd w (· < w.heap.size) 2 A3 (l.length - i - 1) (rows At.cells (l.drop (i + 1))) := by rw [← hA3]; exact hr3
      have HR2 := Lib.hid hr4
      clear hr2 hr3 hr4
      by_cases hv : v = ⟨#[]⟩
      · subst hv
        have hE2 := hE1.drewN nq
        have hE3 : Ext No w ((w1.drewN nq).alloc (.cells #[.slice A i i, .slice A3 (l.length - i - 1) (c - i - 1)] 26)) := hE2.alloc _
        have hB := Blk.new (w1.drewN nq) 26 #[.slice A i i, .slice A3 (l.length - i - 1) (c - i - 1)]
        have hcon := concat_walk w1.heap.size A A3 i (c - i - 1) _ _ (l.take i) (l.drop (i + 1)) _ i (l.length - i - 1) (by first | (simp; done) | (simp; omega)) (by first | (simp; done) | (simp; omega)) (HR1.out.ext hE3 (fun _ _ h => h)) (HR2.out.ext hE3 (fun _ _ h => h)) (hB.cell 0) (hB.cell 1) hB.lt (by first | (simp; done) | (simp; omega))
        have HC := Lib.hid hcon
        have HE3 := Lib.hid hE3
        clear hcon hE3 hB hE2 hE1 hS
        go_wp2_with (go_at_call 37; refine HC.out.mono ?_; rintro e w2 ⟨vs, rfl, hO, hE4⟩)
        go_ret
        exact ⟨_, rfl, by rw [HD.out]; simpa using own_low hO HE3.out.size, HE3.out.trans hE4⟩
      · have HV := Lib.hid (show v.toList.isEmpty = false by rw [Bool.eq_false_iff, ne_eq, List.isEmpty_iff, show ([] : List UInt8) = (⟨#[]⟩ : ByteArray).toList by simp [ByteArray.toList_eq], blist_inj]; exact hv)
        have hE2 := hE1.drewN nq
        obtain ⟨va, w2, hrun, hOa, hEa⟩ := run_append_full (P := Tryd.prog) ((w1.drewN nq).alloc (.cells #[.string n, .string v] 58)) w.heap.size 26 26 58 2 32 slAt _ _ A i _ (HR1.out.ext (hE2.alloc (.cells #[.string n, .string v] 58)) (fun _ _ h => h)) (some ⟨w1.heap.size, 0, none⟩) 1 1 (rows At.cells [(⟨n, v⟩ : At)]) (rd_new (w1.drewN nq) _ (rows At.cells [(⟨n, v⟩ : At)]) 1 2 rfl) (by omega) (by simp only [maxLen]; omega) (by omega) (hE2.alloc (.cells #[.string n, .string v] 58)).size
        have hE3 : Ext No w w2 := (hE2.alloc (.cells #[.string n, .string v] 58)).trans hEa
        rw [← rows_append] at hOa
        obtain ⟨Aa, ca, rfl, hca, _, hRa⟩ := own_form hOa
        have hE5 : Ext No w2 (w2.alloc (.cells #[.slice Aa (i + 1) ca, .slice A3 (l.length - i - 1) (c - i - 1)] 26)) := (Ext.refl No w2).alloc _
        have hB := Blk.new w2 26 #[.slice Aa (i + 1) ca, .slice A3 (l.length - i - 1) (c - i - 1)]
        have hcon := concat_walk w2.heap.size Aa A3 ca (c - i - 1) _ _ (l.take i ++ [(⟨n, v⟩ : At)]) (l.drop (i + 1)) _ (i + 1) (l.length - i - 1) (by first | (simp; done) | (simp; omega)) (by first | (simp; done) | (simp; omega)) (hRa.ext hE5 (fun _ _ h => h)) (HR2.out.ext (hE3.trans hE5) (fun _ _ h => h)) (hB.cell 0) (hB.cell 1) hB.lt (by first | (simp; done) | (simp; omega))
        have HC := Lib.hid hcon
        have HE3 := Lib.hid (hE3.trans hE5)
        have HRUN := Lib.hid hrun
        clear hcon hE3 hB hE2 hE1 hS hE5 hRa hOa hEa hrun
        have hvl : v.toList.isEmpty = false := HV.out
        go_wp2_with first | (go_at_call 37; refine HC.out.mono ?_; rintro e w3 ⟨vs, rfl, hO, hE4⟩) | (at_builtin; refine Lib.wpList_append_run _ rfl (.tmp 33) (.tmp 37) 26 26 rfl (.slice A i i) (.slice (some ⟨w1.heap.size, 0, none⟩) 1 1) rfl rfl _ w2 HRUN.out ?_)
        go_ret
        exact ⟨_, rfl, by rw [HD.out]; simpa [hv] using own_low hO HE3.out.size, HE3.out.trans hE4⟩
end Go.Proofs.YtkkgapeghlnbeaaDoor
