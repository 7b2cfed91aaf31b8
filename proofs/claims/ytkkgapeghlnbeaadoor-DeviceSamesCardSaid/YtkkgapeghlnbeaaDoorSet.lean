/- device.Set: the search, slices.Concat and Grow, and what Set returns. -/
import Derived.Test.YtkkgapeghlnbeaaDoorAttr
import Derived.Test.YtkkgapeghlnbeaaDoorShelfC
import Derived.Test.YtkkgapeghlnbeaaDoorSetA
import Derived.Lib.AppendZerosOnto
namespace Go.Proofs.YtkkgapeghlnbeaaDoor
open Go.RowKit
set_option linter.unusedVariables false
set_option linter.unusedSimpArgs false

/-! ### where a name stands, and what Set returns -/
theorem asc_lt {l : List At} (h : Asc l) : ∀ {i j : Nat} (hij : i < j) (hj : j < l.length), bless (l[i]'(by omega)).name l[j].name = true := by
  intro i j hij
  induction j with
  | zero => omega
  | succ j ih =>
    intro hj
    rcases Nat.lt_or_ge i j with h1 | h1
    · exact bless_trans (ih h1 (by omega)) (h j hj)
    · have : i = j := by omega
      subst this
      exact h i hj
def pos (l : List At) (n : ByteArray) : Nat := (l.takeWhile fun x => bless x.name n).length
def hit (l : List At) (n : ByteArray) : Bool := match l[pos l n]? with
  | some x => decide (x.name = n)
  | none => false
theorem pos_le (l : List At) (n : ByteArray) : pos l n ≤ l.length := (List.takeWhile_prefix _).length_le
theorem pos_of {l : List At} {n : ByteArray} {i : Nat} (hi : i ≤ l.length) (h1 : ∀ t (h : t < i), bless (l[t]'(by omega)).name n = true) (h2 : ∀ h : i < l.length, bless l[i].name n = false) : pos l n = i := by
  induction l generalizing i with
  | nil => simp at hi; subst hi; rfl
  | cons a l ih =>
    cases i with
    | zero =>
      have := h2 (by simp)
      simp only [List.getElem_cons_zero] at this
      simp [pos, this]
    | succ i =>
      have h0 := h1 0 (by omega)
      simp only [List.getElem_cons_zero] at h0
      have := ih (i := i) (by simpa using hi) (fun t h => by simpa using h1 (t + 1) (by omega)) (fun h => h2 (Nat.succ_lt_succ h))
      simp only [pos] at this ⊢
      simp [h0, this]
def devSet (l : List At) (n v : ByteArray) : List At :=
  l.take (pos l n) ++ (if v = ⟨#[]⟩ then [] else [⟨n, v⟩]) ++ l.drop (if hit l n then pos l n + 1 else pos l n)
theorem hit_lt {l : List At} {n : ByteArray} (h : hit l n = true) : pos l n < l.length := by
  unfold hit at h
  split at h
  · rename_i x hx
    exact (List.getElem?_eq_some_iff.1 hx).1
  · cases h
theorem hit_get {l : List At} {n : ByteArray} (h : pos l n < l.length) : hit l n = decide (l[pos l n].name = n) := by
  unfold hit
  rw [List.getElem?_eq_getElem h]

/-! ### the walks -/
theorem closure_walk (x : At) (n : ByteArray) (w : World) :
    Calls Tryd.prog 35 #[.agg #[.string x.name, .string x.value], .string n] w fun e w' => e = .returned (.int .i64 (cmp3 x.name n)) ∧ Ext No w w' := by
  go_enter Tryd.func35, Tryd.ntmps35
  go_wp2_with (go_at_call 36; refine (strings_Compare _ _ _).mono ?_; rintro e w' ⟨rfl, rfl⟩)
  go_ret
  exact ⟨rfl, (Ext.refl No w).alloc _⟩

set_option maxHeartbeats 1000000 in
theorem search_walk (P : Nat → Prop) (A : Option Addr) (c : Nat) (l : List At) (n : ByteArray) (w : World) (hl : Rd w P 2 A l.length (rows At.cells l)) (hb : l.length ≤ 1099511627776) (hasc : Asc l) :
    Calls Tryd.prog 34 #[.slice A l.length c, .string n, .func (.func 35) #[] #[]] w fun e w' =>
      e = .returned (.tuple #[.int .i64 (pos l n : Int), .bool (hit l n)]) ∧ Ext No w w' := by
  have eg : ∀ args w, (callFunc 35 args).run Tryd.prog w = .ok (.enter 35 args) w := enters_of Tryd.func35 (by kernel_rfl) rfl
  have HA := Lib.hid hl.lt
  have HS := Lib.hid hasc
  clear hl hasc
  go_enter Tryd.func34, Tryd.ntmps34
  go_wp2
  go_loopw [9, 10] (fun i j wr => ∃ lo hi : Nat, i = .int .i64 (lo : Int) ∧ j = .int .i64 (hi : Int) ∧ lo ≤ hi ∧ hi ≤ l.length ∧ (∀ t (h : t < lo) (h' : t < l.length), bless l[t].name n = true) ∧ (∀ t (h : hi ≤ t) (h' : t < l.length), bless l[t].name n = false) ∧ Ext No w wr) (fun i j _ => (intOf j).toNat - (intOf i).toNat)
  case atStart => exact ⟨0, l.length, rfl, rfl, Nat.zero_le _, Nat.le_refl _, fun t h => absurd h (by omega), fun t h h' => absurd h' (by omega), Ext.refl _ _⟩
  case round =>
    obtain ⟨lo, hi, rfl, rfl, hlh, hin, h1, h2, hE⟩ := hrel
    have H1 := Lib.hid h1
    have H2 := Lib.hid h2
    have HE := Lib.hid hE
    clear h1 h2 hE
    by_cases hlt : lo < hi
    · obtain ⟨b1, o1, rfl, _, hbs, a0, a1⟩ := rd_at (HA.out.ext HE.out (fun _ _ h => h)) (k := (lo + hi) / 2) (by omega)
      obtain ⟨x, hx⟩ : ∃ x, x = l[(lo + hi) / 2] := ⟨_, rfl⟩
      rw [← hx] at a0 a1
      have HX := Lib.hid hx
      clear hx
      by_cases hyx : cmp3 x.name n < 0
      · go_wp2_with (go_at_fn 35; refine (closure_walk x n wr).mono ?_; rintro e w1 ⟨rfl, hE1⟩)
        go_roundw
        case rel =>
          have hh := (cmp3_lt _ _).1 hyx
          refine ⟨(lo + hi) / 2 + 1, hi, by rw [show ((lo : Int) + (hi : Int)) / 2 + 1 = (((lo + hi) / 2 + 1 : Nat) : Int) by omega], rfl, by omega, hin, fun t ht ht' => ?_, H2.out, HE.out.trans hE1⟩
          rcases Nat.lt_or_ge t ((lo + hi) / 2) with h | h
          · exact bless_trans (asc_lt HS.out h (by omega)) (by rw [← HX.out]; exact hh)
          · have : t = (lo + hi) / 2 := by omega
            subst this
            rw [← HX.out]; exact hh
        case measure => simp [intOf]; omega
      · go_wp2_with (go_at_fn 35; refine (closure_walk x n wr).mono ?_; rintro e w1 ⟨rfl, hE1⟩)
        go_roundw
        case rel =>
          have hh : bless x.name n = false := by rw [Bool.eq_false_iff, ne_eq, ← cmp3_lt]; omega
          refine ⟨lo, (lo + hi) / 2, rfl, by rw [show ((lo : Int) + (hi : Int)) / 2 = (((lo + hi) / 2 : Nat) : Int) by omega], by omega, by omega, H1.out, fun t ht ht' => ?_, HE.out.trans hE1⟩
          rw [HX.out] at hh
          rcases Nat.lt_or_ge ((lo + hi) / 2) t with h | h
          · rw [Bool.eq_false_iff]
            intro hc
            rw [bless_trans (asc_lt HS.out h ht') hc] at hh
            cases hh
          · have : t = (lo + hi) / 2 := by omega
            subst this
            exact hh
        case measure => simp [intOf]; omega
    · obtain rfl : hi = lo := by omega
      have hpos : pos l n = hi := pos_of hin (fun t h => H1.out t h (by omega)) (fun h => H2.out hi (Nat.le_refl _) h)
      have HP := Lib.hid hpos
      clear hpos
      by_cases hn : hi < l.length
      · obtain ⟨b1, o1, rfl, _, hbs, a0, a1⟩ := rd_at (HA.out.ext HE.out (fun _ _ h => h)) (k := hi) hn
        have hhit : hit l n = decide (l[hi].name = n) := by
          have hp := HP.out
          subst hp
          exact hit_get hn
        obtain ⟨x, hx⟩ : ∃ x, x = l[hi] := ⟨_, rfl⟩
        rw [← hx] at a0 a1 hhit
        have HH := Lib.hid hhit
        clear hx hhit
        by_cases hyx : cmp3 x.name n = 0
        · have hq : hit l n = true := by rw [HH.out]; simpa using (cmp3_eq _ _).1 hyx
          have HQ := Lib.hid hq
          clear hq
          go_wp2_with (go_at_fn 35; refine (closure_walk x n wr).mono ?_; rintro e w1 ⟨rfl, hE1⟩)
          go_ret2
          exact ⟨by rw [HP.out, HQ.out]; rfl, HE.out.trans hE1⟩
        · have hq : hit l n = false := by rw [HH.out]; simpa using fun h => hyx ((cmp3_eq _ _).2 h)
          have HQ := Lib.hid hq
          clear hq
          go_wp2_with (go_at_fn 35; refine (closure_walk x n wr).mono ?_; rintro e w1 ⟨rfl, hE1⟩)
          go_ret2
          have hz : (cmp3 x.name n == 0) = false := by simpa using hyx
          exact ⟨by rw [HP.out, HQ.out]; show Ending.returned (Value.tuple #[.int .i64 (hi : Int), .bool (cmp3 x.name n == 0)]) = _; rw [hz], HE.out.trans hE1⟩
      · have hq : hit l n = false := by
          unfold hit
          rw [HP.out, List.getElem?_eq_none (by omega)]
        have HQ := Lib.hid hq
        clear hq
        go_wp2
        go_ret2
        exact ⟨by rw [HP.out, HQ.out]; rfl, HE.out⟩

set_option maxRecDepth 1000000 in
theorem grow_walk (n : Nat) (w : World) (hn : n ≤ 1099511627776) :
    Calls Tryd.prog 59 #[.slice none 0 0, .int .i64 (n : Int)] w fun e w' => ∃ vs, e = .returned vs ∧ w'.ownsRow w.heap.size 58 2 vs 0 [] ∧ Ext No w w' := by
  by_cases h0 : n = 0
  · subst h0
    go_enter Tryd.func59, Tryd.ntmps59
    go_wp2
    go_ret
    exact ⟨_, rfl, own_nil _ _ _ _, Ext.refl _ _⟩
  · obtain ⟨i, hi, hz, hs, hb⟩ := info_parts infoAt
    have hrun := Lib.run_append_nil_zeros (P := Tryd.prog) w 26 3 26 58 i _ .i64 .i64 Tryd.underlying26 Tryd.underlying3 hi hz n (by omega) (by rw [hs]; decide) (by omega) (by rw [hb]; omega)
    have hown : (w.drew.alloc (.cells (Builtin.zeroCells (Value.agg #[.string ByteArray.empty, .string ByteArray.empty]).cells n ++ Builtin.zeroCells (Value.agg #[.string ByteArray.empty, .string ByteArray.empty]).cells (grownCap w n 0 58 - n)) 58)).ownsRow w.heap.size 58 2 (.slice (some ⟨w.heap.size, 0, none⟩) 0 (grownCap w n 0 58)) 0 [] := by
      have hge := grownCap_ge w n 0 58
      have hcm : grownCap w n 0 58 ≤ maxLen := grownCap_le_maxLen w n 0 58 (by simp only [maxLen]; omega)
      refine ⟨rfl, .inr ⟨w.heap.size, _, _, rfl, Nat.le_refl _, heap_alloc_new w.drew _, Nat.zero_le _, hcm, ?_, by simp⟩⟩
      simp only [Array.size_append, size_zeroCells]
      show n * 2 + (grownCap w n 0 58 - n) * 2 = _
      omega
    have hE : Ext No w (w.drew.alloc (.cells (Builtin.zeroCells (Value.agg #[.string ByteArray.empty, .string ByteArray.empty]).cells n ++ Builtin.zeroCells (Value.agg #[.string ByteArray.empty, .string ByteArray.empty]).cells (grownCap w n 0 58 - n)) 58)) := (Ext.refl No w).drew.alloc _
    generalize w.drew.alloc (.cells (Builtin.zeroCells (Value.agg #[.string ByteArray.empty, .string ByteArray.empty]).cells n ++ Builtin.zeroCells (Value.agg #[.string ByteArray.empty, .string ByteArray.empty]).cells (grownCap w n 0 58 - n)) 58) = W1 at hrun hown hE
    have hcap := grownCap_ge w n 0 58
    generalize grownCap w n 0 58 = cap at hrun hown hcap
    have HR := Lib.hid hrun
    have HO := Lib.hid hown
    have HE := Lib.hid hE
    clear hrun hown hE hi hz hs hb
    go_enter Tryd.func59, Tryd.ntmps59
    go_wp2_with (at_builtin; refine Lib.wpList_append_run _ rfl (.tmp 20) (.tmp 21) 26 3 rfl (.slice none 0 0) (.int .i64 (n : Int)) rfl rfl _ W1 HR.out ?_)
    go_ret
    exact ⟨_, rfl, HO.out, HE.out⟩
end Go.Proofs.YtkkgapeghlnbeaaDoor
