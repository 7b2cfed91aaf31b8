/- Tape.One; the law's attrs. -/
import Derived.Test.YtkkgapeghlnbeaaDoorSetP
import Derived.Test.YtkkgapeghlnbeaaDoorTape
namespace Go.Proofs.YtkkgapeghlnbeaaDoor
open Go.RowKit
set_option linter.unusedVariables false
set_option linter.unusedSimpArgs false

theorem one_walk (T : TypeId) (b k : Nat) (L : List Int) (Q : Nat → Prop) (A : Option Addr) (c : Nat) (s : List ByteArray) (n : Nat) (hns : s.length = n) (w : World) (ht : TapeIs T w b L k) (hk : k < 1000000) (hs : Rd w Q 1 A n (rows strCells s)) (hQ : ∀ i, Q i → i ≠ b) (h0 : 0 < n) (hn : n ≤ 1000000) :
    Calls Tryd.prog 12 #[.pointer (some ⟨b, 0, none⟩), .slice A n c] w fun e w' => (∃ x ∈ s, e = .returned (.string x)) ∧ TapeIs T w' b L (k + 1) ∧ Ext (· = b) w w' := by
  subst hns
  have hbd := fold_bd (tapeAt L k) s.length (by omega)
  have hnx := next_walk T b k L s.length w ht hk (by omega)
  obtain ⟨i, hi⟩ : ∃ i : Nat, fold (tapeAt L k) s.length = i := ⟨(fold (tapeAt L k) s.length).toNat, by omega⟩
  rw [hi] at hnx hbd
  have HS := Lib.hid hs
  clear hs ht hi
  go_enter Tryd.func12, Tryd.ntmps12
  go_wp2_with (go_at_call 11; refine hnx.mono ?_; rintro e w1 ⟨rfl, hT1, hE1⟩; obtain ⟨b1, o1, rfl, hb1, hs1, a0⟩ := rd_st (HS.out.ext hE1 hQ) (k := i) (by omega))
  go_ret
  exact ⟨⟨s[i], List.getElem_mem _, rfl⟩, hT1, hE1⟩

/-- what attrs makes: an ascending list, no value empty -/
structure Made (l : List At) (n : Nat) : Prop where
  len : l.length ≤ n
  up : l.Pairwise Up
  full : ∀ x ∈ l, x.value ≠ ⟨#[]⟩
def names5 : List ByteArray := [⟨#[97]⟩, ⟨#[98]⟩, ⟨#[99]⟩, ⟨#[99, 111, 110, 116, 101, 110, 116]⟩, ⟨#[122, 46, 49]⟩]
def vals4 : List ByteArray := [⟨#[49]⟩, ⟨#[50]⟩, ⟨#[120, 32, 121]⟩, ⟨#[37, 36]⟩]
theorem vals4_full : ∀ x ∈ vals4, x ≠ ⟨#[]⟩ := by decide
theorem Made.nil : Made [] 0 := ⟨Nat.le_refl _, List.Pairwise.nil, by simp⟩
theorem Made.ins {l : List At} {n : Nat} (h : Made l n) {a x : ByteArray} (hx : x ≠ ⟨#[]⟩) : Made (insM a x l) (n + 1) := by
  refine ⟨Nat.le_trans (insM_len a x l) (by have := h.len; omega), insM_pw h.up, fun y hy => ?_⟩
  rcases insM_mem hy with rfl | hy
  · exact hx
  · exact h.full y hy

set_option maxHeartbeats 1000000 in
theorem attrs_walk (T : TypeId) (b k : Nat) (L : List Int) (w : World) (ht : TapeIs T w b L k) (hk : k < 100000) :
    Calls Tryd.prog 10 #[.pointer (some ⟨b, 0, none⟩)] w fun e w' => ∃ vs l, e = .returned vs ∧ Made l 4 ∧ w'.ownsRow w.heap.size 58 2 vs l.length (rows At.cells l) ∧ (∃ j, j ≤ k + 9 ∧ TapeIs T w' b L j) ∧ Ext (· = b) w w' := by
  have hbl := ht.lt
  have hbd := fold_bd (tapeAt L k) 5 (by omega)
  have hnx := next_walk T b k L 5 w ht (by omega) (by omega)
  obtain ⟨n, hn⟩ : ∃ i : Nat, fold (tapeAt L k) 5 = i := ⟨(fold (tapeAt L k) 5).toNat, by omega⟩
  rw [hn] at hnx hbd
  clear ht hn
  go_enter Tryd.func10, Tryd.ntmps10
  go_wp2_with (go_at_call 11; refine hnx.mono ?_; rintro e w1 ⟨rfl, hT1, hE1⟩)
  go_loopw [3, 4] (fun vs i wr => ∃ (q : Nat) (l : List At) (j : Nat), q ≤ n ∧ i = .int .i64 (q : Int) ∧ Made l (n - q) ∧ wr.ownsRow w.heap.size 58 2 vs l.length (rows At.cells l) ∧ j + 2 * q ≤ k + 1 + 2 * n ∧ TapeIs T wr b L j ∧ Ext (· = b) w wr) (fun _ i _ => (intOf i).toNat)
  case atStart => exact ⟨n, [], k + 1, Nat.le_refl _, rfl, by rw [Nat.sub_self]; exact Made.nil, own_nil _ _ _ _, by omega, hT1, hE1⟩
  case round =>
    obtain ⟨q, l, j, hq, rfl, hM, hO, hj, hT, hE⟩ := hrel
    have hlen := hM.len
    have HM := Lib.hid hM
    have HO := Lib.hid hO
    have HT := Lib.hid hT
    have HE := Lib.hid hE
    clear hM hO hT hE hT1 hE1 hnx
    by_cases h0 : q = 0
    · subst h0
      go_wp2
      go_ret
      exact ⟨_, l, rfl, ⟨Nat.le_trans hlen (by omega), HM.out.up, HM.out.full⟩, HO.out, ⟨j, by omega, HT.out⟩, HE.out⟩
    · obtain ⟨q', rfl⟩ : ∃ q', q = q' + 1 := ⟨q - 1, by omega⟩
      obtain ⟨A, c, rfl, hc, hlt, hR⟩ := own_form HO.out
      have hbr := HT.out.lt
      have hr1 : Rd (wr.alloc (.cells #[.string ⟨#[97]⟩, .string ⟨#[98]⟩, .string ⟨#[99]⟩, .string ⟨#[99, 111, 110, 116, 101, 110, 116]⟩, .string ⟨#[122, 46, 49]⟩] 9)) (fun b => b = wr.heap.size) 1 (some ⟨wr.heap.size, 0, none⟩) 5 (rows strCells names5) := rd_new wr _ (rows strCells names5) 5 1 rfl
      have hE1 : Ext No wr (wr.alloc (.cells #[.string ⟨#[97]⟩, .string ⟨#[98]⟩, .string ⟨#[99]⟩, .string ⟨#[99, 111, 110, 116, 101, 110, 116]⟩, .string ⟨#[122, 46, 49]⟩] 9)) := (Ext.refl No wr).alloc _
      have HN1 := Lib.hid (one_walk T b j L _ _ 5 names5 5 rfl _ (HT.out.ext hE1 (fun _ _ h => h)) (by omega) hr1 (fun i hi => by omega) (by omega) (by omega))
      have HE1 := Lib.hid hE1
      have HR := Lib.hid hR
      clear hr1 hE1 hR hlt
      go_wp2_with first
        | (go_at_call 12; refine HN1.out.mono ?_; rintro e w2 ⟨⟨x1, hx1, rfl⟩, hT2, hE2⟩; have hr2 : Rd (w2.alloc (.cells #[.string ⟨#[49]⟩, .string ⟨#[50]⟩, .string ⟨#[120, 32, 121]⟩, .string ⟨#[37, 36]⟩] 9)) (fun b => b = w2.heap.size) 1 (some ⟨w2.heap.size, 0, none⟩) 4 (rows strCells vals4) := rd_new w2 _ (rows strCells vals4) 4 1 rfl; have hE3 : Ext No w2 (w2.alloc (.cells #[.string ⟨#[49]⟩, .string ⟨#[50]⟩, .string ⟨#[120, 32, 121]⟩, .string ⟨#[37, 36]⟩] 9)) := (Ext.refl No w2).alloc _; have HN2 := Lib.hid (one_walk T b (j + 1) L _ _ 4 vals4 4 rfl _ (hT2.ext hE3 (fun _ _ h => h)) (by omega) hr2 (fun i hi => by have := hT2.lt; omega) (by omega) (by omega)); have HE2 := Lib.hid (((HE.out.trans (HE1.out.no)).trans hE2).trans hE3.no); have HR2 := Lib.hid (((HR.out.ext HE1.out (fun _ _ h => h)).ext hE2 (fun i hi h => by omega)).ext hE3 (fun _ _ h => h)); clear hr2 hE3 hE2 hT2 HN1 HE1)
        | (go_at_call 12; refine HN2.out.mono ?_; rintro e w3 ⟨⟨x2, hx2, rfl⟩, hT3, hE3⟩; have HS3 := Lib.hid (refset_walk _ A c l x1 x2 w3 (HR2.out.ext hE3 (fun i hi h => by omega)) (by omega)); have HE3 := Lib.hid (HE2.out.trans hE3); have HT3 := Lib.hid hT3; clear hT3 hE3 HN2 HE2 HR2 HR)
        | (go_at_call 15; refine HS3.out.mono ?_; rintro e w4 ⟨v4, rfl, hO4, hE4⟩)
      have hz3 := HE3.out.size
      rw [refSet_eq ((asc_pw l).2 HM.out.up)] at hO4
      have HO4 := Lib.hid (own_low hO4 hz3)
      have HE4 := Lib.hid (HE3.out.trans hE4.no)
      have HT4 := Lib.hid (HT3.out.ext hE4 (fun _ _ h => h))
      have HM4 := Lib.hid (HM.out.ins (a := x1) (vals4_full x2 hx2))
      clear hO4 hE4 HT3 HE3 HO HE HT
      go_wp2_with fail
      go_roundw
      case rel => exact ⟨q', insM x1 x2 l, j + 2, by omega, by go_num, ⟨by have := HM4.out.len; omega, HM4.out.up, HM4.out.full⟩, HO4.out, by omega, HT4.out, HE4.out⟩
      case measure => first | (simp [intOf]; done) | (simp [intOf]; omega)
end Go.Proofs.YtkkgapeghlnbeaaDoor
