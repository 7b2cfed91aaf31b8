/- Walks of coldplugmake.Fold and Tape.Next. -/
import Derived.Test.YtkkgapeghlnbeaaDoorRows
import Derived.Test.YtkkgapeghlnbeaaDoorBase
namespace Go.Proofs.YtkkgapeghlnbeaaDoor
open Go.RowKit
set_option linter.unusedVariables false
set_option linter.unusedSimpArgs false

theorem fold_walk (v n : Int) (w : World) (hv : -9223372036854775808 ≤ v) (hv' : v ≤ 9223372036854775807) (hn : n ≤ 9223372036854775807) :
    Calls Tryd.prog 33 #[.int .i64 v, .int .i64 n] w fun e w' => e = .returned (.int .i64 (fold v n)) ∧ w = w' := by
  by_cases h1 : n ≤ 1
  · go_enter Tryd.func33, Tryd.ntmps33
    go_wp2
    go_ret
    exact ⟨by simp [fold, h1], rfl⟩
  · have hlo := Int.lt_tmod_of_pos v (b := n) (by omega)
    have hhi := Int.tmod_lt_of_pos v (b := n) (by omega)
    by_cases h2 : v.tmod n < 0
    · have H0 : fold v n = v.tmod n + n := by unfold fold; rw [if_neg h1, if_pos h2]
      have H := Lib.hid H0
      clear H0
      go_enter Tryd.func33, Tryd.ntmps33
      go_wp2
      go_ret
      exact ⟨ret_int H.out.symm, rfl⟩
    · have H0 : fold v n = v.tmod n := by unfold fold; rw [if_neg h1, if_neg h2]
      have H := Lib.hid H0
      clear H0
      go_enter Tryd.func33, Tryd.ntmps33
      go_wp2
      go_ret
      exact ⟨ret_int H.out.symm, rfl⟩

theorem tape_step {T : TypeId} {w : World} {b k : Nat} {L : List Int} (h : TapeIs T w b L k) (m : Nat) :
    TapeIs T ((w.setCell ⟨b, 1, none⟩ (.int .i64 ((k : Int) + 1))).drewN m) b L (k + 1) ∧ Ext (· = b) w ((w.setCell ⟨b, 1, none⟩ (.int .i64 ((k : Int) + 1))).drewN m) := by
  have E : Ext (· = b) w ((w.setCell ⟨b, 1, none⟩ (.int .i64 ((k : Int) + 1))).drewN m) := ((Ext.refl (· = b) w).setCell (p := ⟨b, 1, none⟩) (.inl rfl) _).drewN m
  obtain ⟨⟨A, c, hb, hr⟩, h2, h3⟩ := h
  refine ⟨⟨⟨A, c, ?_, hr.ext E fun i hi => Nat.ne_of_lt hi⟩, h2, h3⟩, E⟩
  have := (hb.set_ 1 (.int .i64 ((k : Int) + 1))).drewN m
  simpa using this

theorem next_walk (T : TypeId) (b k : Nat) (L : List Int) (n : Int) (w : World) (ht : TapeIs T w b L k) (hk : k < 1000000) (hn : n ≤ 9223372036854775807) :
    Calls Tryd.prog 11 #[.pointer (some ⟨b, 0, none⟩), .int .i64 n] w fun e w' => e = .returned (.int .i64 (fold (tapeAt L k) n)) ∧ TapeIs T w' b L (k + 1) ∧ Ext (· = b) w w' := by
  have HS := Lib.hid (tape_step ht)
  obtain ⟨⟨A, c, hb, hr⟩, h2, h3⟩ := ht
  have h0 := hb.cell 0
  have h1 := hb.cell 1
  have hf := hb.frozen 1
  simp at h0 h1
  clear hb
  by_cases hlt : k < L.length
  · obtain ⟨bl, ol, rfl, hbl, hbs, hcell⟩ := hr.get (by omega)
    have hcx := hcell k (.int .i64 L[k]) (by simp [hlt])
    obtain ⟨hx1, hx2⟩ := h3 k hlt
    simp [hlt] at hx1 hx2
    have HT0 : tapeAt L k = L[k] := by simp [tapeAt, hlt]
    have HT := Lib.hid HT0
    clear h3 hcell hr HT0
    go_enter Tryd.func11, Tryd.ntmps11
    go_wp2
    go_quiet (fail)
    go_wp2
    go_quiet (fail)
    go_wp2_with (go_at_call 33; refine (fold_walk _ _ _ hx1 hx2 hn).mono ?_; rintro e w' ⟨rfl, rfl⟩)
    go_ret
    exact ⟨ret_int (by rw [HT.out]), HS.out _⟩
  · clear h3 hr
    have HT0 : tapeAt L k = ((k : Int) * 7) % 11 := by simp only [tapeAt, if_neg hlt]
    have HT := Lib.hid HT0
    clear HT0
    go_enter Tryd.func11, Tryd.ntmps11
    go_wp2
    go_quiet (fail)
    go_wp2_with (go_at_call 33; refine (fold_walk _ _ _ (by omega) (by omega) hn).mono ?_; rintro e w' ⟨rfl, rfl⟩)
    go_ret
    exact ⟨ret_int (by rw [HT.out]), HS.out _⟩
end Go.Proofs.YtkkgapeghlnbeaaDoor
