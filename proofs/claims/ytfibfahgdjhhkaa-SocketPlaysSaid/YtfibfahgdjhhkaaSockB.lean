/- SameEvents; the reference's New, Send, Receive; Clone and Copy. -/
import Derived.Test.YtfibfahgdjhhkaaSockR
namespace Go.Proofs.Ytfibfahgdjhhkaa
open Go.RowKit
set_option linter.unusedVariables false
set_option linter.unusedSimpArgs false

theorem slEv : SlT Try.prog 23 42 5 56 := ⟨Try.underlying23, by
  obtain ⟨i, hi, hz, hs, hb⟩ := info_parts infoEv
  exact ⟨i, _, hi, hz, hs, hb, rfl⟩, by decide⟩

theorem rd_ev {w : World} {P : Nat → Prop} {A : Option Addr} {l : List Ev} (h : Rd w P 5 A l.length (flat l)) {k : Nat} (hk : k < l.length) :
    ∃ b o, A = some ⟨b, o, none⟩ ∧ w.cell? ⟨b, o + k * 5, none⟩ = some (.int .i64 l[k].seq) ∧ w.cell? ⟨b, o + k * 5 + 1, none⟩ = some (.int .i64 l[k].act) ∧ w.cell? ⟨b, o + k * 5 + 2, none⟩ = some (.int .i64 l[k].idx) ∧
      w.cell? ⟨b, o + k * 5 + 3, none⟩ = some (.string l[k].path) ∧ w.cell? ⟨b, o + k * 5 + 4, none⟩ = some (.string l[k].old) := by
  obtain ⟨b, o, rfl, _, _, hc⟩ := h.get (by omega)
  have key : ∀ j v, (l[k].cells)[j]? = some v → j < 5 → w.cell? ⟨b, o + k * 5 + j, none⟩ = some v := by
    intro j v hv hj
    rw [Nat.add_assoc]
    refine hc _ v ?_
    rw [flat_get, show (k * 5 + j) / 5 = k by omega, show (k * 5 + j) % 5 = j by omega]
    simp [hk, hv]
  exact ⟨b, o, rfl, key 0 _ rfl (by omega), key 1 _ rfl (by omega), key 2 _ rfl (by omega), key 3 _ rfl (by omega), key 4 _ rfl (by omega)⟩

theorem run_neq_ev (x y : Ev) (W : World) : (binOp .neq 42 x.agg y.agg).run Try.prog W = .ok (.bool (!decide (x = y))) W := by
  unfold Ev.agg
  go_simp
  obtain ⟨x1, x2, x3, x4, x5⟩ := x
  obtain ⟨y1, y2, y3, y4, y5⟩ := y
  simp only [blist_inj, Ev.mk.injEq]
  (repeat' split) <;> simp_all
theorem same_walk (P Q : Nat → Prop) (A B : Option Addr) (c d : Nat) (l m : List Ev) (w : World) (hl : Rd w P 5 A l.length (flat l)) (hm : Rd w Q 5 B m.length (flat m)) (hb : l.length ≤ 9223372036854775807) (hb' : m.length ≤ 9223372036854775807) :
    Calls Try.prog 13 #[.slice A l.length c, .slice B m.length d] w fun e w' => e = .returned (.bool (decide (l = m))) ∧ ∃ n, w' = w.drewN n := by
  by_cases hlen : l.length = m.length
  · have HL := Lib.hid hlen
    have HA := Lib.hid hl
    have HB := Lib.hid hm
    have hq : ((l.length : Int) == (m.length : Int)) = true := by simp [hlen]
    clear hl hm hlen
    go_enter Try.func13, Try.ntmps13
    go_wp2
    go_loopw [5] (fun i wr => ∃ k : Nat, k ≤ l.length ∧ i = .int .i64 (k : Int) ∧ (∀ j, j < k → l[j]? = m[j]?) ∧ ∃ n, wr = w.drewN n) (fun i _ => l.length - (intOf i).toNat)
    case atStart => exact ⟨0, Nat.zero_le _, rfl, fun j h => absurd h (by omega), 0, rfl⟩
    case round =>
      obtain ⟨k, hk, rfl, hsame, n, rfl⟩ := hrel
      have HS := Lib.hid hsame
      clear hsame
      by_cases hlt : k < l.length
      · have hlt2 : k < m.length := by rw [← HL.out]; exact hlt
        obtain ⟨b1, o1, rfl, a0, a1, a2, a3, a4⟩ := rd_ev HA.out hlt
        obtain ⟨b2, o2, rfl, e0, e1, e2, e3, e4⟩ := rd_ev HB.out hlt2
        by_cases hxy : l[k] = m[k]
        · have hrun : ∀ W, (binOp .neq 42 (.agg #[.int .i64 l[k].seq, .int .i64 l[k].act, .int .i64 l[k].idx, .string l[k].path, .string l[k].old]) (.agg #[.int .i64 m[k].seq, .int .i64 m[k].act, .int .i64 m[k].idx, .string m[k].path, .string m[k].old])).run Try.prog W = .ok (.bool false) W := by
            intro W
            exact (run_neq_ev l[k] m[k] W).trans (by simp [hxy])
          have HXY := Lib.hid hxy
          clear hxy
          go_wp2
          go_quiet (fail)
          go_wp2
          go_roundw
          case rel =>
            refine ⟨k + 1, by omega, by go_num, fun j hj => ?_, _, rfl⟩
            by_cases e : j = k
            · subst e; rw [List.getElem?_eq_getElem hlt, List.getElem?_eq_getElem hlt2, HXY.out]
            · exact HS.out j (by omega)
          case measure => simp [intOf]; omega
        · have hrun : ∀ W, (binOp .neq 42 (.agg #[.int .i64 l[k].seq, .int .i64 l[k].act, .int .i64 l[k].idx, .string l[k].path, .string l[k].old]) (.agg #[.int .i64 m[k].seq, .int .i64 m[k].act, .int .i64 m[k].idx, .string m[k].path, .string m[k].old])).run Try.prog W = .ok (.bool true) W := by
            intro W
            exact (run_neq_ev l[k] m[k] W).trans (by simp [hxy])
          have hne : decide (l = m) = false := by
            rw [decide_eq_false_iff_not]
            rintro rfl
            exact hxy rfl
          have HNE := Lib.hid hne
          clear hxy hne
          go_wp2
          go_quiet (fail)
          go_wp2
          go_ret
          exact ⟨ret_bool HNE.out.symm, n + nq, by simp only [World.drewN_drewN]⟩
      · have he : decide (l = m) = true := by
          rw [decide_eq_true_iff]
          apply List.ext_getElem?
          intro j
          by_cases hj : j < k
          · exact HS.out j hj
          · rw [List.getElem?_eq_none (by omega), List.getElem?_eq_none (by have := HL.out; omega)]
        have HE := Lib.hid he
        clear he
        go_wp2
        go_ret
        exact ⟨ret_bool HE.out.symm, _, rfl⟩
  · have hq : ((l.length : Int) == (m.length : Int)) = false := by simp; omega
    have hne : decide (l = m) = false := by
      rw [decide_eq_false_iff_not]
      rintro rfl
      exact hlen rfl
    have HNE := Lib.hid hne
    clear hl hm hlen hne
    go_enter Try.func13, Try.ntmps13
    go_wp2
    go_ret
    exact ⟨ret_bool HNE.out.symm, 0, rfl⟩
end Go.Proofs.Ytfibfahgdjhhkaa
