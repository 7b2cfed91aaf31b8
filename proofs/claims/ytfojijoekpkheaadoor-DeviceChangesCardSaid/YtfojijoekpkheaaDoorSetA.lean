/- append onto a slice without room: a new row. No program in sight. -/
import Derived.Test.YtfojijoekpkheaaDoorBase
namespace Go.Proofs.YtfojijoekpkheaaDoor
open Go.RowKit
set_option linter.unusedVariables false
set_option linter.unusedSimpArgs false

/-! ### append onto a slice without room: a new row -/
theorem run_append_full {P : Program} (w : World) (base : Nat) (t ty e : TypeId) (size bytes : Nat) (hT : SlT P t e size bytes)
    (R R' : Nat → Prop) (A : Option Addr) (n : Nat) (xs : List Value) (hx : Rd w R size A n xs) (A' : Option Addr) (m c : Nat) (news : List Value) (hr : Rd w R' size A' m news)
    (h0 : 0 < m) (h63 : n + m ≤ maxLen) (hbytes : (n + m) * bytes ≤ 140737488355328) (hbase : base ≤ w.heap.size) :
    ∃ v' w', (Builtin.append_ #[t, t] ty #[.slice A n n, .slice A' m c]).run P w = .ok v' w' ∧ w'.ownsRow base e size v' (n + m) (xs ++ news) ∧ Ext No w w' := by
  obtain ⟨ht, ⟨i, z, hi, hz, hsize, hby, hzs⟩, hsz⟩ := hT
  subst hsize
  subst hby
  obtain ⟨b', o', rfl, hb', hlt', hc'⟩ := hr.2 h0
  have hsmall : n + m ≤ 9223372036854775807 := by simp only [maxLen] at h63; omega
  have hlen : (xs ++ news).length = (n + m) * i.size := by rw [List.length_append, hx.1, hr.1, Nat.add_mul]
  have hnews : ∀ j u, news[j]? = some u → w.cell? ((⟨b', o', none⟩ : Addr).add j) = some u := fun j u hu => by rw [Addr.add_lit]; exact hc' j u hu
  have grown : (w.drew.alloc (.cells (xs.toArray ++ news.toArray ++ Builtin.zeroCells z.cells (grownCap w (n + m) n e - (n + m))) e)).ownsRow base e i.size
        (.slice (some ⟨w.heap.size, 0, none⟩) (n + m) (grownCap w (n + m) n e)) (n + m) (xs ++ news) := by
    have hge := grownCap_ge w (n + m) n e
    have hcm : grownCap w (n + m) n e ≤ maxLen := grownCap_le_maxLen w (n + m) n e h63
    refine ⟨hlen, .inr ⟨w.heap.size, _, _, rfl, hbase, heap_alloc_new w.drew _, hge, hcm, ?_, ?_⟩⟩
    · simp only [Array.size_append, List.size_toArray, size_zeroCells, hzs, hx.1, hr.1, ← Nat.add_mul]
      congr 1
      omega
    · simp only [Array.toList_append, List.append_assoc]
      rw [← List.append_assoc, ← hlen]
      exact List.take_left
  rcases A with _ | ad
  · have hn : n = 0 := by
      rcases Nat.eq_zero_or_pos n with h | h
      · exact h
      · obtain ⟨b, o, h2, _⟩ := hx.2 h
        cases h2
    subst hn
    have hxs : xs = [] := List.eq_nil_of_length_eq_zero (by simpa using hx.1)
    subst hxs
    have hrun := run_append_nil (P := P) w t ty e i z ht hi hz ⟨b', o', none⟩ m c news hr.1 hnews h0 (by omega) (by have hb := hbytes; simp only [Nat.zero_add] at hb; omega)
    simp only [Nat.zero_add, List.nil_append, Array.empty_append] at grown ⊢
    exact ⟨_, _, hrun, grown, (Ext.refl No w).drew.alloc _⟩
  · have holds : ∀ j u, xs[j]? = some u → w.cell? (ad.add j) = some u := by
      intro j u hu
      rcases Nat.eq_zero_or_pos n with h | h
      · subst h
        have hxs : xs = [] := List.eq_nil_of_length_eq_zero (by simpa using hx.1)
        subst hxs
        simp at hu
      · obtain ⟨b, o, h2, _, _, hc⟩ := hx.2 h
        injection h2 with h2
        subst h2
        rw [Addr.add_lit]
        exact hc j u hu
    have hrun := run_append_grow (P := P) w t ty e i z ht hi hz ad n n xs hx.1 holds ⟨b', o', none⟩ m c news hr.1 hnews (by omega) (by omega) (growslice_fits (by omega) hbytes)
    exact ⟨_, _, hrun, grown, (Ext.refl No w).drew.alloc _⟩

end Go.Proofs.YtfojijoekpkheaaDoor
