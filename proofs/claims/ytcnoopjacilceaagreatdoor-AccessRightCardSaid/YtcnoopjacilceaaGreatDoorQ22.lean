/- What the program computes, and the plain laws of it, part 22. -/
import Derived.Test.YtcnoopjacilceaaGreatDoorQ19
namespace Go.Proofs.YtcnoopjacilceaaGreatDoor
open Go.RowKit
open IntWalk renaming iteOmega → iO, toNatUp → tN
set_option linter.unusedVariables false
set_option linter.unusedSimpArgs false
theorem rp_vals {w : World} {Γ : G} : ∀ {vs xs : List Value}, All2 (RP w Γ) (vs.map fun v => .c (.v v)) xs → xs = vs
  | [], _, h => by rw [List.map_nil, All2.nil_l] at h; exact h
  | v :: vs, xs, h => by
    rw [List.map_cons, All2.cons_l] at h
    obtain ⟨y, m, rfl, h1, h2⟩ := h
    rw [rp_vals h2, h1.1]
theorem ext_of_below {w w' : World} (hB : Below w.heap.size w w') : Ext No w w' := ⟨hB.os, hB.tape, hB.output, hB.size, fun k hk _ => hB.block k hk⟩
theorem pcalls_plain {P : Program} {g : FuncId} (vs : List Value) (v : Value) (hv : v.oneCell' = true) (h : ∀ w, Pin w → Calls P g vs.toArray w fun e w' => e = .returned v ∧ Below w.heap.size w w') :
    PCalls P g (vs.map fun v => .c (.v v)) [] fun r os => r = .c (.v v) ∧ os = [] := fun Γ w xs hm hx => by
  rw [rp_vals hx]
  refine (h w hm.pin.1).mono ?_
  rintro e w' ⟨rfl, hB⟩
  have hE := ext_of_below hB
  exact ⟨_, [], Γ, _, rfl, ⟨rfl, rfl⟩, ⟨rfl, hv⟩, Nat.le_refl _, hm.same (Same.of_ext hE), ext_grow hE⟩
theorem pcalls_plain2 {P : Program} {g : FuncId} (vs : List Value) (v u : Value) (hv : v.oneCell' = true) (hu : u.oneCell' = true) (h : ∀ w, Pin w → Calls P g vs.toArray w fun e w' => e = .returned (.tuple #[v, u]) ∧ Below w.heap.size w w') :
    PCalls P g (vs.map fun v => .c (.v v)) [] fun r os => r = .two (.c (.v v)) (.c (.v u)) ∧ os = [] := fun Γ w xs hm hx => by
  rw [rp_vals hx]
  refine (h w hm.pin.1).mono ?_
  rintro e w' ⟨rfl, hB⟩
  have hE := ext_of_below hB
  exact ⟨_, [], Γ, _, rfl, ⟨rfl, rfl⟩, ⟨_, _, rfl, ⟨rfl, hv⟩, ⟨rfl, hu⟩⟩, Nat.le_refl _, hm.same (Same.of_ext hE), ext_grow hE⟩
theorem pcalls_row {P : Program} {g : FuncId} (vs : List Value) (T : TypeId) (rows : List (List D)) (cells : List Value) (sz : Nat) (hsz : 0 < sz) (hr : ∀ r ∈ rows, r.length = sz) (hn : 0 < rows.length) (hc : ∀ w I, All2 (RD w I) rows.flatten cells)
    (h : ∀ w, Pin w → Calls P g vs.toArray w fun e w' => ∃ v, e = .returned v ∧ w'.ownsRow w.heap.size T sz v rows.length cells ∧ Below w.heap.size w w') :
    PCalls P g (vs.map fun v => .c (.v v)) [] fun r os => r = .c (.own 0 rows.length) ∧ os = [.arr T sz rows] := fun Γ w xs hm hx => by
  rw [rp_vals hx]
  refine (h w hm.pin.1).mono ?_
  rintro e w' ⟨v, rfl, hrow, hB⟩
  have hE := ext_of_below hB
  have hS := Same.of_ext hE
  have hn0 : Γ.n = 0 := hm.n
  obtain ⟨b, c, rfl, h4, h5, h6, h7, h8, h9⟩ := arr_of_own (k := Γ.n) (Γ := Γ) (rows := rows) hrow hn hsz hr rfl
  have hro := h9 (Γ.push b c) (by simp [G.push, upd_same]) (by simp [G.push, upd_same]) (hc _ _)
  refine ⟨_, _, Γ.push b c, _, rfl, ⟨rfl, rfl⟩, ?_, by simp, hm.push hS _ b c hro (fun _ => h6), grow_push hm hE b c (fun _ => h6) (Nat.zero_le _)⟩
  have hrep : OwnRep (Γ.push b c) Γ.n rows.length (.slice (some ⟨b, 0, none⟩) rows.length c) := .inr ⟨by simp [G.push, upd_same, h4], by simp [G.push, upd_same], by simp [G.push, upd_same]; exact h5⟩
  rw [hn0] at hrep
  exact ⟨by simp [G.push, hn0], hrep⟩
end Go.Proofs.YtcnoopjacilceaaGreatDoor
