/- What the program computes, and the plain laws of it, part 7. -/
import Derived.Test.YthconflkbeipoaaGreatDoorQ6
namespace Go.Proofs.YthconflkbeipoaaGreatDoor
open Go.RowKit
open IntWalk renaming iteOmega → iO, toNatUp → tN
set_option linter.unusedVariables false
set_option linter.unusedSimpArgs false
def upd {α : Type} (f : Nat → α) (k : Nat) (v : α) : Nat → α := fun i => if i = k then v else f i
theorem upd_same {α : Type} (f : Nat → α) (k : Nat) (v : α) : upd f k v k = v := by simp [upd]
theorem upd_ne {α : Type} (f : Nat → α) {k i : Nat} (v : α) (h : i ≠ k) : upd f k v i = f i := by simp [upd, h]
def G.push (Γ : G) (b c : Nat) : G := ⟨Γ.n + 1, upd Γ.β Γ.n b, upd Γ.cap Γ.n c, Γ.I⟩
def G.imm (Γ : G) (b : Nat) : G := ⟨Γ.n, Γ.β, Γ.cap, fun i => Γ.I i ∨ i = b⟩
theorem push_agree (Γ : G) (b c : Nat) : ∀ k, k < Γ.n → Agree Γ (Γ.push b c) k := fun k hk => ⟨by simp [G.push]; omega, upd_ne _ _ (by omega), upd_ne _ _ (by omega)⟩
theorem RO.stay {w w' : World} {Γ Γ' : G} {k : Nat} {o : Ob} (h : RO w Γ k o) (hs : Stay w Γ.I w' Γ'.I) (ha : ∀ j, j < Γ.n → Agree Γ Γ' j) (hk : k < Γ.n) (hb : 0 < Γ.cap k → w'.heap[Γ.β k]? = w.heap[Γ.β k]?) : RO w' Γ' k o := by
  obtain ⟨_, h2, h3⟩ := ha k hk
  cases o with
  | box ty cs =>
    obtain ⟨h0, xs, h4, h5, h6⟩ := h
    exact ⟨by rw [h3]; exact h0, xs, by rw [h2]; exact (hb h0).trans h4, re_stay h5 hs fun j hj => ha j (re_lt h5 j hj), by unfold Room; rw [h3]; exact h6⟩
  | arr el sz rows =>
    obtain ⟨h4, h5, h6, h7⟩ := h
    refine ⟨h4, h5, by rw [h3]; exact h6, fun hc => ?_⟩
    rw [h3] at hc ⊢
    obtain ⟨cur, g1, g2, g3, g4, g5⟩ := h7 hc
    exact ⟨cur, by rw [h2]; exact (hb hc).trans g1, g2, g3, g4, g5.mono fun _ _ => RD.stay hs _ _⟩
  | map kk ag es =>
    obtain ⟨h0, ms, ck, h4, h5⟩ := h
    exact ⟨by rw [h3]; exact h0, ms, ck, by rw [h2]; exact (hb h0).trans h4, h5.stay hs⟩
  | loop l L t =>
    obtain ⟨h0, h1, tm, h4, h5, h6⟩ := h
    refine ⟨by rw [h3]; exact h0, by rw [h2]; exact h1, tm, ?_, h5, fun i q hq => ⟨(h6 i q hq).1, (h6 i q hq).2.stay hs fun j hj => ha j ((h6 i q hq).2.lt j hj)⟩⟩
    have := hb h0
    rw [h1] at this
    exact this.trans h4
theorem mine_lt {Γ : G} {os : List Ob} {w : World} (hm : MemOk Γ os w) {k : Nat} (hk : k < Γ.n) (hc : 0 < Γ.cap k) : Γ.β k < w.heap.size := by
  have hk' : k < os.length := by rw [← hm.n]; exact hk
  have := hm.ob k _ (List.getElem?_eq_getElem hk')
  generalize os[k] = o at this
  cases o with
  | box ty cs => obtain ⟨_, xs, h, _⟩ := this; exact h.lt
  | arr el sz rows => obtain ⟨_, _, _, h⟩ := this; obtain ⟨cur, h, _⟩ := h hc; exact h.lt
  | map kk ag es => obtain ⟨_, ms, ck, h, _⟩ := this; exact (Array.getElem?_eq_some_iff.1 h).1
  | loop l L t => obtain ⟨_, h1, tm, h, _⟩ := this; rw [h1]; exact (Array.getElem?_eq_some_iff.1 h).1
theorem MemOk.same {Γ : G} {os : List Ob} {w w' : World} (hm : MemOk Γ os w) (h : Same w w') : MemOk Γ os w' := by
  refine ⟨hm.n, fun k o ho => ?_, hm.sep, hm.off, fun b hb => Nat.lt_of_lt_of_le (hm.lt b hb) h.size, hm.pins (h.stay Γ.I)⟩
  have hk : k < Γ.n := by rw [hm.n]; exact (List.getElem?_eq_some_iff.1 ho).1
  exact (hm.ob k o ho).stay (h.stay Γ.I) (fun j hj => ⟨hj, rfl, rfl⟩) hk fun hc => h.block _ (mine_lt hm hk hc)
theorem MemOk.push {Γ : G} {os : List Ob} {w w' : World} (hm : MemOk Γ os w) (h : Same w w') (o : Ob) (b c : Nat) (hro : RO w' (Γ.push b c) Γ.n o) (hb : 0 < c → w.heap.size ≤ b) : MemOk (Γ.push b c) (os ++ [o]) w' := by
  have hag := push_agree Γ b c
  refine ⟨by simp [G.push, hm.n], fun k o' ho => ?_, fun k k' hk hk' hc hc' he => ?_, fun k hk hc => ?_, fun b' hb' => Nat.lt_of_lt_of_le (hm.lt b' hb') h.size, hm.pins (h.stay Γ.I)⟩
  · rcases Nat.lt_or_ge k os.length with hlt | hge
    · rw [List.getElem?_append_left hlt] at ho
      have hk : k < Γ.n := by rw [hm.n]; exact hlt
      exact (hm.ob k o' ho).stay (h.stay Γ.I) hag hk fun hc => h.block _ (mine_lt hm hk hc)
    · rw [List.getElem?_append_right hge] at ho
      have : k = os.length := by
        have := (List.getElem?_eq_some_iff.1 ho).1
        simp at this
        omega
      subst this
      simp at ho
      subst ho
      rw [← hm.n]
      exact hro
  · have hk1 : k < Γ.n + 1 := hk
    have hk2 : k' < Γ.n + 1 := hk'
    by_cases e1 : k = Γ.n <;> by_cases e2 : k' = Γ.n
    · omega
    · subst e1
      have hk'' : k' < Γ.n := by omega
      simp only [G.push, upd_same, upd_ne _ _ e2] at he hc hc'
      have := mine_lt hm hk'' hc'
      have := hb hc
      omega
    · subst e2
      have hk'' : k < Γ.n := by omega
      simp only [G.push, upd_same, upd_ne _ _ e1] at he hc hc'
      have := mine_lt hm hk'' hc
      have := hb hc'
      omega
    · simp only [G.push, upd_ne _ _ e1, upd_ne _ _ e2] at he hc hc'
      exact hm.sep k k' (by omega) (by omega) hc hc' he
  · have hk1 : k < Γ.n + 1 := hk
    by_cases e1 : k = Γ.n
    · subst e1
      simp only [G.push, upd_same] at hc ⊢
      intro hI
      have := hm.lt _ hI
      have := hb hc
      omega
    · simp only [G.push, upd_ne _ _ e1] at hc ⊢
      exact hm.off k (by omega) hc
theorem grow_push {p : Nat} {Γ : G} {os : List Ob} {w w' : World} (hm : MemOk Γ os w) (h : Ext No w w') (b c : Nat) (hb : 0 < c → w.heap.size ≤ b) (hp : p ≤ Γ.n) : Grow p Γ w (Γ.push b c) w' := by
  refine ⟨h.no, fun _ h => h, fun k hk hc => ?_, fun _ h => .inl h, fun k hk => ⟨upd_ne _ _ (by omega), upd_ne _ _ (by omega)⟩⟩
  have hk1 : k < Γ.n + 1 := hk
  by_cases e1 : k = Γ.n
  · subst e1
    simp only [G.push, upd_same] at hc ⊢
    exact .inr (hb hc)
  · simp only [G.push, upd_ne _ _ e1] at hc ⊢
    exact .inl ⟨k, by omega, hc, rfl⟩
theorem MemOk.imm {Γ : G} {os : List Ob} {w w' : World} (hm : MemOk Γ os w) (h : Same w w') (b : Nat) (h1 : w.heap.size ≤ b) (h2 : b < w'.heap.size) : MemOk (Γ.imm b) os w' := by
  have hm' := hm.same h
  refine ⟨hm.n, fun k o ho => ?_, hm.sep, fun k hk hc => ?_, fun b' hb' => ?_, hm.pins (Γ' := Γ.imm b) ⟨h.size, fun b' _ hb' => h.block b' hb', fun _ h => .inl h⟩⟩
  · have hk : k < Γ.n := by rw [hm.n]; exact (List.getElem?_eq_some_iff.1 ho).1
    exact (hm'.ob k o ho).stay (w' := w') (Γ' := Γ.imm b) ⟨Nat.le_refl _, fun _ _ _ => rfl, fun _ h => .inl h⟩ (fun j hj => ⟨hj, rfl, rfl⟩) hk fun _ => rfl
  · rintro (hI | hI)
    · exact hm.off k hk hc hI
    · have h3 : Γ.β k < w.heap.size := mine_lt hm hk hc
      have h4 : Γ.β k = b := hI
      omega
  · rcases hb' with hb' | rfl
    · exact Nat.lt_of_lt_of_le (hm.lt _ hb') h.size
    · exact h2
theorem grow_imm {p : Nat} {Γ : G} {w w' : World} (h : Ext No w w') (b : Nat) (h1 : w.heap.size ≤ b) : Grow p Γ w (Γ.imm b) w' := by
  refine ⟨h.no, fun _ h => .inl h, fun k hk hc => .inl ⟨k, hk, hc, rfl⟩, fun b' hb' => ?_, fun k _ => ⟨rfl, rfl⟩⟩
  rcases hb' with hb' | rfl
  · exact .inl hb'
  · exact .inr (.inr h1)
theorem imm_stay {Γ : G} {w w' : World} (h : Same w w') (b : Nat) : Stay w Γ.I w' (Γ.imm b).I := ⟨h.size, fun b' _ hb' => h.block b' hb', fun _ h => .inl h⟩
theorem MemOk.set_ {Γ : G} {os : List Ob} {w w' : World} (hm : MemOk Γ os w) {k : Nat} (hk : k < Γ.n) (hc : 0 < Γ.cap k) (h : Ext (· = Γ.β k) w w') (o : Ob) (hro : RO w' Γ k o) : MemOk Γ (os.set k o) w' ∧ Stay w Γ.I w' Γ.I := by
  have hs : Stay w Γ.I w' Γ.I := ⟨h.size, fun b hb hl => h.block b hl fun e => hm.off k hk hc (e ▸ hb), fun _ h => h⟩
  refine ⟨⟨by simp [hm.n], fun j o' ho => ?_, hm.sep, hm.off, fun b hb => Nat.lt_of_lt_of_le (hm.lt b hb) h.size, hm.pins hs⟩, hs⟩
  by_cases e : k = j
  · subst e
    rw [List.getElem?_set_self (by rw [← hm.n]; exact hk)] at ho
    cases ho
    exact hro
  · rw [List.getElem?_set_ne e] at ho
    have hj : j < Γ.n := by rw [hm.n]; exact (List.getElem?_eq_some_iff.1 ho).1
    exact (hm.ob j o' ho).stay hs (fun i hi => ⟨hi, rfl, rfl⟩) hj fun hcj => h.block _ (mine_lt hm hj hcj) fun e' => e (hm.sep k j hk hj hc hcj e'.symm)
theorem grow_set {p : Nat} {Γ : G} {w w' : World} {k : Nat} (hk : k < Γ.n) (hc : 0 < Γ.cap k) (h : Ext (· = Γ.β k) w w') : Grow p Γ w Γ w' :=
  ⟨h.mono fun b hb => ⟨k, hk, hc, hb.symm⟩, fun _ h => h, fun j hj hcj => .inl ⟨j, hj, hcj, rfl⟩, fun _ h => .inl h, fun _ _ => ⟨rfl, rfl⟩⟩
theorem Inv.heap {N : Nat} {Γ Γ' : G} {s : S} {a : Act} {w w' : World} {os : List Ob} (hI : Inv N Γ s a w) (hm : MemOk Γ' os w') (hs : Stay w Γ.I w' Γ'.I) (ha : ∀ j, j < Γ.n → Agree Γ Γ' j) : Inv N Γ' ⟨s.t, os⟩ a w' :=
  ⟨hI.size, hI.defers, fun i q hq => ⟨(hI.t i q hq).1, (hI.t i q hq).2.stay hs fun k hk => ha k ((hI.t i q hq).2.lt k hk)⟩, hm⟩
theorem Inv.same {N : Nat} {Γ : G} {s : S} {a : Act} {w w' : World} (hI : Inv N Γ s a w) (h : Same w w') : Inv N Γ s a w' := hI.heap (hI.m.same h) (h.stay Γ.I) fun j hj => ⟨hj, rfl, rfl⟩
end Go.Proofs.YthconflkbeipoaaGreatDoor
