/- What the program computes, and the plain laws of it, part 27. -/
import Derived.Test.YthconflkbeipoaaGreatDoorQ26
namespace Go.Proofs.YthconflkbeipoaaGreatDoor
open Go.RowKit
open IntWalk renaming iteOmega → iO, toNatUp → tN
set_option linter.unusedVariables false
set_option linter.unusedSimpArgs false
def bef (q j r k : Nat) : Prop := q < r ∨ (q = r ∧ j < k)
def nmAt (l : List Wsh) (i q : Nat) : ByteArray := (l.getD i default).names.getD q default
def LostTo (l : List Wsh) (v : List ByteArray) (i q : Nat) : Prop := ∃ j, j ≠ i ∧ j < l.length ∧ (v.getD j default = nmAt l i q ∧ nmAt l i q ≠ ⟨#[]⟩) ∧ ∃ q', q' < (l.getD j default).names.length ∧ nmAt l j q' = nmAt l i q ∧ bef q' j q i
structure AsgI (l : List Wsh) (r k : Nat) (st : AsgS) : Prop where
  len : st.1.length = l.length
  tk : ∀ s, s ∈ st.2 → s ≠ ⟨#[]⟩ ∧ ∃ i, i < l.length ∧ st.1.getD i default = s
  kt : ∀ i, i < l.length → st.1.getD i default ≠ ⟨#[]⟩ → st.1.getD i default ∈ st.2
  inj : ∀ i j, i < l.length → j < l.length → st.1.getD i default = st.1.getD j default → st.1.getD i default ≠ ⟨#[]⟩ → i = j
  src : ∀ i, i < l.length → st.1.getD i default ≠ ⟨#[]⟩ → ∃ q, bef q i r k ∧ q < (l.getD i default).names.length ∧ nmAt l i q = st.1.getD i default ∧ ∀ p, p < q → LostTo l st.1 i p
  lost : ∀ i, i < l.length → st.1.getD i default = ⟨#[]⟩ → ∀ q, bef q i r k → q < (l.getD i default).names.length → LostTo l st.1 i q
theorem getD_set_eq {α : Type} [Inhabited α] {l : List α} {i : Nat} {x : α} (h : i < l.length) : (l.set i x).getD i default = x := by rw [List.getD_eq_getElem?_getD, List.getElem?_set_self h]; rfl
theorem getD_set_ne {α : Type} [Inhabited α] {l : List α} {i j : Nat} {x : α} (h : i ≠ j) : (l.set i x).getD j default = l.getD j default := by rw [List.getD_eq_getElem?_getD, List.getElem?_set_ne h, ← List.getD_eq_getElem?_getD]
theorem AsgI.start (l : List Wsh) : AsgI l 0 0 (startA l) := by
  have h0 : ∀ i, (startA l).1.getD i default = ⟨#[]⟩ := fun i => by
    unfold startA
    rw [List.getD_eq_getElem?_getD, List.getElem?_replicate]
    split <;> rfl
  refine ⟨by unfold startA; simp, fun s hs => (by unfold startA at hs; cases hs), fun i _ h => absurd (h0 i) h, fun i j _ _ _ h => absurd (h0 i) h, fun i _ h => absurd (h0 i) h, fun i _ _ q hq _ => ?_⟩
  rcases hq with h1 | ⟨_, h1⟩ <;> omega
theorem AsgI.skip {l : List Wsh} {r k : Nat} {st : AsgS} (h : AsgI l r k st) (hk : ¬ r < (l.getD k default).names.length) : AsgI l r (k + 1) st := by
  refine ⟨h.len, h.tk, h.kt, h.inj, fun i hi hv => ?_, fun i hi hv q hq hql => ?_⟩
  · obtain ⟨q, h1, h2⟩ := h.src i hi hv
    refine ⟨q, ?_, h2⟩
    rcases h1 with h1 | ⟨h1, h3⟩
    · exact .inl h1
    · exact .inr ⟨h1, by omega⟩
  · refine h.lost i hi hv q ?_ hql
    rcases hq with h1 | ⟨h1, h3⟩
    · exact .inl h1
    · by_cases e : i = k
      · subst e; subst h1; exact absurd hql hk
      · exact .inr ⟨h1, by omega⟩
theorem AsgI.next {l : List Wsh} {r : Nat} {st : AsgS} (h : AsgI l r l.length st) : AsgI l (r + 1) 0 st := by
  refine ⟨h.len, h.tk, h.kt, h.inj, fun i hi hv => ?_, fun i hi hv q hq hql => ?_⟩
  · obtain ⟨q, h1, h2⟩ := h.src i hi hv
    refine ⟨q, .inl ?_, h2⟩
    rcases h1 with h1 | ⟨h1, h3⟩ <;> omega
  · refine h.lost i hi hv q ?_ hql
    rcases hq with h1 | ⟨h1, h3⟩
    · by_cases e : q = r
      · exact .inr ⟨e, hi⟩
      · exact .inl (by omega)
    · omega
theorem AsgI.step {l : List Wsh} {r k : Nat} {st : AsgS} (h : AsgI l r k st) (hk : k < l.length) (hr : r < (l.getD k default).names.length) (hne : nmAt l k r ≠ ⟨#[]⟩) : AsgI l r (k + 1) (stepW st (k, nmAt l k r)) := by
  have mono : ∀ {q i : Nat}, bef q i r k → bef q i r (k + 1) := fun hq => hq.imp id fun ⟨a, b⟩ => ⟨a, by omega⟩
  by_cases hc : st.1.getD k default = ⟨#[]⟩ ∧ inM (nmAt l k r) st.2 = false
  · have hst : stepW st (k, nmAt l k r) = (st.1.set k (nmAt l k r), addS st.2 (nmAt l k r)) := by unfold stepW; rw [if_pos hc]
    rw [hst]
    obtain ⟨s, hs⟩ : ∃ s, nmAt l k r = s := ⟨_, rfl⟩
    rw [hs] at hne hc ⊢
    have hkl : k < st.1.length := by rw [h.len]; exact hk
    have hself : (st.1.set k s).getD k default = s := getD_set_eq hkl
    have hoth : ∀ i, i ≠ k → (st.1.set k s).getD i default = st.1.getD i default := fun i hi => getD_set_ne (Ne.symm hi)
    have hnot : ∀ i, i < l.length → st.1.getD i default ≠ s := fun i hi e => by
      have := h.kt i hi (by rw [e]; exact hne)
      rw [e] at this
      have h2 := inM_false.1 hc.2
      exact h2 this
    have hlost : ∀ i q, LostTo l st.1 i q → LostTo l (st.1.set k s) i q := fun i q ⟨j, h1, h2, ⟨h3, h3n⟩, q', h4, h5, h6⟩ => by
      refine ⟨j, h1, h2, ⟨?_, h3n⟩, q', h4, h5, h6⟩
      by_cases e : j = k
      · subst e
        rw [hc.1] at h3
        exact absurd h3.symm h3n
      · rw [hoth j e]; exact h3
    refine ⟨by rw [List.length_set]; exact h.len, fun x hx => ?_, fun i hi hv => ?_, fun i j hi hj e hv => ?_, fun i hi hv => ?_, fun i hi hv q hq hql => ?_⟩
    · rcases mem_addS.1 hx with hx | rfl
      · obtain ⟨h1, i, h2, h3⟩ := h.tk x hx
        refine ⟨h1, i, h2, ?_⟩
        by_cases e : i = k
        · subst e; rw [hc.1] at h3; exact absurd h3.symm h1
        · rw [hoth i e]; exact h3
      · exact ⟨hne, k, hk, hself⟩
    · by_cases e : i = k
      · subst e; simp only; rw [hself]; exact mem_addS.2 (.inr rfl)
      · simp only at hv ⊢; rw [hoth i e] at hv ⊢; exact mem_addS.2 (.inl (h.kt i hi hv))
    · simp only at e hv
      by_cases e1 : i = k <;> by_cases e2 : j = k
      · rw [e1, e2]
      · subst e1; rw [hself, hoth j e2] at e; exact absurd e.symm (hnot j hj)
      · subst e2; rw [hself, hoth i e1] at e; exact absurd e (hnot i hi)
      · rw [hoth i e1] at e hv; rw [hoth j e2] at e; exact h.inj i j hi hj e hv
    · simp only at hv ⊢
      by_cases e : i = k
      · subst e
        rw [hself]
        exact ⟨r, .inr ⟨rfl, by omega⟩, hr, hs, fun p hp => hlost _ _ (h.lost i hi hc.1 p (.inl hp) (by omega))⟩
      · rw [hoth i e] at hv ⊢
        obtain ⟨q, h1, h2, h3, h4⟩ := h.src i hi hv
        exact ⟨q, mono h1, h2, h3, fun p hp => hlost _ _ (h4 p hp)⟩
    · simp only at hv ⊢
      by_cases e : i = k
      · subst e; rw [hself] at hv; exact absurd hv hne
      · rw [hoth i e] at hv
        refine hlost _ _ (h.lost i hi hv q ?_ hql)
        rcases hq with h1 | ⟨h1, h3⟩
        · exact .inl h1
        · exact .inr ⟨h1, by omega⟩
  · have hst : stepW st (k, nmAt l k r) = st := by unfold stepW; rw [if_neg hc]
    rw [hst]
    refine ⟨h.len, h.tk, h.kt, h.inj, fun i hi hv => ?_, fun i hi hv q hq hql => ?_⟩
    · obtain ⟨q, h1, h2⟩ := h.src i hi hv
      exact ⟨q, mono h1, h2⟩
    · rcases hq with h1 | ⟨h1, h3⟩
      · exact h.lost i hi hv q (.inl h1) hql
      · by_cases e : i = k
        · subst e; subst h1
          have hm : nmAt l i q ∈ st.2 := by
            rw [← inM_iff]
            cases hx : inM (nmAt l i q) st.2 with
            | true => rfl
            | false => exact absurd ⟨hv, hx⟩ hc
          obtain ⟨h4, j, h5, h6⟩ := h.tk _ hm
          have hji : j ≠ i := fun e => by subst e; rw [hv] at h6; exact h4 h6.symm
          obtain ⟨q', h7, h8, h9, _⟩ := h.src j h5 (by rw [h6]; exact h4)
          exact ⟨j, hji, h5, ⟨h6, h4⟩, q', h8, by rw [h9, h6], h7⟩
        · exact h.lost i hi hv q (.inr ⟨h1, by omega⟩) hql
theorem nmAt_ok {l : List Wsh} (h : wshOk l = true) {i q : Nat} (hi : i < l.length) (hq : q < (l.getD i default).names.length) : ifaceS (nmAt l i q) = true := by
  have h1 := wshOk_at h hi
  unfold wshAt at h1
  simp only [Bool.and_eq_true] at h1
  exact (namesOk_at h1.2 hq).1
theorem nmAt_ne {l : List Wsh} (h : wshOk l = true) {i q : Nat} (hi : i < l.length) (hq : q < (l.getD i default).names.length) : nmAt l i q ≠ ⟨#[]⟩ := iface_ne (nmAt_ok h hi hq)
theorem run_rank {l : List Wsh} (h : wshOk l = true) (r : Nat) (ps : List (Nat × ByteArray)) (h0 : AsgI l r 0 (runA l ps)) : ∀ k, k ≤ l.length → AsgI l r k (runA l (ps ++ rankK l r k))
  | 0, _ => by rw [rankK_zero, List.append_nil]; exact h0
  | k + 1, hk => by
    have ih := run_rank h r ps h0 k (by omega)
    by_cases hr : r < (l.getD k default).names.length
    · rw [rankK_t hr, ← List.append_assoc, runA_snoc]
      exact ih.step (by omega) hr (nmAt_ne h (by omega) hr)
    · rw [rankK_f hr]
      exact ih.skip hr
theorem run_all {l : List Wsh} (h : wshOk l = true) : ∀ r, AsgI l r 0 (runA l (prsL l r))
  | 0 => AsgI.start l
  | r + 1 => by
    rw [prsL_succ]
    exact (run_rank h r _ (run_all h r) l.length (Nat.le_refl _)).next
theorem prs_mem {l : List Wsh} {n i q : Nat} (hi : i < l.length) (hq : q < (l.getD i default).names.length) (hn : q < n) : (i, nmAt l i q) ∈ prsL l n := by
  unfold prsL
  rw [List.mem_flatMap]
  refine ⟨q, List.mem_range.2 hn, ?_⟩
  unfold rankK
  rw [List.mem_map]
  exact ⟨i, List.mem_filter.2 ⟨List.mem_range.2 hi, by simpa using hq⟩, rfl⟩
theorem prs_of {l : List Wsh} {n : Nat} {p : Nat × ByteArray} (h : p ∈ prsL l n) : ∃ q, p.1 < l.length ∧ q < (l.getD p.1 default).names.length ∧ q < n ∧ p.2 = nmAt l p.1 q := by
  unfold prsL at h
  rw [List.mem_flatMap] at h
  obtain ⟨q, hq, h⟩ := h
  unfold rankK at h
  rw [List.mem_map] at h
  obtain ⟨i, hi, rfl⟩ := h
  obtain ⟨h1, h2⟩ := List.mem_filter.1 hi
  exact ⟨q, List.mem_range.1 h1, by simpa using h2, List.mem_range.1 hq, rfl⟩
def wantA2 (l : List Wsh) : List ByteArray := wantedA (prsL l (maxR l))
theorem wantA2_mem {l : List Wsh} {s : ByteArray} : s ∈ wantA2 l ↔ ∃ i q, i < l.length ∧ q < (l.getD i default).names.length ∧ s = nmAt l i q := by
  unfold wantA2
  rw [mem_wantedA]
  constructor
  · rintro ⟨p, hp, rfl⟩
    obtain ⟨q, h1, h2, _, h3⟩ := prs_of hp
    exact ⟨p.1, q, h1, h2, h3⟩
  · rintro ⟨i, q, h1, h2, rfl⟩
    refine ⟨_, prs_mem h1 h2 (n := maxR l) ?_, rfl⟩
    have : l.getD i default ∈ l := by rw [getD_lt l h1]; exact List.getElem_mem _
    exact Nat.lt_of_lt_of_le h2 (maxR_ge this)
structure FillI (W vals : List ByteArray) (k : Nat) (st : List ByteArray × Nat) : Prop where
  len : st.1.length = vals.length
  own : ∀ i, i < vals.length → (vals.getD i default ≠ ⟨#[]⟩ ∨ k ≤ i) → st.1.getD i default = vals.getD i default
  new : ∀ i, i < vals.length → i < k → vals.getD i default = ⟨#[]⟩ → ∃ m, m < st.2 ∧ st.1.getD i default = ifN m ∧ inM (ifN m) W = false
  dif : ∀ i j, i < j → j < k → j < vals.length → vals.getD i default = ⟨#[]⟩ → vals.getD j default = ⟨#[]⟩ → st.1.getD i default ≠ st.1.getD j default
  top : st.2 ≤ k * (W.length + 2)
theorem FillI.start (W vals : List ByteArray) : FillI W vals 0 (vals, 0) := ⟨rfl, fun _ _ _ => rfl, fun i _ h => by omega, fun i j _ h => by omega, Nat.zero_le _⟩
theorem FillI.step {W vals : List ByteArray} {k : Nat} {st : List ByteArray × Nat} (h : FillI W vals k st) (hk : k < vals.length) : FillI W vals (k + 1) (fillW W st k) := by
  have hkl : k < st.1.length := by rw [h.len]; exact hk
  have hv := h.own k hk (.inr (Nat.le_refl _))
  have hmul : (k + 1) * (W.length + 2) = k * (W.length + 2) + (W.length + 2) := by rw [Nat.succ_mul]
  by_cases hc : st.1.getD k default = ⟨#[]⟩
  · have hst : fillW W st k = (st.1.set k (ifN (freshN W st.2)), freshN W st.2 + 1) := by unfold fillW; rw [if_pos hc]
    rw [hst]
    have hge := fresh_ge W st.2
    have hle := fresh_le W st.2
    have hself : (st.1.set k (ifN (freshN W st.2))).getD k default = ifN (freshN W st.2) := getD_set_eq hkl
    have hoth : ∀ i, i ≠ k → (st.1.set k (ifN (freshN W st.2))).getD i default = st.1.getD i default := fun i hi => getD_set_ne (Ne.symm hi)
    refine ⟨by rw [List.length_set]; exact h.len, fun i hi ho => ?_, fun i hi hik h0 => ?_, fun i j hij hj hjl h1 h2 => ?_, ?_⟩
    · have e : i ≠ k := fun e => by
        subst e
        rcases ho with ho | ho
        · rw [hv] at hc; exact ho hc
        · omega
      simp only
      rw [hoth i e]
      exact h.own i hi (ho.imp id fun _ => by omega)
    · simp only
      by_cases e : i = k
      · subst e; rw [hself]; exact ⟨_, by omega, rfl, fresh_not W _⟩
      · rw [hoth i e]
        obtain ⟨m, h1, h2, h3⟩ := h.new i hi (by omega) h0
        exact ⟨m, by omega, h2, h3⟩
    · simp only
      by_cases e : j = k
      · subst e
        rw [hself, hoth i (by omega)]
        obtain ⟨m, h3, h4, _⟩ := h.new i (by omega) hij h1
        rw [h4]
        intro e2
        have := ifN_inj e2
        omega
      · rw [hoth j e, hoth i (by omega)]
        exact h.dif i j hij (by omega) hjl h1 h2
    · have := h.top
      simp only
      omega
  · have hst : fillW W st k = st := by unfold fillW; rw [if_neg hc]
    rw [hst]
    rw [hv] at hc
    refine ⟨h.len, fun i hi ho => ?_, fun i hi hik h0 => ?_, fun i j hij hj hjl h1 h2 => ?_, by have := h.top; omega⟩
    · by_cases e : i = k
      · subst e; exact hv
      · exact h.own i hi (ho.imp id fun _ => by omega)
    · by_cases e : i = k
      · subst e; exact absurd h0 hc
      · exact h.new i hi (by omega) h0
    · by_cases e : j = k
      · subst e; exact absurd h2 hc
      · exact h.dif i j hij (by omega) hjl h1 h2
theorem fill_all (W vals : List ByteArray) : ∀ k, k ≤ vals.length → FillI W vals k (fillWK W vals k)
  | 0, _ => FillI.start W vals
  | k + 1, hk => by rw [fillWK_succ]; exact (fill_all W vals k (by omega)).step (by omega)
structure NamedI (l : List Wsh) (v : List ByteArray) : Prop where
  len : v.length = l.length
  one : ∀ i, i < l.length → (∃ q, q < (l.getD i default).names.length ∧ v.getD i default = nmAt l i q) ∨ ∃ m, m < l.length * ((wantA2 l).length + 2) ∧ v.getD i default = ifN m ∧ inM (ifN m) (wantA2 l) = false
  inj : ∀ i j, i < j → j < l.length → v.getD i default ≠ v.getD j default
  lost : ∀ i, i < l.length → ∀ q, q < (l.getD i default).names.length → (∀ p, p ≤ q → nmAt l i p ≠ v.getD i default) → LostTo l v i q
theorem named_spec {l : List Wsh} (h : wshOk l = true) : NamedI l (namedA l) := by
  have hA := run_all h (maxR l)
  have hvl : (valsA l).length = l.length := hA.len
  have hF := fill_all (wantA2 l) (valsA l) l.length (by rw [hvl]; exact Nat.le_refl _)
  have hfin : namedA l = (fillWK (wantA2 l) (valsA l) l.length).1 := rfl
  obtain ⟨st, hst⟩ : ∃ st, fillWK (wantA2 l) (valsA l) l.length = st := ⟨_, rfl⟩
  rw [hst] at hF hfin
  rw [hfin]
  have hin : ∀ i, i < l.length → (valsA l).getD i default ≠ ⟨#[]⟩ → ∃ q, q < (l.getD i default).names.length ∧ nmAt l i q = (valsA l).getD i default ∧ ∀ p, p < q → LostTo l (valsA l) i p := fun i hi hv => by
    obtain ⟨q, _, h2, h3, h4⟩ := hA.src i hi hv
    exact ⟨q, h2, h3, h4⟩
  have hlost : ∀ i q, LostTo l (valsA l) i q → LostTo l st.1 i q := fun i q ⟨j, h1, h2, ⟨h3, h3n⟩, h4⟩ => by
    refine ⟨j, h1, h2, ⟨?_, h3n⟩, h4⟩
    rw [hF.own j (by rw [hvl]; exact h2) (.inl (by rw [h3]; exact h3n))]
    exact h3
  refine ⟨by rw [hF.len, hvl], fun i hi => ?_, fun i j hij hj e => ?_, fun i hi q hq hp => ?_⟩
  · by_cases hv : (valsA l).getD i default = ⟨#[]⟩
    · obtain ⟨m, h1, h2, h3⟩ := hF.new i (by rw [hvl]; exact hi) hi hv
      exact .inr ⟨m, Nat.lt_of_lt_of_le h1 hF.top, h2, h3⟩
    · obtain ⟨q, h1, h2, _⟩ := hin i hi hv
      exact .inl ⟨q, h1, by rw [hF.own i (by rw [hvl]; exact hi) (.inl hv), h2]⟩
  · by_cases hvi : (valsA l).getD i default = ⟨#[]⟩ <;> by_cases hvj : (valsA l).getD j default = ⟨#[]⟩
    · exact hF.dif i j hij hj (by rw [hvl]; exact hj) hvi hvj e
    · obtain ⟨m, h1, h2, h3⟩ := hF.new i (by rw [hvl]; omega) (by omega) hvi
      obtain ⟨q, h4, h5, _⟩ := hin j hj hvj
      rw [h2, hF.own j (by rw [hvl]; exact hj) (.inl hvj), ← h5] at e
      rw [inM_false] at h3
      exact h3 (wantA2_mem.2 ⟨j, q, hj, h4, e⟩)
    · obtain ⟨m, h1, h2, h3⟩ := hF.new j (by rw [hvl]; exact hj) hj hvj
      obtain ⟨q, h4, h5, _⟩ := hin i (by omega) hvi
      rw [h2, hF.own i (by rw [hvl]; omega) (.inl hvi), ← h5] at e
      rw [inM_false] at h3
      exact h3 (wantA2_mem.2 ⟨i, q, by omega, h4, e.symm⟩)
    · rw [hF.own i (by rw [hvl]; omega) (.inl hvi), hF.own j (by rw [hvl]; exact hj) (.inl hvj)] at e
      have := hA.inj i j (by omega) hj e hvi
      omega
  · by_cases hv : (valsA l).getD i default = ⟨#[]⟩
    · have hm : l.getD i default ∈ l := by rw [getD_lt l hi]; exact List.getElem_mem _
      exact hlost i q (hA.lost i hi hv q (.inl (Nat.lt_of_lt_of_le hq (maxR_ge hm))) hq)
    · obtain ⟨q0, h1, h2, h3⟩ := hin i hi hv
      have ho := hF.own i (by rw [hvl]; exact hi) (.inl hv)
      have : q < q0 := by
        refine Nat.lt_of_not_le fun hc => ?_
        have := hp q0 hc
        rw [ho] at this
        exact this h2
      exact hlost i q (h3 q this)
def rankF : List ByteArray → ByteArray → Nat
  | [], _ => 0
  | a :: l, s => if a = s then 0 else rankF l s + 1
theorem rankF_at : ∀ {ns : List ByteArray} {s : ByteArray} {k : Nat}, k < ns.length → (∀ x ∈ ns.take k, x ≠ s) → ns.getD k default = s → rankF ns s = k
  | [], s, k, hk, _, _ => by simp at hk
  | a :: l, s, 0, _, _, h => by rw [rankF, if_pos (by simpa using h)]
  | a :: l, s, k + 1, hk, hp, h => by
    rw [rankF, if_neg (hp a (by simp)), rankF_at (by simpa using hk) (fun x hx => hp x (by simp [hx])) (by simpa using h)]
theorem rankF_no : ∀ {ns : List ByteArray} {s : ByteArray}, (∀ x ∈ ns, x ≠ s) → rankF ns s = ns.length
  | [], s, _ => rfl
  | a :: l, s, h => by rw [rankF, if_neg (h a (by simp)), rankF_no fun x hx => h x (by simp [hx])]; rfl
theorem rankF_le : ∀ {ns : List ByteArray} {s : ByteArray} {q : Nat}, q < ns.length → ns.getD q default = s → rankF ns s ≤ q
  | [], s, q, h, _ => by simp at h
  | a :: l, s, q, h, he => by
    rw [rankF]
    split
    · exact Nat.zero_le _
    · rename_i hne
      cases q with
      | zero => exact absurd (by simpa using he) hne
      | succ q =>
        have := rankF_le (ns := l) (s := s) (q := q) (by simpa using h) (by simpa using he)
        omega
theorem rankF_lt : ∀ {ns : List ByteArray} {s : ByteArray} {q : Nat}, q < rankF ns s → q < ns.length ∧ ns.getD q default ≠ s
  | [], s, q, h => by simp [rankF] at h
  | a :: l, s, q, h => by
    rw [rankF] at h
    split at h
    · omega
    · rename_i hne
      cases q with
      | zero => exact ⟨by simp, by simpa using hne⟩
      | succ q =>
        obtain ⟨h1, h2⟩ := rankF_lt (ns := l) (s := s) (q := q) (by omega)
        exact ⟨by simpa using h1, by simpa using h2⟩
theorem named_lost {l : List Wsh} (h : wshOk l = true) {i r : Nat} (hi : i < l.length) (hr : r < rankF (l.getD i default).names ((namedA l).getD i default)) : ∃ k, k ≠ i ∧ k < l.length ∧ (namedA l).getD k default = nmAt l i r ∧ bef (rankF (l.getD k default).names (nmAt l i r)) k r i := by
  have hN := named_spec h
  obtain ⟨k, h1, h2, ⟨h3, _⟩, q', h4, h5, h6⟩ := hN.lost i hi r (rankF_lt hr).1 fun p hp => (rankF_lt (Nat.lt_of_le_of_lt hp hr)).2
  refine ⟨k, h1, h2, h3, ?_⟩
  have hle := rankF_le (ns := (l.getD k default).names) (s := nmAt l i r) h4 h5
  rcases h6 with h6 | ⟨h6, h7⟩
  · exact .inl (by omega)
  · by_cases e : rankF (l.getD k default).names (nmAt l i r) = r
    · exact .inr ⟨e, h7⟩
    · exact .inl (by omega)
end Go.Proofs.YthconflkbeipoaaGreatDoor
namespace Go.Proofs.YthconflkbeipoaaGreatDoor
open Go.RowKit
open IntWalk renaming iteOmega → iO, toNatUp → tN
set_option linter.unusedVariables false
set_option linter.unusedSimpArgs false
def allA (l : List Wsh) : List ByteArray := l.flatMap Wsh.names
theorem allA_mem {l : List Wsh} {s : ByteArray} : s ∈ allA l ↔ s ∈ wantA2 l := by
  rw [wantA2_mem]
  unfold allA
  rw [List.mem_flatMap]
  constructor
  · rintro ⟨w, hw, hs⟩
    obtain ⟨i, hi, rfl⟩ := List.getElem_of_mem hw
    obtain ⟨q, hq, rfl⟩ := List.getElem_of_mem hs
    exact ⟨i, q, hi, by rw [getD_lt l hi]; exact hq, by unfold nmAt; rw [getD_lt l hi, getD_lt _ hq]⟩
  · rintro ⟨i, q, hi, hq, rfl⟩
    have hm : l.getD i default ∈ l := by rw [getD_lt l hi]; exact List.getElem_mem _
    exact ⟨_, hm, by unfold nmAt; rw [getD_lt _ hq]; exact List.getElem_mem _⟩
def fillR (all : List ByteArray) (st : AsgS) (i : Nat) : AsgS := if st.1.getD i default = ⟨#[]⟩ then (st.1.set i (ifN (freshN (st.2 ++ all) 0)), st.2 ++ [ifN (freshN (st.2 ++ all) 0)]) else st
def fillRK (all : List ByteArray) (st : AsgS) (k : Nat) : AsgS := (List.range k).foldl (fillR all) st
theorem fillRK_zero (all : List ByteArray) (st : AsgS) : fillRK all st 0 = st := rfl
theorem fillRK_succ (all : List ByteArray) (st : AsgS) (k : Nat) : fillRK all st (k + 1) = fillR all (fillRK all st k) k := by unfold fillRK; rw [List.range_succ, List.foldl_append]; rfl
theorem fillR_same {W all : List ByteArray} {st : AsgS} (hW : ∀ s, s ∈ W ↔ s ∈ all) (h0 : ∀ s ∈ st.2, s ∈ all) : ∀ k, (fillRK all st k).1 = (fillWK W st.1 k).1 ∧ (∀ j, j < (fillWK W st.1 k).2 → inM (ifN j) ((fillRK all st k).2 ++ all) = true) ∧ (∀ s ∈ (fillRK all st k).2, s ∈ all ∨ ∃ j, j < (fillWK W st.1 k).2 ∧ s = ifN j)
  | 0 => ⟨rfl, fun j hj => by rw [fillWK_zero] at hj; simp at hj, fun s hs => .inl (h0 s hs)⟩
  | k + 1 => by
    obtain ⟨h1, h2, h3⟩ := fillR_same hW h0 k
    rw [fillRK_succ, fillWK_succ]
    obtain ⟨a, ha⟩ : ∃ a, fillRK all st k = a := ⟨_, rfl⟩
    obtain ⟨b, hb⟩ : ∃ b, fillWK W st.1 k = b := ⟨_, rfl⟩
    rw [ha, hb] at h1 h2 h3
    rw [ha, hb]
    unfold fillR fillW
    rw [h1]
    by_cases hc : b.1.getD k default = ⟨#[]⟩
    · have hge := fresh_ge W b.2
      have hnW := fresh_not W b.2
      have hfr : freshN (a.2 ++ all) 0 = freshN W b.2 := by
        refine fresh_uniq (Nat.zero_le _) ?_ fun j _ hj => ?_
        · rw [inM_false, List.mem_append]
          rintro (hm | hm)
          · rcases h3 _ hm with hm | ⟨j, hj, he⟩
            · rw [inM_false] at hnW; exact hnW ((hW _).2 hm)
            · have := ifN_inj he; omega
          · rw [inM_false] at hnW; exact hnW ((hW _).2 hm)
        · by_cases hlt : j < b.2
          · exact h2 j hlt
          · have := fresh_mid W (n := b.2) (m := j) (by omega) hj
            rw [inM_iff] at this ⊢
            exact List.mem_append_right _ ((hW _).1 this)
      rw [if_pos hc, if_pos hc, hfr]
      refine ⟨rfl, fun j hj => ?_, fun s hs => ?_⟩
      · simp only at hj ⊢
        rw [inM_iff, List.mem_append, List.mem_append, List.mem_singleton]
        by_cases e : j = freshN W b.2
        · subst e; exact .inl (.inr rfl)
        · by_cases hlt : j < b.2
          · have := h2 j hlt
            rw [inM_iff, List.mem_append] at this
            exact this.elim (fun h => .inl (.inl h)) .inr
          · have := fresh_mid W (n := b.2) (m := j) (by omega) (by omega)
            rw [inM_iff] at this
            exact .inr ((hW _).1 this)
      · simp only at hs ⊢
        rcases List.mem_append.1 hs with hs | hs
        · exact (h3 s hs).imp id fun ⟨j, hj, he⟩ => ⟨j, by omega, he⟩
        · rw [List.mem_singleton] at hs
          exact .inr ⟨_, Nat.lt_succ_self _, hs⟩
    · rw [if_neg hc, if_neg hc]
      exact ⟨h1, h2, h3⟩
def namedR (l : List Wsh) : List ByteArray := (fillRK (allA l) (runA l (prsL l (maxR l))) l.length).1
theorem namedR_eq {l : List Wsh} (h : wshOk l = true) : namedR l = namedA l := by
  have hA := run_all h (maxR l)
  refine (fillR_same (W := wantA2 l) (all := allA l) (st := runA l (prsL l (maxR l))) (fun s => allA_mem.symm) (fun s hs => ?_) l.length).1
  obtain ⟨h1, i, h2, h3⟩ := hA.tk s hs
  obtain ⟨q, _, h4, h5, _⟩ := hA.src i h2 (by rw [h3]; exact h1)
  rw [allA_mem, wantA2_mem]
  exact ⟨i, q, h2, h4, by rw [h5, h3]⟩
end Go.Proofs.YthconflkbeipoaaGreatDoor
