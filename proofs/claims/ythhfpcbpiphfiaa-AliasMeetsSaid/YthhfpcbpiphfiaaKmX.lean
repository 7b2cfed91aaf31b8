import Derived.Test.YthhfpcbpiphfiaaR36
namespace Go.Proofs.Ythhfpcbpiphfiaa
open Go.RowKit
open IntWalk renaming iteOmega → iO, toNatUp → tN
set_option linter.unusedVariables false
set_option linter.unusedSimpArgs false
end Go.Proofs.Ythhfpcbpiphfiaa
namespace Go.Proofs.Ythhfpcbpiphfiaa
open Go.RowKit
open IntWalk renaming iteOmega → iO, toNatUp → tN
set_option linter.unusedVariables false
set_option linter.unusedSimpArgs false
def PrM (p q : Alts) (x : Pr) (s : List UInt8) : Prop := mat ((altV p x.pa).drop x.pi) s = true ∧ mat ((altV q x.qa).drop x.qi) s = true
def StarOk (l : Alts) : Prop := ∀ a, ∀ e ∈ altV l a, e.star = true → e.set = everyL
theorem at_some {l : Alts} {a i : Nat} {e : El} (hi : i ≤ (altV l a).length) (h : atV l a i = some e) : (altV l a).drop i = e :: (altV l a).drop (i + 1) ∧ e ∈ altV l a := by
  obtain ⟨h1, rfl⟩ := atV_some hi h
  rw [List.getD_eq_getElem?_getD, List.getElem?_eq_getElem h1, Option.getD_some]
  exact ⟨List.drop_eq_getElem_cons h1, List.getElem_mem _⟩
theorem at_none {l : Alts} {a i : Nat} (h : atV l a i = none) : (altV l a).drop i = [] := by
  unfold atV at h
  split at h
  · exact List.drop_eq_nil_of_le (by omega)
  · cases h
theorem mat_snil {e : El} {l : List El} (he : e.star = true) : mat (e :: l) [] = mat l [] := by
  show (if e.star then anyTail (mat l) [] else _) = _
  rw [if_pos he]
  rfl
theorem mat_scons {e : El} {l : List El} {b : UInt8} {s : List UInt8} (he : e.star = true) : mat (e :: l) (b :: s) = (mat l (b :: s) || mat (e :: l) s) := by
  show (if e.star then anyTail (mat l) (b :: s) else _) = (_ || (if e.star then anyTail (mat l) s else _))
  rw [if_pos he, if_pos he]
  rfl
theorem mat_skip {e : El} {l : List El} {s : List UInt8} (he : e.star = true) (h : mat l s = true) : mat (e :: l) s = true := by
  cases s with
  | nil => rw [mat_snil he]; exact h
  | cons b s => rw [mat_scons he, h]; rfl
theorem skip_mem {p q : Alts} {x y : Pr} (h : y ∈ skipsV p q x) : (∃ e, atV p x.pa x.pi = some e ∧ e.star = true ∧ y = ⟨x.pa, x.pi + 1, x.qa, x.qi⟩) ∨ ∃ e, atV q x.qa x.qi = some e ∧ e.star = true ∧ y = ⟨x.pa, x.pi, x.qa, x.qi + 1⟩ := by
  unfold skipsV skip1 skip2 starV at h
  rcases List.mem_append.1 h with h | h
  · left
    cases he : atV p x.pa x.pi with
    | none => rw [he] at h; simp at h
    | some e =>
      rw [he] at h
      simp only at h
      split at h
      · rename_i hs; exact ⟨e, rfl, hs, List.mem_singleton.1 h⟩
      · cases h
  · right
    cases he : atV q x.qa x.qi with
    | none => rw [he] at h; simp at h
    | some e =>
      rw [he] at h
      simp only at h
      split at h
      · rename_i hs; exact ⟨e, rfl, hs, List.mem_singleton.1 h⟩
      · cases h
theorem mem_skip1 {p q : Alts} {x : Pr} {e : El} (h : atV p x.pa x.pi = some e) (hs : e.star = true) : (⟨x.pa, x.pi + 1, x.qa, x.qi⟩ : Pr) ∈ skipsV p q x := by
  unfold skipsV skip1 starV
  rw [h]
  simp [hs]
theorem mem_skip2 {p q : Alts} {x : Pr} {e : El} (h : atV q x.qa x.qi = some e) (hs : e.star = true) : (⟨x.pa, x.pi, x.qa, x.qi + 1⟩ : Pr) ∈ skipsV p q x := by
  unfold skipsV skip2 starV
  rw [h]
  simp [hs]
theorem skip_mat {p q : Alts} {x y : Pr} {s : List UInt8} (hx : PrOk p q x) (hy : y ∈ skipsV p q x) (h : PrM p q y s) : PrM p q x s := by
  rcases skip_mem hy with ⟨e, h1, h2, rfl⟩ | ⟨e, h1, h2, rfl⟩
  · refine ⟨?_, h.2⟩
    rw [(at_some hx.i h1).1]
    exact mat_skip h2 h.1
  · refine ⟨h.1, ?_⟩
    rw [(at_some hx.j h1).1]
    exact mat_skip h2 h.2
theorem both_get {a b : El} {c : Nat} (h : (bothV a b).getD c false = true) : 32 ≤ c ∧ c < 127 ∧ a.set.getD c false = true ∧ b.set.getD c false = true := by
  unfold bothV at h
  rw [List.getD_eq_getElem?_getD, List.getElem?_map] at h
  by_cases hc : c < 127
  · rw [List.getElem?_range hc] at h
    simp only [Option.map_some, Option.getD_some, Bool.and_eq_true, decide_eq_true_eq] at h
    exact ⟨h.1, hc, h.2.1, h.2.2⟩
  · rw [List.getElem?_eq_none (by rw [List.length_range]; omega)] at h
    cases h
theorem both_set {a b : El} {c : Nat} (h1 : 32 ≤ c) (h2 : c < 127) (ha : a.set.getD c false = true) (hb : b.set.getD c false = true) : (bothV a b).getD c false = true := by
  unfold bothV
  rw [List.getD_eq_getElem?_getD, List.getElem?_map, List.getElem?_range h2]
  simp only [Option.map_some, Option.getD_some, ha, hb, decide_eq_true h1, Bool.and_self]
theorem anyB_of {l : List Bool} {c : Nat} (h : l.getD c false = true) : anyB l = true := by
  unfold anyB
  rw [List.any_eq_true]
  by_cases hc : c < l.length
  · rw [List.getD_eq_getElem?_getD, List.getElem?_eq_getElem hc, Option.getD_some] at h
    exact ⟨_, List.getElem_mem hc, h⟩
  · rw [List.getD_eq_getElem?_getD, List.getElem?_eq_none (by omega)] at h
    cases h
theorem step_some {p q : Alts} {x y : Pr} {S : List Bool} (h : stepV p q x = some (y, S)) : ∃ a b, atV p x.pa x.pi = some a ∧ atV q x.qa x.qi = some b ∧ (a.star && b.star) = false ∧ y = stepN a b x ∧ S = bothV a b := by
  unfold stepV at h
  split at h
  · rename_i a b ha hb
    split at h
    · cases h
    · rename_i hs
      cases h
      exact ⟨a, b, ha, hb, by simpa using hs, rfl, rfl⟩
  · cases h
theorem step_of {p q : Alts} {x : Pr} {a b : El} (ha : atV p x.pa x.pi = some a) (hb : atV q x.qa x.qi = some b) (h : (a.star && b.star) = false) : stepV p q x = some (stepN a b x, bothV a b) := by
  unfold stepV
  rw [ha, hb]
  simp only
  rw [if_neg (by rw [h]; exact Bool.false_ne_true)]
theorem step_mat {p q : Alts} {x y : Pr} {S : List Bool} {b : UInt8} {s : List UInt8} (hx : PrOk p q x) (hy : stepV p q x = some (y, S)) (hb : S.getD b.toNat false = true) (h : PrM p q y s) : PrM p q x (b :: s) := by
  obtain ⟨e1, e2, h1, h2, h3, rfl, rfl⟩ := step_some hy
  obtain ⟨g1, g2, g3, g4⟩ := both_get hb
  obtain ⟨m1, m2⟩ := h
  unfold stepN at m1 m2
  simp only at m1 m2
  refine ⟨?_, ?_⟩
  · rw [(at_some hx.i h1).1]
    cases hs : e1.star with
    | true =>
      rw [hs, if_pos rfl, (at_some hx.i h1).1] at m1
      rw [mat_scons hs, m1, Bool.or_true]
    | false =>
      rw [hs, if_neg Bool.false_ne_true] at m1
      rw [mat_one hs, m1, Bool.and_true]
      exact g3
  · rw [(at_some hx.j h2).1]
    cases hs : e2.star with
    | true =>
      rw [hs, if_pos rfl, (at_some hx.j h2).1] at m2
      rw [mat_scons hs, m2, Bool.or_true]
    | false =>
      rw [hs, if_neg Bool.false_ne_true] at m2
      rw [mat_one hs, m2, Bool.and_true]
      exact g4
theorem lessV_1 {b n : Int} (h : 0 ≤ b) : 0 ≤ lessV b n ∧ lessV b n ≤ b := by
  unfold lessV
  split <;> omega
theorem lessV_2 {b n : Int} (h : 0 ≤ n) : 0 ≤ lessV b n ∧ lessV b n ≤ n := by
  unfold lessV
  split <;> omega
theorem lessV_at (b n : Int) : lessV b n = b ∨ (lessV b n = n ∧ 0 ≤ n) := by
  unfold lessV
  split
  · rename_i h; exact .inr ⟨rfl, h.1⟩
  · exact .inl rfl
theorem fmin_1 (f : Pr → Int) : ∀ (l : List Pr) (b : Int), 0 ≤ b → 0 ≤ l.foldl (fun b y => lessV b (f y)) b ∧ l.foldl (fun b y => lessV b (f y)) b ≤ b
  | [], b, h => ⟨h, Int.le_refl _⟩
  | y :: l, b, h => by
    have h1 := lessV_1 (n := f y) h
    have h2 := fmin_1 f l _ h1.1
    rw [List.foldl_cons]
    omega
theorem fmin_2 (f : Pr → Int) : ∀ (l : List Pr) (b : Int), ∀ y ∈ l, 0 ≤ f y → 0 ≤ l.foldl (fun b y => lessV b (f y)) b ∧ l.foldl (fun b y => lessV b (f y)) b ≤ f y
  | [], b, y, hy, _ => by cases hy
  | z :: l, b, y, hy, h => by
    rw [List.foldl_cons]
    rcases List.mem_cons.1 hy with rfl | hy
    · have h1 := lessV_2 (b := b) h
      have h2 := fmin_1 f l _ h1.1
      omega
    · exact fmin_2 f l _ y hy h
theorem fmin_at (f : Pr → Int) : ∀ (l : List Pr) (b : Int), l.foldl (fun b y => lessV b (f y)) b = b ∨ ∃ y ∈ l, l.foldl (fun b y => lessV b (f y)) b = f y ∧ 0 ≤ f y
  | [], b => .inl rfl
  | z :: l, b => by
    rw [List.foldl_cons]
    rcases fmin_at f l (lessV b (f z)) with h | ⟨y, hy, h⟩
    · rcases lessV_at b (f z) with h2 | ⟨h2, h3⟩
      · rw [h, h2]; exact .inl rfl
      · rw [h, h2]; exact .inr ⟨z, by simp, rfl, h3⟩
    · exact .inr ⟨y, by simp [hy], h⟩
theorem skip_le {p q : Alts} {x y : Pr} (hx : PrOk p q x) (hy : y ∈ skipsV p q x) (h : 0 ≤ costV p q y) : 0 ≤ costV p q x ∧ costV p q x ≤ costV p q y := by
  rw [costV_step hx]
  have h1 := fmin_2 (costV p q) (skipsV p q x) (endV p q x) y hy h
  simp only
  split
  · exact h1
  · split
    · have h2 := lessV_1 (n := costV p q (by assumption) + 1) h1.1
      rename_i y' s' _ _
      have h3 := lessV_1 (n := costV p q y' + 1) h1.1
      omega
    · exact h1
theorem end_le {p q : Alts} {x : Pr} (hx : PrOk p q x) (h : endV p q x = 0) : 0 ≤ costV p q x ∧ costV p q x ≤ 0 := by
  rw [costV_step hx, h]
  have h1 := fmin_1 (costV p q) (skipsV p q x) 0 (Int.le_refl _)
  simp only
  split
  · exact h1
  · split
    · rename_i y' s' _ _
      have h3 := lessV_1 (n := costV p q y' + 1) h1.1
      omega
    · exact h1
theorem step_le {p q : Alts} {x y : Pr} {S : List Bool} (hx : PrOk p q x) (hy : stepV p q x = some (y, S)) (ha : anyB S = true) (h : 0 ≤ costV p q y) : 0 ≤ costV p q x ∧ costV p q x ≤ costV p q y + 1 := by
  rw [costV_step hx, hy]
  simp only
  rw [if_pos ⟨ha, h⟩]
  exact lessV_2 (by omega)
end Go.Proofs.Ythhfpcbpiphfiaa
namespace Go.Proofs.Ythhfpcbpiphfiaa
open Go.RowKit
open IntWalk renaming iteOmega → iO, toNatUp → tN
set_option linter.unusedVariables false
set_option linter.unusedSimpArgs false
def okB (b : UInt8) : Prop := 32 ≤ b.toNat ∧ b.toNat ≤ 126
theorem every_has {b : UInt8} (h : okB b) : everyL.getD b.toNat false = true := by
  have h1 := everyL_get (k := b.toNat - 32) (by have := h.2; omega)
  rwa [show 32 + (b.toNat - 32) = b.toNat from by have := h.1; omega] at h1
theorem cost_le {p q : Alts} (hp : StarOk p) (hq : StarOk q) : ∀ (n : Nat) (x : Pr) (s : List UInt8), s.length + measV p q x ≤ n → PrOk p q x → (∀ b ∈ s, okB b) → PrM p q x s → 0 ≤ costV p q x ∧ costV p q x ≤ (s.length : Int) := by
  intro n
  induction n with
  | zero =>
    intro x s hn hx hb h
    have h0 : s = [] := List.eq_nil_of_length_eq_zero (by omega)
    have h1 : endV p q x = 0 := by
      unfold measV at hn
      unfold endV
      have := hx.i; have := hx.j
      rw [if_pos ⟨by omega, by omega⟩]
    have := end_le hx h1
    omega
  | succ n ih =>
  intro x s hn hx hb h
  have viaSkip : ∀ y ∈ skipsV p q x, PrM p q y s → 0 ≤ costV p q x ∧ costV p q x ≤ (s.length : Int) := fun y hy hm => by
    obtain ⟨h1, h2⟩ := skipsV_ok hx hy
    have h3 := ih y s (by omega) h1 hb hm
    have h4 := skip_le hx hy h3.1
    omega
  obtain ⟨m1, m2⟩ := h
  cases h1 : atV p x.pa x.pi with
  | none =>
    rw [at_none h1] at m1
    have hs : s = [] := List.isEmpty_iff.1 m1
    subst hs
    cases h2 : atV q x.qa x.qi with
    | none =>
      have he : endV p q x = 0 := by
        unfold endV
        unfold atV at h1 h2
        split at h1
        · split at h2
          · rename_i e1 e2; rw [if_pos ⟨e1, e2⟩]
          · cases h2
        · cases h1
      have := end_le hx he
      simpa using this
    | some e2 =>
      rw [(at_some hx.j h2).1] at m2
      cases hs : e2.star with
      | false => rw [mat_end hs] at m2; cases m2
      | true =>
        rw [mat_snil hs] at m2
        exact viaSkip _ (mem_skip2 h2 hs) ⟨by rw [at_none h1]; rfl, m2⟩
  | some e1 =>
    have m1' := m1
    rw [(at_some hx.i h1).1] at m1
    cases h2 : atV q x.qa x.qi with
    | none =>
      rw [at_none h2] at m2
      have hs : s = [] := List.isEmpty_iff.1 m2
      subst hs
      cases hs : e1.star with
      | false => rw [mat_end hs] at m1; cases m1
      | true =>
        rw [mat_snil hs] at m1
        exact viaSkip _ (mem_skip1 h1 hs) ⟨m1, by rw [at_none h2]; rfl⟩
    | some e2 =>
      have m2' := m2
      rw [(at_some hx.j h2).1] at m2
      cases s with
      | nil =>
        cases hs1 : e1.star with
        | false => rw [mat_end hs1] at m1; cases m1
        | true =>
          rw [mat_snil hs1] at m1
          exact viaSkip _ (mem_skip1 h1 hs1) ⟨m1, m2'⟩
      | cons b s =>
        have hbo := hb b (by simp)
        have hbs : ∀ c ∈ s, okB c := fun c hc => hb c (by simp [hc])
        have viaStep : (e1.star && e2.star) = false → e1.set.getD b.toNat false = true → e2.set.getD b.toNat false = true → PrM p q (stepN e1 e2 x) s → 0 ≤ costV p q x ∧ costV p q x ≤ ((b :: s).length : Int) := fun hst g1 g2 hm => by
          have hsv := step_of h1 h2 hst
          obtain ⟨k1, k2⟩ := stepV_ok hx hsv
          have k3 := ih _ s (by simp only [List.length_cons] at hn; omega) k1 hbs hm
          have k4 := step_le hx hsv (anyB_of (both_set hbo.1 (by have := hbo.2; omega) g1 g2)) k3.1
          simp only [List.length_cons]
          omega
        cases hs1 : e1.star with
        | false =>
          rw [mat_one hs1, Bool.and_eq_true] at m1
          cases hs2 : e2.star with
          | false =>
            rw [mat_one hs2, Bool.and_eq_true] at m2
            exact viaStep (by rw [hs1]; rfl) m1.1 m2.1 ⟨by unfold stepN; simp only [hs1]; exact m1.2, by unfold stepN; simp only [hs2]; exact m2.2⟩
          | true =>
            rw [mat_scons hs2, Bool.or_eq_true] at m2
            rcases m2 with m2 | m2
            · exact viaSkip _ (mem_skip2 h2 hs2) ⟨m1', m2⟩
            · refine viaStep (by rw [hs1]; rfl) m1.1 ?_ ⟨by unfold stepN; simp only [hs1]; exact m1.2, by unfold stepN; simp only [hs2, if_true]; rw [(at_some hx.j h2).1]; exact m2⟩
              rw [hq _ _ (at_some hx.j h2).2 hs2]
              exact every_has hbo
        | true =>
          rw [mat_scons hs1, Bool.or_eq_true] at m1
          rcases m1 with m1 | m1
          · exact viaSkip _ (mem_skip1 h1 hs1) ⟨m1, m2'⟩
          have g1 : e1.set.getD b.toNat false = true := by rw [hp _ _ (at_some hx.i h1).2 hs1]; exact every_has hbo
          cases hs2 : e2.star with
          | false =>
            rw [mat_one hs2, Bool.and_eq_true] at m2
            exact viaStep (by rw [hs1, hs2]; rfl) g1 m2.1 ⟨by unfold stepN; simp only [hs1, if_true]; rw [(at_some hx.i h1).1]; exact m1, by unfold stepN; simp only [hs2]; exact m2.2⟩
          | true =>
            rw [mat_scons hs2, Bool.or_eq_true] at m2
            rcases m2 with m2 | m2
            · exact viaSkip _ (mem_skip2 h2 hs2) ⟨m1', m2⟩
            · have := ih x s (by simp only [List.length_cons] at hn; omega) hx hbs ⟨by rw [(at_some hx.i h1).1]; exact m1, by rw [(at_some hx.j h2).1]; exact m2⟩
              simp only [List.length_cons]
              omega
theorem endV_cases (p q : Alts) (x : Pr) : endV p q x = -1 ∨ endV p q x = 0 ∧ x.pi = (altV p x.pa).length ∧ x.qi = (altV q x.qa).length := by
  unfold endV
  split
  · rename_i h; exact .inr ⟨rfl, h.1, h.2⟩
  · exact .inl rfl
theorem cost_from {p q : Alts} {x : Pr} (hx : PrOk p q x) (h : 0 ≤ costV p q x) : (costV p q x = 0 ∧ PrM p q x []) ∨ (∃ y ∈ skipsV p q x, costV p q y = costV p q x) ∨ ∃ y S, stepV p q x = some (y, S) ∧ anyB S = true ∧ 0 ≤ costV p q y ∧ costV p q x = costV p q y + 1 := by
  have hs := costV_step hx
  obtain ⟨F, hF⟩ : ∃ F, (skipsV p q x).foldl (fun b y => lessV b (costV p q y)) (endV p q x) = F := ⟨_, rfl⟩
  rw [hF] at hs
  simp only at hs
  have viaF : costV p q x = F → (costV p q x = 0 ∧ PrM p q x []) ∨ (∃ y ∈ skipsV p q x, costV p q y = costV p q x) ∨ ∃ y S, stepV p q x = some (y, S) ∧ anyB S = true ∧ 0 ≤ costV p q y ∧ costV p q x = costV p q y + 1 := fun e => by
    rcases fmin_at (costV p q) (skipsV p q x) (endV p q x) with h1 | ⟨y, hy, h1, h2⟩
    · rw [hF] at h1
      rcases endV_cases p q x with h2 | ⟨h2, h3, h4⟩
      · omega
      · refine .inl ⟨by omega, ?_, ?_⟩
        · rw [h3, List.drop_length]; rfl
        · rw [h4, List.drop_length]; rfl
    · rw [hF] at h1
      exact .inr (.inl ⟨y, hy, by omega⟩)
  cases hv : stepV p q x with
  | none => rw [hv] at hs; exact hv ▸ viaF hs
  | some ys =>
    obtain ⟨y, S⟩ := ys
    rw [hv] at hs
    simp only at hs
    split at hs
    · rename_i hc
      rcases lessV_at F (costV p q y + 1) with h1 | ⟨h1, h2⟩
      · rw [h1] at hs; exact hv ▸ viaF hs
      · rw [h1] at hs
        exact .inr (.inr ⟨y, S, rfl, hc.1, hc.2, hs⟩)
    · exact hv ▸ viaF hs
theorem zero_sound {p q : Alts} : ∀ (n : Nat) (x : Pr), measV p q x ≤ n → PrOk p q x → costV p q x = 0 → PrM p q x []
  | n, x, hn, hx, h => by
    rcases cost_from hx (by omega) with h1 | ⟨y, hy, h1⟩ | ⟨y, S, h1, h2, h3, h4⟩
    · exact h1.2
    · obtain ⟨h2, h3⟩ := skipsV_ok hx hy
      exact skip_mat hx hy (zero_sound (n - 1) y (by omega) h2 (by omega))
    · omega
  termination_by n x => measV p q x
  decreasing_by omega
inductive ClPr (p q : Alts) (l0 : List Pr) : Pr → Prop
  | base {x} : x ∈ l0 → ClPr p q l0 x
  | more {x y} : ClPr p q l0 x → y ∈ skipsV p q x → ClPr p q l0 y
theorem ClPr.ok {p q : Alts} {l0 : List Pr} (h0 : ∀ x ∈ l0, PrOk p q x) {z : Pr} (h : ClPr p q l0 z) : PrOk p q z := by
  induction h with
  | base hx => exact h0 _ hx
  | more _ hy ih => exact (skipsV_ok ih hy).1
theorem ClPr.mat {p q : Alts} {l0 : List Pr} (h0 : ∀ x ∈ l0, PrOk p q x) {z : Pr} {s : List UInt8} (h : ClPr p q l0 z) (hm : PrM p q z s) : ∃ x ∈ l0, PrM p q x s := by
  induction h with
  | base hx => exact ⟨_, hx, hm⟩
  | more h1 hy ih => exact ih (skip_mat (h1.ok h0) hy hm)
structure SpInv (p q : Alts) (n : Int) (l0 l all : List Pr) : Prop where
  cl : ∀ z ∈ l, ClPr p q l0 z
  ca : ∀ z ∈ all, ClPr p q l0 z ∧ costV p q z = n
  b0 : ∀ z ∈ l0, costV p q z = n → z ∈ all ∨ z ∈ l
  b1 : ∀ z ∈ all, ∀ y ∈ skipsV p q z, costV p q y = n → y ∈ all ∨ y ∈ l
theorem SpInv.skip {p q : Alts} {n : Int} {l0 l all : List Pr} {x : Pr} (h : SpInv p q n l0 (l ++ [x]) all) (hx : x ∈ all ∨ costV p q x ≠ n) : SpInv p q n l0 l all := by
  have mv : ∀ y, costV p q y = n → y ∈ all ∨ y ∈ l ++ [x] → y ∈ all ∨ y ∈ l := fun y hy h1 => by
    rcases h1 with h1 | h1
    · exact .inl h1
    · rcases List.mem_append.1 h1 with h1 | h1
      · exact .inr h1
      · rw [List.mem_singleton] at h1
        subst h1
        rcases hx with hx | hx
        · exact .inl hx
        · exact absurd hy hx
  exact ⟨fun z hz => h.cl z (by simp [hz]), h.ca, fun z hz hc => mv z hc (h.b0 z hz hc), fun z hz y hy hc => mv y hc (h.b1 z hz y hy hc)⟩
theorem SpInv.add {p q : Alts} {n : Int} {l0 l all : List Pr} {x : Pr} (h : SpInv p q n l0 (l ++ [x]) all) (hx : costV p q x = n) : SpInv p q n l0 (l ++ skipsV p q x) (all ++ [x]) := by
  have hcx := h.cl x (by simp)
  have mv : ∀ y, y ∈ all ∨ y ∈ l ++ [x] → y ∈ all ++ [x] ∨ y ∈ l ++ skipsV p q x := fun y h1 => by
    rcases h1 with h1 | h1
    · exact .inl (by simp [h1])
    · rcases List.mem_append.1 h1 with h1 | h1
      · exact .inr (by simp [h1])
      · exact .inl (List.mem_append.2 (.inr h1))
  refine ⟨fun z hz => ?_, fun z hz => ?_, fun z hz hc => mv z (h.b0 z hz hc), fun z hz y hy hc => ?_⟩
  · rcases List.mem_append.1 hz with hz | hz
    · exact h.cl z (by simp [hz])
    · exact .more hcx hz
  · rcases List.mem_append.1 hz with hz | hz
    · exact h.ca z hz
    · rw [List.mem_singleton.1 hz]; exact ⟨hcx, hx⟩
  · rcases List.mem_append.1 hz with hz | hz
    · exact mv y (h.b1 z hz y hy hc)
    · rw [List.mem_singleton.1 hz] at hy
      exact .inr (List.mem_append.2 (.inr hy))
theorem spread_I {p q : Alts} {n : Int} (hp : SmallA p) (hq : SmallA q) {l0 : List Pr} : ∀ (f : Nat) (l all : List Pr), SpOk p q l all → spM l all < f → SpInv p q n l0 l all → SpInv p q n l0 [] (spreadF p q n f l all)
  | 0, l, all, _, hf, _ => absurd hf (Nat.not_lt_zero _)
  | f + 1, l, all, ho, hf, h => by
    rcases List.eq_nil_or_concat l with h0 | ⟨l', x, h0⟩
    · subst h0
      rw [spreadF_nil]
      exact h
    · rw [List.concat_eq_append] at h0
      subst h0
      rw [spreadF_step]
      split
      · rename_i hx
        exact spread_I hp hq f _ _ ho.drop (by have := spM_drop (l := l') (all := all) (x := x); omega) (h.skip hx)
      · rename_i hx
        have hx1 : x ∉ all := fun h' => hx (.inl h')
        have hx2 : costV p q x = n := Decidable.of_not_not fun h' => hx (.inr h')
        exact spread_I hp hq f _ _ (ho.add hx1) (by have := spM_add ho hx1 hp hq; omega) (h.add hx2)
def GoodPr (p q : Alts) (n : Int) (z : Pr) : Prop := ∃ y S, stepV p q z = some (y, S) ∧ anyB S = true ∧ costV p q y = n - 1
theorem spread_good {p q : Alts} {n : Nat} {l0 A : List Pr} (h : SpInv p q ((n : Int) + 1) l0 [] A) (h0 : ∀ x ∈ l0, PrOk p q x) : ∀ (k : Nat) (x : Pr), measV p q x ≤ k → x ∈ A → ∃ z ∈ A, GoodPr p q ((n : Int) + 1) z
  | k, x, hk, hx => by
    obtain ⟨h1, h2⟩ := h.ca x hx
    have hxo := h1.ok h0
    rcases cost_from hxo (by omega) with h3 | ⟨y, hy, h3⟩ | ⟨y, S, h3, h4, h5, h6⟩
    · omega
    · obtain ⟨h4, h5⟩ := skipsV_ok hxo hy
      rcases h.b1 x hx y hy (by omega) with h6 | h6
      · exact spread_good h h0 (k - 1) y (by omega) h6
      · cases h6
    · exact ⟨x, hx, y, S, h3, h4, by omega⟩
  termination_by k x => measV p q x
  decreasing_by omega
def LsInv (p q : Alts) (n : Int) (A : List Pr) (st : Nat × List Pr) : Prop :=
  (st.1 = 127 ∧ st.2 = [] ∧ ∀ z ∈ A, ¬ GoodPr p q n z) ∨ (32 ≤ st.1 ∧ st.1 < 127 ∧ st.2 ≠ [] ∧ ∀ y ∈ st.2, ∃ z ∈ A, ∃ S, stepV p q z = some (y, S) ∧ S.getD st.1 false = true ∧ costV p q y = n - 1)
theorem LsInv.same {p q : Alts} {n : Int} {A : List Pr} {st : Nat × List Pr} {x : Pr} (h : LsInv p q n A st) (hx : ¬ GoodPr p q n x) : LsInv p q n (A ++ [x]) st := by
  rcases h with ⟨h1, h2, h3⟩ | ⟨h1, h2, h3, h4⟩
  · refine .inl ⟨h1, h2, fun z hz => ?_⟩
    rcases List.mem_append.1 hz with hz | hz
    · exact h3 z hz
    · rw [List.mem_singleton.1 hz]; exact hx
  · refine .inr ⟨h1, h2, h3, fun y hy => ?_⟩
    obtain ⟨z, hz, h⟩ := h4 y hy
    exact ⟨z, by simp [hz], h⟩
theorem LsInv.step {p q : Alts} {n : Int} {A : List Pr} {st : Nat × List Pr} (x : Pr) (h : LsInv p q n A st) : LsInv p q n (A ++ [x]) (leastStep p q n st x) := by
  unfold leastStep
  cases hv : stepV p q x with
  | none => exact h.same fun ⟨y, S, h1, _⟩ => by rw [hv] at h1; cases h1
  | some ys =>
    obtain ⟨y, S⟩ := ys
    simp only
    by_cases hc : anyB S = false ∨ costV p q y ≠ n - 1
    · rw [if_pos hc]
      refine h.same fun ⟨y', S', h1, h2, h3⟩ => ?_
      rw [hv] at h1
      cases h1
      rcases hc with hc | hc
      · rw [hc] at h2; cases h2
      · exact hc h3
    · rw [if_neg hc]
      have han : anyB S = true := by
        cases h' : anyB S with
        | true => rfl
        | false => exact absurd (.inl h') hc
      have hcy : costV p q y = n - 1 := Decidable.of_not_not fun h' => hc (.inr h')
      obtain ⟨c, g1, g2, g3⟩ := anyB_both hv han
      obtain ⟨m, r⟩ := st
      simp only
      have snoc : ∀ (b : Nat) (r : List Pr), 32 ≤ b → b < 127 → S.getD b false = true → (∀ y ∈ r, ∃ z ∈ A ++ [x], ∃ S, stepV p q z = some (y, S) ∧ S.getD b false = true ∧ costV p q y = n - 1) → LsInv p q n (A ++ [x]) (b, r ++ [y]) := fun b r k1 k2 k3 k4 => by
        refine .inr ⟨k1, k2, by simp, fun y' hy' => ?_⟩
        rcases List.mem_append.1 hy' with hy' | hy'
        · exact k4 y' hy'
        · rw [List.mem_singleton.1 hy']
          exact ⟨x, by simp, S, hv, k3, hcy⟩
      rcases lowB_cases S m with ⟨k1, k2⟩ | ⟨k1, k2, k3, k4⟩
      · rw [k1, if_neg (Nat.lt_irrefl m)]
        rcases h with ⟨h1, h2, h3⟩ | ⟨h1, h2, h3, h4⟩
        · simp only at h1
          rw [k2 c g1 (by omega)] at g3
          cases g3
        · simp only at h1 h2 h3 h4
          have h4' : ∀ y ∈ r, ∃ z ∈ A ++ [x], ∃ S, stepV p q z = some (y, S) ∧ S.getD m false = true ∧ costV p q y = n - 1 := fun y hy => by
            obtain ⟨z, hz, h⟩ := h4 y hy
            exact ⟨z, by simp [hz], h⟩
          split
          · rename_i hm
            exact snoc m r h1 h2 hm h4'
          · exact .inr ⟨h1, h2, h3, h4'⟩
      · rw [if_pos k1, if_pos k3]
        have hm : m ≤ 127 := by
          rcases h with ⟨h1, _⟩ | ⟨_, h1, _⟩
          · simp only at h1; omega
          · simp only at h1; omega
        exact snoc (lowB S m) [] k2 (by omega) k3 (by simp)
theorem least_I {p q : Alts} {n : Int} : ∀ (l A : List Pr) (st : Nat × List Pr), LsInv p q n A st → LsInv p q n (A ++ l) (l.foldl (leastStep p q n) st)
  | [], A, st, h => by rw [List.append_nil]; exact h
  | x :: l, A, st, h => by
    have h1 := least_I l (A ++ [x]) _ (h.step x)
    rw [List.append_assoc] at h1
    exact h1
theorem text_sound {p q : Alts} (hp : SmallA p) (hq : SmallA q) : ∀ (n : Nat) (l : List Pr), (∀ x ∈ l, PrOk p q x) → (∃ x ∈ l, costV p q x = (n : Int)) → (∃ x ∈ l, PrM p q x ((textF p q n l).map UInt8.ofNat)) ∧ ∀ b ∈ textF p q n l, 32 ≤ b ∧ b ≤ 126
  | 0, l, hl, ⟨x, hx, h⟩ => ⟨⟨x, hx, zero_sound _ x (Nat.le_refl _) (hl x hx) (by simpa using h)⟩, by simp [textF]⟩
  | n + 1, l, hl, ⟨x, hx, h⟩ => by
    have hcast : ((n + 1 : Nat) : Int) = (n : Int) + 1 := by omega
    rw [hcast] at h
    have hS0 : SpOk p q l [] := ⟨hl, by simp, List.nodup_nil⟩
    have hI0 : SpInv p q ((n : Int) + 1) l l [] := ⟨fun z hz => .base hz, by simp, fun z hz _ => .inr hz, by simp⟩
    have hI := spread_I hp hq (fuelV l) l [] hS0 (by unfold spM fuelV; simp only [List.length_nil]; omega) hI0
    unfold textF
    simp only
    rw [hcast]
    obtain ⟨A, hA⟩ : ∃ A, spreadF p q ((n : Int) + 1) (fuelV l) l [] = A := ⟨_, rfl⟩
    rw [hA] at hI ⊢
    have hxA : x ∈ A := (hI.b0 x hx h).resolve_right (by simp)
    have hg := spread_good hI hl _ x (Nat.le_refl _) hxA
    have hL := least_I (p := p) (q := q) (n := (n : Int) + 1) A [] (127, []) (show LsInv p q ((n : Int) + 1) [] (127, []) from .inl ⟨rfl, rfl, by simp⟩)
    rw [List.nil_append, show A.foldl (leastStep p q ((n : Int) + 1)) (127, []) = leastV p q ((n : Int) + 1) A from rfl] at hL
    obtain ⟨st, hst⟩ : ∃ st, leastV p q ((n : Int) + 1) A = st := ⟨_, rfl⟩
    rw [hst] at hL ⊢
    obtain ⟨b, G⟩ := st
    rcases hL with ⟨_, _, h3⟩ | ⟨h1, h2, h3, h4⟩
    · obtain ⟨z, hz, hz2⟩ := hg
      exact absurd hz2 (h3 z hz)
    · simp only at h1 h2 h3 h4 ⊢
      have hGo : ∀ y ∈ G, PrOk p q y ∧ costV p q y = (n : Int) := fun y hy => by
        obtain ⟨z, hz, S, k1, k2, k3⟩ := h4 y hy
        exact ⟨(stepV_ok ((hI.ca z hz).1.ok hl) k1).1, by omega⟩
      obtain ⟨y0, hy0⟩ := List.exists_mem_of_ne_nil G h3
      obtain ⟨⟨y, hy, hm⟩, hb⟩ := text_sound hp hq n G (fun y hy => (hGo y hy).1) ⟨y0, hy0, (hGo y0 hy0).2⟩
      obtain ⟨z, hz, S, k1, k2, k3⟩ := h4 y hy
      have hbn : (UInt8.ofNat b).toNat = b := by rw [UInt8.toNat_ofNat']; omega
      have hzo := (hI.ca z hz).1.ok hl
      have hzm := step_mat (b := UInt8.ofNat b) hzo k1 (by rw [hbn]; exact k2) hm
      refine ⟨(hI.ca z hz).1.mat hl hzm, fun c hc => ?_⟩
      rcases List.mem_cons.1 hc with rfl | hc
      · omega
      · exact hb c hc
theorem begin_mem {p q : Alts} {x : Pr} : x ∈ beginV p q ↔ x.pa < p.length ∧ x.pi = 0 ∧ x.qa < q.length ∧ x.qi = 0 := by
  unfold beginV
  rw [List.mem_flatMap]
  constructor
  · rintro ⟨i, hi, hx⟩
    obtain ⟨j, hj, rfl⟩ := List.mem_map.1 hx
    exact ⟨List.mem_range.1 hi, rfl, List.mem_range.1 hj, rfl⟩
  · rintro ⟨h1, h2, h3, h4⟩
    refine ⟨x.pa, List.mem_range.2 h1, List.mem_map.2 ⟨x.qa, List.mem_range.2 h3, ?_⟩⟩
    obtain ⟨a, b, c, d⟩ := x
    simp only at h2 h4
    subst h2 h4
    rfl
theorem common_sound {p q : Alts} (hp : SmallA p) (hq : SmallA q) {t : List Nat} (h : commonV p q = some t) : (∃ a ∈ p, mat a (t.map UInt8.ofNat) = true) ∧ (∃ a ∈ q, mat a (t.map UInt8.ofNat) = true) ∧ ∀ b ∈ t, 32 ≤ b ∧ b ≤ 126 := by
  unfold commonV at h
  split at h
  · cases h
  · rename_i hneg
    rw [Option.some.injEq] at h
    have hok : ∀ x ∈ beginV p q, PrOk p q x := fun x hx => by
      obtain ⟨h1, h2, h3, h4⟩ := begin_mem.1 hx
      exact ⟨h1, by omega, h3, by omega⟩
    have hat : ∃ x ∈ beginV p q, costV p q x = ((bestV p q).toNat : Int) := by
      rcases fmin_at (costV p q) (beginV p q) (-1) with h1 | ⟨y, hy, h1, h2⟩
      · have : bestV p q = -1 := h1
        omega
      · have : bestV p q = costV p q y := h1
        exact ⟨y, hy, by omega⟩
    obtain ⟨⟨x, hx, hm⟩, hb⟩ := text_sound hp hq _ _ hok hat
    rw [h] at hm hb
    obtain ⟨h1, h2, h3, h4⟩ := begin_mem.1 hx
    obtain ⟨m1, m2⟩ := hm
    rw [h2, List.drop_zero] at m1
    rw [h4, List.drop_zero] at m2
    refine ⟨⟨_, ?_, m1⟩, ⟨_, ?_, m2⟩, hb⟩
    · unfold altV; rw [getD_lt p h1]; exact List.getElem_mem _
    · unfold altV; rw [getD_lt q h3]; exact List.getElem_mem _
theorem common_complete {p q : Alts} (hp : StarOk p) (hq : StarOk q) {a b : List El} (ha : a ∈ p) (hb : b ∈ q) {s : List UInt8} (h1 : mat a s = true) (h2 : mat b s = true) (hs : ∀ c ∈ s, okB c) : ∃ t, commonV p q = some t := by
  obtain ⟨i, hi, rfl⟩ := List.getElem_of_mem ha
  obtain ⟨j, hj, rfl⟩ := List.getElem_of_mem hb
  have hx : PrOk p q ⟨i, 0, j, 0⟩ := ⟨hi, Nat.zero_le _, hj, Nat.zero_le _⟩
  have hm : PrM p q ⟨i, 0, j, 0⟩ s := by
    refine ⟨?_, ?_⟩
    · show mat ((altV p i).drop 0) s = true
      rw [List.drop_zero]; unfold altV; rw [getD_lt p hi]; exact h1
    · show mat ((altV q j).drop 0) s = true
      rw [List.drop_zero]; unfold altV; rw [getD_lt q hj]; exact h2
  have hc := cost_le hp hq _ _ s (Nat.le_refl _) hx hs hm
  have hf := fmin_2 (costV p q) (beginV p q) (-1) ⟨i, 0, j, 0⟩ (begin_mem.2 ⟨hi, rfl, hj, rfl⟩) hc.1
  unfold commonV
  rw [if_neg (by have : bestV p q = _ := rfl; rw [this]; unfold bestV; omega)]
  exact ⟨_, rfl⟩
end Go.Proofs.Ythhfpcbpiphfiaa
namespace Go.Proofs.Ythhfpcbpiphfiaa
open Go.RowKit
open IntWalk renaming iteOmega → iO, toNatUp → tN
set_option linter.unusedVariables false
set_option linter.unusedSimpArgs false
def StarE (e : El) : Prop := e.star = true → e.set = everyL
theorem altGo_star {p : ByteArray} {i : Nat} {l : List (List El)} {x : List El} {r : List (List El)} (h : altGo p i l x = some r) (hl : ∀ y ∈ l, ∀ e ∈ y, StarE e) (hx : ∀ e ∈ x, StarE e) : ∀ y ∈ r, ∀ e ∈ y, StarE e := by
  have snoc : ∀ {x : List El} {e : El}, (∀ e ∈ x, StarE e) → StarE e → ∀ e' ∈ x ++ [e], StarE e' := fun hx he e' h => by
    rcases List.mem_append.1 h with h | h
    · exact hx e' h
    · rw [List.mem_singleton.1 h]; exact he
  have snoc2 : ∀ {l : List (List El)} {x : List El}, (∀ y ∈ l, ∀ e ∈ y, StarE e) → (∀ e ∈ x, StarE e) → ∀ y ∈ l ++ [x], ∀ e ∈ y, StarE e := fun hl hx y h => by
    rcases List.mem_append.1 h with h | h
    · exact hl y h
    · rw [List.mem_singleton.1 h]; exact hx
  fun_induction altGo p i l x <;> first
    | (cases h; done)
    | (injection h with h; subst h; exact snoc2 hl hx)
    | (rename_i ih; exact ih h (snoc2 hl hx) (fun e he => by cases he))
    | (rename_i ih; exact ih h hl (snoc hx (fun _ => rfl)))
    | (rename_i ih; exact ih h hl (snoc hx (fun h0 => by cases h0)))
    | skip
theorem altsM_star {P : ByteArray} {l : Alts} (h : altsM P = some l) : StarOk l := by
  have h1 := altGo_star h (fun y hy => by cases hy) (fun e he => by cases he)
  intro a e he
  unfold altV at he
  by_cases ha : a < l.length
  · rw [getD_lt l ha] at he; exact h1 _ (List.getElem_mem _) e he
  · rw [List.getD_eq_getElem?_getD, List.getElem?_eq_none (by omega)] at he; cases he
theorem txtB_list (t : List Nat) : (txtB t).data.toList = t.map UInt8.ofNat := by
  unfold txtB strOfNums
  simp only [List.map_map]
  show (List.map _ t).toArray.toList = _
  rw [List.map_congr_left (g := UInt8.ofNat) fun b _ => by simp]
theorem textB_iff {b : UInt8} : textB b = true ↔ okB b := by
  unfold textB okB
  rw [Bool.and_eq_true, decide_eq_true_eq, decide_eq_true_eq]
theorem match_parts {P s : ByteArray} (h : matchM P s = true) : globM P = 0 ∧ (∀ b ∈ s.data.toList, okB b) ∧ ∃ l, altsM P = some l ∧ ∃ a ∈ l, mat a s.data.toList = true := by
  unfold matchM at h
  rw [Bool.and_eq_true, Bool.and_eq_true, decide_eq_true_eq] at h
  refine ⟨h.1.1, fun b hb => textB_iff.1 (List.all_eq_true.1 h.1.2 b hb), ?_⟩
  have h2 := h.2
  cases e : altsM P with
  | none => rw [e] at h2; cases h2
  | some l =>
    rw [e] at h2
    simp only at h2
    obtain ⟨a, ha, hm⟩ := List.any_eq_true.1 h2
    exact ⟨l, rfl, a, ha, hm⟩
theorem match_of {P s : ByteArray} {l : Alts} (h1 : globM P = 0) (h2 : ∀ b ∈ s.data.toList, okB b) (h3 : altsM P = some l) {a : List El} (ha : a ∈ l) (hm : mat a s.data.toList = true) : matchM P s = true := by
  unfold matchM
  rw [Bool.and_eq_true, Bool.and_eq_true, decide_eq_true_eq]
  refine ⟨⟨h1, List.all_eq_true.2 fun b hb => textB_iff.2 (h2 b hb)⟩, ?_⟩
  rw [h3]
  exact List.any_eq_true.2 ⟨a, ha, hm⟩
theorem comO_sound {P Q t : ByteArray} (h : comO P Q = some t) : matchM P t = true ∧ matchM Q t = true := by
  unfold comO at h
  split at h
  · rename_i h0
    obtain ⟨hs1, p, hp1⟩ := globM_some h0.1
    obtain ⟨hs2, q, hq1⟩ := globM_some h0.2
    rw [hp1, hq1] at h
    simp only at h
    have hp := (altsM_good hp1 hs1).sm
    have hq := (altsM_good hq1 hs2).sm
    obtain ⟨T, hT, rfl⟩ := Option.map_eq_some_iff.1 h
    obtain ⟨⟨a, ha, hm⟩, ⟨b, hb, hm2⟩, hk⟩ := common_sound hp hq hT
    have hbs : ∀ b ∈ (txtB T).data.toList, okB b := fun b hb => by
      rw [txtB_list] at hb
      obtain ⟨c, hc, rfl⟩ := List.mem_map.1 hb
      have := hk c hc
      unfold okB
      rw [UInt8.toNat_ofNat']
      omega
    rw [← txtB_list] at hm hm2
    exact ⟨match_of h0.1 hbs hp1 ha hm, match_of h0.2 hbs hq1 hb hm2⟩
  · cases h
theorem comO_complete {P Q s : ByteArray} (h1 : matchM P s = true) (h2 : matchM Q s = true) : ∃ t, comO P Q = some t := by
  obtain ⟨g1, hb, p, hp, a, ha, hm⟩ := match_parts h1
  obtain ⟨g2, _, q, hq, b, hb', hm2⟩ := match_parts h2
  obtain ⟨t, ht⟩ := common_complete (altsM_star hp) (altsM_star hq) ha hb' hm hm2 hb
  refine ⟨txtB t, ?_⟩
  unfold comO
  rw [if_pos ⟨g1, g2⟩, hp, hq]
  simp only
  rw [ht]
  rfl
theorem shStep_some {P Q : ByteArray} {st : Option ByteArray} (h : ∃ t, st = some t) : ∃ t, shStep P st Q = some t := by
  obtain ⟨t, rfl⟩ := h
  unfold shStep
  cases comO P Q with
  | none => exact ⟨_, rfl⟩
  | some s =>
    simp only
    split <;> exact ⟨_, rfl⟩
theorem shRow_keep {P : ByteArray} : ∀ (B : List ByteArray) (st : Option ByteArray), (∃ t, st = some t) → ∃ t, shRow B st P = some t
  | [], st, h => h
  | Q :: B, st, h => shRow_keep B _ (shStep_some h)
theorem shRow_hit {P Q : ByteArray} (hc : ∃ t, comO P Q = some t) : ∀ (B : List ByteArray) (st : Option ByteArray), Q ∈ B → ∃ t, shRow B st P = some t
  | [], st, h => by cases h
  | Q' :: B, st, h => by
    rcases List.mem_cons.1 h with rfl | h
    · refine shRow_keep B _ ?_
      obtain ⟨t, ht⟩ := hc
      unfold shStep
      rw [ht]
      cases st with
      | none => exact ⟨_, rfl⟩
      | some b =>
        simp only
        split <;> exact ⟨_, rfl⟩
    · exact shRow_hit hc B _ h
theorem shAll_keep {B : List ByteArray} : ∀ (A : List ByteArray) (st : Option ByteArray), (∃ t, st = some t) → ∃ t, A.foldl (shRow B) st = some t
  | [], st, h => h
  | P :: A, st, h => shAll_keep A _ (shRow_keep B st h)
theorem shAll_hit {P Q : ByteArray} {B : List ByteArray} (hc : ∃ t, comO P Q = some t) (hQ : Q ∈ B) : ∀ (A : List ByteArray) (st : Option ByteArray), P ∈ A → ∃ t, A.foldl (shRow B) st = some t
  | [], st, h => by cases h
  | P' :: A, st, h => by
    rcases List.mem_cons.1 h with rfl | h
    · exact shAll_keep A _ (shRow_hit hc B st hQ)
    · exact shAll_hit hc hQ A _ h
theorem shared_complete {A B : List ByteArray} {P Q s : ByteArray} (hP : P ∈ A) (hQ : Q ∈ B) (h1 : matchM P s = true) (h2 : matchM Q s = true) : ∃ t, sharedV A B = some t :=
  shAll_hit (comO_complete h1 h2) hQ A none hP
def FromC (A B : List ByteArray) (t : ByteArray) : Prop := ∃ P ∈ A, ∃ Q ∈ B, comO P Q = some t
theorem shStep_from {A B : List ByteArray} {P Q : ByteArray} (hP : P ∈ A) (hQ : Q ∈ B) {st : Option ByteArray} (h : ∀ t, st = some t → FromC A B t) : ∀ t, shStep P st Q = some t → FromC A B t := by
  intro t ht
  unfold shStep at ht
  cases hc : comO P Q with
  | none => rw [hc] at ht; exact h t ht
  | some s =>
    rw [hc] at ht
    have hs : FromC A B s := ⟨P, hP, Q, hQ, hc⟩
    cases st with
    | none => simp only [Option.some.injEq] at ht; rw [← ht]; exact hs
    | some b =>
      simp only at ht
      split at ht
      · cases ht; exact hs
      · cases ht; exact h _ rfl
theorem shRow_from {A B : List ByteArray} {P : ByteArray} (hP : P ∈ A) : ∀ (B' : List ByteArray) (st : Option ByteArray), (∀ Q ∈ B', Q ∈ B) → (∀ t, st = some t → FromC A B t) → ∀ t, B'.foldl (shStep P) st = some t → FromC A B t
  | [], st, _, h => h
  | Q :: B', st, hB, h => shRow_from hP B' _ (fun Q' hQ => hB Q' (by simp [hQ])) (shStep_from hP (hB Q (by simp)) h)
theorem shAll_from {A B : List ByteArray} : ∀ (A' : List ByteArray) (st : Option ByteArray), (∀ P ∈ A', P ∈ A) → (∀ t, st = some t → FromC A B t) → ∀ t, A'.foldl (shRow B) st = some t → FromC A B t
  | [], st, _, h => h
  | P :: A', st, hA, h => shAll_from A' _ (fun P' hP => hA P' (by simp [hP])) (shRow_from (hA P (by simp)) B st (fun _ h => h) h)
theorem shared_sound {A B : List ByteArray} {t : ByteArray} (h : sharedV A B = some t) : ∃ P ∈ A, ∃ Q ∈ B, matchM P t = true ∧ matchM Q t = true := by
  obtain ⟨P, hP, Q, hQ, hc⟩ := shAll_from A none (fun _ h => h) (fun t h => by cases h) t h
  exact ⟨P, hP, Q, hQ, comO_sound hc⟩
def bareC (c : Cfg) : Cfg := { c with blocked := [], extra := [] }
theorem bare_found (c : Cfg) (s : ByteArray) (m : Mod) : foundR (bareC c) s m = true ↔ s ≠ ⟨#[]⟩ ∧ ∃ P ∈ m.aliases, matchM P s = true := by
  unfold foundR bareC matsA inM
  simp
theorem aliases_of {M : List Mod} (hn : (M.map Mod.name).Nodup) {m : Mod} (hm : m ∈ M) : aliasesV M m.name = m.aliases := by
  induction M with
  | nil => cases hm
  | cons x M ih =>
    rw [List.map_cons, List.nodup_cons] at hn
    unfold aliasesV
    rcases List.mem_cons.1 hm with rfl | hm
    · rw [List.find?_cons_of_pos (by simp)]
    · have hne : ¬ x.name = m.name := fun e => hn.1 (List.mem_map.2 ⟨m, hm, e.symm⟩)
      rw [List.find?_cons_of_neg (by simpa using hne)]
      exact ih hn.2 hm
theorem bare_mem {c : Cfg} {s x : ByteArray} (hn : (c.modules.map Mod.name).Nodup) (h : x ∈ findA (bareC c) s) : s ≠ ⟨#[]⟩ ∧ ∃ P ∈ aliasesV c.modules x, matchM P s = true := by
  obtain ⟨m, h1, h2, rfl⟩ := ((findA_spec (bareC c) s).2 x).1 h
  obtain ⟨h3, h4⟩ := (bare_found c s m).1 h2
  rw [aliases_of hn h1]
  exact ⟨h3, h4⟩
theorem bare_in {c : Cfg} {s t x : ByteArray} (hn : (c.modules.map Mod.name).Nodup) (h : x ∈ findA (bareC c) s) (ht : t ≠ ⟨#[]⟩) {P : ByteArray} (hP : P ∈ aliasesV c.modules x) (hm : matchM P t = true) : x ∈ findA (bareC c) t := by
  obtain ⟨m, h1, h2, rfl⟩ := ((findA_spec (bareC c) s).2 x).1 h
  rw [aliases_of hn h1] at hP
  exact ((findA_spec (bareC c) t).2 m.name).2 ⟨m, h1, (bare_found c t m).2 ⟨ht, P, hP, hm⟩, rfl⟩
theorem bare_meet {c : Cfg} {s x y : ByteArray} (hn : (c.modules.map Mod.name).Nodup) (hx : x ∈ findA (bareC c) s) (hy : y ∈ findA (bareC c) s) :
    ∃ t, sharedV (aliasesV c.modules x) (aliasesV c.modules y) = some t ∧ (t ≠ ⟨#[]⟩ → x ∈ findA (bareC c) t ∧ y ∈ findA (bareC c) t) := by
  obtain ⟨_, P, hP, hm⟩ := bare_mem hn hx
  obtain ⟨_, Q, hQ, hm2⟩ := bare_mem hn hy
  obtain ⟨t, ht⟩ := shared_complete hP hQ hm hm2
  refine ⟨t, ht, fun hne => ?_⟩
  obtain ⟨P', hP', Q', hQ', k1, k2⟩ := shared_sound ht
  exact ⟨bare_in hn hx hne hP' k1, bare_in hn hy hne hQ' k2⟩
end Go.Proofs.Ythhfpcbpiphfiaa
namespace Go.Proofs.Ythhfpcbpiphfiaa
attribute [local irreducible] PL QL PWPr PCalls Weak RetK Kontr PA
open Go.RowKit
open IntWalk renaming iteOmega → iO, toNatUp → tN
set_option linter.unusedVariables false
set_option linter.unusedSimpArgs false
set_option maxRecDepth 20000
theorem SmallC.bare {c : Cfg} (h : SmallC c) : SmallC (bareC c) := ⟨h.mods, h.als, Nat.zero_le _, Nat.zero_le _, fun y hy => by cases hy⟩
theorem shared_size {A B : List ByteArray} {t : ByteArray} (h : sharedV A B = some t) : t.size ≤ 100000 := by
  have h1 := shAll_size (B := B) A none (by decide)
  rw [show A.foldl (shRow B) none = sharedV A B from rfl, h] at h1
  exact h1
set_option maxHeartbeats 16000000 in
theorem meets18_pure (L : List Int) (hL : ∀ x ∈ L, -9223372036854775808 ≤ x ∧ x ≤ 9223372036854775807) (hl : L.length ≤ 9223372036854775807) :
    PCalls Try.prog 6 [.c (.sl 1 (L.map fun x => [D.v (.int .i64 x)]))] [] fun r os => r = .c (.v (.bool true)) ∧ os = [] := by
  refine pcalls_of Try.func6 rfl (by simp [Try.ntmps6]) ?_
  rw [Try.ntmps6, Try.results6]
  push_cast [iO, tN]
  have cB : CutB 11 [25, 31, 48, 71] := trivial
  have hsz := fun k => pick_le (L := L) (k := k) (l := al18) (n := 300) (by decide) (by decide +kernel)
  repeat' (first |  ((refine plc [0] (wconfig_full L 0 (by omega) hL hl) ?_ ?_; push_cast [iO, tN]; rintro r os ⟨c, k1, ⟨⟨hc, hwc⟩, hk1⟩, rfl, rfl⟩; push_cast [iO, tN])) | (refine hidR 4 ?_)  | ((first | refine pC ?_ | refine pQC ?_ | refine pU ?_); push_cast [iO, tN]) | (refine pif (fun h => ?_) (fun h => ?_) <;> first | exact pN h | push_cast [iO, tN]))
  have hsc := hwc.smallC.bare
  have hA := walias18_pure L k1 (by omega) hL hl
  have hsz1 := hsz k1
  obtain ⟨s, hs⟩ : ∃ s, pick L k1 al18 = s := ⟨_, rfl⟩
  rw [hs] at hsz1 hA
  clear hsz
  have hbm := fun x y (hx : x ∈ findA (bareC c) s) (hy : y ∈ findA (bareC c) s) => bare_meet hc.nodup hx hy
  rw [show c.modules = (bareC c).modules from rfl] at hbm
  have hF := fun t (ht : ByteArray.size t ≤ 100000) => afind_pure (bareC c) t hsc.few hsc.ents (by omega)
  have hSh := fun x y => shared_pure (bareC c) x y hsc.few (fun m hm p hp => by have := (hsc.als m hm).2.1 p hp; omega)
  have hfl := fun t => findA_len (bareC c) t
  have hml := hsc.mods
  have md : (bareC c).modules = c.modules ∧ (bareC c).blocked = [] ∧ (bareC c).off = c.off ∧ (bareC c).keep = c.keep ∧ (bareC c).extra = [] := ⟨rfl, rfl, rfl, rfl, rfl⟩
  obtain ⟨d, hd⟩ : ∃ d, bareC c = d := ⟨_, rfl⟩
  rw [hd] at hbm hF hSh hfl hml md
  obtain ⟨md1, md2, md3, md4, md5⟩ := md
  refine unhid ?_
  refine pwp_weak (s' := ⟨[(4, .c (.ptr 1 0)), (3, .c (.ptr 0 0)), (2, .c (.v (.bool false)))], [.box 26 [.sl 1 (L.map fun x => [D.v (.int .i64 x)]), .v (.int .i64 (k1 : Int))], .box 31 d.e]⟩) (by (refine weak_fg ?_; push_cast [iO, tN, md1, md2, md3, md4, md5])) ?_
  push_cast [iO, tN]
  have hF0 := hF s (by omega)
  obtain ⟨F0, hF00⟩ : ∃ F, findA d s = F := ⟨_, rfl⟩
  have hfl0 := hfl s
  rw [hF00] at hF0 hbm hfl0
  (refine pwp_cut 11 [25, 31, 48, 71] ?_; apply pwp_drawn_to; (focus kernel_rfl); (focus (simp only [List.length_cons, List.length_nil, Nat.reduceAdd]; (repeat' first | ((refine plc [0] (hA) ?_ ?_; push_cast [iO, tN]; rintro r os ⟨rfl, rfl⟩; push_cast [iO, tN])) | ((refine plc [] (hF0) ?_ ?_; push_cast [iO, tN]; rintro r os ⟨rfl, rfl⟩; push_cast [iO, tN])) | ((first | refine pah 1 ?_ | refine pah 4 ?_); push_cast [iO, tN]) | (refine pad ?_; first | with_reducible exact weak_cutS 11 [25, 31, 48, 71] _ | (refine weak_fg ?_; push_cast [iO, tN])) | ((first | refine pas [0] ?_ | refine pas [2] ?_ | refine pas [3] ?_); push_cast [iO, tN]) | ((first | refine pas [0, 2] ?_); push_cast [iO, tN]; refine ⟨?_, ?_⟩)); done)); push_cast [iO, tN])
  (apply pwp_loop3 (α := Nat) 11 [25, 31, 48, 71] (fun i => [(6, .c (.v (.int .i64 i)))]) (fun i => []) (fun i => i ≤ F0.length) (fun i => F0.length - i) (0); (focus ((try push_cast [iO, tN]); rfl)); (focus exact (by omega)); (focus ((refine weak_fg ?_; try push_cast [iO, tN]))))
  intro i hi
  push_cast [iO, tN]
  by_cases hit : i < F0.length
  · have hxm : F0.getD i default ∈ F0 := by rw [getD_lt F0 hit]; exact List.getElem_mem _
    obtain ⟨x, hx⟩ : ∃ x, F0.getD i default = x := ⟨_, rfl⟩
    rw [hx] at hxm
    have hit' : (i : Int) < (F0.length : Int) := by omega
    repeat' (first | ((first | refine pC ?_ | refine pQC ?_ | refine pU ?_); push_cast [iO, tN]) | (refine pif (fun h => ?_) (fun h => ?_) <;> first | exact pN h | push_cast [iO, tN]))
    (apply pwp_loop3 (α := Nat) 11 [25, 31, 48, 71] (fun k => [(7, .c (.v (.int .i64 k)))]) (fun k => []) (fun k => k ≤ F0.length) (fun k => F0.length - k) (0); (focus ((try push_cast [iO, tN]); rfl)); (focus exact (by omega)); (focus ((refine weak_fg ?_; try push_cast [iO, tN]))))
    intro k hk
    push_cast [iO, tN]
    by_cases hkt : k < F0.length
    · have hym : F0.getD k default ∈ F0 := by rw [getD_lt F0 hkt]; exact List.getElem_mem _
      obtain ⟨y, hy⟩ : ∃ y, F0.getD k default = y := ⟨_, rfl⟩
      rw [hy] at hym
      have hkt' : (k : Int) < (F0.length : Int) := by omega
      obtain ⟨t, ht, ht2⟩ := hbm x y hxm hym
      have htz := shared_size ht
      have hS := hSh x y
      rw [ht] at hS
      simp only [Option.getD_some, Option.isSome_some] at hS
      have hFt := hF t htz
      have hflt := hfl t
      obtain ⟨F2, hF2⟩ : ∃ F, findA d t = F := ⟨_, rfl⟩
      rw [hF2] at hFt ht2 hflt
      repeat' (first |  (refine hidR 11 ?_)  | ((first | refine pC ?_ | refine pQC ?_ | refine pU ?_); push_cast [iO, tN]) | (refine pif (fun h => ?_) (fun h => ?_) <;> first | exact pN h | push_cast [iO, tN]))
      refine unhid ?_
      (refine pwp_cut 11 [25, 31, 48, 71] ?_; apply pwp_drawn_to; (focus kernel_rfl); (focus (simp only [List.length_cons, List.length_nil, Nat.reduceAdd]; (repeat' first | ((refine plc [] (hS) ?_ ?_; push_cast [iO, tN,  hx, hy, hit', hkt']; rintro r os ⟨rfl, rfl⟩; push_cast [iO, tN,  hx, hy, hit', hkt'])) | ((first | refine pah 1 ?_ | refine pah 2 ?_ | refine pah 3 ?_ | refine pah 5 ?_ | refine pah 6 ?_ | refine pah 7 ?_ | refine pah 10 ?_ | refine pah 11 ?_ | refine pah 12 ?_ | refine pah 13 ?_ | refine pah 14 ?_); push_cast [iO, tN,  hx, hy, hit', hkt']) | ((first | refine pal 0 ?_ | refine pal 4 ?_ | refine pal 8 ?_); push_cast [iO, tN,  hx, hy, hit', hkt']) | (refine pad ?_; first | with_reducible exact weak_cutS 11 [25, 31, 48, 71] _ | (refine weak_fg ?_; push_cast [iO, tN,  hx, hy, hit', hkt'])) | ((first | refine pas [9] ?_); push_cast [iO, tN,  hx, hy, hit', hkt'])); done)); push_cast [iO, tN,  hx, hy, hit', hkt'])
      by_cases ht0 : t = ⟨#[]⟩
      · repeat' (first | ((refine plc [] (hFt) ?_ ?_; push_cast [iO, tN, ht0, ne_eq, not_true_eq_false]; rintro r os ⟨rfl, rfl⟩; push_cast [iO, tN, ht0, ne_eq, not_true_eq_false])) | ((first | refine pC ?_ | refine pQC ?_ | refine pU ?_); push_cast [iO, tN, ht0, ne_eq, not_true_eq_false]) | (refine pif (fun h => ?_) (fun h => ?_) <;> first | exact pN h | push_cast [iO, tN, ht0, ne_eq, not_true_eq_false]))
        exact ⟨k + 1, by omega, by (refine weak_fg ?_; push_cast [iO, tN]), by omega⟩
      · obtain ⟨m1, m2⟩ := ht2 ht0
        have i1 := in_pure F2 x (by omega)
        have i2 := in_pure F2 y (by omega)
        rw [inM_iff.2 m1] at i1
        rw [inM_iff.2 m2] at i2
        repeat' (first | ((refine plc [] (hFt) ?_ ?_; push_cast [iO, tN, ht0, ne_eq, not_false_eq_true, hx, hy, hit', hkt']; rintro r os ⟨rfl, rfl⟩; push_cast [iO, tN, ht0, ne_eq, not_false_eq_true, hx, hy, hit', hkt'])) | ((refine plc [] (i1) ?_ ?_; push_cast [iO, tN, ht0, ne_eq, not_false_eq_true, hx, hy, hit', hkt']; rintro r os ⟨rfl, rfl⟩; push_cast [iO, tN, ht0, ne_eq, not_false_eq_true, hx, hy, hit', hkt'])) | ((refine plc [] (i2) ?_ ?_; push_cast [iO, tN, ht0, ne_eq, not_false_eq_true, hx, hy, hit', hkt']; rintro r os ⟨rfl, rfl⟩; push_cast [iO, tN, ht0, ne_eq, not_false_eq_true, hx, hy, hit', hkt'])) | ((first | refine pC ?_ | refine pQC ?_ | refine pU ?_); push_cast [iO, tN, ht0, ne_eq, not_false_eq_true, hx, hy, hit', hkt']) | (refine pif (fun h => ?_) (fun h => ?_) <;> first | exact pN h | push_cast [iO, tN, ht0, ne_eq, not_false_eq_true, hx, hy, hit', hkt']))
        exact ⟨k + 1, by omega, by (refine weak_fg ?_; push_cast [iO, tN]), by omega⟩
    · repeat' (first | ((first | refine pC ?_ | refine pQC ?_ | refine pU ?_); push_cast [iO, tN]) | (refine pif (fun h => ?_) (fun h => ?_) <;> first | exact pN h | push_cast [iO, tN]))
      exact ⟨i + 1, by omega, by (refine weak_fg ?_; push_cast [iO, tN]), by omega⟩
  · repeat' (first |  ((refine plc [] (known18_pure) ?_ ?_; push_cast [iO, tN]; rintro r os ⟨rfl, rfl⟩; push_cast [iO, tN]))  | ((first | refine pC ?_ | refine pQC ?_ | refine pU ?_); push_cast [iO, tN]) | (refine pif (fun h => ?_) (fun h => ?_) <;> first | exact pN h | push_cast [iO, tN]))
    (refine retK_of [] ?_; push_cast [iO, tN])
end Go.Proofs.Ythhfpcbpiphfiaa
