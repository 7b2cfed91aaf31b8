/- Arguments as the law's walk wants them: integers, strings, slices of integers. -/
import Derived.Test.YtfojijoekpkheaaDoorBase
import Derived.ProofKit
import Derived.OpenShut
import Derived.ShutString
import Derived.ChangeOld
import Derived.Deep.Slices
import Derived.Deep.Fields
namespace Go.Proofs.YtfojijoekpkheaaDoor
open Go.ChangeShapes Go.WideShapes Go.ChangeAt Go.RowKit
open Go.ChangeMaps (open_string shut_string)
set_option linter.unusedVariables false
set_option linter.unusedSimpArgs false

theorem int_bd {n : Int} (h : (Lit.int .i64 n).wf = true) : -9223372036854775808 ≤ n ∧ n ≤ 9223372036854775807 := by
  simpa [Lit.wf, IntKind.min, IntKind.max, IntKind.signed, IntKind.bits] using h

theorem open_ints_rd {H : Type} {enc : TypeId × Value → H} {P : Program} {W : World} {base : Nat} {t e : TypeId} {v : Value} {d : DataW H} {ps : List MemPlace}
    (ht : P.underlying t = some (.slice e)) (he : P.underlying e = some (.int .i64)) (hC : P.cellsOf e = 1) (hv : Value.okWide P W .any base t v) (h : DataW.Trod enc P W 0 (fun _ => true) true t v d ps) :
    ∃ (A : Option Addr) (L : List Int) (c : Nat), v = .slice A L.length c ∧ L.length ≤ 9223372036854775807 ∧ Rd W (fun _ => True) 1 A L.length (L.map (Value.int .i64)) ∧
      ∀ i, i < L.length → -9223372036854775808 ≤ L.getD i 0 ∧ L.getD i 0 ≤ 9223372036854775807 := by
  obtain ⟨a0, len0, cap0, rfl⟩ := okWide_slice ht hv
  obtain ⟨fuel, hf⟩ := h
  rcases open_ints ht he hC hf with ⟨hcs, _⟩ | ⟨x, l, c, zs, hcs, _, hl, hm, hz, _, hcell, hwz⟩
  · simp [Value.cells] at hcs
    obtain ⟨rfl, rfl, rfl⟩ := hcs
    exact ⟨none, [], 0, rfl, by simp, Rd.nil, fun i hi => absurd hi (by simp)⟩
  · simp [Value.cells] at hcs
    obtain ⟨rfl, rfl, rfl⟩ := hcs
    have hz' : zs.length = cap0 := by simpa using hz
    have hlt : (zs.take len0).length = len0 := by rw [List.length_take]; omega
    refine ⟨some x, zs.take len0, cap0, by rw [hlt], by rw [hlt]; unfold maxLen at hm; omega, ⟨by simp, fun hn => ?_⟩, fun i hi => ?_⟩
    · obtain ⟨b, off, spot⟩ := x
      have hc0 := hcell 0 (by omega)
      have hspot : spot = none := by simpa [Addr.add] using World.cell?_spot hc0
      subst hspot
      refine ⟨b, off, rfl, trivial, World.block_lt_of_cell? _ _ (by simpa [Addr.add] using hc0), fun j u hu => ?_⟩
      rw [List.getElem?_map] at hu
      obtain ⟨y, hy, rfl⟩ := Option.map_eq_some_iff.1 hu
      have hj : j < zs.length := by
        have := (List.getElem?_eq_some_iff.1 hy).1
        rw [hlt] at this
        omega
      have h1 := hcell j hj
      rw [Addr.add_lit] at h1
      rw [h1]
      rw [List.getElem?_take] at hy
      split at hy
      · simp [List.getD, hy]
      · cases hy
    · have hm2 : (zs.take len0).getD i 0 ∈ zs := by
        rw [hlt] at hi
        have : (zs.take len0)[i]? = some ((zs.take len0)[i]'(by omega)) := List.getElem?_eq_getElem (by omega)
        rw [List.getD, this]
        exact List.mem_of_mem_take (List.getElem_mem _)
      exact int_bd (hwz _ hm2)
/-- a slice of whatever elements: it reads as the cells of its elements, one after the other -/
theorem trod_rows {H : Type} {enc : TypeId × Value → H} {P : Program} {W : World} {t e : TypeId} {size fuel : Nat} {A : Option Addr} {n c : Nat} {x : DataW H × List MemPlace}
    (ht : P.underlying t = some (.slice e)) (hC : P.cellsOf e = size) (hp : 0 < size) (h : DataW.trod enc P W 0 (fun _ => true) true fuel t [.slice A n c] = some x) :
    ∃ F : Nat → List Value, n ≤ c ∧ c ≤ maxLen ∧ (∀ i, i < n → (F i).length = size ∧ ∃ m y, DataW.trod enc P W 0 (fun _ => true) true m e (F i) = some y) ∧
      Rd W (fun _ => True) size A n ((List.range n).flatMap F) := by
  rcases Go.Deep.open_slice ht h with ⟨hcs, _⟩ | ⟨a, len, cap, m, fu, D, Pl, hcs, _, hl, hm, hmm, _, hi⟩
  · simp at hcs
    obtain ⟨rfl, rfl, rfl⟩ := hcs
    exact ⟨fun _ => [], Nat.le_refl _, by simp [maxLen], fun i hi => absurd hi (by omega), by simpa using Rd.nil⟩
  · simp at hcs
    obtain ⟨rfl, rfl, rfl⟩ := hcs
    simp only [if_true] at hmm
    subst hmm
    obtain ⟨F, hF⟩ := Go.Deep.choose_lt (n := n) (p := fun i (cs' : List Value) => W.cells? 0 (a.add (i * P.cellsOf e)) (P.cellsOf e) = some cs' ∧ DataW.trod enc P W 0 (fun _ => true) true fu e cs' = some (D i, Pl i))
      (fun i h => hi i (by omega))
    have hlen : ∀ i, i < n → (F i).length = size := fun i h => by
      have := (World.cells?_some (hF i h).1).2.1
      rw [this, hC]
    have hflat : ∀ k, k ≤ n → ((List.range k).flatMap F).length = k * size := by
      intro k
      induction k with
      | zero => intro _; simp
      | succ k ih =>
        intro hk
        rw [List.range_succ, List.flatMap_append, List.length_append, ih (by omega)]
        simp [hlen k (by omega), Nat.add_mul]
    refine ⟨F, hl, hm, fun i h => ⟨hlen i h, fu, _, (hF i h).2⟩, hflat n (Nat.le_refl _), fun hn => ?_⟩
    have hcell : ∀ i, i < n → ∀ j, j < size → W.cell? ((a.add (i * size)).add j) = (F i)[j]? := fun i h j hj => by
      have h1 := (World.cells?_some (hF i h).1).2.2 j (by rw [hC]; exact hj)
      rw [hC] at h1
      exact h1
    have hget : ∀ k, k ≤ n → ∀ j, ((List.range k).flatMap F)[j]? = if j < k * size then (F (j / size))[j % size]? else none := by
      intro k
      induction k with
      | zero => intro _ j; simp
      | succ k ih =>
        intro hk j
        rw [List.range_succ, List.flatMap_append]
        by_cases hj : j < k * size
        · rw [List.getElem?_append_left (by rw [hflat k (by omega)]; exact hj), ih (by omega), if_pos hj, if_pos (by rw [Nat.add_mul]; omega)]
        · rw [List.getElem?_append_right (by rw [hflat k (by omega)]; omega), hflat k (by omega)]
          simp only [List.flatMap_cons, List.flatMap_nil, List.append_nil]
          by_cases hj2 : j < (k + 1) * size
          · have hj3 : j - k * size < size := by rw [Nat.add_mul] at hj2; omega
            have e1 : j / size = k := by
              rw [show j = (j - k * size) + k * size by omega, Nat.add_mul_div_right _ _ hp, Nat.div_eq_of_lt hj3]; omega
            have e2 : j % size = j - k * size := by
              conv => lhs; rw [show j = (j - k * size) + k * size by omega]
              rw [Nat.add_mul_mod_self_right, Nat.mod_eq_of_lt hj3]
            rw [if_pos hj2, e1, e2]
          · rw [if_neg hj2, List.getElem?_eq_none (by rw [hlen k (by omega)]; rw [Nat.add_mul] at hj2; omega)]
    obtain ⟨b, off, spot⟩ := a
    have h0 := hcell 0 (by omega) 0 hp
    have hs : spot = none := by
      have hx : (F 0)[0]? = some ((F 0)[0]'(by rw [hlen 0 (by omega)]; exact hp)) := List.getElem?_eq_getElem _
      rw [hx] at h0
      simpa [Addr.add] using World.cell?_spot h0
    subst hs
    have h0b : b < W.heap.size := by
      have hx : (F 0)[0]? = some ((F 0)[0]'(by rw [hlen 0 (by omega)]; exact hp)) := List.getElem?_eq_getElem _
      rw [hx] at h0
      have := World.block_lt_of_cell? _ _ h0
      simpa [Addr.add_lit] using this
    refine ⟨b, off, rfl, trivial, h0b, fun j u hu => ?_⟩
    rw [hget n (Nat.le_refl _)] at hu
    split at hu
    · rename_i hj
      have hq : j / size < n := Nat.div_lt_of_lt_mul (by rw [Nat.mul_comm]; exact hj)
      have h1 := hcell (j / size) hq (j % size) (Nat.mod_lt _ hp)
      rw [Addr.add_lit, Addr.add_lit, Nat.add_assoc, Nat.mul_comm, Nat.div_add_mod] at h1
      rw [h1, hu]
    · cases hu

theorem open_rows {H : Type} {enc : TypeId × Value → H} {P : Program} {W : World} {base : Nat} {t e : TypeId} {size : Nat} {v : Value} {d : DataW H} {ps : List MemPlace}
    (ht : P.underlying t = some (.slice e)) (hC : P.cellsOf e = size) (hp : 0 < size) (hv : Value.okWide P W .any base t v) (h : DataW.Trod enc P W 0 (fun _ => true) true t v d ps) :
    ∃ (A : Option Addr) (n c : Nat) (F : Nat → List Value), v = .slice A n c ∧ n ≤ c ∧ c ≤ maxLen ∧ (∀ i, i < n → (F i).length = size ∧ ∃ m y, DataW.trod enc P W 0 (fun _ => true) true m e (F i) = some y) ∧
      Rd W (fun _ => True) size A n ((List.range n).flatMap F) := by
  obtain ⟨A, n, c, rfl⟩ := okWide_slice ht hv
  obtain ⟨fuel, hf⟩ := h
  obtain ⟨F, h1, h2, h3, h4⟩ := trod_rows ht hC hp (by simpa [Value.cells] using hf)
  exact ⟨A, n, c, F, rfl, h1, h2, h3, h4⟩
end Go.Proofs.YtfojijoekpkheaaDoor
