/- slices.Sort and slices.Compact at texts, as pure contracts. -/
import Derived.Test.YtfojijoekpkheaaDoorPLibB
import Derived.Test.YtfojijoekpkheaaDoorPTape
import Derived.Test.YtfojijoekpkheaaDoorShelfD
import Derived.Lib.OwnBridge
namespace Go.Proofs.YtfojijoekpkheaaDoor
attribute [local irreducible] PL QL PWP PCalls Weak RetK Kont PA
open Go.RowKit
set_option linter.unusedVariables false
set_option linter.unusedSimpArgs false
/-- texts that ascend -/
def asc (l : List ByteArray) : Prop := l.Pairwise fun a b => bless a b = true
theorem asc_ext : ∀ {l m : List ByteArray}, asc l → asc m → (∀ x, x ∈ l ↔ x ∈ m) → l = m
  | [], [], _, _, _ => rfl
  | [], b :: m, _, _, h => by have := (h b).2 (by simp); simp at this
  | a :: l, [], _, _, h => by have := (h a).1 (by simp); simp at this
  | a :: l, b :: m, hl, hm, h => by
    obtain ⟨l1, l2⟩ := List.pairwise_cons.1 hl
    obtain ⟨m1, m2⟩ := List.pairwise_cons.1 hm
    have hab : a = b := by
      rcases List.mem_cons.1 ((h a).1 (by simp)) with e | e
      · exact e
      · rcases List.mem_cons.1 ((h b).2 (by simp)) with e' | e'
        · exact e'.symm
        · have h1 := m1 a e
          have h2 := l1 b e'
          rw [bless_asymm h1] at h2
          cases h2
    subst hab
    congr 1
    refine asc_ext l2 m2 fun x => ⟨fun hx => ?_, fun hx => ?_⟩
    · rcases List.mem_cons.1 ((h x).1 (by simp [hx])) with e | e
      · subst e; have := l1 _ hx; rw [bless_irrefl] at this; cases this
      · exact e
    · rcases List.mem_cons.1 ((h x).2 (by simp [hx])) with e | e
      · subst e; have := m1 _ hx; rw [bless_irrefl] at this; cases this
      · exact e
theorem asc_nodup {l : List ByteArray} (h : asc l) : l.Nodup := h.imp fun h => bless_ne h
def unB (x : List UInt8) : ByteArray := ⟨x.toArray⟩
theorem unB_list (b : ByteArray) : unB b.data.toList = b := by unfold unB; rfl
theorem list_unB (x : List UInt8) : (unB x).data.toList = x := by unfold unB; rfl
theorem texts_rd {w : World} {I : Nat → Prop} : ∀ (l : List ByteArray) (vs : List Value), All2 (RD w I) (l.map strD).flatten vs → vs = l.map Value.string
  | [], vs, h => by simpa [All2.nil_l] using h
  | a :: l, vs, h => by
    simp only [List.map_cons, List.flatten_cons, strD, List.cons_append, List.nil_append] at h
    obtain ⟨y, vs', rfl, h5, h6⟩ := All2.cons_l.1 h
    rw [RD] at h5
    rw [h5.1, texts_rd l vs' h6]; rfl
theorem rd_texts {w : World} {I : Nat → Prop} : ∀ (l : List ByteArray), All2 (RD w I) (l.map strD).flatten (l.map Value.string)
  | [] => trivial
  | a :: l => ⟨by rw [RD]; exact ⟨rfl, rfl⟩, rd_texts l⟩
open Go.Sort Go.Lib in
/-- an array of texts, its cells holding others (and the memory grown) -/
theorem put_texts {Γ : G} {w : World} {l : List ByteArray} {rest : List Ob} (hm : MemOk Γ (.arr 9 1 (l.map strD) :: rest) w) (hc : 0 < Γ.cap 0) (hl : 0 < l.length) :
    Γ.β 0 < w.heap.size ∧ Holds encStr w (Γ.β 0) 0 (l.map (·.data.toList)).toArray ∧ l.length ≤ Γ.cap 0 ∧ ∀ (q : Nat) (gr : Array Obj) (ys : List (List UInt8)), ys.length = l.length →
      MemOk Γ (.arr 9 1 ((ys.map unB).map strD) :: rest) (grow (putRow encStr (Sort.ahead w q) (Γ.β 0) 0 ys.toArray) gr) ∧ Grow (rest.length + 1) Γ w Γ (grow (putRow encStr (Sort.ahead w q) (Γ.β 0) 0 ys.toArray) gr) := by
  have hk : 0 < Γ.n := by rw [hm.n]; simp
  obtain ⟨h1, h2, h3, h4⟩ := hm.ob 0 _ rfl
  obtain ⟨cur, hb, hs, hle, hmx, hrd⟩ := h4 hc
  have hcur : cur.toList.take (l.length * 1) = (l.map (·.data.toList)).map Go.Proofs.encStr := by
    rw [map_encStr]
    have := texts_rd _ _ hrd
    simpa using this
  have hle' : l.length ≤ Γ.cap 0 := by simpa using hle
  have hown : w.ownsRow 0 9 1 (.slice (some ⟨Γ.β 0, 0, none⟩) l.length (Γ.cap 0)) l.length ((l.map (·.data.toList)).map encStr) :=
    ⟨by simp, .inr ⟨Γ.β 0, Γ.cap 0, cur, rfl, Nat.zero_le _, hb, hle', hmx, hs, hcur⟩⟩
  obtain ⟨g, cap, e, _, i2, _, _, _, i6⟩ := holds_of_ownsRow hown (by simp)
  injection e with e1 e2 e3
  injection e1 with e1
  injection e1 with e1
  subst e1
  refine ⟨i2, i6, hle', fun q gr ys hy => ?_⟩
  have ho := ownsRow_putRow (q := q) (k := l.length) hown hy (Nat.le_refl _)
  rw [List.take_of_length_le (by omega)] at ho
  have hsz : (putRow encStr (Sort.ahead w q) (Γ.β 0) 0 ys.toArray).heap.size = w.heap.size := by simp [Sort.ahead]
  have hog : (grow (putRow encStr (Sort.ahead w q) (Γ.β 0) 0 ys.toArray) gr).ownsRow 0 9 1 (.slice (some ⟨Γ.β 0, 0, none⟩) l.length (Γ.cap 0)) l.length (ys.map encStr) := by
    refine ⟨ho.1, ?_⟩
    rcases ho.2 with ⟨e, _⟩ | ⟨g', cap', cur', e, k1, k2, k3, k4, k5, k6⟩
    · cases e
    · refine .inr ⟨g', cap', cur', e, k1, ?_, k3, k4, k5, k6⟩
      injection e with e1
      injection e1 with e1
      injection e1 with e1
      subst e1
      simp only [grow]
      rw [Array.getElem?_append_left (by rw [hsz]; exact i2)]
      exact k2
  obtain ⟨b, c, e, _, _, _, _, _, hro⟩ := arr_of_own (k := 0) (Γ := Γ) (rows := (ys.map unB).map strD) hog hl (by omega) (fun r hr => by obtain ⟨z, _, rfl⟩ := List.mem_map.1 hr; rfl) (by simp [hy])
  injection e with e1 e2 e3
  injection e1 with e1
  injection e1 with e1
  subst e1 e3
  have hE : Ext (· = Γ.β 0) w (grow (putRow encStr (Sort.ahead w q) (Γ.β 0) 0 ys.toArray) gr) := by
    refine ⟨rfl, rfl, rfl, by simp [grow, hsz], fun k hk' hne => ?_⟩
    simp only [grow]
    rw [Array.getElem?_append_left (by rw [hsz]; exact hk')]
    simp only [putRow, mapBlock, Sort.ahead, Array.getElem?_modify]
    rw [if_neg (fun h => hne h.symm)]
  have hro' := hro Γ rfl rfl (by
    have : ys.map encStr = (ys.map unB).map Value.string := by rw [List.map_map]; exact List.map_congr_left fun x _ => by simp [encStr, unB]
    rw [this]
    exact rd_texts _)
  exact ⟨(hm.set_ hk hc hE _ hro').1, grow_set hk hc hE⟩
open Go.Sort Go.Lib in
theorem sort_pure (l : List ByteArray) (rest : List Ob) (hl : l.length ≤ 1000000) :
    PCalls Tryd.prog 25 [.c (.own 0 l.length)] (.arr 9 1 (l.map strD) :: rest) fun r os => r = .undef ∧ os = .arr 9 1 (((l.map (·.data.toList)).mergeSort fun x y => decide (x ≤ y)).map unB |>.map strD) :: rest := by
  unfold PCalls
  intro Γ w xs hm hx
  obtain ⟨y, m', rfl, h1, h2⟩ := All2.cons_l.1 hx
  rw [All2.nil_l] at h2
  subst h2
  rcases Nat.eq_zero_or_pos l.length with h0 | h0
  · have : l = [] := List.eq_nil_of_length_eq_zero h0
    subst this
    have hy : ∃ A c, y = .slice A 0 c := by
      rcases h1.2 with ⟨_, ⟨A, e⟩, _⟩ | ⟨_, e, _⟩
      · exact ⟨A, 0, e⟩
      · exact ⟨_, _, e⟩
    obtain ⟨A, c, rfl⟩ := hy
    refine (AnyM.slices_Sort_string_none laysSlM6_f25 A c w).mono ?_
    rintro e w' ⟨rfl, rfl⟩
    exact ⟨_, _, Γ, _, rfl, ⟨rfl, rfl⟩, rfl, by simp, by simpa using hm, Grow.refl _ _ _⟩
  · rcases h1.2 with ⟨_, _, h3⟩ | ⟨hc, rfl, hle⟩
    · omega
    · obtain ⟨i1, i2, i3, i4⟩ := put_texts hm hc h0
      have := AnyM.slices_Sort_string laysSlM6_f25 (Γ.β 0) 0 (Γ.cap 0) (l.map (·.data.toList)) w i2 i1 (by simp; omega)
      rw [List.length_map] at this
      refine this.mono ?_
      rintro e w' ⟨rfl, n, gr, rfl⟩
      obtain ⟨j1, j2⟩ := i4 n gr ((l.map (·.data.toList)).mergeSort fun x y => decide (x ≤ y)) (by rw [(List.mergeSort_perm _ _).length_eq, List.length_map])
      exact ⟨_, _, Γ, _, rfl, ⟨rfl, rfl⟩, rfl, by simp, j1, j2⟩
open Go.Sort Go.Lib in
theorem compact_pure (l : List ByteArray) (rest : List Ob) (hl : l.length ≤ 1000000) :
    PCalls Tryd.prog 26 [.c (.own 0 l.length)] (.arr 9 1 (l.map strD) :: rest) fun r os => ∃ m : List ByteArray, r = .c (.own 0 (Lib.compact (l.map (·.data.toList))).length) ∧ os = .arr 9 1 (((Lib.compact (l.map (·.data.toList))).map unB ++ m).map strD) :: rest := by
  unfold PCalls
  intro Γ w xs hm hx
  obtain ⟨y, m', rfl, h1, h2⟩ := All2.cons_l.1 hx
  rw [All2.nil_l] at h2
  subst h2
  have hn0 : 0 < Γ.n := by rw [hm.n]; simp
  rcases Nat.eq_zero_or_pos l.length with h0 | h0
  · have : l = [] := List.eq_nil_of_length_eq_zero h0
    subst this
    have hy : ∃ A c, y = .slice A 0 c := by
      rcases h1.2 with ⟨_, ⟨A, e⟩, _⟩ | ⟨_, e, _⟩
      · exact ⟨A, 0, e⟩
      · exact ⟨_, _, e⟩
    obtain ⟨A, c, rfl⟩ := hy
    refine (slices_Compact_string_empty A c w).mono ?_
    rintro e w' ⟨rfl, rfl⟩
    have e0 : Lib.compact ([] : List (List UInt8)) = [] := rfl
    exact ⟨_, _, Γ, _, rfl, ⟨[], rfl, rfl⟩, by simpa [e0] using h1, by simp, by simpa [e0] using hm, Grow.refl _ _ _⟩
  · rcases h1.2 with ⟨_, _, h3⟩ | ⟨hc, rfl, hle⟩
    · omega
    · obtain ⟨i1, i2, i3, i4⟩ := put_texts hm hc h0
      have := slices_Compact_string (Γ.β 0) 0 (Γ.cap 0) (l.map (·.data.toList)) w i2 (by simp; omega) (by simpa using hle)
      rw [List.length_map] at this
      refine this.mono ?_
      rintro e w' ⟨rfl, n, rfl⟩
      have hcl : (Lib.compact (l.map (·.data.toList))).length ≤ l.length := by have := Lib.compact_length_le (l.map (·.data.toList)); simpa using this
      obtain ⟨j1, j2⟩ := i4 n #[] (Lib.compact (l.map (·.data.toList)) ++ List.replicate (l.length - (Lib.compact (l.map (·.data.toList))).length) []) (by simp; omega)
      have hg : ∀ w : World, grow w #[] = w := fun w => by simp [grow]
      rw [hg] at j1 j2
      refine ⟨_, _, Γ, _, rfl, ⟨(List.replicate (l.length - (Lib.compact (l.map (·.data.toList))).length) []).map unB, rfl, rfl⟩, ⟨hn0, .inr ⟨hc, rfl, by omega⟩⟩, by simp, ?_, j2⟩
      rw [← List.map_append]
      exact j1
theorem compactUpTo_spec (zs : List (List UInt8)) (h : zs.Pairwise fun x y => x ≤ y) : ∀ m, m ≤ zs.length → (Lib.compactUpTo zs.toArray m).Pairwise (· < ·) ∧ ∀ x, x ∈ Lib.compactUpTo zs.toArray m ↔ x ∈ zs.take m
  | 0, _ => by simp [Lib.compactUpTo]
  | m + 1, hm => by
    obtain ⟨i1, i2⟩ := compactUpTo_spec zs h m (by omega)
    have hg : zs.toArray[m]! = zs[m] := by simp [getElem!_pos, show m < zs.length by omega]
    have hp := List.pairwise_iff_getElem.1 h
    rw [Lib.compactUpTo_succ, List.take_succ_eq_append_getElem (by omega), hg]
    cases hk : Lib.keeps zs.toArray m with
    | true =>
      rw [if_pos rfl]
      refine ⟨List.pairwise_append.2 ⟨i1, by simp, fun a ha b hb => ?_⟩, fun x => by rw [List.mem_append, List.mem_append, i2]⟩
      simp only [List.mem_singleton] at hb
      subst hb
      obtain ⟨i, hi, rfl⟩ := List.getElem_of_mem ((i2 a).1 ha)
      rw [List.length_take] at hi
      rw [List.getElem_take]
      have hle := hp i m (by omega) (by omega) (by omega)
      rcases Decidable.em (zs[i] < zs[m]) with h5 | h5
      · exact h5
      · exfalso
        have he := List.le_antisymm hle (List.not_lt.1 h5)
        simp only [Lib.keeps, decide_eq_true_eq] at hk
        rcases hk with hk | hk
        · omega
        · rw [hg, show zs.toArray[m - 1]! = zs[m - 1] by simp [getElem!_pos, show m - 1 < zs.length by omega]] at hk
          have h6 := hp (m - 1) m (by omega) (by omega) (by omega)
          rcases Nat.lt_or_ge i (m - 1) with h7 | h7
          · have h8 := hp i (m - 1) (by omega) (by omega) h7
            rw [he] at h8
            exact hk (List.le_antisymm h8 h6)
          · have : i = m - 1 := by omega
            subst this
            exact hk he.symm
    | false =>
      simp only [Bool.false_eq_true, if_false, List.append_nil]
      refine ⟨i1, fun x => ?_⟩
      rw [i2, List.mem_append, List.mem_singleton]
      refine ⟨.inl, fun hx => hx.elim id fun hx => ?_⟩
      subst hx
      simp only [Lib.keeps, decide_eq_false_iff_not, not_or, Decidable.not_not] at hk
      obtain ⟨hk0, hk1⟩ := hk
      rw [hg, show zs.toArray[m - 1]! = zs[m - 1] by simp [getElem!_pos, show m - 1 < zs.length by omega]] at hk1
      rw [hk1, List.mem_iff_getElem]
      exact ⟨m - 1, by rw [List.length_take]; omega, by rw [List.getElem_take]⟩
/-- texts, ascending, each once -/
def ascOf (l : List ByteArray) : List ByteArray := (Lib.compact ((l.map (·.data.toList)).mergeSort fun x y => decide (x ≤ y))).map unB
theorem ascOf_spec (l : List ByteArray) : asc (ascOf l) ∧ (∀ x, x ∈ ascOf l ↔ x ∈ l) ∧ (ascOf l).length ≤ l.length := by
  have h1 : ((l.map (·.data.toList)).mergeSort fun x y => decide (x ≤ y)).Pairwise fun x y => x ≤ y :=
    (List.pairwise_mergeSort (le := fun x y => decide (x ≤ y)) (fun a b c h1 h2 => by simp only [decide_eq_true_eq] at *; exact List.le_trans h1 h2) (fun a b => by simp only [Bool.or_eq_true, decide_eq_true_eq]; exact List.le_total a b) _).imp fun h => by simpa using h
  obtain ⟨i1, i2⟩ := compactUpTo_spec _ h1 _ (Nat.le_refl _)
  rw [List.take_length] at i2
  refine ⟨?_, fun x => ?_, ?_⟩
  · rw [asc, ascOf, List.pairwise_map]
    refine i1.imp fun {a b} h => ?_
    rw [bless_lt, ByteArray.toList_eq, ByteArray.toList_eq, list_unB, list_unB]
    exact h
  · rw [ascOf, List.mem_map]
    constructor
    · rintro ⟨y, h, rfl⟩
      have := (List.mergeSort_perm _ _).mem_iff.1 ((i2 y).1 h)
      obtain ⟨z, hz, rfl⟩ := List.mem_map.1 this
      exact hz
    · intro h
      exact ⟨x.data.toList, (i2 _).2 ((List.mergeSort_perm _ _).mem_iff.2 (List.mem_map.2 ⟨x, h, rfl⟩)), unB_list x⟩
  · rw [ascOf, List.length_map]
    refine Nat.le_trans (Lib.compact_length_le _) ?_
    rw [(List.mergeSort_perm _ _).length_eq, List.length_map]
    exact Nat.le_refl _
def cmpB (l : List ByteArray) : List ByteArray := (Lib.compact (l.map (·.data.toList))).map unB
theorem cmpB_len (l : List ByteArray) : (cmpB l).length = (Lib.compact (l.map (·.data.toList))).length := by rw [cmpB, List.length_map]
theorem sort2_pure (l : List ByteArray) (hl : l.length ≤ 1000000) :
    PCalls Tryd.prog 25 [.c (.own 0 l.length)] [.arr 9 1 (l.map strD)] fun r os => ∃ m : List ByteArray, (m.length = l.length ∧ cmpB m = ascOf l) ∧ r = .undef ∧ os = [.arr 9 1 (m.map strD)] :=
  (sort_pure l [] hl).mono (by
    rintro r os ⟨rfl, rfl⟩
    refine ⟨_, ⟨?_, ?_⟩, rfl, rfl⟩
    · rw [List.length_map, (List.mergeSort_perm _ _).length_eq, List.length_map]
    · unfold cmpB ascOf
      rw [List.map_map]
      have : ((fun x : ByteArray => x.data.toList) ∘ unB) = id := funext fun x => list_unB x
      rw [this, List.map_id])
theorem compact2_pure (l : List ByteArray) (hl : l.length ≤ 1000000) :
    PCalls Tryd.prog 26 [.c (.own 0 l.length)] [.arr 9 1 (l.map strD)] fun r os => ∃ m : List ByteArray, r = .c (.own 0 (cmpB l).length) ∧ os = [.arr 9 1 ((cmpB l ++ m).map strD)] :=
  (compact_pure l [] hl).mono (by
    rintro r os ⟨m, rfl, rfl⟩
    exact ⟨m, by rw [cmpB_len], rfl⟩)
end Go.Proofs.YtfojijoekpkheaaDoor
