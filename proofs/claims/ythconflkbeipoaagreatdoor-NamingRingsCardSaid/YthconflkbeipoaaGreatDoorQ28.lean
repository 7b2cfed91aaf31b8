/- What the program computes, and the plain laws of it, part 28. -/
import Derived.Test.YthconflkbeipoaaGreatDoorQ26
namespace Go.Proofs.YthconflkbeipoaaGreatDoor
open Go.RowKit
open IntWalk renaming iteOmega → iO, toNatUp → tN
set_option linter.unusedVariables false
set_option linter.unusedSimpArgs false
def renN (n : Nat) : ByteArray := ⟨#[114, 101, 110, 97, 109, 101]⟩ ++ digN n
theorem renN_inj {m n : Nat} (h : renN m = renN n) : m = n := digN_inj (app_inj h)
def tempGo (W : List ByteArray) : Nat → Nat → Nat
  | 0, n => n
  | k + 1, n => if inM (renN n) W = true then tempGo W k (n + 1) else n
theorem tempGo_ge (W : List ByteArray) : ∀ k n, n ≤ tempGo W k n
  | 0, n => Nat.le_refl _
  | k + 1, n => by
    rw [tempGo]
    split
    · have := tempGo_ge W k (n + 1); omega
    · exact Nat.le_refl _
theorem tempGo_le (W : List ByteArray) : ∀ k n, tempGo W k n ≤ n + k
  | 0, n => Nat.le_refl _
  | k + 1, n => by
    rw [tempGo]
    split
    · have := tempGo_le W k (n + 1); omega
    · omega
theorem tempGo_mid (W : List ByteArray) : ∀ k n m, n ≤ m → m < tempGo W k n → inM (renN m) W = true
  | 0, n, m, h1, h2 => by rw [tempGo] at h2; omega
  | k + 1, n, m, h1, h2 => by
    rw [tempGo] at h2
    split at h2
    · rename_i h
      by_cases e : m = n
      · rw [e]; exact h
      · exact tempGo_mid W k (n + 1) m (by omega) h2
    · omega
theorem tempGo_end (W : List ByteArray) {k n : Nat} (hk : W.length < k) : inM (renN (tempGo W k n)) W = false := by
  have key : ∀ k n, inM (renN (tempGo W k n)) W = true → tempGo W k n = n + k := by
    intro k
    induction k with
    | zero => intro n _; rfl
    | succ k ih =>
      intro n h
      rw [tempGo] at h ⊢
      split
      · rename_i hc
        rw [if_pos hc] at h
        rw [ih (n + 1) h]; omega
      · rename_i hc
        rw [if_neg hc] at h
        exact absurd h hc
  cases hc : inM (renN (tempGo W k n)) W with
  | false => rfl
  | true =>
    exfalso
    have h1 := key k n hc
    have h2 : ((List.range k).map fun j => renN (n + j)).Nodup := by
      rw [List.Nodup, List.pairwise_map]
      refine List.nodup_range.imp fun hne e => hne ?_
      have := renN_inj e
      omega
    have h3 := nodup_sub_len h2 (m := W) fun x hx => by
      obtain ⟨j, hj, rfl⟩ := List.mem_map.1 hx
      rw [List.mem_range] at hj
      exact inM_iff.1 (tempGo_mid W k n (n + j) (by omega) (by omega))
    rw [List.length_map, List.length_range] at h3
    omega
def tempN (W : List ByteArray) : Nat := tempGo W (W.length + 1) 0
theorem temp_le (W : List ByteArray) : tempN W ≤ W.length + 1 := by have := tempGo_le W (W.length + 1) 0; unfold tempN; omega
theorem temp_not (W : List ByteArray) : inM (renN (tempN W)) W = false := tempGo_end W (by omega)
theorem temp_mid (W : List ByteArray) {m : Nat} (h : m < tempN W) : inM (renN m) W = true := tempGo_mid W _ 0 m (Nat.zero_le _) h
theorem temp_uniq {W : List ByteArray} {m : Nat} (h2 : inM (renN m) W = false) (h3 : ∀ j, j < m → inM (renN j) W = true) : tempN W = m := by
  rcases Nat.lt_trichotomy (tempN W) m with h | h | h
  · have := h3 _ h
    rw [temp_not] at this; cases this
  · exact h
  · have := temp_mid W h
    rw [h2] at this; cases this
structure Ren where
  path : ByteArray
  old : ByteArray
  new : ByteArray
  deriving DecidableEq, Inhabited
def Ren.d (r : Ren) : List D := [.v (.string r.path), .v (.string r.old), .v (.string r.new)]
attribute [push_cast] Ren.d
def Ren.e (r : Ren) : List E := [.v (.string r.path), .v (.string r.old), .v (.string r.new)]
attribute [push_cast] Ren.e
def valOf (l : List Atr) (n : ByteArray) : Option ByteArray := (l.find? fun a => decide (a.name = n)).map Atr.value
def vals (l : List Atr) : List ByteArray := l.map Atr.value
def keys (l : List Atr) : List ByteArray := l.map Atr.name
def wrongP (names : List Atr) (x : Atr) : Bool := match valOf names x.name with
  | some v => !decide (v = x.value)
  | none => false
def goalP (names : List Atr) (x : Atr) : ByteArray := (valOf names x.name).getD ⟨#[]⟩
def freeP (names now : List Atr) (x : Atr) : Bool := wrongP names x && !inM (goalP names x) (vals now)
def firstI (l : List Atr) (q : Atr → Bool) : Option Nat := (List.range l.length).find? fun i => q (l.getD i default)
theorem firstI_some {l : List Atr} {q : Atr → Bool} {i : Nat} (h : firstI l q = some i) : i < l.length ∧ q (l.getD i default) = true ∧ ∀ j, j < i → q (l.getD j default) = false := by
  unfold firstI at h
  obtain ⟨h1, us, bs, h2, h3⟩ := List.find?_eq_some_iff_append.1 h
  have hm : i ∈ List.range l.length := by rw [h2]; simp
  refine ⟨List.mem_range.1 hm, h1, fun j hj => ?_⟩
  have hlen : us.length = i := by
    have h4 : (List.range l.length)[us.length]? = some i := by rw [h2]; simp
    rw [List.getElem?_eq_some_iff] at h4
    obtain ⟨h5, h6⟩ := h4
    simpa using h6
  have : j ∈ us := by
    have h4 : (List.range l.length)[j]? = some j := by rw [List.getElem?_range]; have := List.mem_range.1 hm; omega
    rw [h2, List.getElem?_append_left (by omega)] at h4
    exact List.mem_of_getElem? h4
  simpa using h3 j this
theorem firstI_none {l : List Atr} {q : Atr → Bool} (h : firstI l q = none) : ∀ i, i < l.length → q (l.getD i default) = false := fun i hi => by
  unfold firstI at h
  rw [List.find?_eq_none] at h
  simpa using h i (List.mem_range.2 hi)
theorem firstI_of {l : List Atr} {q : Atr → Bool} {i : Nat} (h1 : i < l.length) (h2 : q (l.getD i default) = true) (h3 : ∀ j, j < i → q (l.getD j default) = false) : firstI l q = some i := by
  cases hf : firstI l q with
  | none => have := firstI_none hf i h1; rw [h2] at this; cases this
  | some j =>
    obtain ⟨g1, g2, g3⟩ := firstI_some hf
    rcases Nat.lt_trichotomy i j with h | h | h
    · have := g3 i h; rw [h2] at this; cases this
    · rw [h]
    · have := h3 j h; rw [g2] at this; cases this
theorem firstI_no {l : List Atr} {q : Atr → Bool} (h : ∀ i, i < l.length → q (l.getD i default) = false) : firstI l q = none := by
  cases hf : firstI l q with
  | none => rfl
  | some j => obtain ⟨g1, g2, _⟩ := firstI_some hf; rw [h j g1] at g2; cases g2
def tempS (names now : List Atr) : ByteArray := renN (tempN (vals names ++ vals now))
def nextP (names now : List Atr) : Option (Nat × ByteArray) := match firstI now (freeP names now) with
  | some i => some (i, goalP names (now.getD i default))
  | none => match firstI now (wrongP names) with
    | some i => some (i, tempS names now)
    | none => none
def renP (now : List Atr) (i : Nat) (u : ByteArray) : List Atr := now.set i ⟨(now.getD i default).name, u⟩
def planGo (names : List Atr) : Nat → List Atr → List Ren × List Atr
  | 0, now => ([], now)
  | k + 1, now => match nextP names now with
    | none => ([], now)
    | some (i, u) => (⟨(now.getD i default).name, (now.getD i default).value, u⟩ :: (planGo names k (renP now i u)).1, (planGo names k (renP now i u)).2)
structure PlanOk (names now : List Atr) : Prop where
  nk : (keys names).Nodup
  nv : (vals names).Nodup
  pk : (keys now).Nodup
  pv : (vals now).Nodup
  ne : ∀ v ∈ vals names, v ≠ ⟨#[]⟩
  there : ∀ n ∈ keys names, n ∈ keys now
  own : ∀ x ∈ now, valOf names x.name = none → x.value ∉ vals names
theorem valOf_mem {l : List Atr} {n v : ByteArray} (h : valOf l n = some v) : ⟨n, v⟩ ∈ l := by
  unfold valOf at h
  cases hf : l.find? fun a => decide (a.name = n) with
  | none => rw [hf] at h; cases h
  | some a =>
    rw [hf] at h
    have h1 := List.find?_some hf
    simp only [decide_eq_true_eq] at h1
    injection h with h
    subst h1; subst h
    exact List.mem_of_find?_eq_some hf
theorem valOf_none {l : List Atr} {n : ByteArray} (h : valOf l n = none) : n ∉ keys l := by
  unfold valOf at h
  rw [Option.map_eq_none_iff, List.find?_eq_none] at h
  intro hm
  obtain ⟨a, ha, rfl⟩ := List.mem_map.1 hm
  exact absurd (by simp) (h a ha)
theorem valOf_of {l : List Atr} (hk : (keys l).Nodup) {a : Atr} (ha : a ∈ l) : valOf l a.name = some a.value := by
  cases hf : valOf l a.name with
  | none => exact absurd (List.mem_map.2 ⟨a, ha, rfl⟩) (valOf_none hf)
  | some v =>
    have h1 := valOf_mem hf
    obtain ⟨i, hi, hia⟩ := List.getElem_of_mem ha
    obtain ⟨j, hj, hja⟩ := List.getElem_of_mem h1
    have : i = j := by
      rcases Nat.lt_trichotomy i j with h | h | h
      · have := List.pairwise_iff_getElem.1 hk i j (by simpa [keys] using hi) (by simpa [keys] using hj) h
        simp only [keys, List.getElem_map] at this
        rw [hia, hja] at this
        exact absurd rfl this
      · exact h
      · have := List.pairwise_iff_getElem.1 hk j i (by simpa [keys] using hj) (by simpa [keys] using hi) h
        simp only [keys, List.getElem_map] at this
        rw [hia, hja] at this
        exact absurd rfl this
    subst this
    rw [hia] at hja
    rw [hja]
theorem key_inj {l : List Atr} {f : Atr → ByteArray} (hk : (l.map f).Nodup) {i j : Nat} (hi : i < l.length) (hj : j < l.length) (e : f (l.getD i default) = f (l.getD j default)) : i = j := by
  rw [getD_lt l hi, getD_lt l hj] at e
  rcases Nat.lt_trichotomy i j with h | h | h
  · have := List.pairwise_iff_getElem.1 hk i j (by simpa using hi) (by simpa using hj) h
    simp only [List.getElem_map] at this
    exact absurd e this
  · exact h
  · have := List.pairwise_iff_getElem.1 hk j i (by simpa using hj) (by simpa using hi) h
    simp only [List.getElem_map] at this
    exact absurd e.symm this
end Go.Proofs.YthconflkbeipoaaGreatDoor
namespace Go.Proofs.YthconflkbeipoaaGreatDoor
open Go.RowKit
open IntWalk renaming iteOmega → iO, toNatUp → tN
set_option linter.unusedVariables false
set_option linter.unusedSimpArgs false
theorem nodup_sub_back {α : Type} [DecidableEq α] {l m : List α} (hl : l.Nodup) (hs : ∀ x ∈ l, x ∈ m) (hlen : m.length ≤ l.length) : ∀ x ∈ m, x ∈ l := fun x hx => Decidable.byContradiction fun hn => by
  have h1 : ∀ y ∈ l, y ∈ m.erase x := fun y hy => (List.mem_erase_of_ne (show y ≠ x from fun e => by subst e; exact hn hy)).2 (hs y hy)
  have h2 := nodup_sub_len hl h1
  rw [List.length_erase_of_mem hx] at h2
  have h3 := List.length_pos_of_mem hx
  omega
theorem wrongP_iff {names : List Atr} {x : Atr} : wrongP names x = true ↔ ∃ v, valOf names x.name = some v ∧ v ≠ x.value := by
  unfold wrongP
  cases h : valOf names x.name with
  | none => simp
  | some v => simp
theorem goalP_some {names : List Atr} {x : Atr} {v : ByteArray} (h : valOf names x.name = some v) : goalP names x = v := by unfold goalP; rw [h]; rfl
theorem nodup_set {l : List ByteArray} {u : ByteArray} (h : l.Nodup) (hu : u ∉ l) (i : Nat) : (l.set i u).Nodup := by
  rw [List.Nodup, List.pairwise_iff_getElem] at h ⊢
  intro a b ha hb hab
  rw [List.length_set] at ha hb
  rw [List.getElem_set, List.getElem_set]
  by_cases e1 : i = a
  · have e2 : i ≠ b := by omega
    rw [if_pos e1, if_neg e2]
    exact fun e => hu (e ▸ List.getElem_mem _)
  · rw [if_neg e1]
    by_cases e2 : i = b
    · rw [if_pos e2]
      exact fun e => hu (e ▸ List.getElem_mem _)
    · rw [if_neg e2]
      exact h a b ha hb hab
theorem keys_renP {now : List Atr} {i : Nat} (u : ByteArray) (hi : i < now.length) : keys (renP now i u) = keys now := by
  unfold keys renP
  rw [List.map_set, getD_lt now hi]
  refine List.ext_getElem (by simp) fun j h1 h2 => ?_
  rw [List.getElem_set]
  split
  · rename_i e; subst e; simp
  · rfl
theorem vals_renP (now : List Atr) (i : Nat) (u : ByteArray) : vals (renP now i u) = (vals now).set i u := by
  unfold vals renP
  rw [List.map_set]
theorem len_renP (now : List Atr) (i : Nat) (u : ByteArray) : (renP now i u).length = now.length := by unfold renP; rw [List.length_set]
theorem planOk_ren {names now : List Atr} (h : PlanOk names now) {i : Nat} (hi : i < now.length) {u : ByteArray} (hw : wrongP names (now.getD i default) = true) (hu : u ∉ vals now) : PlanOk names (renP now i u) := by
  refine ⟨h.nk, h.nv, ?_, ?_, h.ne, fun n hn => ?_, fun x hx hv => ?_⟩
  · rw [keys_renP u hi]; exact h.pk
  · rw [vals_renP]; exact nodup_set h.pv hu i
  · rw [keys_renP u hi]; exact h.there n hn
  · rcases List.mem_or_eq_of_mem_set hx with hx | hx
    · exact h.own x hx hv
    · obtain ⟨v, h1, _⟩ := wrongP_iff.1 hw
      rw [hx] at hv
      simp only at hv
      rw [h1] at hv; cases hv
def wrs (names now : List Atr) : Nat := now.countP (wrongP names)
def badP (names : List Atr) (x : Atr) : Bool := wrongP names x && inM x.value (vals names)
def bads (names now : List Atr) : Nat := now.countP (badP names)
def muP (names now : List Atr) : Nat := wrs names now + bads names now
theorem bads_le (names now : List Atr) : bads names now ≤ wrs names now := by
  unfold bads wrs
  refine List.countP_mono_left fun x _ hx => ?_
  unfold badP at hx
  rw [Bool.and_eq_true] at hx
  exact hx.1
theorem same_of_key {l : List Atr} (hk : (keys l).Nodup) {x y : Atr} (hx : x ∈ l) (hy : y ∈ l) (e : x.name = y.name) : x = y := by
  have h1 := valOf_of hk hx
  have h2 := valOf_of hk hy
  rw [e, h2] at h1
  injection h1 with h1
  cases x; cases y
  simp only at e h1
  rw [e, h1]
theorem same_of_val {l : List Atr} (hv : (vals l).Nodup) {x y : Atr} (hx : x ∈ l) (hy : y ∈ l) (e : x.value = y.value) : x = y := by
  obtain ⟨i, hi, hia⟩ := List.getElem_of_mem hx
  obtain ⟨j, hj, hja⟩ := List.getElem_of_mem hy
  have := key_inj (f := Atr.value) hv hi hj (by rw [getD_lt l hi, getD_lt l hj, hia, hja, e])
  subst this
  rw [← hia, hja]
theorem goal_inj {names now : List Atr} (h : PlanOk names now) {x y : Atr} (hx : x ∈ now) (hy : y ∈ now) {v : ByteArray} (h1 : valOf names x.name = some v) (h2 : valOf names y.name = some v) : x = y := by
  have := same_of_val h.nv (valOf_mem h1) (valOf_mem h2) rfl
  injection this with this _
  exact same_of_key h.pk hx hy this
theorem all_bad {names now : List Atr} (h : PlanOk names now) (hf : ∀ x ∈ now, freeP names now x = false) {x : Atr} (hx : x ∈ now) (hw : wrongP names x = true) : x.value ∈ vals names := by
  have hG : ((now.filter (wrongP names)).map (goalP names)).Nodup := by
    have h1 : now.Pairwise fun x y => x.name ≠ y.name := List.pairwise_map.1 h.pk
    rw [List.Nodup, List.pairwise_map]
    refine (h1.filter (wrongP names)).imp_of_mem fun {a b} ha hb hne e => ?_
    obtain ⟨ha1, ha2⟩ := List.mem_filter.1 ha
    obtain ⟨hb1, hb2⟩ := List.mem_filter.1 hb
    obtain ⟨v, h2, _⟩ := wrongP_iff.1 ha2
    obtain ⟨w, h3, _⟩ := wrongP_iff.1 hb2
    rw [goalP_some h2, goalP_some h3] at e
    subst e
    exact hne (by rw [goal_inj h ha1 hb1 h2 h3])
  have hsub : ∀ g ∈ (now.filter (wrongP names)).map (goalP names), g ∈ (now.filter (wrongP names)).map Atr.value := fun g hg => by
    obtain ⟨a, ha, rfl⟩ := List.mem_map.1 hg
    obtain ⟨ha1, ha2⟩ := List.mem_filter.1 ha
    obtain ⟨v, h2, h2n⟩ := wrongP_iff.1 ha2
    have hfa := hf a ha1
    unfold freeP at hfa
    rw [ha2, Bool.true_and, Bool.not_eq_false', inM_iff] at hfa
    rw [goalP_some h2] at hfa ⊢
    obtain ⟨b, hb, hbv⟩ := List.mem_map.1 hfa
    refine List.mem_map.2 ⟨b, List.mem_filter.2 ⟨hb, ?_⟩, hbv⟩
    rw [wrongP_iff]
    cases h3 : valOf names b.name with
    | none =>
      exfalso
      refine h.own b hb h3 ?_
      rw [hbv]
      exact List.mem_map.2 ⟨_, valOf_mem h2, rfl⟩
    | some w =>
      refine ⟨w, rfl, fun e => ?_⟩
      rw [e, hbv] at h3
      have := goal_inj h ha1 hb h2 h3
      subst this
      exact h2n hbv.symm
  have hxv : x.value ∈ (now.filter (wrongP names)).map (goalP names) := nodup_sub_back hG hsub (by rw [List.length_map, List.length_map]; exact Nat.le_refl _) _ (List.mem_map.2 ⟨x, List.mem_filter.2 ⟨hx, hw⟩, rfl⟩)
  obtain ⟨a, ha, hav⟩ := List.mem_map.1 hxv
  obtain ⟨v, h2, _⟩ := wrongP_iff.1 (List.mem_filter.1 ha).2
  rw [goalP_some h2] at hav
  rw [← hav]
  exact List.mem_map.2 ⟨_, valOf_mem h2, rfl⟩
theorem countP_renP {now : List Atr} {i : Nat} (hi : i < now.length) (u : ByteArray) (q : Atr → Bool) : (renP now i u).countP q = now.countP q - (if q (now.getD i default) then 1 else 0) + (if q ⟨(now.getD i default).name, u⟩ then 1 else 0) := by
  unfold renP
  rw [List.countP_set hi, getD_lt now hi]
theorem countP_pos' {now : List Atr} {i : Nat} (hi : i < now.length) {q : Atr → Bool} (h : q (now.getD i default) = true) : 0 < now.countP q := List.countP_pos_iff.2 ⟨_, by rw [getD_lt now hi]; exact List.getElem_mem _, h⟩
theorem tempS_names (names now : List Atr) : tempS names now ∉ vals names := fun h => by
  have := temp_not (vals names ++ vals now)
  rw [inM_false] at this
  exact this (List.mem_append_left _ h)
theorem tempS_now (names now : List Atr) : tempS names now ∉ vals now := fun h => by
  have := temp_not (vals names ++ vals now)
  rw [inM_false] at this
  exact this (List.mem_append_right _ h)
structure NextI (names now : List Atr) (i : Nat) (u : ByteArray) : Prop where
  lt : i < now.length
  wr : wrongP names (now.getD i default) = true
  no : u ∉ vals now
  ok : PlanOk names (renP now i u)
  mu : muP names (renP now i u) < muP names now
theorem nextP_spec {names now : List Atr} (h : PlanOk names now) {i : Nat} {u : ByteArray} (hn : nextP names now = some (i, u)) : NextI names now i u := by
  unfold nextP at hn
  cases h1 : firstI now (freeP names now) with
  | some j =>
    rw [h1] at hn
    injection hn with hn
    injection hn with hn1 hn2
    subst hn1
    obtain ⟨g1, g2, _⟩ := firstI_some h1
    unfold freeP at g2
    rw [Bool.and_eq_true, Bool.not_eq_true', inM_false] at g2
    rw [← hn2]
    have hm : now.getD j default ∈ now := by rw [getD_lt now g1]; exact List.getElem_mem _
    obtain ⟨v, h2, h2n⟩ := wrongP_iff.1 g2.1
    refine ⟨g1, g2.1, g2.2, planOk_ren h g1 g2.1 g2.2, ?_⟩
    have hnw : wrongP names ⟨(now.getD j default).name, goalP names (now.getD j default)⟩ = false := by
      cases hc : wrongP names ⟨(now.getD j default).name, goalP names (now.getD j default)⟩ with
      | false => rfl
      | true =>
        obtain ⟨w, h3, h4⟩ := wrongP_iff.1 hc
        simp only at h3 h4
        rw [goalP_some h3] at h4
        exact absurd rfl h4
    have hw1 := countP_renP g1 (goalP names (now.getD j default)) (wrongP names)
    have hw2 := countP_renP g1 (goalP names (now.getD j default)) (badP names)
    rw [g2.1, hnw] at hw1
    have hb : badP names ⟨(now.getD j default).name, goalP names (now.getD j default)⟩ = false := by unfold badP; rw [hnw, Bool.false_and]
    rw [hb] at hw2
    have hp := countP_pos' g1 g2.1
    unfold muP wrs bads
    rw [hw1, hw2]
    simp only [if_true, Bool.false_eq_true, if_false]
    omega
  | none =>
    rw [h1] at hn
    have hf := firstI_none h1
    cases h2 : firstI now (wrongP names) with
    | none => rw [h2] at hn; cases hn
    | some j =>
      rw [h2] at hn
      injection hn with hn
      injection hn with hn1 hn2
      subst hn1
      obtain ⟨g1, g2, _⟩ := firstI_some h2
      rw [← hn2]
      have hm : now.getD j default ∈ now := by rw [getD_lt now g1]; exact List.getElem_mem _
      refine ⟨g1, g2, tempS_now names now, planOk_ren h g1 g2 (tempS_now names now), ?_⟩
      have hbad : badP names (now.getD j default) = true := by
        unfold badP
        rw [g2, Bool.true_and, inM_iff]
        refine all_bad h (fun x hx => ?_) hm g2
        obtain ⟨a, ha, rfl⟩ := List.getElem_of_mem hx
        have := hf a ha
        rw [getD_lt now ha] at this
        exact this
      have hnb : badP names ⟨(now.getD j default).name, tempS names now⟩ = false := by
        unfold badP
        rw [inM_false.2 (tempS_names names now), Bool.and_false]
      have hw1 := countP_renP g1 (tempS names now) (wrongP names)
      have hw2 := countP_renP g1 (tempS names now) (badP names)
      rw [hbad, hnb] at hw2
      rw [g2] at hw1
      have hp := countP_pos' g1 hbad
      have hp2 := countP_pos' g1 g2
      unfold muP wrs bads
      rw [hw1, hw2]
      simp only [if_true, Bool.false_eq_true, if_false]
      split <;> omega
theorem nextP_none {names now : List Atr} (h : nextP names now = none) : ∀ x ∈ now, wrongP names x = false := fun x hx => by
  unfold nextP at h
  cases h1 : firstI now (freeP names now) with
  | some j => rw [h1] at h; cases h
  | none =>
    rw [h1] at h
    cases h2 : firstI now (wrongP names) with
    | some j => rw [h2] at h; cases h
    | none =>
      obtain ⟨a, ha, rfl⟩ := List.getElem_of_mem hx
      have := firstI_none h2 a ha
      rw [getD_lt now ha] at this
      exact this
theorem nextP_of_zero {names now : List Atr} (h : PlanOk names now) (h0 : muP names now = 0) : nextP names now = none := by
  cases hn : nextP names now with
  | none => rfl
  | some p => have := (nextP_spec h (i := p.1) (u := p.2) hn).mu; omega
theorem planGo_zero {names now : List Atr} (h : nextP names now = none) (k : Nat) : planGo names k now = ([], now) := by
  cases k with
  | zero => rfl
  | succ k => rw [planGo, h]
theorem planGo_succ {names now : List Atr} {i : Nat} {u : ByteArray} (h : nextP names now = some (i, u)) (k : Nat) : planGo names (k + 1) now = (⟨(now.getD i default).name, (now.getD i default).value, u⟩ :: (planGo names k (renP now i u)).1, (planGo names k (renP now i u)).2) := by rw [planGo, h]
theorem planGo_fuel {names : List Atr} : ∀ (k k' : Nat) (now : List Atr), PlanOk names now → muP names now ≤ k → muP names now ≤ k' → planGo names k now = planGo names k' now
  | 0, k', now, h, h1, h2 => by
    have hn := nextP_of_zero h (by omega)
    rw [planGo_zero hn, planGo_zero hn]
  | k + 1, k', now, h, h1, h2 => by
    cases hn : nextP names now with
    | none => rw [planGo_zero hn, planGo_zero hn]
    | some p =>
      obtain ⟨i, u⟩ := p
      have hs := nextP_spec h hn
      have hmu := hs.mu
      cases k' with
      | zero => omega
      | succ k' => rw [planGo_succ hn, planGo_succ hn, planGo_fuel k k' _ hs.ok (by omega) (by omega)]
def planOf (names now : List Atr) : List Ren := (planGo names (muP names now) now).1
def endOf (names now : List Atr) : List Atr := (planGo names (muP names now) now).2
theorem planOf_none {names now : List Atr} (h : nextP names now = none) : planOf names now = [] ∧ endOf names now = now := by unfold planOf endOf; rw [planGo_zero h]; exact ⟨rfl, rfl⟩
theorem planOf_some {names now : List Atr} (h : PlanOk names now) {i : Nat} {u : ByteArray} (hn : nextP names now = some (i, u)) : planOf names now = ⟨(now.getD i default).name, (now.getD i default).value, u⟩ :: planOf names (renP now i u) ∧ endOf names now = endOf names (renP now i u) := by
  have hs := nextP_spec h hn
  have hmu := hs.mu
  obtain ⟨k, hk⟩ : ∃ k, muP names now = k + 1 := ⟨muP names now - 1, by omega⟩
  unfold planOf endOf
  rw [hk, planGo_succ hn, planGo_fuel k (muP names (renP now i u)) _ hs.ok (by omega) (Nat.le_refl _)]
  exact ⟨rfl, rfl⟩
theorem planOf_spec {names : List Atr} : ∀ (k : Nat) (now : List Atr), PlanOk names now → muP names now ≤ k → (planOf names now).length ≤ muP names now ∧ (∀ x ∈ endOf names now, wrongP names x = false) ∧ PlanOk names (endOf names now) ∧ keys (endOf names now) = keys now
  | 0, now, h, h1 => by
    have hn := nextP_of_zero h (by omega)
    rw [(planOf_none hn).1, (planOf_none hn).2]
    exact ⟨Nat.zero_le _, nextP_none hn, h, rfl⟩
  | k + 1, now, h, h1 => by
    cases hn : nextP names now with
    | none =>
      rw [(planOf_none hn).1, (planOf_none hn).2]
      exact ⟨Nat.zero_le _, nextP_none hn, h, rfl⟩
    | some p =>
      obtain ⟨i, u⟩ := p
      have hs := nextP_spec h hn
      have hmu := hs.mu
      obtain ⟨g1, g2, g3, g4⟩ := planOf_spec k (renP now i u) hs.ok (by omega)
      rw [(planOf_some h hn).1, (planOf_some h hn).2]
      refine ⟨by rw [List.length_cons]; omega, g2, g3, by rw [g4, keys_renP u hs.lt]⟩
theorem wrs_le {names now : List Atr} (h : PlanOk names now) : wrs names now ≤ names.length := by
  have hG : ((now.filter (wrongP names)).map Atr.name).Nodup := by
    have h1 : now.Pairwise fun x y => x.name ≠ y.name := List.pairwise_map.1 h.pk
    rw [List.Nodup, List.pairwise_map]
    exact h1.filter (wrongP names)
  have h2 := nodup_sub_len hG (m := keys names) fun n hn => by
    obtain ⟨a, ha, rfl⟩ := List.mem_map.1 hn
    obtain ⟨v, h2, _⟩ := wrongP_iff.1 (List.mem_filter.1 ha).2
    exact List.mem_map.2 ⟨_, valOf_mem h2, rfl⟩
  unfold wrs
  rw [List.countP_eq_length_filter]
  rw [List.length_map] at h2
  unfold keys at h2
  rw [List.length_map] at h2
  exact h2
theorem planOf_len {names now : List Atr} (h : PlanOk names now) : (planOf names now).length ≤ 2 * names.length := by
  have h1 := (planOf_spec _ now h (Nat.le_refl _)).1
  have h2 := wrs_le h
  have h3 := bads_le names now
  unfold muP at h1
  omega
end Go.Proofs.YthconflkbeipoaaGreatDoor
namespace Go.Proofs.YthconflkbeipoaaGreatDoor
open Go.RowKit
open IntWalk renaming iteOmega → iO, toNatUp → tN
set_option linter.unusedVariables false
set_option linter.unusedSimpArgs false
theorem rp_vals {w : World} {Γ : G} : ∀ {vs xs : List Value}, All2 (RP w Γ) (vs.map fun v => .c (.v v)) xs → xs = vs
  | [], _, h => by rw [List.map_nil, All2.nil_l] at h; exact h
  | v :: vs, xs, h => by
    rw [List.map_cons, All2.cons_l] at h
    obtain ⟨y, m, rfl, h1, h2⟩ := h
    rw [rp_vals h2, h1.1]
theorem ext_of_below {w w' : World} (hB : Below w.heap.size w w') : Ext No w w' := ⟨hB.os, hB.tape, hB.output, hB.size, fun k hk _ => hB.block k hk⟩
theorem pcalls_plain {P : Program} {g : FuncId} (vs : List Value) (v : Value) (hv : v.oneCell' = true) (h : ∀ w, Pin w → Calls P g vs.toArray w fun e w' => e = .returned v ∧ Below w.heap.size w w') :
    PCalls P g (vs.map fun v => .c (.v v)) [] fun r os => r = .c (.v v) ∧ os = [] := fun Γ w xs hm hx => by
  rw [rp_vals hx]
  refine (h w hm.pin.1).mono ?_
  rintro e w' ⟨rfl, hB⟩
  have hE := ext_of_below hB
  exact ⟨_, [], Γ, _, rfl, ⟨rfl, rfl⟩, ⟨rfl, hv⟩, Nat.le_refl _, hm.same (Same.of_ext hE), ext_grow hE⟩
theorem pcalls_plain2 {P : Program} {g : FuncId} (vs : List Value) (v u : Value) (hv : v.oneCell' = true) (hu : u.oneCell' = true) (h : ∀ w, Pin w → Calls P g vs.toArray w fun e w' => e = .returned (.tuple #[v, u]) ∧ Below w.heap.size w w') :
    PCalls P g (vs.map fun v => .c (.v v)) [] fun r os => r = .two (.c (.v v)) (.c (.v u)) ∧ os = [] := fun Γ w xs hm hx => by
  rw [rp_vals hx]
  refine (h w hm.pin.1).mono ?_
  rintro e w' ⟨rfl, hB⟩
  have hE := ext_of_below hB
  exact ⟨_, [], Γ, _, rfl, ⟨rfl, rfl⟩, ⟨_, _, rfl, ⟨rfl, hv⟩, ⟨rfl, hu⟩⟩, Nat.le_refl _, hm.same (Same.of_ext hE), ext_grow hE⟩
theorem pcalls_row {P : Program} {g : FuncId} (vs : List Value) (T : TypeId) (rows : List (List D)) (cells : List Value) (sz : Nat) (hsz : 0 < sz) (hr : ∀ r ∈ rows, r.length = sz) (hn : 0 < rows.length) (hc : ∀ w I, All2 (RD w I) rows.flatten cells)
    (h : ∀ w, Pin w → Calls P g vs.toArray w fun e w' => ∃ v, e = .returned v ∧ w'.ownsRow w.heap.size T sz v rows.length cells ∧ Below w.heap.size w w') :
    PCalls P g (vs.map fun v => .c (.v v)) [] fun r os => r = .c (.own 0 rows.length) ∧ os = [.arr T sz rows] := fun Γ w xs hm hx => by
  rw [rp_vals hx]
  refine (h w hm.pin.1).mono ?_
  rintro e w' ⟨v, rfl, hrow, hB⟩
  have hE := ext_of_below hB
  have hS := Same.of_ext hE
  have hn0 : Γ.n = 0 := hm.n
  obtain ⟨b, c, rfl, h4, h5, h6, h7, h8, h9⟩ := arr_of_own (k := Γ.n) (Γ := Γ) (rows := rows) hrow hn hsz hr rfl
  have hro := h9 (Γ.push b c) (by simp [G.push, upd_same]) (by simp [G.push, upd_same]) (hc _ _)
  refine ⟨_, _, Γ.push b c, _, rfl, ⟨rfl, rfl⟩, ?_, by simp, hm.push hS _ b c hro (fun _ => h6), grow_push hm hE b c (fun _ => h6) (Nat.zero_le _)⟩
  have hrep : OwnRep (Γ.push b c) Γ.n rows.length (.slice (some ⟨b, 0, none⟩) rows.length c) := .inr ⟨by simp [G.push, upd_same, h4], by simp [G.push, upd_same], by simp [G.push, upd_same]; exact h5⟩
  rw [hn0] at hrep
  exact ⟨by simp [G.push, hn0], hrep⟩
end Go.Proofs.YthconflkbeipoaaGreatDoor
