/- The plain law of Changed: what two lists that ascend differ in. No program in sight. -/
import Derived.Test.YtfojijoekpkheaaDoorDevP
import Derived.Test.YtfojijoekpkheaaDoorPAttrs
import Derived.Test.YtfojijoekpkheaaDoorPTextS
namespace Go.Proofs.YtfojijoekpkheaaDoor
open Go.RowKit
set_option linter.unusedVariables false
set_option linter.unusedSimpArgs false
/-- a list that ascends, of values that are not empty -/
structure Good (l : List Atr) : Prop where
  up : l.Pairwise Up
  val : ∀ y ∈ l, y.value ≠ ⟨#[]⟩
theorem Good.nil : Good [] := ⟨List.Pairwise.nil, by simp⟩
theorem Good.ins {l : List Atr} (h : Good l) (n v : ByteArray) : Good (insM n v l) := by
  refine ⟨insM_pw h.up, ?_⟩
  have one_val : ∀ y ∈ one n v, y.value ≠ ⟨#[]⟩ := by
    intro y hy
    unfold one at hy
    split at hy
    · simp at hy
    · rename_i hv
      have : y = ⟨n, v⟩ := by simpa using hy
      subst this
      exact hv
  have key : ∀ l : List Atr, (∀ y ∈ l, y.value ≠ ⟨#[]⟩) → ∀ y ∈ insM n v l, y.value ≠ ⟨#[]⟩ := by
    intro l
    induction l with
    | nil => intro _ y hy; exact one_val y hy
    | cons x t ih =>
      intro hx y hy
      rw [insM] at hy
      split at hy
      · rcases List.mem_cons.1 hy with rfl | hy
        · exact hx _ (by simp)
        · exact ih (fun z hz => hx z (by simp [hz])) y hy
      · rcases List.mem_append.1 hy with hy | hy
        · exact one_val y hy
        · split at hy
          · exact hx y (by simp [hy])
          · exact hx y hy
  exact key l h.val
theorem attrs_good (L : List Int) : ∀ (n k : Nat) (out : List Atr), Good out → Good (attrsGo L n k out)
  | 0, _, _, h => h
  | n + 1, k, out, h => by
    rw [attrsGo]
    refine attrs_good L n (k + 2) _ ?_
    rw [refA_eq h.up]
    exact h.ins _ _
theorem attrsM_good (L : List Int) (k : Nat) : Good (attrsM L k) := attrs_good L _ _ _ Good.nil
/-- what an attribute is in a list -/
def valM (l : List Atr) (n : ByteArray) : ByteArray := (getM l n).1
theorem Good.get {l : List Atr} (h : Good l) (n : ByteArray) : getM l n = (valM l n, decide (valM l n ≠ ⟨#[]⟩)) := by
  unfold valM
  cases hb : (getM l n).2 with
  | false =>
    have : getM l n = (⟨#[]⟩, false) := by
      unfold getM at hb ⊢
      split at hb
      · cases hb
      · rfl
    rw [this]; simp
  | true =>
    obtain ⟨y, hy, _, h2⟩ := getM_some hb
    rw [h2]
    simp [h.val y hy]
theorem good_ext {a b : List Atr} (ha : Good a) (hb : Good b) (h : ∀ n, valM a n = valM b n) : a = b := up_ext ha.up hb.up fun c => by rw [ha.get, hb.get, h]
theorem val_in {l : List Atr} {n : ByteArray} (h : valM l n ≠ ⟨#[]⟩) : n ∈ l.map Atr.name := by
  unfold valM at h
  cases hb : (getM l n).2 with
  | false =>
    refine absurd ?_ h
    unfold getM at hb ⊢
    split at hb
    · cases hb
    · rfl
  | true =>
    obtain ⟨y, hy, h1, _⟩ := getM_some hb
    exact List.mem_map.2 ⟨y, hy, h1⟩
theorem ins_val {l : List Atr} (h : Good l) (n v c : ByteArray) : valM (insM n v l) c = if c = n then v else valM l c := by
  unfold valM
  rw [insM_get h.up]
  split <;> rfl
/-- the names in which two lists differ, in any order -/
def diffL (a b : List Atr) (l : List Atr) : List ByteArray := (l.filter fun x => decide (valM a x.name ≠ valM b x.name)).map Atr.name
theorem diff_t {a b l : List Atr} {k : Nat} (hk : k < l.length) (h : ¬ valM a (l.getD k default).name = valM b (l.getD k default).name) : diffL a b (l.take (k + 1)) = diffL a b (l.take k) ++ [(l.getD k default).name] := by
  rw [getD_lt l hk] at *
  unfold diffL
  rw [List.take_succ_eq_append_getElem hk, List.filter_append, List.filter_cons_of_pos (by simpa using h), List.map_append]
  rfl
theorem diff_f {a b l : List Atr} {k : Nat} (hk : k < l.length) (h : valM a (l.getD k default).name = valM b (l.getD k default).name) : diffL a b (l.take (k + 1)) = diffL a b (l.take k) := by
  rw [getD_lt l hk] at h
  unfold diffL
  rw [List.take_succ_eq_append_getElem hk, List.filter_append, List.filter_cons_of_neg (by simpa using h), List.filter_nil, List.append_nil]
theorem diff_len (a b l : List Atr) (k : Nat) : (diffL a b (l.take k)).length ≤ k := by
  unfold diffL
  rw [List.length_map]
  exact Nat.le_trans (List.length_filter_le _ _) (List.length_take_le _ _)
theorem diff_end {a b l : List Atr} {k : Nat} (h : ¬ k < l.length) : diffL a b (l.take k) = diffL a b l := by rw [List.take_of_length_le (by omega)]
theorem diff_mem {a b l : List Atr} {n : ByteArray} : n ∈ diffL a b l ↔ n ∈ l.map Atr.name ∧ valM a n ≠ valM b n := by
  unfold diffL
  rw [List.mem_map, List.mem_map]
  constructor
  · rintro ⟨x, hx, rfl⟩
    obtain ⟨h1, h2⟩ := List.mem_filter.1 hx
    exact ⟨⟨x, h1, rfl⟩, by simpa using h2⟩
  · rintro ⟨⟨x, hx, rfl⟩, h2⟩
    exact ⟨x, List.mem_filter.2 ⟨hx, by simpa using h2⟩, rfl⟩
/-- the names in which two lists differ, ascending -/
def chgL (a b : List Atr) : List ByteArray := ascOf (diffL a b (a ++ b))
theorem chg_mem {a b : List Atr} {n : ByteArray} : n ∈ chgL a b ↔ valM a n ≠ valM b n := by
  unfold chgL
  rw [(ascOf_spec _).2.1, diff_mem]
  refine ⟨fun h => h.2, fun h => ⟨?_, h⟩⟩
  rw [List.map_append, List.mem_append]
  by_cases ha : valM a n = ⟨#[]⟩
  · refine .inr (val_in fun hb => h ?_)
    rw [ha, hb]
  · exact .inl (val_in ha)
theorem chg_self (a : List Atr) : chgL a a = [] := by
  refine List.eq_nil_iff_forall_not_mem.2 fun n hn => ?_
  exact chg_mem.1 hn rfl
theorem chg_len (a b : List Atr) : (chgL a b).length ≤ a.length + b.length := by
  refine Nat.le_trans (ascOf_spec _).2.2 ?_
  unfold diffL
  rw [List.length_map]
  refine Nat.le_trans (List.length_filter_le _ _) ?_
  rw [List.length_append]
  exact Nat.le_refl _
/-- the reference's: all names of both lists, ascending, those that differ -/
def allR (a : List Atr) (b : List Atr) : List Atr := b.foldl (fun l y => insM y.name ⟨#[120]⟩ l) a
theorem allR_good {a : List Atr} (ha : Good a) : ∀ b : List Atr, Good (allR a b) := by
  intro b
  unfold allR
  induction b generalizing a with
  | nil => exact ha
  | cons y b ih => exact ih (ha.ins _ _)
theorem allR_snoc (a b : List Atr) (y : Atr) : allR a (b ++ [y]) = insM y.name ⟨#[120]⟩ (allR a b) := by simp [allR]
theorem name_val {l : List Atr} (h : Good l) {n : ByteArray} : n ∈ l.map Atr.name ↔ valM l n ≠ ⟨#[]⟩ := by
  refine ⟨fun hn => ?_, val_in⟩
  obtain ⟨y, hy, rfl⟩ := List.mem_map.1 hn
  unfold valM
  rw [getM_mem h.up hy]
  exact h.val y hy
theorem allR_name {a : List Atr} (ha : Good a) {n : ByteArray} : ∀ b : List Atr, n ∈ (allR a b).map Atr.name ↔ n ∈ a.map Atr.name ∨ n ∈ b.map Atr.name := by
  intro b
  induction b generalizing a with
  | nil => simp [allR]
  | cons y b ih =>
    have h1 : allR a (y :: b) = allR (insM y.name ⟨#[120]⟩ a) b := rfl
    rw [h1, ih (ha.ins _ _), name_val (ha.ins _ _), ins_val ha]
    rw [name_val ha, List.map_cons, List.mem_cons]
    by_cases hn : n = y.name
    · rw [if_pos hn]
      have : (⟨#[120]⟩ : ByteArray) ≠ ⟨#[]⟩ := by decide
      simp [hn, this]
    · rw [if_neg hn]
      simp [hn]
theorem up_names {l : List Atr} (h : l.Pairwise Up) : asc (l.map Atr.name) := by
  rw [asc, List.pairwise_map]
  exact h
theorem chgR_eq {a b : List Atr} (ha : Good a) : diffL a b (allR a b) = chgL a b := by
  refine asc_ext ?_ (ascOf_spec _).1 fun n => ?_
  · exact up_names ((allR_good ha b).up.sublist List.filter_sublist)
  · rw [diff_mem, allR_name ha]
    unfold chgL
    rw [(ascOf_spec _).2.1, diff_mem, List.map_append, List.mem_append]
/-- .. set one after the other -/
def setAll (b : List Atr) (a : List Atr) (l : List ByteArray) : List Atr := l.foldl (fun a n => insM n (valM b n) a) a
theorem setAll_snoc (b a : List Atr) (l : List ByteArray) (n : ByteArray) : setAll b a (l ++ [n]) = insM n (valM b n) (setAll b a l) := by simp [setAll]
theorem setAll_good {a : List Atr} (b : List Atr) (ha : Good a) : ∀ l : List ByteArray, Good (setAll b a l) := by
  intro l
  unfold setAll
  induction l generalizing a with
  | nil => exact ha
  | cons n l ih => exact ih (ha.ins _ _)
open Classical in
theorem setAll_val {a : List Atr} (b : List Atr) (ha : Good a) {c : ByteArray} : ∀ l : List ByteArray, valM (setAll b a l) c = if c ∈ l then valM b c else valM a c := by
  intro l
  induction l generalizing a with
  | nil => simp [setAll]
  | cons n l ih =>
    have h1 : setAll b a (n :: l) = setAll b (insM n (valM b n) a) l := rfl
    rw [h1, ih (ha.ins _ _), ins_val ha]
    by_cases h2 : c ∈ l
    · simp [h2]
    · by_cases h3 : c = n
      · simp [h3]
      · simp [h2, h3]
theorem setAll_chg {a b : List Atr} (ha : Good a) (hb : Good b) : setAll b a (chgL a b) = b := by
  refine good_ext (setAll_good b ha _) hb fun n => ?_
  rw [setAll_val b ha]
  split
  · rfl
  · rename_i h
    exact Classical.byContradiction fun hc => h (chg_mem.2 hc)
theorem setAll_len {b : List Atr} : ∀ (l : List ByteArray) (a : List Atr), (setAll b a l).length ≤ a.length + l.length
  | [], a => by simp [setAll]
  | n :: l, a => by
    have h1 : setAll b a (n :: l) = setAll b (insM n (valM b n) a) l := rfl
    rw [h1]
    have := setAll_len (b := b) l (insM n (valM b n) a)
    have := insM_len n (valM b n) a
    simp only [List.length_cons]
    omega
theorem allR_len (a : List Atr) : ∀ b : List Atr, (allR a b).length ≤ a.length + b.length := by
  intro b
  unfold allR
  induction b generalizing a with
  | nil => simp
  | cons y b ih =>
    have h1 := ih (insM y.name ⟨#[120]⟩ a)
    have h2 := insM_len y.name ⟨#[120]⟩ a
    simp only [List.foldl_cons, List.length_cons]
    omega
end Go.Proofs.YtfojijoekpkheaaDoor
