/- The order of modules, without the program. -/
import Derived.Test.YtdndljaaofkenaaPDepF
namespace Go.Proofs.Ytdndljaaofkenaa
open Go.RowKit
set_option linter.unusedVariables false
set_option linter.unusedSimpArgs false
theorem inM_congr {T T' : List ByteArray} (h : ∀ x, x ∈ T ↔ x ∈ T') (x : ByteArray) : inM x T = inM x T' := by
  cases h' : inM x T'
  · rw [inM_false] at h' ⊢; rwa [h]
  · rw [inM_iff] at h' ⊢; rwa [h]
theorem mayV_congr {M : List Mod} {T T' : List ByteArray} (h : ∀ x, x ∈ T ↔ x ∈ T') (s : ByteArray) : mayV M T s = mayV M T' s := by
  unfold mayV
  cases modOf M s with
  | none => rfl
  | some m => simp only [inM_congr h]
theorem shouldV_congr {M : List Mod} {T T' R : List ByteArray} (h : ∀ x, x ∈ T ↔ x ∈ T') (s : ByteArray) : shouldV M T R s = shouldV M T' R s := by unfold shouldV; rw [mayV_congr h]
/-- the next one: the least that should, or else the least that may -/
def chooseM (M : List Mod) (T R : List ByteArray) : Option ByteArray := match R.find? (shouldV M T R) with
  | some b => some b
  | none => R.find? (mayV M T)
def ordF (M : List Mod) : Nat → List ByteArray → List ByteArray → List ByteArray
  | 0, _, _ => []
  | n + 1, T, R => match chooseM M T R with
    | none => []
    | some b => b :: ordF M n (T ++ [b]) (R.filter fun x => decide (x ≠ b))
/-- R in an order in which they can be loaded behind T -/
def ordM (M : List Mod) (T R : List ByteArray) : List ByteArray := ordF M R.length T R
theorem choose_mem {M : List Mod} {T R : List ByteArray} {b : ByteArray} (h : chooseM M T R = some b) : b ∈ R := by
  unfold chooseM at h
  split at h
  · rename_i b' h1; cases h; exact List.mem_of_find?_eq_some h1
  · exact List.mem_of_find?_eq_some h
theorem filter_len : ∀ {R : List ByteArray} {b : ByteArray}, R.Nodup → b ∈ R → (R.filter fun x => decide (x ≠ b)).length + 1 = R.length
  | [], _, _, h => by simp at h
  | a :: R, b, hn, h => by
    obtain ⟨h1, h2⟩ := List.nodup_cons.1 hn
    by_cases e : a = b
    · subst e
      rw [List.filter_cons_of_neg (by simp), List.filter_eq_self.2 fun x hx => by simp; rintro rfl; exact h1 hx]
      rfl
    · rw [List.filter_cons_of_pos (by simpa using e), List.length_cons, List.length_cons, filter_len h2 ((List.mem_cons.1 h).resolve_left fun e' => e e'.symm)]
theorem del_eq {R : List ByteArray} {i : Nat} (hn : R.Nodup) (hi : i < R.length) : R.take i ++ R.drop (i + 1) = R.filter fun x => decide (x ≠ R.getD i default) := by
  have h0 : R = R.take i ++ R[i] :: R.drop (i + 1) := by rw [← List.drop_eq_getElem_cons hi, List.take_append_drop]
  rw [getD_lt R hi]
  generalize hb : R[i] = b at *
  rw [h0, List.nodup_append] at hn
  obtain ⟨n1, n2, n3⟩ := hn
  obtain ⟨n4, n5⟩ := List.nodup_cons.1 n2
  conv => rhs; rw [h0]
  rw [List.filter_append, List.filter_cons_of_neg (by simp), List.filter_eq_self.2 fun x hx => by simp; rintro rfl; exact n3 _ hx _ (by simp) rfl, List.filter_eq_self.2 fun x hx => by simp; rintro rfl; exact n4 hx]
theorem idx_none {q : ByteArray → Bool} {l : List ByteArray} (h : ∀ x ∈ l, q x = false) : l.find? q = none := List.find?_eq_none.2 fun x hx => by simp [h x hx]
theorem idx_some {q : ByteArray → Bool} {l : List ByteArray} {i : Nat} (hi : i < l.length) (h1 : q (l.getD i default) = true) (h2 : ∀ x ∈ l.take i, q x = false) : l.find? q = some (l.getD i default) := by
  rw [getD_lt l hi] at h1 ⊢
  rw [List.find?_eq_some_iff_append]
  refine ⟨h1, l.take i, l.drop (i + 1), by rw [← List.drop_eq_getElem_cons hi, List.take_append_drop], fun x hx => by simp [h2 x hx]⟩
/-- what the loop keeps: out chosen, R left; T: what is there -/
structure OInv (M : List Mod) (ld R0 out T R : List ByteArray) : Prop where
  asc : asc R
  there : ∀ x, x ∈ T ↔ x ∈ ld ++ out
  eq : ordM M ld R0 = out ++ ordF M R.length (ld ++ out) R
  len : R.length + out.length ≤ R0.length
theorem OInv.start {M : List Mod} {ld R0 T : List ByteArray} (h1 : Go.Proofs.Ytdndljaaofkenaa.asc R0) (h2 : ∀ x, x ∈ T ↔ x ∈ ld) : OInv M ld R0 [] T R0 := ⟨h1, by simpa using h2, by simp [ordM], by simp⟩
theorem OInv.step {M : List Mod} {ld R0 out T R : List ByteArray} {b : ByteArray} (h : OInv M ld R0 out T R) (hc : chooseM M (ld ++ out) R = some b) : OInv M ld R0 (out ++ [b]) (addS T b) (R.filter fun x => decide (x ≠ b)) := by
  have hb := choose_mem hc
  have hl := filter_len (asc_nodup h.asc) hb
  refine ⟨h.asc.sublist List.filter_sublist, fun x => ?_, ?_, ?_⟩
  · rw [mem_addS, h.there]; simp [or_assoc]
  · rw [h.eq, ← hl]
    simp only [ordF, hc, List.append_assoc, List.cons_append, List.nil_append]
  · have := h.len; simp only [List.length_append, List.length_cons, List.length_nil]; omega
theorem OInv.stop {M : List Mod} {ld R0 out T R : List ByteArray} (h : OInv M ld R0 out T R) (hc : chooseM M (ld ++ out) R = none) : ordM M ld R0 = out := by
  rw [h.eq]
  cases R.length with
  | zero => simp [ordF]
  | succ n => simp [ordF, hc]
theorem OInv.choose {M : List Mod} {ld R0 out T R : List ByteArray} (h : OInv M ld R0 out T R) : chooseM M (ld ++ out) R = chooseM M T R := by
  unfold chooseM
  rw [funext (shouldV_congr h.there), funext (mayV_congr h.there)]
/-- what is left to be ordered at first -/
def restM (ld names : List ByteArray) : List ByteArray := ascOf (names.filter fun x => !inM x ld)
theorem restM_spec (ld names : List ByteArray) : asc (restM ld names) ∧ (∀ x, x ∈ restM ld names ↔ x ∈ names ∧ x ∉ ld) ∧ (restM ld names).length ≤ names.length := by
  obtain ⟨h1, h2, h3⟩ := ascOf_spec (names.filter fun x => !inM x ld)
  refine ⟨h1, fun x => ?_, Nat.le_trans h3 (List.length_filter_le _ _)⟩
  rw [restM, h2, List.mem_filter]
  simp only [Bool.not_eq_true', inM_false]
theorem filter_congr_in {T T' names : List ByteArray} (h : ∀ x, x ∈ T ↔ x ∈ T') : (names.filter fun x => !inM x T) = names.filter fun x => !inM x T' := by simp only [inM_congr h]
/-- neighbours that are equal are one -/
def cmpB (l : List ByteArray) : List ByteArray := (Lib.compact (l.map (·.data.toList))).map unB
theorem cmpB_len (l : List ByteArray) : (cmpB l).length = (Lib.compact (l.map (·.data.toList))).length := by rw [cmpB, List.length_map]
end Go.Proofs.Ytdndljaaofkenaa
