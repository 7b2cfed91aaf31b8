/- Lists that ascend; the one list of a set; Put. No program in sight. -/
import Derived.Test.YtdndljaaofkenaaPSort
import Derived.Test.YtdndljaaofkenaaPDepB
namespace Go.Proofs.Ytdndljaaofkenaa
open Go.RowKit
set_option linter.unusedVariables false
set_option linter.unusedSimpArgs false
theorem put_parts (l : List ByteArray) (s : ByteArray) (h : asc l) : ∃ a b, l = a ++ b ∧ (∀ x ∈ a, bless x s = true) ∧ (∀ x ∈ b, bless x s = false) ∧ ((s ∈ b ∧ putM l s = l) ∨ (s ∉ b ∧ putM l s = a ++ s :: b)) := by
  refine ⟨l.takeWhile fun x => bless x s, l.dropWhile fun x => bless x s, List.takeWhile_append_dropWhile.symm, fun x hx => ?_, fun x hx => ?_, ?_⟩
  · have := List.all_takeWhile (p := fun x => bless x s) (l := l)
    exact List.all_eq_true.1 this x hx
  · induction l with
    | nil => simp at hx
    | cons a l ih =>
      obtain ⟨h1, h2⟩ := List.pairwise_cons.1 h
      rw [List.dropWhile_cons] at hx
      split at hx
      · exact ih h2 hx
      · rename_i hb
        rcases List.mem_cons.1 hx with rfl | hx
        · simpa using hb
        · cases hc : bless x s
          · rfl
          · exact absurd (bless_trans (h1 x hx) hc) (by simpa using hb)
  · have hi : l.take (l.takeWhile fun x => bless x s).length = l.takeWhile fun x => bless x s := by
      conv => lhs; arg 2; rw [← List.takeWhile_append_dropWhile (p := fun x => bless x s) (l := l)]
      rw [List.take_left]
    have hd : l.drop (l.takeWhile fun x => bless x s).length = l.dropWhile fun x => bless x s := by
      conv => lhs; arg 2; rw [← List.takeWhile_append_dropWhile (p := fun x => bless x s) (l := l)]
      rw [List.drop_left]
    have hg : ∀ d, l.getD (l.takeWhile fun x => bless x s).length d = (l.dropWhile fun x => bless x s).getD 0 d := by
      intro d
      rw [← hd]
      simp [List.getD]
    have hlen : (l.takeWhile fun x => bless x s).length + (l.dropWhile fun x => bless x s).length = l.length := by
      rw [← List.length_append, List.takeWhile_append_dropWhile]
    unfold putM
    simp only [hi, hd, hg]
    have hasc : asc (l.dropWhile fun x => bless x s) := h.sublist (List.dropWhile_sublist _)
    cases hb : l.dropWhile fun x => bless x s with
    | nil =>
      rw [hb] at hlen
      simp only [List.length_nil, Nat.add_zero] at hlen
      exact .inr ⟨by simp, by rw [if_neg (fun h => absurd h.2 (by omega))]⟩
    | cons c b =>
      rw [hb] at hlen hasc
      simp only [List.length_cons] at hlen
      have hc : bless c s = false := by
        have := List.head?_dropWhile_not (fun x => bless x s) l
        rw [hb] at this
        simpa using this
      by_cases he : c = s
      · exact .inl ⟨by simp [he], by rw [if_pos ⟨by simpa using he, by omega⟩]⟩
      · refine .inr ⟨?_, by rw [if_neg (fun h => he (by simpa using h.1))]⟩
        rintro hm
        rcases List.mem_cons.1 hm with e | e
        · exact he e.symm
        · have := (List.pairwise_cons.1 hasc).1 s e
          rw [hc] at this
          cases this
theorem put_mem {l : List ByteArray} {s x : ByteArray} (h : asc l) : x ∈ putM l s ↔ x ∈ l ∨ x = s := by
  obtain ⟨a, b, rfl, h1, h2, ⟨hs, h3⟩ | ⟨hs, h3⟩⟩ := put_parts l s h
  all_goals rw [h3]
  · constructor
    · exact .inl
    · rintro (h | rfl)
      · exact h
      · exact List.mem_append.2 (.inr hs)
  · simp only [List.mem_append, List.mem_cons]
    constructor
    · rintro (h | h | h)
      · exact .inl (.inl h)
      · exact .inr h
      · exact .inl (.inr h)
    · rintro ((h | h) | h)
      · exact .inl h
      · exact .inr (.inr h)
      · exact .inr (.inl h)
theorem put_asc {l : List ByteArray} {s : ByteArray} (h : asc l) : asc (putM l s) := by
  obtain ⟨a, b, rfl, h1, h2, ⟨hs, h3⟩ | ⟨hs, h3⟩⟩ := put_parts l s h
  all_goals rw [h3]
  · exact h
  · obtain ⟨p1, p2, p3⟩ := List.pairwise_append.1 h
    have hsb : ∀ y ∈ b, bless s y = true := by
      intro y hy
      cases hc : bless s y
      · exact absurd (bless_total (h2 y hy) hc) (by rintro rfl; exact hs hy)
      · rfl
    refine List.pairwise_append.2 ⟨p1, List.pairwise_cons.2 ⟨hsb, p2⟩, fun x hx y hy => ?_⟩
    rcases List.mem_cons.1 hy with rfl | hy
    · exact h1 x hx
    · exact p3 x hx y hy
theorem put_old {l : List ByteArray} {s : ByteArray} (h : asc l) (hs : s ∈ l) : putM l s = l := asc_ext (put_asc h) h fun x => by
  rw [put_mem h]
  exact ⟨fun h => h.elim id fun e => e ▸ hs, .inl⟩
theorem put_len {l : List ByteArray} {s : ByteArray} (h : asc l) : (putM l s).length = l.length + (if inM s l = true then 0 else 1) := by
  cases hm : inM s l
  · obtain ⟨a, b, rfl, h1, h2, ⟨hs, h3⟩ | ⟨hs, h3⟩⟩ := put_parts l s h
    · exact absurd (List.mem_append.2 (.inr hs)) (inM_false.1 hm)
    · rw [h3]; simp; omega
  · rw [put_old h (inM_iff.1 hm)]; simp
theorem asc_nil : asc [] := List.Pairwise.nil
/-- the one list that ascends of a set -/
noncomputable def listOf (P : ByteArray → Prop) : List ByteArray := open Classical in if h : ∃ m, asc m ∧ ∀ x, x ∈ m ↔ P x then h.choose else []
theorem listOf_eq {P : ByteArray → Prop} {m : List ByteArray} (h1 : asc m) (h2 : ∀ x, x ∈ m ↔ P x) : listOf P = m := by
  have h : ∃ m, asc m ∧ ∀ x, x ∈ m ↔ P x := ⟨m, h1, h2⟩
  unfold listOf
  rw [dif_pos h]
  exact asc_ext h.choose_spec.1 h1 fun x => (h.choose_spec.2 x).trans (h2 x).symm
theorem exists_asc (P : ByteArray → Prop) : ∀ l : List ByteArray, ∃ m, asc m ∧ ∀ x, x ∈ m ↔ P x ∧ x ∈ l
  | [] => ⟨[], asc_nil, by simp⟩
  | a :: l => by
    obtain ⟨m, h1, h2⟩ := exists_asc P l
    by_cases hp : P a
    · refine ⟨putM m a, put_asc h1, fun x => ?_⟩
      rw [put_mem h1, h2]
      constructor
      · rintro (⟨h3, h4⟩ | rfl)
        · exact ⟨h3, by simp [h4]⟩
        · exact ⟨hp, by simp⟩
      · rintro ⟨h3, h4⟩
        rcases List.mem_cons.1 h4 with rfl | h4
        · exact .inr rfl
        · exact .inl ⟨h3, h4⟩
    · refine ⟨m, h1, fun x => ?_⟩
      rw [h2]
      constructor
      · rintro ⟨h3, h4⟩
        exact ⟨h3, by simp [h4]⟩
      · rintro ⟨h3, h4⟩
        rcases List.mem_cons.1 h4 with rfl | h4
        · exact absurd h3 hp
        · exact ⟨h3, h4⟩
theorem listOf_spec {P : ByteArray → Prop} (l : List ByteArray) (h : ∀ x, P x → x ∈ l) : asc (listOf P) ∧ (∀ x, x ∈ listOf P ↔ P x) ∧ (listOf P).length ≤ l.length := by
  obtain ⟨m, h1, h2⟩ := exists_asc P l
  have h3 : ∀ x, x ∈ m ↔ P x := fun x => (h2 x).trans ⟨fun h => h.1, fun hp => ⟨hp, h x hp⟩⟩
  rw [listOf_eq h1 h3]
  exact ⟨h1, h3, nodup_len m l (asc_nodup h1) fun x hx => h x ((h3 x).1 hx)⟩
/-- the hard closure of a name, with names that no module has -/
noncomputable def hardL (M : List Mod) (n : ByteArray) : List ByteArray := listOf fun x => x = n ∨ Reach M n x
theorem hard_spec (M : List Mod) (n : ByteArray) : asc (hardL M n) ∧ (∀ x, x ∈ hardL M n ↔ x = n ∨ Reach M n x) ∧ (hardL M n).length ≤ (allNeeds M).length + 1 := by
  have := listOf_spec (P := fun x => x = n ∨ Reach M n x) (n :: allNeeds M) (by
    rintro x (rfl | h)
    · simp
    · exact List.mem_cons_of_mem _ (reach_all h))
  simpa [hardL] using this
noncomputable def reachL (M : List Mod) (n : ByteArray) : List ByteArray := listOf fun x => Reach M n x
theorem reach_spec (M : List Mod) (n : ByteArray) : asc (reachL M n) ∧ (∀ x, x ∈ reachL M n ↔ Reach M n x) ∧ (reachL M n).length ≤ (allNeeds M).length := listOf_spec _ fun x h => reach_all h
end Go.Proofs.Ytdndljaaofkenaa
