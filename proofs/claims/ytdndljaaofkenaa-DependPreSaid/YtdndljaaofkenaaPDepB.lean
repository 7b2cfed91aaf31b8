/- depend.reached: the names that are reached by Needs. -/
import Derived.Test.YtdndljaaofkenaaPDepA
import Derived.Test.YtdndljaaofkenaaPLib
namespace Go.Proofs.Ytdndljaaofkenaa
attribute [local irreducible] PL QL PWP PCalls Weak RetK Kont PA
open Go.RowKit
set_option linter.unusedVariables false
set_option linter.unusedSimpArgs false
/-- the Needs of a name; none where there is no such module -/
def needsOf (M : List Mod) (n : ByteArray) : List ByteArray := ((modOf M n).getD noMod).needs
inductive Reach (M : List Mod) (n : ByteArray) : ByteArray → Prop
  | one {x : ByteArray} : x ∈ needsOf M n → Reach M n x
  | more {y x : ByteArray} : Reach M n y → x ∈ needsOf M y → Reach M n x
theorem Reach.trans {M : List Mod} {a b c : ByteArray} (h : Reach M a b) (h' : Reach M b c) : Reach M a c := by
  induction h' with
  | one hx => exact .more h hx
  | more _ hx ih => exact .more ih hx
theorem nodup_len {α : Type} [DecidableEq α] : ∀ (l m : List α), l.Nodup → (∀ x ∈ l, x ∈ m) → l.length ≤ m.length
  | [], m, _, _ => by simp
  | a :: l, m, h, hs => by
    obtain ⟨h1, h2⟩ := List.nodup_cons.1 h
    have ih := nodup_len l (m.filter fun x => decide (x ≠ a)) h2 (fun x hx => by
      rw [List.mem_filter]
      refine ⟨hs x (by simp [hx]), ?_⟩
      simp only [ne_eq, decide_eq_true_eq]
      rintro rfl
      exact h1 hx)
    have h3 : (m.filter fun x => decide (x ≠ a)).length < m.length := by
      have hle := List.length_filter_le (fun x => decide (x ≠ a)) m
      rcases Nat.lt_or_ge (m.filter fun x => decide (x ≠ a)).length m.length with h | h
      · exact h
      · have := (List.length_filter_eq_length_iff (p := fun x => decide (x ≠ a)) (l := m)).1 (by omega) a (hs a (by simp))
        simp at this
    simp only [List.length_cons]
    omega
/-- all names that are needed anywhere -/
def allNeeds (M : List Mod) : List ByteArray := M.flatMap Mod.needs
theorem needs_all {M : List Mod} {n x : ByteArray} (h : x ∈ needsOf M n) : x ∈ allNeeds M := by
  unfold needsOf at h
  cases hm : modOf M n with
  | none => rw [hm] at h; simp [noMod] at h
  | some m =>
    rw [hm] at h
    unfold modOf at hm
    exact List.mem_flatMap.2 ⟨m, List.mem_of_find?_eq_some hm, h⟩
theorem reach_all {M : List Mod} {n x : ByteArray} (h : Reach M n x) : x ∈ allNeeds M := by
  cases h with
  | one h => exact needs_all h
  | more _ h => exact needs_all h
/-- modules with few needs -/
structure Small (M : List Mod) : Prop where
  len : M.length ≤ 100
  needs : ∀ m ∈ M, m.needs.length ≤ 100
  pre : ∀ m ∈ M, m.pre.length ≤ 100
  post : ∀ m ∈ M, m.post.length ≤ 100
  nodup : (M.map Mod.name).Nodup
  named : ∀ m ∈ M, m.name ≠ ⟨#[]⟩
theorem flat_len {α β : Type} (f : α → List β) (k : Nat) : ∀ l : List α, (∀ x ∈ l, (f x).length ≤ k) → (l.flatMap f).length ≤ l.length * k
  | [], _ => by simp
  | a :: l, h => by
    have ih := flat_len f k l (fun x hx => h x (by simp [hx]))
    have := h a (by simp)
    simp only [List.flatMap_cons, List.length_append, List.length_cons, Nat.add_mul]
    omega
theorem Small.all {M : List Mod} (h : Small M) : (allNeeds M).length ≤ 10000 := by
  have := flat_len Mod.needs 100 M h.needs
  have := h.len
  unfold allNeeds
  omega
theorem mod_mem {M : List Mod} {n : ByteArray} {m : Mod} (h : modOf M n = some m) : m ∈ M ∧ m.name = n := by
  unfold modOf at h
  exact ⟨List.mem_of_find?_eq_some h, by simpa using List.find?_some h⟩
theorem Small.needsOf {M : List Mod} (h : Small M) (n : ByteArray) : (needsOf M n).length ≤ 100 := by
  unfold Go.Proofs.Ytdndljaaofkenaa.needsOf
  cases hm : modOf M n with
  | none => simp [noMod]
  | some m => exact h.needs m (mod_mem hm).1
/-- what reached's loop keeps: what is seen, what is still on the stack -/
structure RInv (M : List Mod) (n : ByteArray) (seen st : List ByteArray) : Prop where
  nd : seen.Nodup
  hs : ∀ x ∈ seen, Reach M n x
  ht : ∀ x ∈ st, Reach M n x
  h0 : ∀ x ∈ needsOf M n, x ∈ seen ∨ x ∈ st
  hn : ∀ y ∈ seen, ∀ x ∈ needsOf M y, x ∈ seen ∨ x ∈ st
  hl : st.length ≤ 100 * (1 + seen.length)
theorem RInv.seenLen {M : List Mod} {n : ByteArray} {seen st : List ByteArray} (h : RInv M n seen st) : seen.length ≤ (allNeeds M).length :=
  nodup_len _ _ h.nd fun x hx => reach_all (h.hs x hx)
theorem RInv.init {M : List Mod} {n : ByteArray} (hS : Small M) : RInv M n [] (needsOf M n) :=
  ⟨by simp, by simp, fun x hx => .one hx, fun x hx => .inr hx, by simp, by have := hS.needsOf n; simpa using this⟩
theorem RInv.old {M : List Mod} {n : ByteArray} {seen st : List ByteArray} {s : ByteArray} (h : RInv M n seen (st ++ [s])) (hs : s ∈ seen) : RInv M n seen st :=
  ⟨h.nd, h.hs, fun x hx => h.ht x (by simp [hx]), fun x hx => by
    rcases h.h0 x hx with h1 | h1
    · exact .inl h1
    · rcases List.mem_append.1 h1 with h1 | h1
      · exact .inr h1
      · simp at h1; subst h1; exact .inl hs, fun y hy x hx => by
    rcases h.hn y hy x hx with h1 | h1
    · exact .inl h1
    · rcases List.mem_append.1 h1 with h1 | h1
      · exact .inr h1
      · simp at h1; subst h1; exact .inl hs, by have := h.hl; simp at this; omega⟩
theorem RInv.fresh {M : List Mod} {n : ByteArray} {seen st : List ByteArray} {s : ByteArray} (hS : Small M) (h : RInv M n seen (st ++ [s])) (hs : s ∉ seen) : RInv M n (addS seen s) (st ++ needsOf M s) := by
  have hr : Reach M n s := h.ht s (by simp)
  have mv : ∀ x, x ∈ seen ∨ x ∈ st ++ [s] → x ∈ addS seen s ∨ x ∈ st ++ needsOf M s := by
    intro x hx
    rcases hx with hx | hx
    · exact .inl (mem_addS.2 (.inl hx))
    · rcases List.mem_append.1 hx with hx | hx
      · exact .inr (by simp [hx])
      · simp at hx; exact .inl (mem_addS.2 (.inr hx))
  refine ⟨nodup_addS h.nd, fun x hx => ?_, fun x hx => ?_, fun x hx => mv x (h.h0 x hx), fun y hy x hx => ?_, ?_⟩
  · rcases mem_addS.1 hx with hx | rfl
    · exact h.hs x hx
    · exact hr
  · rcases List.mem_append.1 hx with hx | hx
    · exact h.ht x (by simp [hx])
    · exact .more hr hx
  · rcases mem_addS.1 hy with hy | rfl
    · exact mv x (h.hn y hy x hx)
    · exact .inr (by simp [hx])
  · have h1 := h.hl
    have h2 := hS.needsOf s
    have h3 : (addS seen s).length = seen.length + 1 := by unfold addS; rw [if_neg (by rw [inM_iff]; exact hs)]; simp
    rw [h3]
    simp at h1 ⊢
    omega
theorem RInv.done {M : List Mod} {n : ByteArray} {seen : List ByteArray} (h : RInv M n seen []) (x : ByteArray) : x ∈ seen ↔ Reach M n x := by
  refine ⟨h.hs x, fun hx => ?_⟩
  induction hx with
  | one hx => simpa using h.h0 _ hx
  | more _ hx ih => simpa using h.hn _ ih _ hx
theorem lk_mods (M : List Mod) (n : ByteArray) (z : PV) (ok : Bool) : lkP true z ok (mget (modsE M) (.s n)) = match modOf M n with
    | some m => some (okP ok true (.agg m.e))
    | none => some (okP ok false z) := by
  rw [mget_mods]
  cases modOf M n <;> rfl
def reachSt (M : List Mod) (n : ByteArray) (x : List ByteArray × List ByteArray) : S := ⟨[(6, .c (.own 2 x.2.length)), (5, .c (.mp 1)), (0, .c (.mp 0)), (1, .c (.v (.string n)))], [.map none true (modsE M), .map none false (setE x.1), .arr 9 1 (x.2.map strD)]⟩
attribute [push_cast] reachSt
set_option maxHeartbeats 1000000 in
theorem reached_pure (M : List Mod) (n : ByteArray) (hS : Small M) :
    PCalls Try.prog 52 [.c (.mp 0), .c (.v (.string n))] [.map none true (modsE M)] fun r os => ∃ seen, (seen.Nodup ∧ ∀ x, x ∈ seen ↔ Reach M n x) ∧ r = .c (.mp 1) ∧ os = [.map none true (modsE M), .map none false (setE seen)] := by
  refine pcalls_of Try.func52 rfl (by simp [Try.ntmps52]) ?_
  rw [Try.ntmps52, Try.results52]
  simp only [push_cast, reduceIte, reduceCtorEq, Nat.reduceEqDiff, Nat.reduceLT, Nat.reduceLeDiff, Nat.reduceAdd, Nat.reduceSub, Nat.reduceMul, Nat.reduceBEq, Int.reduceLE, Int.reduceLT, Int.reduceEq, Int.reduceAdd, Int.reduceSub, Int.reduceMul, Int.reduceNeg, IntWalk.iteOmega, IntWalk.toNatUp]
  have hall := hS.all
  have hlen := hS.needsOf n
  have hi := RInv.init (n := n) hS
  cases hm : modOf M n with
  | none =>
    have hn : needsOf M n = [] := by simp [needsOf, hm, noMod]
    rw [hn] at hlen hi
    repeat' (first | (refine pl_call2 false [] rfl rfl (by kernel_rfl) (clone_pure [] (by simp)) ?_ nofun ?_; simp only [push_cast, reduceIte, reduceCtorEq, Nat.reduceEqDiff, Nat.reduceLT, Nat.reduceLeDiff, Nat.reduceAdd, Nat.reduceSub, Nat.reduceMul, Nat.reduceBEq, Int.reduceLE, Int.reduceLT, Int.reduceEq, Int.reduceAdd, Int.reduceSub, Int.reduceMul, Int.reduceNeg, IntWalk.iteOmega, IntWalk.toNatUp, mget_mods, hm]; rintro r os ⟨rfl, rfl⟩; refine pl_of_pops ?_; simp only [push_cast, reduceIte, reduceCtorEq, Nat.reduceEqDiff, Nat.reduceLT, Nat.reduceLeDiff, Nat.reduceAdd, Nat.reduceSub, Nat.reduceMul, Nat.reduceBEq, Int.reduceLE, Int.reduceLT, Int.reduceEq, Int.reduceAdd, Int.reduceSub, Int.reduceMul, Int.reduceNeg, IntWalk.iteOmega, IntWalk.toNatUp, mget_mods, hm]) | (refine Kont.use (by assumption) ?_) | (refine pwp_seq fun K hK => ?_) | (refine pwp_block ?_) | (refine pwp_scope ?_) | ((first | refine pwp_region ?_ | refine pwp_quiet (by kernel_rfl) (by kernel_rfl) ?_ | refine pwp_exit ?_ | refine pwp_ret ?_ | refine pwp_skip ?_); simp only [push_cast, reduceIte, reduceCtorEq, Nat.reduceEqDiff, Nat.reduceLT, Nat.reduceLeDiff, Nat.reduceAdd, Nat.reduceSub, Nat.reduceMul, Nat.reduceBEq, Int.reduceLE, Int.reduceLT, Int.reduceEq, Int.reduceAdd, Int.reduceSub, Int.reduceMul, Int.reduceNeg, IntWalk.iteOmega, IntWalk.toNatUp, mget_mods, hm]) | (refine pwp_cond ?_; simp only [push_cast, reduceIte, reduceCtorEq, Nat.reduceEqDiff, Nat.reduceLT, Nat.reduceLeDiff, Nat.reduceAdd, Nat.reduceSub, Nat.reduceMul, Nat.reduceBEq, Int.reduceLE, Int.reduceLT, Int.reduceEq, Int.reduceAdd, Int.reduceSub, Int.reduceMul, Int.reduceNeg, IntWalk.iteOmega, IntWalk.toNatUp, mget_mods, hm]; try (refine ⟨fun h => ?_, fun h => ?_⟩ <;> (try simp only [decide_eq_true_eq, decide_eq_false_iff_not, Bool.not_eq_true', Bool.not_eq_false', Int.not_lt, Int.not_le, Nat.not_lt, Nat.not_le] at h) <;> (try (first | contradiction | (exfalso; omega) | exact nomatch (Eq.trans (Eq.symm h) (by assumption) : true = false) | exact nomatch (Eq.trans (Eq.symm h) (by assumption) : false = true))))))
    refine pwp_loop2 (α := List ByteArray × List ByteArray) (fun x => RInv M n x.1 x.2) (reachSt M n) (fun x => (10000 - x.1.length) * 200 + x.2.length) ([], []) hi (by (refine weak_fg ?_; simp only [push_cast, reduceIte, reduceCtorEq, Nat.reduceEqDiff, Nat.reduceLT, Nat.reduceLeDiff, Nat.reduceAdd, Nat.reduceSub, Nat.reduceMul, Nat.reduceBEq, Int.reduceLE, Int.reduceLT, Int.reduceEq, Int.reduceAdd, Int.reduceSub, Int.reduceMul, Int.reduceNeg, IntWalk.iteOmega, IntWalk.toNatUp])) ?_
    rintro ⟨seen, st⟩ hI
    have hsl := hI.seenLen
    simp only at hI hsl
    rcases List.eq_nil_or_concat st with h0 | ⟨st', s, h0⟩
    · subst h0
      repeat' (first | (refine Kont.use (by assumption) ?_) | (refine pwp_seq fun K hK => ?_) | (refine pwp_block ?_) | (refine pwp_scope ?_) | ((first | refine pwp_region ?_ | refine pwp_quiet (by kernel_rfl) (by kernel_rfl) ?_ | refine pwp_exit ?_ | refine pwp_ret ?_ | refine pwp_skip ?_); simp only [push_cast, reduceIte, reduceCtorEq, Nat.reduceEqDiff, Nat.reduceLT, Nat.reduceLeDiff, Nat.reduceAdd, Nat.reduceSub, Nat.reduceMul, Nat.reduceBEq, Int.reduceLE, Int.reduceLT, Int.reduceEq, Int.reduceAdd, Int.reduceSub, Int.reduceMul, Int.reduceNeg, IntWalk.iteOmega, IntWalk.toNatUp]) | (refine pwp_cond ?_; simp only [push_cast, reduceIte, reduceCtorEq, Nat.reduceEqDiff, Nat.reduceLT, Nat.reduceLeDiff, Nat.reduceAdd, Nat.reduceSub, Nat.reduceMul, Nat.reduceBEq, Int.reduceLE, Int.reduceLT, Int.reduceEq, Int.reduceAdd, Int.reduceSub, Int.reduceMul, Int.reduceNeg, IntWalk.iteOmega, IntWalk.toNatUp]; try (refine ⟨fun h => ?_, fun h => ?_⟩ <;> (try simp only [decide_eq_true_eq, decide_eq_false_iff_not, Bool.not_eq_true', Bool.not_eq_false', Int.not_lt, Int.not_le, Nat.not_lt, Nat.not_le] at h) <;> (try (first | contradiction | (exfalso; omega) | exact nomatch (Eq.trans (Eq.symm h) (by assumption) : true = false) | exact nomatch (Eq.trans (Eq.symm h) (by assumption) : false = true))))))
      (refine retK_of [0, 1] ?_; simp only [push_cast, reduceIte, reduceCtorEq, Nat.reduceEqDiff, Nat.reduceLT, Nat.reduceLeDiff, Nat.reduceAdd, Nat.reduceSub, Nat.reduceMul, Nat.reduceBEq, Int.reduceLE, Int.reduceLT, Int.reduceEq, Int.reduceAdd, Int.reduceSub, Int.reduceMul, Int.reduceNeg, IntWalk.iteOmega, IntWalk.toNatUp])
      exact ⟨_, _, leP_refl _, leOs_refl _, seen, ⟨hI.nd, hI.done⟩, rfl, rfl⟩
    · rw [List.concat_eq_append] at h0
      subst h0
      have e1 := getD_snoc (st'.map strD) (strD s) []
      have e2 := List.take_left' (l₁ := st'.map strD) (l₂ := [strD s]) (i := st'.length) (by simp)
      simp only [List.length_map, strD] at e1 e2
      have hl := hI.hl
      simp only [List.length_append, List.length_cons, List.length_nil] at hl
      have hns := hS.needsOf s
      cases hs : inM s seen
      · have hf := hI.fresh hS (inM_false.1 hs)
        have hfl := hf.seenLen
        have ha : (addS seen s).length = seen.length + 1 := by unfold addS; rw [if_neg (by rw [hs]; simp)]; simp
        cases hk : modOf M s with
        | none =>
          have hn2 : needsOf M s = [] := by simp [needsOf, hk, noMod]
          rw [hn2, List.append_nil] at hf
          repeat' (first | (refine Kont.use (by assumption) ?_) | (refine pwp_seq fun K hK => ?_) | (refine pwp_block ?_) | (refine pwp_scope ?_) | ((first | refine pwp_region ?_ | refine pwp_quiet (by kernel_rfl) (by kernel_rfl) ?_ | refine pwp_exit ?_ | refine pwp_ret ?_ | refine pwp_skip ?_); simp only [push_cast, reduceIte, reduceCtorEq, Nat.reduceEqDiff, Nat.reduceLT, Nat.reduceLeDiff, Nat.reduceAdd, Nat.reduceSub, Nat.reduceMul, Nat.reduceBEq, Int.reduceLE, Int.reduceLT, Int.reduceEq, Int.reduceAdd, Int.reduceSub, Int.reduceMul, Int.reduceNeg, IntWalk.iteOmega, IntWalk.toNatUp, mget_mods, hk, hs, e1, e2]) | (refine pwp_cond ?_; simp only [push_cast, reduceIte, reduceCtorEq, Nat.reduceEqDiff, Nat.reduceLT, Nat.reduceLeDiff, Nat.reduceAdd, Nat.reduceSub, Nat.reduceMul, Nat.reduceBEq, Int.reduceLE, Int.reduceLT, Int.reduceEq, Int.reduceAdd, Int.reduceSub, Int.reduceMul, Int.reduceNeg, IntWalk.iteOmega, IntWalk.toNatUp, mget_mods, hk, hs, e1, e2]; try (refine ⟨fun h => ?_, fun h => ?_⟩ <;> (try simp only [decide_eq_true_eq, decide_eq_false_iff_not, Bool.not_eq_true', Bool.not_eq_false', Int.not_lt, Int.not_le, Nat.not_lt, Nat.not_le] at h) <;> (try (first | contradiction | (exfalso; omega) | exact nomatch (Eq.trans (Eq.symm h) (by assumption) : true = false) | exact nomatch (Eq.trans (Eq.symm h) (by assumption) : false = true))))))
          exact ⟨(addS seen s, st'), hf, by (refine weak_fg ?_; simp only [push_cast, reduceIte, reduceCtorEq, Nat.reduceEqDiff, Nat.reduceLT, Nat.reduceLeDiff, Nat.reduceAdd, Nat.reduceSub, Nat.reduceMul, Nat.reduceBEq, Int.reduceLE, Int.reduceLT, Int.reduceEq, Int.reduceAdd, Int.reduceSub, Int.reduceMul, Int.reduceNeg, IntWalk.iteOmega, IntWalk.toNatUp]); rfl, by simp only [List.length_append, List.length_cons, List.length_nil]; omega⟩
        | some m' =>
          have hn2 : needsOf M s = m'.needs := by simp [needsOf, hk]
          rw [hn2] at hf hns
          repeat' (first | (refine Kont.use (by assumption) ?_) | (refine pwp_seq fun K hK => ?_) | (refine pwp_block ?_) | (refine pwp_scope ?_) | ((first | refine pwp_region ?_ | refine pwp_quiet (by kernel_rfl) (by kernel_rfl) ?_ | refine pwp_exit ?_ | refine pwp_ret ?_ | refine pwp_skip ?_); simp only [push_cast, reduceIte, reduceCtorEq, Nat.reduceEqDiff, Nat.reduceLT, Nat.reduceLeDiff, Nat.reduceAdd, Nat.reduceSub, Nat.reduceMul, Nat.reduceBEq, Int.reduceLE, Int.reduceLT, Int.reduceEq, Int.reduceAdd, Int.reduceSub, Int.reduceMul, Int.reduceNeg, IntWalk.iteOmega, IntWalk.toNatUp, mget_mods, hk, hs, e1, e2]) | (refine pwp_cond ?_; simp only [push_cast, reduceIte, reduceCtorEq, Nat.reduceEqDiff, Nat.reduceLT, Nat.reduceLeDiff, Nat.reduceAdd, Nat.reduceSub, Nat.reduceMul, Nat.reduceBEq, Int.reduceLE, Int.reduceLT, Int.reduceEq, Int.reduceAdd, Int.reduceSub, Int.reduceMul, Int.reduceNeg, IntWalk.iteOmega, IntWalk.toNatUp, mget_mods, hk, hs, e1, e2]; try (refine ⟨fun h => ?_, fun h => ?_⟩ <;> (try simp only [decide_eq_true_eq, decide_eq_false_iff_not, Bool.not_eq_true', Bool.not_eq_false', Int.not_lt, Int.not_le, Nat.not_lt, Nat.not_le] at h) <;> (try (first | contradiction | (exfalso; omega) | exact nomatch (Eq.trans (Eq.symm h) (by assumption) : true = false) | exact nomatch (Eq.trans (Eq.symm h) (by assumption) : false = true))))))
          exact ⟨(addS seen s, st' ++ m'.needs), hf, by (refine weak_fg ?_; simp only [push_cast, reduceIte, reduceCtorEq, Nat.reduceEqDiff, Nat.reduceLT, Nat.reduceLeDiff, Nat.reduceAdd, Nat.reduceSub, Nat.reduceMul, Nat.reduceBEq, Int.reduceLE, Int.reduceLT, Int.reduceEq, Int.reduceAdd, Int.reduceSub, Int.reduceMul, Int.reduceNeg, IntWalk.iteOmega, IntWalk.toNatUp]), by simp only [List.length_append, List.length_cons, List.length_nil]; omega⟩
      · have hf := hI.old (inM_iff.1 hs)
        repeat' (first | (refine Kont.use (by assumption) ?_) | (refine pwp_seq fun K hK => ?_) | (refine pwp_block ?_) | (refine pwp_scope ?_) | ((first | refine pwp_region ?_ | refine pwp_quiet (by kernel_rfl) (by kernel_rfl) ?_ | refine pwp_exit ?_ | refine pwp_ret ?_ | refine pwp_skip ?_); simp only [push_cast, reduceIte, reduceCtorEq, Nat.reduceEqDiff, Nat.reduceLT, Nat.reduceLeDiff, Nat.reduceAdd, Nat.reduceSub, Nat.reduceMul, Nat.reduceBEq, Int.reduceLE, Int.reduceLT, Int.reduceEq, Int.reduceAdd, Int.reduceSub, Int.reduceMul, Int.reduceNeg, IntWalk.iteOmega, IntWalk.toNatUp, mget_mods, hs, e1, e2]) | (refine pwp_cond ?_; simp only [push_cast, reduceIte, reduceCtorEq, Nat.reduceEqDiff, Nat.reduceLT, Nat.reduceLeDiff, Nat.reduceAdd, Nat.reduceSub, Nat.reduceMul, Nat.reduceBEq, Int.reduceLE, Int.reduceLT, Int.reduceEq, Int.reduceAdd, Int.reduceSub, Int.reduceMul, Int.reduceNeg, IntWalk.iteOmega, IntWalk.toNatUp, mget_mods, hs, e1, e2]; try (refine ⟨fun h => ?_, fun h => ?_⟩ <;> (try simp only [decide_eq_true_eq, decide_eq_false_iff_not, Bool.not_eq_true', Bool.not_eq_false', Int.not_lt, Int.not_le, Nat.not_lt, Nat.not_le] at h) <;> (try (first | contradiction | (exfalso; omega) | exact nomatch (Eq.trans (Eq.symm h) (by assumption) : true = false) | exact nomatch (Eq.trans (Eq.symm h) (by assumption) : false = true))))))
        refine ⟨(seen, st'), hf, Weak.trans (weak_trim 2 st'.length rfl) (by (refine weak_fg ?_; simp only [push_cast, reduceIte, reduceCtorEq, Nat.reduceEqDiff, Nat.reduceLT, Nat.reduceLeDiff, Nat.reduceAdd, Nat.reduceSub, Nat.reduceMul, Nat.reduceBEq, Int.reduceLE, Int.reduceLT, Int.reduceEq, Int.reduceAdd, Int.reduceSub, Int.reduceMul, Int.reduceNeg, IntWalk.iteOmega, IntWalk.toNatUp]); exact e2), by simp⟩
  | some m =>
    have hn : needsOf M n = m.needs := by simp [needsOf, hm]
    rw [hn] at hlen hi
    repeat' (first | (refine pl_call2 false [] rfl rfl (by kernel_rfl) (clone_pure m.needs (by omega)) ?_ nofun ?_; simp only [push_cast, reduceIte, reduceCtorEq, Nat.reduceEqDiff, Nat.reduceLT, Nat.reduceLeDiff, Nat.reduceAdd, Nat.reduceSub, Nat.reduceMul, Nat.reduceBEq, Int.reduceLE, Int.reduceLT, Int.reduceEq, Int.reduceAdd, Int.reduceSub, Int.reduceMul, Int.reduceNeg, IntWalk.iteOmega, IntWalk.toNatUp, mget_mods, hm]; rintro r os ⟨rfl, rfl⟩; refine pl_of_pops ?_; simp only [push_cast, reduceIte, reduceCtorEq, Nat.reduceEqDiff, Nat.reduceLT, Nat.reduceLeDiff, Nat.reduceAdd, Nat.reduceSub, Nat.reduceMul, Nat.reduceBEq, Int.reduceLE, Int.reduceLT, Int.reduceEq, Int.reduceAdd, Int.reduceSub, Int.reduceMul, Int.reduceNeg, IntWalk.iteOmega, IntWalk.toNatUp, mget_mods, hm]) | (refine Kont.use (by assumption) ?_) | (refine pwp_seq fun K hK => ?_) | (refine pwp_block ?_) | (refine pwp_scope ?_) | ((first | refine pwp_region ?_ | refine pwp_quiet (by kernel_rfl) (by kernel_rfl) ?_ | refine pwp_exit ?_ | refine pwp_ret ?_ | refine pwp_skip ?_); simp only [push_cast, reduceIte, reduceCtorEq, Nat.reduceEqDiff, Nat.reduceLT, Nat.reduceLeDiff, Nat.reduceAdd, Nat.reduceSub, Nat.reduceMul, Nat.reduceBEq, Int.reduceLE, Int.reduceLT, Int.reduceEq, Int.reduceAdd, Int.reduceSub, Int.reduceMul, Int.reduceNeg, IntWalk.iteOmega, IntWalk.toNatUp, mget_mods, hm]) | (refine pwp_cond ?_; simp only [push_cast, reduceIte, reduceCtorEq, Nat.reduceEqDiff, Nat.reduceLT, Nat.reduceLeDiff, Nat.reduceAdd, Nat.reduceSub, Nat.reduceMul, Nat.reduceBEq, Int.reduceLE, Int.reduceLT, Int.reduceEq, Int.reduceAdd, Int.reduceSub, Int.reduceMul, Int.reduceNeg, IntWalk.iteOmega, IntWalk.toNatUp, mget_mods, hm]; try (refine ⟨fun h => ?_, fun h => ?_⟩ <;> (try simp only [decide_eq_true_eq, decide_eq_false_iff_not, Bool.not_eq_true', Bool.not_eq_false', Int.not_lt, Int.not_le, Nat.not_lt, Nat.not_le] at h) <;> (try (first | contradiction | (exfalso; omega) | exact nomatch (Eq.trans (Eq.symm h) (by assumption) : true = false) | exact nomatch (Eq.trans (Eq.symm h) (by assumption) : false = true))))))
    refine pwp_loop2 (α := List ByteArray × List ByteArray) (fun x => RInv M n x.1 x.2) (reachSt M n) (fun x => (10000 - x.1.length) * 200 + x.2.length) ([], m.needs) hi (by (refine weak_fg ?_; simp only [push_cast, reduceIte, reduceCtorEq, Nat.reduceEqDiff, Nat.reduceLT, Nat.reduceLeDiff, Nat.reduceAdd, Nat.reduceSub, Nat.reduceMul, Nat.reduceBEq, Int.reduceLE, Int.reduceLT, Int.reduceEq, Int.reduceAdd, Int.reduceSub, Int.reduceMul, Int.reduceNeg, IntWalk.iteOmega, IntWalk.toNatUp])) ?_
    rintro ⟨seen, st⟩ hI
    have hsl := hI.seenLen
    simp only at hI hsl
    rcases List.eq_nil_or_concat st with h0 | ⟨st', s, h0⟩
    · subst h0
      repeat' (first | (refine Kont.use (by assumption) ?_) | (refine pwp_seq fun K hK => ?_) | (refine pwp_block ?_) | (refine pwp_scope ?_) | ((first | refine pwp_region ?_ | refine pwp_quiet (by kernel_rfl) (by kernel_rfl) ?_ | refine pwp_exit ?_ | refine pwp_ret ?_ | refine pwp_skip ?_); simp only [push_cast, reduceIte, reduceCtorEq, Nat.reduceEqDiff, Nat.reduceLT, Nat.reduceLeDiff, Nat.reduceAdd, Nat.reduceSub, Nat.reduceMul, Nat.reduceBEq, Int.reduceLE, Int.reduceLT, Int.reduceEq, Int.reduceAdd, Int.reduceSub, Int.reduceMul, Int.reduceNeg, IntWalk.iteOmega, IntWalk.toNatUp]) | (refine pwp_cond ?_; simp only [push_cast, reduceIte, reduceCtorEq, Nat.reduceEqDiff, Nat.reduceLT, Nat.reduceLeDiff, Nat.reduceAdd, Nat.reduceSub, Nat.reduceMul, Nat.reduceBEq, Int.reduceLE, Int.reduceLT, Int.reduceEq, Int.reduceAdd, Int.reduceSub, Int.reduceMul, Int.reduceNeg, IntWalk.iteOmega, IntWalk.toNatUp]; try (refine ⟨fun h => ?_, fun h => ?_⟩ <;> (try simp only [decide_eq_true_eq, decide_eq_false_iff_not, Bool.not_eq_true', Bool.not_eq_false', Int.not_lt, Int.not_le, Nat.not_lt, Nat.not_le] at h) <;> (try (first | contradiction | (exfalso; omega) | exact nomatch (Eq.trans (Eq.symm h) (by assumption) : true = false) | exact nomatch (Eq.trans (Eq.symm h) (by assumption) : false = true))))))
      (refine retK_of [0, 1] ?_; simp only [push_cast, reduceIte, reduceCtorEq, Nat.reduceEqDiff, Nat.reduceLT, Nat.reduceLeDiff, Nat.reduceAdd, Nat.reduceSub, Nat.reduceMul, Nat.reduceBEq, Int.reduceLE, Int.reduceLT, Int.reduceEq, Int.reduceAdd, Int.reduceSub, Int.reduceMul, Int.reduceNeg, IntWalk.iteOmega, IntWalk.toNatUp])
      exact ⟨_, _, leP_refl _, leOs_refl _, seen, ⟨hI.nd, hI.done⟩, rfl, rfl⟩
    · rw [List.concat_eq_append] at h0
      subst h0
      have e1 := getD_snoc (st'.map strD) (strD s) []
      have e2 := List.take_left' (l₁ := st'.map strD) (l₂ := [strD s]) (i := st'.length) (by simp)
      simp only [List.length_map, strD] at e1 e2
      have hl := hI.hl
      simp only [List.length_append, List.length_cons, List.length_nil] at hl
      have hns := hS.needsOf s
      cases hs : inM s seen
      · have hf := hI.fresh hS (inM_false.1 hs)
        have hfl := hf.seenLen
        have ha : (addS seen s).length = seen.length + 1 := by unfold addS; rw [if_neg (by rw [hs]; simp)]; simp
        cases hk : modOf M s with
        | none =>
          have hn2 : needsOf M s = [] := by simp [needsOf, hk, noMod]
          rw [hn2, List.append_nil] at hf
          repeat' (first | (refine Kont.use (by assumption) ?_) | (refine pwp_seq fun K hK => ?_) | (refine pwp_block ?_) | (refine pwp_scope ?_) | ((first | refine pwp_region ?_ | refine pwp_quiet (by kernel_rfl) (by kernel_rfl) ?_ | refine pwp_exit ?_ | refine pwp_ret ?_ | refine pwp_skip ?_); simp only [push_cast, reduceIte, reduceCtorEq, Nat.reduceEqDiff, Nat.reduceLT, Nat.reduceLeDiff, Nat.reduceAdd, Nat.reduceSub, Nat.reduceMul, Nat.reduceBEq, Int.reduceLE, Int.reduceLT, Int.reduceEq, Int.reduceAdd, Int.reduceSub, Int.reduceMul, Int.reduceNeg, IntWalk.iteOmega, IntWalk.toNatUp, mget_mods, hk, hs, e1, e2]) | (refine pwp_cond ?_; simp only [push_cast, reduceIte, reduceCtorEq, Nat.reduceEqDiff, Nat.reduceLT, Nat.reduceLeDiff, Nat.reduceAdd, Nat.reduceSub, Nat.reduceMul, Nat.reduceBEq, Int.reduceLE, Int.reduceLT, Int.reduceEq, Int.reduceAdd, Int.reduceSub, Int.reduceMul, Int.reduceNeg, IntWalk.iteOmega, IntWalk.toNatUp, mget_mods, hk, hs, e1, e2]; try (refine ⟨fun h => ?_, fun h => ?_⟩ <;> (try simp only [decide_eq_true_eq, decide_eq_false_iff_not, Bool.not_eq_true', Bool.not_eq_false', Int.not_lt, Int.not_le, Nat.not_lt, Nat.not_le] at h) <;> (try (first | contradiction | (exfalso; omega) | exact nomatch (Eq.trans (Eq.symm h) (by assumption) : true = false) | exact nomatch (Eq.trans (Eq.symm h) (by assumption) : false = true))))))
          exact ⟨(addS seen s, st'), hf, by (refine weak_fg ?_; simp only [push_cast, reduceIte, reduceCtorEq, Nat.reduceEqDiff, Nat.reduceLT, Nat.reduceLeDiff, Nat.reduceAdd, Nat.reduceSub, Nat.reduceMul, Nat.reduceBEq, Int.reduceLE, Int.reduceLT, Int.reduceEq, Int.reduceAdd, Int.reduceSub, Int.reduceMul, Int.reduceNeg, IntWalk.iteOmega, IntWalk.toNatUp]); rfl, by simp only [List.length_append, List.length_cons, List.length_nil]; omega⟩
        | some m' =>
          have hn2 : needsOf M s = m'.needs := by simp [needsOf, hk]
          rw [hn2] at hf hns
          repeat' (first | (refine Kont.use (by assumption) ?_) | (refine pwp_seq fun K hK => ?_) | (refine pwp_block ?_) | (refine pwp_scope ?_) | ((first | refine pwp_region ?_ | refine pwp_quiet (by kernel_rfl) (by kernel_rfl) ?_ | refine pwp_exit ?_ | refine pwp_ret ?_ | refine pwp_skip ?_); simp only [push_cast, reduceIte, reduceCtorEq, Nat.reduceEqDiff, Nat.reduceLT, Nat.reduceLeDiff, Nat.reduceAdd, Nat.reduceSub, Nat.reduceMul, Nat.reduceBEq, Int.reduceLE, Int.reduceLT, Int.reduceEq, Int.reduceAdd, Int.reduceSub, Int.reduceMul, Int.reduceNeg, IntWalk.iteOmega, IntWalk.toNatUp, mget_mods, hk, hs, e1, e2]) | (refine pwp_cond ?_; simp only [push_cast, reduceIte, reduceCtorEq, Nat.reduceEqDiff, Nat.reduceLT, Nat.reduceLeDiff, Nat.reduceAdd, Nat.reduceSub, Nat.reduceMul, Nat.reduceBEq, Int.reduceLE, Int.reduceLT, Int.reduceEq, Int.reduceAdd, Int.reduceSub, Int.reduceMul, Int.reduceNeg, IntWalk.iteOmega, IntWalk.toNatUp, mget_mods, hk, hs, e1, e2]; try (refine ⟨fun h => ?_, fun h => ?_⟩ <;> (try simp only [decide_eq_true_eq, decide_eq_false_iff_not, Bool.not_eq_true', Bool.not_eq_false', Int.not_lt, Int.not_le, Nat.not_lt, Nat.not_le] at h) <;> (try (first | contradiction | (exfalso; omega) | exact nomatch (Eq.trans (Eq.symm h) (by assumption) : true = false) | exact nomatch (Eq.trans (Eq.symm h) (by assumption) : false = true))))))
          exact ⟨(addS seen s, st' ++ m'.needs), hf, by (refine weak_fg ?_; simp only [push_cast, reduceIte, reduceCtorEq, Nat.reduceEqDiff, Nat.reduceLT, Nat.reduceLeDiff, Nat.reduceAdd, Nat.reduceSub, Nat.reduceMul, Nat.reduceBEq, Int.reduceLE, Int.reduceLT, Int.reduceEq, Int.reduceAdd, Int.reduceSub, Int.reduceMul, Int.reduceNeg, IntWalk.iteOmega, IntWalk.toNatUp]), by simp only [List.length_append, List.length_cons, List.length_nil]; omega⟩
      · have hf := hI.old (inM_iff.1 hs)
        repeat' (first | (refine Kont.use (by assumption) ?_) | (refine pwp_seq fun K hK => ?_) | (refine pwp_block ?_) | (refine pwp_scope ?_) | ((first | refine pwp_region ?_ | refine pwp_quiet (by kernel_rfl) (by kernel_rfl) ?_ | refine pwp_exit ?_ | refine pwp_ret ?_ | refine pwp_skip ?_); simp only [push_cast, reduceIte, reduceCtorEq, Nat.reduceEqDiff, Nat.reduceLT, Nat.reduceLeDiff, Nat.reduceAdd, Nat.reduceSub, Nat.reduceMul, Nat.reduceBEq, Int.reduceLE, Int.reduceLT, Int.reduceEq, Int.reduceAdd, Int.reduceSub, Int.reduceMul, Int.reduceNeg, IntWalk.iteOmega, IntWalk.toNatUp, mget_mods, hs, e1, e2]) | (refine pwp_cond ?_; simp only [push_cast, reduceIte, reduceCtorEq, Nat.reduceEqDiff, Nat.reduceLT, Nat.reduceLeDiff, Nat.reduceAdd, Nat.reduceSub, Nat.reduceMul, Nat.reduceBEq, Int.reduceLE, Int.reduceLT, Int.reduceEq, Int.reduceAdd, Int.reduceSub, Int.reduceMul, Int.reduceNeg, IntWalk.iteOmega, IntWalk.toNatUp, mget_mods, hs, e1, e2]; try (refine ⟨fun h => ?_, fun h => ?_⟩ <;> (try simp only [decide_eq_true_eq, decide_eq_false_iff_not, Bool.not_eq_true', Bool.not_eq_false', Int.not_lt, Int.not_le, Nat.not_lt, Nat.not_le] at h) <;> (try (first | contradiction | (exfalso; omega) | exact nomatch (Eq.trans (Eq.symm h) (by assumption) : true = false) | exact nomatch (Eq.trans (Eq.symm h) (by assumption) : false = true))))))
        refine ⟨(seen, st'), hf, Weak.trans (weak_trim 2 st'.length rfl) (by (refine weak_fg ?_; simp only [push_cast, reduceIte, reduceCtorEq, Nat.reduceEqDiff, Nat.reduceLT, Nat.reduceLeDiff, Nat.reduceAdd, Nat.reduceSub, Nat.reduceMul, Nat.reduceBEq, Int.reduceLE, Int.reduceLT, Int.reduceEq, Int.reduceAdd, Int.reduceSub, Int.reduceMul, Int.reduceNeg, IntWalk.iteOmega, IntWalk.toNatUp]); exact e2), by simp⟩
end Go.Proofs.Ytdndljaaofkenaa
