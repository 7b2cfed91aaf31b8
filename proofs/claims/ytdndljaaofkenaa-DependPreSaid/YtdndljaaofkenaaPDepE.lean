/- depend.Closure. -/
import Derived.Test.YtdndljaaofkenaaPDepC
namespace Go.Proofs.Ytdndljaaofkenaa
attribute [local irreducible] PL QL PWP PCalls Weak RetK Kont PA
open Go.RowKit
set_option linter.unusedVariables false
set_option linter.unusedSimpArgs false
def softOf (M : List Mod) (n : ByteArray) : List ByteArray := ((modOf M n).getD noMod).pre ++ ((modOf M n).getD noMod).post
/-- the closure of names -/
inductive Cl (M : List Mod) (off names : List ByteArray) : ByteArray → Prop
  | base {s x : ByteArray} : s ∈ names → whyV M off s = 0 → x ∈ hardL M s → Cl M off names x
  | step {m s x : ByteArray} : Cl M off names m → s ∈ softOf M m → whyV M off s = 0 → x ∈ hardL M s → Cl M off names x
theorem whyV_zero {M : List Mod} {off : List ByteArray} {n : ByteArray} (h : whyV M off n = 0) : ∀ x ∈ hardL M n, ¬ modOf M x = none := by
  intro x hx hm
  unfold whyV at h
  rw [if_pos ⟨x, hx, hm⟩] at h
  cases h
theorem Cl.there {M : List Mod} {off names : List ByteArray} {x : ByteArray} (h : Cl M off names x) : ¬ modOf M x = none := by
  cases h with
  | base _ h1 h2 => exact whyV_zero h1 _ h2
  | step _ _ h1 h2 => exact whyV_zero h1 _ h2
theorem there_name {M : List Mod} {x : ByteArray} (h : ¬ modOf M x = none) : x ∈ M.map Mod.name := by
  cases hm : modOf M x with
  | none => exact absurd hm h
  | some m => exact List.mem_map.2 ⟨m, (mod_mem hm).1, (mod_mem hm).2⟩
theorem hard_trans {M : List Mod} {a b c : ByteArray} (h : b ∈ hardL M a) (h' : c ∈ hardL M b) : c ∈ hardL M a := by
  rw [(hard_spec M a).2.1] at h ⊢
  rw [(hard_spec M b).2.1] at h'
  rcases h with rfl | h
  · exact h'
  · rcases h' with rfl | h'
    · exact .inr h
    · exact .inr (h.trans h')
theorem hard_self (M : List Mod) (a : ByteArray) : a ∈ hardL M a := ((hard_spec M a).2.1 a).2 (.inl rfl)
noncomputable def closL (M : List Mod) (off names : List ByteArray) : List ByteArray := listOf (Cl M off names)
theorem clos_spec (M : List Mod) (off names : List ByteArray) : asc (closL M off names) ∧ (∀ x, x ∈ closL M off names ↔ Cl M off names x) ∧ (closL M off names).length ≤ M.length := by
  have := listOf_spec (P := Cl M off names) (M.map Mod.name) fun x h => there_name h.there
  simpa [closL] using this
/-- what Closure's loop keeps; cov s: s is dealt with -/
structure CInv (M : List Mod) (off names seen st : List ByteArray) : Prop where
  nd : seen.Nodup
  hs : ∀ x ∈ seen, Cl M off names x
  ht : ∀ s ∈ st, s ∈ names ∨ ∃ m, Cl M off names m ∧ s ∈ softOf M m
  h0 : ∀ s ∈ names, whyV M off s = 0 → (∀ x ∈ hardL M s, x ∈ seen) ∨ s ∈ st
  hn : ∀ m ∈ seen, ∀ s ∈ softOf M m, whyV M off s = 0 → (∀ x ∈ hardL M s, x ∈ seen) ∨ s ∈ st
  hc : ∀ x ∈ seen, ∀ y ∈ hardL M x, y ∈ seen
  hl : st.length ≤ names.length + 200 * seen.length
theorem CInv.init (M : List Mod) (off names : List ByteArray) : CInv M off names [] names := ⟨by simp, by simp, fun s h => .inl h, fun s h _ => .inr h, by simp, by simp, by simp⟩
theorem CInv.seenLen {M : List Mod} {off names seen st : List ByteArray} (h : CInv M off names seen st) : seen.length ≤ M.length := by
  have := nodup_len seen (M.map Mod.name) h.nd fun x hx => there_name (h.hs x hx).there
  simpa using this
theorem CInv.skip {M : List Mod} {off names seen st : List ByteArray} {s : ByteArray} (h : CInv M off names seen (st ++ [s])) (hs : s ∈ seen ∨ whyV M off s ≠ 0) : CInv M off names seen st := by
  have key : ∀ t, whyV M off t = 0 → (∀ x ∈ hardL M t, x ∈ seen) ∨ t ∈ st ++ [s] → (∀ x ∈ hardL M t, x ∈ seen) ∨ t ∈ st := by
    rintro t h0 (h1 | h1)
    · exact .inl h1
    · rcases List.mem_append.1 h1 with h1 | h1
      · exact .inr h1
      · simp at h1
        subst h1
        rcases hs with hs | hs
        · exact .inl (h.hc t hs)
        · exact absurd h0 hs
  exact ⟨h.nd, h.hs, fun t ht => h.ht t (by simp [ht]), fun t ht h0 => key t h0 (h.h0 t ht h0), fun m hm t ht h0 => key t h0 (h.hn m hm t ht h0), h.hc, by have := h.hl; simp at this; omega⟩
theorem CInv.done {M : List Mod} {off names seen : List ByteArray} (h : CInv M off names seen []) (x : ByteArray) : x ∈ seen ↔ Cl M off names x := by
  refine ⟨h.hs x, fun hx => ?_⟩
  induction hx with
  | base h1 h2 h3 =>
    rcases h.h0 _ h1 h2 with h4 | h4
    · exact h4 _ h3
    · simp at h4
  | step _ h1 h2 h3 ih =>
    rcases h.hn _ ih _ h1 h2 with h4 | h4
    · exact h4 _ h3
    · simp at h4
/-- .. its inner loop: k members of s's hard closure are dealt with -/
structure CIn (M : List Mod) (off names seen0 : List ByteArray) (n0 : Nat) (s : ByteArray) (k : Nat) (seen st : List ByteArray) : Prop where
  nd : seen.Nodup
  hs : ∀ x ∈ seen, Cl M off names x
  ht : ∀ s ∈ st, s ∈ names ∨ ∃ m, Cl M off names m ∧ s ∈ softOf M m
  sub : ∀ x ∈ seen0, x ∈ seen
  new : ∀ x ∈ seen, x ∈ seen0 ∨ x ∈ hardL M s
  all : ∀ x ∈ (hardL M s).take k, x ∈ seen
  h0 : ∀ t ∈ names, whyV M off t = 0 → (∀ x ∈ hardL M t, x ∈ seen0) ∨ t ∈ st ∨ t = s
  hn : ∀ m ∈ seen, ∀ t ∈ softOf M m, whyV M off t = 0 → (∀ x ∈ hardL M t, x ∈ seen0) ∨ t ∈ st ∨ t = s
  hl : st.length + 200 * seen0.length ≤ n0 + 200 * seen.length
  hl0 : n0 ≤ names.length + 200 * seen0.length
theorem CInv.enter {M : List Mod} {off names seen st : List ByteArray} {s : ByteArray} (h : CInv M off names seen (st ++ [s])) : CIn M off names seen st.length s 0 seen st := by
  have key : ∀ t, (∀ x ∈ hardL M t, x ∈ seen) ∨ t ∈ st ++ [s] → (∀ x ∈ hardL M t, x ∈ seen) ∨ t ∈ st ∨ t = s := by
    rintro t (h1 | h1)
    · exact .inl h1
    · rcases List.mem_append.1 h1 with h1 | h1
      · exact .inr (.inl h1)
      · simp at h1; exact .inr (.inr h1)
  exact ⟨h.nd, h.hs, fun t ht => h.ht t (by simp [ht]), fun x hx => hx, fun x hx => .inl hx, by simp, fun t ht h0 => key t (h.h0 t ht h0), fun m hm t ht h0 => key t (h.hn m hm t ht h0), by omega, by have := h.hl; simp at this; omega⟩
theorem CIn.seenLen {M : List Mod} {off names seen0 seen st : List ByteArray} {s : ByteArray} {k n0 : Nat} (h : CIn M off names seen0 n0 s k seen st) : seen.length ≤ M.length := by
  have := nodup_len seen (M.map Mod.name) h.nd fun x hx => there_name (h.hs x hx).there
  simpa using this
theorem take_mem_succ {l : List ByteArray} {k : Nat} (hk : k < l.length) {x : ByteArray} : x ∈ l.take (k + 1) ↔ x ∈ l.take k ∨ x = l.getD k default := by
  rw [List.take_succ_eq_append_getElem hk, getD_lt l hk, List.mem_append, List.mem_singleton]
theorem CIn.old {M : List Mod} {off names seen0 seen st : List ByteArray} {s : ByteArray} {k n0 : Nat} (h : CIn M off names seen0 n0 s k seen st) (hk : k < (hardL M s).length) (hm : (hardL M s).getD k default ∈ seen) : CIn M off names seen0 n0 s (k + 1) seen st :=
  ⟨h.nd, h.hs, h.ht, h.sub, h.new, fun x hx => by
    rcases (take_mem_succ hk).1 hx with hx | rfl
    · exact h.all x hx
    · exact hm, h.h0, h.hn, h.hl, h.hl0⟩
theorem CIn.add {M : List Mod} {off names seen0 seen st : List ByteArray} {s : ByteArray} {k n0 : Nat} (h : CIn M off names seen0 n0 s k seen st) (hk : k < (hardL M s).length) (hm : (hardL M s).getD k default ∉ seen) (hcl : ∀ x ∈ hardL M s, Cl M off names x) (hlen : (softOf M ((hardL M s).getD k default)).length ≤ 200) :
    CIn M off names seen0 n0 s (k + 1) (addS seen ((hardL M s).getD k default)) (st ++ softOf M ((hardL M s).getD k default)) := by
  have hmem : (hardL M s).getD k default ∈ hardL M s := by rw [getD_lt _ hk]; exact List.getElem_mem _
  have ha : (addS seen ((hardL M s).getD k default)).length = seen.length + 1 := by unfold addS; rw [if_neg (by rw [inM_iff]; exact hm)]; simp
  refine ⟨nodup_addS h.nd, fun x hx => ?_, fun t ht => ?_, fun x hx => mem_addS.2 (.inl (h.sub x hx)), fun x hx => ?_, fun x hx => ?_, fun t ht h0 => ?_, fun m hm t ht h0 => ?_, ?_, h.hl0⟩
  · rcases mem_addS.1 hx with hx | rfl
    · exact h.hs x hx
    · exact hcl _ hmem
  · rcases List.mem_append.1 ht with ht | ht
    · exact h.ht t ht
    · exact .inr ⟨_, hcl _ hmem, ht⟩
  · rcases mem_addS.1 hx with hx | rfl
    · exact h.new x hx
    · exact .inr hmem
  · rcases (take_mem_succ hk).1 hx with hx | rfl
    · exact mem_addS.2 (.inl (h.all x hx))
    · exact mem_addS.2 (.inr rfl)
  · rcases h.h0 t ht h0 with h1 | h1 | h1
    · exact .inl h1
    · exact .inr (.inl (by simp [h1]))
    · exact .inr (.inr h1)
  · rcases mem_addS.1 hm with hm | rfl
    · rcases h.hn m hm t ht h0 with h1 | h1 | h1
      · exact .inl h1
      · exact .inr (.inl (by simp [h1]))
      · exact .inr (.inr h1)
    · exact .inr (.inl (List.mem_append.2 (.inr ht)))
  · have := h.hl
    rw [ha, List.length_append]
    omega
theorem CIn.leave {M : List Mod} {off names seen0 seen st : List ByteArray} {s : ByteArray} {k n0 : Nat} (h : CIn M off names seen0 n0 s k seen st) (hk : ¬ k < (hardL M s).length) (hc : ∀ x ∈ seen0, ∀ y ∈ hardL M x, y ∈ seen0) : CInv M off names seen st := by
  have hall : ∀ x ∈ hardL M s, x ∈ seen := by have := h.all; rwa [List.take_of_length_le (by omega)] at this
  have key : ∀ t, (∀ x ∈ hardL M t, x ∈ seen0) ∨ t ∈ st ∨ t = s → (∀ x ∈ hardL M t, x ∈ seen) ∨ t ∈ st := by
    rintro t (h1 | h1 | rfl)
    · exact .inl fun x hx => h.sub x (h1 x hx)
    · exact .inr h1
    · exact .inl hall
  refine ⟨h.nd, h.hs, h.ht, fun t ht h0 => key t (h.h0 t ht h0), fun m hm t ht h0 => key t (h.hn m hm t ht h0), fun x hx y hy => ?_, by have := h.hl; have := h.hl0; omega⟩
  rcases h.new x hx with hx | hx
  · exact h.sub y (hc x hx y hy)
  · exact hall y (hard_trans hx hy)
/-- names and soft neighbours are no longer than a machine's memory -/
structure CfgOk2 (c : Cfg) : Prop extends CfgOk c where
  soft : ∀ n, ∀ x ∈ softOf c.modules n, x.size ≤ maxLen
  softl : ∀ n, (softOf c.modules n).length ≤ 200
noncomputable def closSt (c : Cfg) (seen st : List ByteArray) : S := ⟨[(7, .c (.own 3 st.length)), (6, .c (.mp 2)), (5, .c (.mp 1)), (2, .c (.ptr 0 0))], [.box 30 c.e, .map none true (modsE c.modules), .map none false (setE seen), .arr 9 1 (st.map strD)]⟩
attribute [push_cast] closSt
set_option maxHeartbeats 4000000 in
theorem closure_pure (c : Cfg) (names : List ByteArray) (hc : CfgOk2 c) (hn : names.length ≤ 1000) (hz : ∀ x ∈ names, x.size ≤ maxLen) (hnz : ∀ x ∈ c.modules.map Mod.name, x.size ≤ maxLen) :
    PCalls Try.prog 17 [.agg c.e, .c (.sl 1 (names.map strD))] [] fun r os => r = .c (.own 0 (closL c.modules c.off names).length) ∧ os = [.arr 9 1 ((closL c.modules c.off names).map strD)] := by
  have hS := hc.small
  have hML := hS.len
  refine PCalls.mono (R := fun r os => ∃ m, (asc m ∧ ∀ x, x ∈ m ↔ Cl c.modules c.off names x) ∧ r = .c (.own 0 m.length) ∧ os = [.arr 9 1 (m.map strD)]) ?_ (by
    rintro r os ⟨m, ⟨h1, h2⟩, rfl, rfl⟩
    rw [closL, listOf_eq h1 h2]
    exact ⟨rfl, rfl⟩)
  refine pcalls_of Try.func17 rfl (by simp [Try.ntmps17]) ?_
  rw [Try.ntmps17, Try.results17]
  simp only [push_cast, reduceIte, reduceCtorEq, Nat.reduceEqDiff, Nat.reduceLT, Nat.reduceLeDiff, Nat.reduceAdd, Nat.reduceSub, Nat.reduceMul, Nat.reduceBEq, Int.reduceLE, Int.reduceLT, Int.reduceEq, Int.reduceAdd, Int.reduceSub, Int.reduceMul, Int.reduceNeg, IntWalk.iteOmega, IntWalk.toNatUp]
  repeat' (first |  (refine pl_call2 false [] rfl rfl (by kernel_rfl) (modules_pure c hS.nodup (by omega)) ?_ nofun ?_; simp only [push_cast, reduceIte, reduceCtorEq, Nat.reduceEqDiff, Nat.reduceLT, Nat.reduceLeDiff, Nat.reduceAdd, Nat.reduceSub, Nat.reduceMul, Nat.reduceBEq, Int.reduceLE, Int.reduceLT, Int.reduceEq, Int.reduceAdd, Int.reduceSub, Int.reduceMul, Int.reduceNeg, IntWalk.iteOmega, IntWalk.toNatUp]; rintro r os ⟨rfl, rfl⟩; refine pl_of_pops ?_; simp only [push_cast, reduceIte, reduceCtorEq, Nat.reduceEqDiff, Nat.reduceLT, Nat.reduceLeDiff, Nat.reduceAdd, Nat.reduceSub, Nat.reduceMul, Nat.reduceBEq, Int.reduceLE, Int.reduceLT, Int.reduceEq, Int.reduceAdd, Int.reduceSub, Int.reduceMul, Int.reduceNeg, IntWalk.iteOmega, IntWalk.toNatUp]) | (refine pl_call2 false [] rfl rfl (by kernel_rfl) (clone_pure names (by omega)) ?_ nofun ?_; simp only [push_cast, reduceIte, reduceCtorEq, Nat.reduceEqDiff, Nat.reduceLT, Nat.reduceLeDiff, Nat.reduceAdd, Nat.reduceSub, Nat.reduceMul, Nat.reduceBEq, Int.reduceLE, Int.reduceLT, Int.reduceEq, Int.reduceAdd, Int.reduceSub, Int.reduceMul, Int.reduceNeg, IntWalk.iteOmega, IntWalk.toNatUp]; rintro r os ⟨rfl, rfl⟩; refine pl_of_pops ?_; simp only [push_cast, reduceIte, reduceCtorEq, Nat.reduceEqDiff, Nat.reduceLT, Nat.reduceLeDiff, Nat.reduceAdd, Nat.reduceSub, Nat.reduceMul, Nat.reduceBEq, Int.reduceLE, Int.reduceLT, Int.reduceEq, Int.reduceAdd, Int.reduceSub, Int.reduceMul, Int.reduceNeg, IntWalk.iteOmega, IntWalk.toNatUp])  | (refine Kont.use (by assumption) ?_) | (refine pwp_seq fun K hK => ?_) | (refine pwp_block ?_) | (refine pwp_scope ?_) | ((first | refine pwp_region ?_ | refine pwp_quiet (by kernel_rfl) (by kernel_rfl) ?_ | refine pwp_exit ?_ | refine pwp_ret ?_ | refine pwp_skip ?_); simp only [push_cast, reduceIte, reduceCtorEq, Nat.reduceEqDiff, Nat.reduceLT, Nat.reduceLeDiff, Nat.reduceAdd, Nat.reduceSub, Nat.reduceMul, Nat.reduceBEq, Int.reduceLE, Int.reduceLT, Int.reduceEq, Int.reduceAdd, Int.reduceSub, Int.reduceMul, Int.reduceNeg, IntWalk.iteOmega, IntWalk.toNatUp]) | (refine pwp_cond ?_; simp only [push_cast, reduceIte, reduceCtorEq, Nat.reduceEqDiff, Nat.reduceLT, Nat.reduceLeDiff, Nat.reduceAdd, Nat.reduceSub, Nat.reduceMul, Nat.reduceBEq, Int.reduceLE, Int.reduceLT, Int.reduceEq, Int.reduceAdd, Int.reduceSub, Int.reduceMul, Int.reduceNeg, IntWalk.iteOmega, IntWalk.toNatUp]; try (refine ⟨fun h => ?_, fun h => ?_⟩ <;> (try simp only [decide_eq_true_eq, decide_eq_false_iff_not, Bool.not_eq_true', Bool.not_eq_false', Int.not_lt, Int.not_le, Nat.not_lt, Nat.not_le] at h) <;> (try (first | contradiction | (exfalso; omega) | exact nomatch (Eq.trans (Eq.symm h) (by assumption) : true = false) | exact nomatch (Eq.trans (Eq.symm h) (by assumption) : false = true))))))
  refine pwp_loop2 (α := List ByteArray × List ByteArray) (fun x => CInv c.modules c.off names x.1 x.2) (fun x => closSt c x.1 x.2) (fun x => (100 - x.1.length) * 300 + x.2.length) ([], names) (CInv.init _ _ _) (by (refine weak_fg ?_; simp only [push_cast, reduceIte, reduceCtorEq, Nat.reduceEqDiff, Nat.reduceLT, Nat.reduceLeDiff, Nat.reduceAdd, Nat.reduceSub, Nat.reduceMul, Nat.reduceBEq, Int.reduceLE, Int.reduceLT, Int.reduceEq, Int.reduceAdd, Int.reduceSub, Int.reduceMul, Int.reduceNeg, IntWalk.iteOmega, IntWalk.toNatUp])) ?_
  rintro ⟨seen, st⟩ hI
  have hsl := hI.seenLen
  simp only at hI hsl
  rcases List.eq_nil_or_concat st with h0 | ⟨st', s, h0⟩
  · subst h0
    repeat' (first |  (refine pl_call2 false [2] rfl rfl (by kernel_rfl) (keysOf_pure (setE seen)) ?_ nofun ?_; simp only [push_cast, reduceIte, reduceCtorEq, Nat.reduceEqDiff, Nat.reduceLT, Nat.reduceLeDiff, Nat.reduceAdd, Nat.reduceSub, Nat.reduceMul, Nat.reduceBEq, Int.reduceLE, Int.reduceLT, Int.reduceEq, Int.reduceAdd, Int.reduceSub, Int.reduceMul, Int.reduceNeg, IntWalk.iteOmega, IntWalk.toNatUp]; rintro r os ⟨rfl, rfl⟩; refine pl_of_pops ?_; simp only [push_cast, reduceIte, reduceCtorEq, Nat.reduceEqDiff, Nat.reduceLT, Nat.reduceLeDiff, Nat.reduceAdd, Nat.reduceSub, Nat.reduceMul, Nat.reduceBEq, Int.reduceLE, Int.reduceLT, Int.reduceEq, Int.reduceAdd, Int.reduceSub, Int.reduceMul, Int.reduceNeg, IntWalk.iteOmega, IntWalk.toNatUp])  | (refine Kont.use (by assumption) ?_) | (refine pwp_seq fun K hK => ?_) | (refine pwp_block ?_) | (refine pwp_scope ?_) | ((first | refine pwp_region ?_ | refine pwp_quiet (by kernel_rfl) (by kernel_rfl) ?_ | refine pwp_exit ?_ | refine pwp_ret ?_ | refine pwp_skip ?_); simp only [push_cast, reduceIte, reduceCtorEq, Nat.reduceEqDiff, Nat.reduceLT, Nat.reduceLeDiff, Nat.reduceAdd, Nat.reduceSub, Nat.reduceMul, Nat.reduceBEq, Int.reduceLE, Int.reduceLT, Int.reduceEq, Int.reduceAdd, Int.reduceSub, Int.reduceMul, Int.reduceNeg, IntWalk.iteOmega, IntWalk.toNatUp]) | (refine pwp_cond ?_; simp only [push_cast, reduceIte, reduceCtorEq, Nat.reduceEqDiff, Nat.reduceLT, Nat.reduceLeDiff, Nat.reduceAdd, Nat.reduceSub, Nat.reduceMul, Nat.reduceBEq, Int.reduceLE, Int.reduceLT, Int.reduceEq, Int.reduceAdd, Int.reduceSub, Int.reduceMul, Int.reduceNeg, IntWalk.iteOmega, IntWalk.toNatUp]; try (refine ⟨fun h => ?_, fun h => ?_⟩ <;> (try simp only [decide_eq_true_eq, decide_eq_false_iff_not, Bool.not_eq_true', Bool.not_eq_false', Int.not_lt, Int.not_le, Nat.not_lt, Nat.not_le] at h) <;> (try (first | contradiction | (exfalso; omega) | exact nomatch (Eq.trans (Eq.symm h) (by assumption) : true = false) | exact nomatch (Eq.trans (Eq.symm h) (by assumption) : false = true))))))
    repeat' (first |  (refine pl_call2 false [2, 4] rfl rfl (by kernel_rfl) (sorted_pure seen hI.nd (fun x hx => hnz x (there_name (hI.hs x hx).there)) (by omega)) ?_ nofun ?_; simp only [push_cast, reduceIte, reduceCtorEq, Nat.reduceEqDiff, Nat.reduceLT, Nat.reduceLeDiff, Nat.reduceAdd, Nat.reduceSub, Nat.reduceMul, Nat.reduceBEq, Int.reduceLE, Int.reduceLT, Int.reduceEq, Int.reduceAdd, Int.reduceSub, Int.reduceMul, Int.reduceNeg, IntWalk.iteOmega, IntWalk.toNatUp]; rintro r os ⟨m, ⟨h1, h2, h3⟩, rfl, rfl⟩; refine pl_of_pops ?_; simp only [push_cast, reduceIte, reduceCtorEq, Nat.reduceEqDiff, Nat.reduceLT, Nat.reduceLeDiff, Nat.reduceAdd, Nat.reduceSub, Nat.reduceMul, Nat.reduceBEq, Int.reduceLE, Int.reduceLT, Int.reduceEq, Int.reduceAdd, Int.reduceSub, Int.reduceMul, Int.reduceNeg, IntWalk.iteOmega, IntWalk.toNatUp])  | (refine Kont.use (by assumption) ?_) | (refine pwp_seq fun K hK => ?_) | (refine pwp_block ?_) | (refine pwp_scope ?_) | ((first | refine pwp_region ?_ | refine pwp_quiet (by kernel_rfl) (by kernel_rfl) ?_ | refine pwp_exit ?_ | refine pwp_ret ?_ | refine pwp_skip ?_); simp only [push_cast, reduceIte, reduceCtorEq, Nat.reduceEqDiff, Nat.reduceLT, Nat.reduceLeDiff, Nat.reduceAdd, Nat.reduceSub, Nat.reduceMul, Nat.reduceBEq, Int.reduceLE, Int.reduceLT, Int.reduceEq, Int.reduceAdd, Int.reduceSub, Int.reduceMul, Int.reduceNeg, IntWalk.iteOmega, IntWalk.toNatUp]) | (refine pwp_cond ?_; simp only [push_cast, reduceIte, reduceCtorEq, Nat.reduceEqDiff, Nat.reduceLT, Nat.reduceLeDiff, Nat.reduceAdd, Nat.reduceSub, Nat.reduceMul, Nat.reduceBEq, Int.reduceLE, Int.reduceLT, Int.reduceEq, Int.reduceAdd, Int.reduceSub, Int.reduceMul, Int.reduceNeg, IntWalk.iteOmega, IntWalk.toNatUp]; try (refine ⟨fun h => ?_, fun h => ?_⟩ <;> (try simp only [decide_eq_true_eq, decide_eq_false_iff_not, Bool.not_eq_true', Bool.not_eq_false', Int.not_lt, Int.not_le, Nat.not_lt, Nat.not_le] at h) <;> (try (first | contradiction | (exfalso; omega) | exact nomatch (Eq.trans (Eq.symm h) (by assumption) : true = false) | exact nomatch (Eq.trans (Eq.symm h) (by assumption) : false = true))))))
    (refine retK_of [5] ?_; simp only [push_cast, reduceIte, reduceCtorEq, Nat.reduceEqDiff, Nat.reduceLT, Nat.reduceLeDiff, Nat.reduceAdd, Nat.reduceSub, Nat.reduceMul, Nat.reduceBEq, Int.reduceLE, Int.reduceLT, Int.reduceEq, Int.reduceAdd, Int.reduceSub, Int.reduceMul, Int.reduceNeg, IntWalk.iteOmega, IntWalk.toNatUp])
    exact ⟨_, _, leP_refl _, leOs_refl _, m, ⟨h1, fun x => (h3 x).trans (hI.done x)⟩, rfl, rfl⟩
  · rw [List.concat_eq_append] at h0
    subst h0
    have e1 := getD_snoc (st'.map strD) (strD s) []
    have e2 := List.take_left' (l₁ := st'.map strD) (l₂ := [strD s]) (i := st'.length) (by simp)
    simp only [List.length_map, strD] at e1 e2
    have hl := hI.hl
    simp only [List.length_append, List.length_cons, List.length_nil] at hl
    have hsz : s.size ≤ maxLen := by
      rcases hI.ht s (by simp) with h | ⟨m, _, h⟩
      · exact hz s h
      · exact hc.soft m s h
    cases hs : inM s seen
    · obtain ⟨v, hv⟩ : ∃ v, whyV c.modules c.off s = v := ⟨_, rfl⟩
      by_cases hv0 : v = 0
      · subst hv0
        repeat' (first | (refine pl_call2 false [1] rfl rfl (by kernel_rfl) (why_pure c s hc.toCfgOk hsz) ?_ nofun ?_; simp only [push_cast, reduceIte, reduceCtorEq, Nat.reduceEqDiff, Nat.reduceLT, Nat.reduceLeDiff, Nat.reduceAdd, Nat.reduceSub, Nat.reduceMul, Nat.reduceBEq, Int.reduceLE, Int.reduceLT, Int.reduceEq, Int.reduceAdd, Int.reduceSub, Int.reduceMul, Int.reduceNeg, IntWalk.iteOmega, IntWalk.toNatUp, hs, e1, e2, hv]; rintro r os ⟨rfl, rfl⟩; refine pl_of_pops ?_; simp only [push_cast, reduceIte, reduceCtorEq, Nat.reduceEqDiff, Nat.reduceLT, Nat.reduceLeDiff, Nat.reduceAdd, Nat.reduceSub, Nat.reduceMul, Nat.reduceBEq, Int.reduceLE, Int.reduceLT, Int.reduceEq, Int.reduceAdd, Int.reduceSub, Int.reduceMul, Int.reduceNeg, IntWalk.iteOmega, IntWalk.toNatUp, hs, e1, e2, hv]) | (refine pl_call2 false [1] rfl rfl (by kernel_rfl) (hard_pure c.modules s hS hc.sized hsz) ?_ nofun ?_; simp only [push_cast, reduceIte, reduceCtorEq, Nat.reduceEqDiff, Nat.reduceLT, Nat.reduceLeDiff, Nat.reduceAdd, Nat.reduceSub, Nat.reduceMul, Nat.reduceBEq, Int.reduceLE, Int.reduceLT, Int.reduceEq, Int.reduceAdd, Int.reduceSub, Int.reduceMul, Int.reduceNeg, IntWalk.iteOmega, IntWalk.toNatUp, hs, e1, e2, hv]; rintro r os ⟨rfl, rfl⟩; refine pl_of_pops ?_; simp only [push_cast, reduceIte, reduceCtorEq, Nat.reduceEqDiff, Nat.reduceLT, Nat.reduceLeDiff, Nat.reduceAdd, Nat.reduceSub, Nat.reduceMul, Nat.reduceBEq, Int.reduceLE, Int.reduceLT, Int.reduceEq, Int.reduceAdd, Int.reduceSub, Int.reduceMul, Int.reduceNeg, IntWalk.iteOmega, IntWalk.toNatUp, hs, e1, e2, hv]) | (refine Kont.use (by assumption) ?_) | (refine pwp_seq fun K hK => ?_) | (refine pwp_block ?_) | (refine pwp_scope ?_) | ((first | refine pwp_region ?_ | refine pwp_quiet (by kernel_rfl) (by kernel_rfl) ?_ | refine pwp_exit ?_ | refine pwp_ret ?_ | refine pwp_skip ?_); simp only [push_cast, reduceIte, reduceCtorEq, Nat.reduceEqDiff, Nat.reduceLT, Nat.reduceLeDiff, Nat.reduceAdd, Nat.reduceSub, Nat.reduceMul, Nat.reduceBEq, Int.reduceLE, Int.reduceLT, Int.reduceEq, Int.reduceAdd, Int.reduceSub, Int.reduceMul, Int.reduceNeg, IntWalk.iteOmega, IntWalk.toNatUp, hs, e1, e2, hv]) | (refine pwp_cond ?_; simp only [push_cast, reduceIte, reduceCtorEq, Nat.reduceEqDiff, Nat.reduceLT, Nat.reduceLeDiff, Nat.reduceAdd, Nat.reduceSub, Nat.reduceMul, Nat.reduceBEq, Int.reduceLE, Int.reduceLT, Int.reduceEq, Int.reduceAdd, Int.reduceSub, Int.reduceMul, Int.reduceNeg, IntWalk.iteOmega, IntWalk.toNatUp, hs, e1, e2, hv]; try (refine ⟨fun h => ?_, fun h => ?_⟩ <;> (try simp only [decide_eq_true_eq, decide_eq_false_iff_not, Bool.not_eq_true', Bool.not_eq_false', Int.not_lt, Int.not_le, Nat.not_lt, Nat.not_le] at h) <;> (try (first | contradiction | (exfalso; omega) | exact nomatch (Eq.trans (Eq.symm h) (by assumption) : true = false) | exact nomatch (Eq.trans (Eq.symm h) (by assumption) : false = true))))))
        obtain ⟨H, hH⟩ : ∃ H, hardL c.modules s = H := ⟨_, rfl⟩
        have hHl : H.length ≤ 10001 := by rw [← hH]; have := (hard_spec c.modules s).2.2; have := hS.all; omega
        have he := List.take_of_length_le (l := H.map strD) (i := H.length) (by simp)
        have hcl : ∀ x ∈ hardL c.modules s, Cl c.modules c.off names x := by
          intro x hx
          rcases hI.ht s (by simp) with h | ⟨m, hm, h⟩
          · exact .base h hv hx
          · exact .step hm h hv hx
        have hin := hI.enter
        simp only [hH]
        refine pwp_weak (weak_frz 4 (by omega)) ?_
        simp only [push_cast, reduceIte, reduceCtorEq, Nat.reduceEqDiff, Nat.reduceLT, Nat.reduceLeDiff, Nat.reduceAdd, Nat.reduceSub, Nat.reduceMul, Nat.reduceBEq, Int.reduceLE, Int.reduceLT, Int.reduceEq, Int.reduceAdd, Int.reduceSub, Int.reduceMul, Int.reduceNeg, IntWalk.iteOmega, IntWalk.toNatUp, he]
        refine pwp_weak (weak_trim 3 st'.length rfl) ?_
        simp only [push_cast, reduceIte, reduceCtorEq, Nat.reduceEqDiff, Nat.reduceLT, Nat.reduceLeDiff, Nat.reduceAdd, Nat.reduceSub, Nat.reduceMul, Nat.reduceBEq, Int.reduceLE, Int.reduceLT, Int.reduceEq, Int.reduceAdd, Int.reduceSub, Int.reduceMul, Int.reduceNeg, IntWalk.iteOmega, IntWalk.toNatUp, e2]
        refine pwp_loop2 (α := Nat × List ByteArray × List ByteArray) (fun x => CIn c.modules c.off names seen st'.length s x.1 x.2.1 x.2.2) (fun x => ⟨[(44, .c (.v (.int .i64 x.1))), (43, .c (.v (.int .i64 H.length))), (42, .c (.sl 1 (H.map strD))), (7, .c (.own 3 x.2.2.length)), (6, .c (.mp 2)), (5, .c (.mp 1)), (2, .c (.ptr 0 0))], [.box 30 c.e, .map none true (modsE c.modules), .map none false (setE x.2.1), .arr 9 1 (x.2.2.map strD)]⟩) (fun x => H.length - x.1) (0, seen, st') hin (by (refine weak_fg ?_; simp only [push_cast, reduceIte, reduceCtorEq, Nat.reduceEqDiff, Nat.reduceLT, Nat.reduceLeDiff, Nat.reduceAdd, Nat.reduceSub, Nat.reduceMul, Nat.reduceBEq, Int.reduceLE, Int.reduceLT, Int.reduceEq, Int.reduceAdd, Int.reduceSub, Int.reduceMul, Int.reduceNeg, IntWalk.iteOmega, IntWalk.toNatUp, e2])) ?_
        rintro ⟨k, sn, sk⟩ hJ
        simp only at hJ
        have hkl := hJ.hl
        have hsnl := hJ.seenLen
        by_cases hlt : k < H.length
        · have hlt' : k < (hardL c.modules s).length := by rw [hH]; exact hlt
          cases hm : inM (H.getD k default) sn
          · have hm' : (hardL c.modules s).getD k default ∉ sn := by rw [hH]; exact inM_false.1 hm
            have hsoft := hc.softl (H.getD k default)
            have had := hJ.add hlt' hm' hcl (by rw [hH]; exact hsoft)
            rw [hH] at had
            cases hmo : modOf c.modules (H.getD k default) with
            | none => exact absurd hmo (hcl _ (by rw [hH, getD_lt H hlt]; exact List.getElem_mem _)).there
            | some m =>
              have hso : softOf c.modules (H.getD k default) = m.pre ++ m.post := by unfold softOf; rw [hmo]; rfl
              rw [hso] at had hsoft
              simp only [List.length_append] at hsoft
              have e3 := List.take_of_length_le (l := sk.map strD) (i := sk.length) (by simp)
              repeat' (first | ((refine pwp_drawn_to ⟨[(44, .c (.v (.int .i64 k))), (43, .c (.v (.int .i64 H.length))), (42, .c (.sl 1 (H.map strD))), (7, .c (.own 3 (sk.length + m.pre.length + m.post.length))), (6, .c (.mp 2)), (5, .c (.mp 1)), (2, .c (.ptr 0 0))], [.box 30 c.e, .map none true (modsE c.modules), .map none false (setE (addS sn (H.getD k default))), .arr 9 1 ((sk.map strD ++ m.pre.map strD) ++ m.post.map strD)]⟩ (by kernel_rfl) ?_ ?_; (focus (simp only [List.length_cons, List.length_nil, Nat.reduceAdd]; (repeat' first | ((first | (refine pa_hoist 0 ?_ ?_; (focus decide +kernel)) | (refine pa_hoist 1 ?_ ?_; (focus decide +kernel)) | (refine pa_hoist 2 ?_ ?_; (focus decide +kernel)) | (refine pa_hoist 4 ?_ ?_; (focus decide +kernel)) | (refine pa_hoist 6 ?_ ?_; (focus decide +kernel)) | (refine pa_hoist 7 ?_ ?_; (focus decide +kernel)) | (refine pa_hoist 9 ?_ ?_; (focus decide +kernel)) | (refine pa_hoist 11 ?_ ?_; (focus decide +kernel))); simp only [push_cast, reduceIte, reduceCtorEq, Nat.reduceEqDiff, Nat.reduceLT, Nat.reduceLeDiff, Nat.reduceAdd, Nat.reduceSub, Nat.reduceMul, Nat.reduceBEq, Int.reduceLE, Int.reduceLT, Int.reduceEq, Int.reduceAdd, Int.reduceSub, Int.reduceMul, Int.reduceNeg, IntWalk.iteOmega, IntWalk.toNatUp,  mget_mods, hmo, hm, e3 ]) | (refine pa_done ?_ ?_; (focus decide +kernel); refine weak_fg ?_; simp only [push_cast, reduceIte, reduceCtorEq, Nat.reduceEqDiff, Nat.reduceLT, Nat.reduceLeDiff, Nat.reduceAdd, Nat.reduceSub, Nat.reduceMul, Nat.reduceBEq, Int.reduceLE, Int.reduceLT, Int.reduceEq, Int.reduceAdd, Int.reduceSub, Int.reduceMul, Int.reduceNeg, IntWalk.iteOmega, IntWalk.toNatUp,  mget_mods, hmo, hm, e3 ]) | ((first | (refine pa_step [3] ?_ rfl ?_; (focus decide +kernel)) | (refine pa_step [5] ?_ rfl ?_; (focus decide +kernel)) | (refine pa_step [8] ?_ rfl ?_; (focus decide +kernel)) | (refine pa_step [10] ?_ rfl ?_; (focus decide +kernel))); simp only [push_cast, reduceIte, reduceCtorEq, Nat.reduceEqDiff, Nat.reduceLT, Nat.reduceLeDiff, Nat.reduceAdd, Nat.reduceSub, Nat.reduceMul, Nat.reduceBEq, Int.reduceLE, Int.reduceLT, Int.reduceEq, Int.reduceAdd, Int.reduceSub, Int.reduceMul, Int.reduceNeg, IntWalk.iteOmega, IntWalk.toNatUp,  mget_mods, hmo, hm, e3 ]) | ((first | (refine pa_step [3, 5] ?_ rfl ?_; (focus decide +kernel)) | (refine pa_step [3, 8] ?_ rfl ?_; (focus decide +kernel)) | (refine pa_step [3, 10] ?_ rfl ?_; (focus decide +kernel)) | (refine pa_step [5, 8] ?_ rfl ?_; (focus decide +kernel)) | (refine pa_step [5, 10] ?_ rfl ?_; (focus decide +kernel)) | (refine pa_step [8, 10] ?_ rfl ?_; (focus decide +kernel))); simp only [push_cast, reduceIte, reduceCtorEq, Nat.reduceEqDiff, Nat.reduceLT, Nat.reduceLeDiff, Nat.reduceAdd, Nat.reduceSub, Nat.reduceMul, Nat.reduceBEq, Int.reduceLE, Int.reduceLT, Int.reduceEq, Int.reduceAdd, Int.reduceSub, Int.reduceMul, Int.reduceNeg, IntWalk.iteOmega, IntWalk.toNatUp,  mget_mods, hmo, hm, e3 ]; refine ⟨?_, ?_⟩) | ((first | (refine pa_step [3, 5, 8] ?_ rfl ?_; (focus decide +kernel)) | (refine pa_step [3, 5, 10] ?_ rfl ?_; (focus decide +kernel)) | (refine pa_step [3, 8, 10] ?_ rfl ?_; (focus decide +kernel)) | (refine pa_step [5, 8, 10] ?_ rfl ?_; (focus decide +kernel))); simp only [push_cast, reduceIte, reduceCtorEq, Nat.reduceEqDiff, Nat.reduceLT, Nat.reduceLeDiff, Nat.reduceAdd, Nat.reduceSub, Nat.reduceMul, Nat.reduceBEq, Int.reduceLE, Int.reduceLT, Int.reduceEq, Int.reduceAdd, Int.reduceSub, Int.reduceMul, Int.reduceNeg, IntWalk.iteOmega, IntWalk.toNatUp,  mget_mods, hmo, hm, e3 ]; refine ⟨?_, ?_, ?_⟩)); done)); try simp only [push_cast, reduceIte, reduceCtorEq, Nat.reduceEqDiff, Nat.reduceLT, Nat.reduceLeDiff, Nat.reduceAdd, Nat.reduceSub, Nat.reduceMul, Nat.reduceBEq, Int.reduceLE, Int.reduceLT, Int.reduceEq, Int.reduceAdd, Int.reduceSub, Int.reduceMul, Int.reduceNeg, IntWalk.iteOmega, IntWalk.toNatUp,  mget_mods, hmo, hm, e3 ])) | (refine Kont.use (by assumption) ?_) | (refine pwp_seq fun K hK => ?_) | (refine pwp_block ?_) | (refine pwp_scope ?_) | ((first | refine pwp_region ?_ | refine pwp_quiet (by kernel_rfl) (by kernel_rfl) ?_ | refine pwp_exit ?_ | refine pwp_ret ?_ | refine pwp_skip ?_); simp only [push_cast, reduceIte, reduceCtorEq, Nat.reduceEqDiff, Nat.reduceLT, Nat.reduceLeDiff, Nat.reduceAdd, Nat.reduceSub, Nat.reduceMul, Nat.reduceBEq, Int.reduceLE, Int.reduceLT, Int.reduceEq, Int.reduceAdd, Int.reduceSub, Int.reduceMul, Int.reduceNeg, IntWalk.iteOmega, IntWalk.toNatUp, mget_mods, hmo, hm, e3]) | (refine pwp_cond ?_; simp only [push_cast, reduceIte, reduceCtorEq, Nat.reduceEqDiff, Nat.reduceLT, Nat.reduceLeDiff, Nat.reduceAdd, Nat.reduceSub, Nat.reduceMul, Nat.reduceBEq, Int.reduceLE, Int.reduceLT, Int.reduceEq, Int.reduceAdd, Int.reduceSub, Int.reduceMul, Int.reduceNeg, IntWalk.iteOmega, IntWalk.toNatUp, mget_mods, hmo, hm, e3]; try (refine ⟨fun h => ?_, fun h => ?_⟩ <;> (try simp only [decide_eq_true_eq, decide_eq_false_iff_not, Bool.not_eq_true', Bool.not_eq_false', Int.not_lt, Int.not_le, Nat.not_lt, Nat.not_le] at h) <;> (try (first | contradiction | (exfalso; omega) | exact nomatch (Eq.trans (Eq.symm h) (by assumption) : true = false) | exact nomatch (Eq.trans (Eq.symm h) (by assumption) : false = true))))))
              exact ⟨(k + 1, addS sn (H.getD k default), sk ++ (m.pre ++ m.post)), had, by (refine weak_fg ?_; simp only [push_cast, reduceIte, reduceCtorEq, Nat.reduceEqDiff, Nat.reduceLT, Nat.reduceLeDiff, Nat.reduceAdd, Nat.reduceSub, Nat.reduceMul, Nat.reduceBEq, Int.reduceLE, Int.reduceLT, Int.reduceEq, Int.reduceAdd, Int.reduceSub, Int.reduceMul, Int.reduceNeg, IntWalk.iteOmega, IntWalk.toNatUp, List.append_assoc]); omega, by simp only; omega⟩
          · have hol := hJ.old hlt' (by rw [hH]; exact inM_iff.1 hm)
            repeat' (first | (refine Kont.use (by assumption) ?_) | (refine pwp_seq fun K hK => ?_) | (refine pwp_block ?_) | (refine pwp_scope ?_) | ((first | refine pwp_region ?_ | refine pwp_quiet (by kernel_rfl) (by kernel_rfl) ?_ | refine pwp_exit ?_ | refine pwp_ret ?_ | refine pwp_skip ?_); simp only [push_cast, reduceIte, reduceCtorEq, Nat.reduceEqDiff, Nat.reduceLT, Nat.reduceLeDiff, Nat.reduceAdd, Nat.reduceSub, Nat.reduceMul, Nat.reduceBEq, Int.reduceLE, Int.reduceLT, Int.reduceEq, Int.reduceAdd, Int.reduceSub, Int.reduceMul, Int.reduceNeg, IntWalk.iteOmega, IntWalk.toNatUp, hm]) | (refine pwp_cond ?_; simp only [push_cast, reduceIte, reduceCtorEq, Nat.reduceEqDiff, Nat.reduceLT, Nat.reduceLeDiff, Nat.reduceAdd, Nat.reduceSub, Nat.reduceMul, Nat.reduceBEq, Int.reduceLE, Int.reduceLT, Int.reduceEq, Int.reduceAdd, Int.reduceSub, Int.reduceMul, Int.reduceNeg, IntWalk.iteOmega, IntWalk.toNatUp, hm]; try (refine ⟨fun h => ?_, fun h => ?_⟩ <;> (try simp only [decide_eq_true_eq, decide_eq_false_iff_not, Bool.not_eq_true', Bool.not_eq_false', Int.not_lt, Int.not_le, Nat.not_lt, Nat.not_le] at h) <;> (try (first | contradiction | (exfalso; omega) | exact nomatch (Eq.trans (Eq.symm h) (by assumption) : true = false) | exact nomatch (Eq.trans (Eq.symm h) (by assumption) : false = true))))))
            exact ⟨(k + 1, sn, sk), hol, by (refine weak_fg ?_; simp only [push_cast, reduceIte, reduceCtorEq, Nat.reduceEqDiff, Nat.reduceLT, Nat.reduceLeDiff, Nat.reduceAdd, Nat.reduceSub, Nat.reduceMul, Nat.reduceBEq, Int.reduceLE, Int.reduceLT, Int.reduceEq, Int.reduceAdd, Int.reduceSub, Int.reduceMul, Int.reduceNeg, IntWalk.iteOmega, IntWalk.toNatUp]), by simp only; omega⟩
        · have hle := hJ.leave (by rw [hH]; exact hlt) hI.hc
          have hgrow : seen.length < sn.length := by
            have h1 : s ∈ sn := by
              have := hJ.all s
              rw [List.take_of_length_le (by rw [hH]; omega)] at this
              exact this (hard_self _ _)
            have := nodup_len (s :: seen) sn (List.nodup_cons.2 ⟨inM_false.1 hs, hI.nd⟩) (fun x hx => by
              rcases List.mem_cons.1 hx with rfl | hx
              · exact h1
              · exact hJ.sub x hx)
            simp only [List.length_cons] at this
            omega
          repeat' (first | (refine Kont.use (by assumption) ?_) | (refine pwp_seq fun K hK => ?_) | (refine pwp_block ?_) | (refine pwp_scope ?_) | ((first | refine pwp_region ?_ | refine pwp_quiet (by kernel_rfl) (by kernel_rfl) ?_ | refine pwp_exit ?_ | refine pwp_ret ?_ | refine pwp_skip ?_); simp only [push_cast, reduceIte, reduceCtorEq, Nat.reduceEqDiff, Nat.reduceLT, Nat.reduceLeDiff, Nat.reduceAdd, Nat.reduceSub, Nat.reduceMul, Nat.reduceBEq, Int.reduceLE, Int.reduceLT, Int.reduceEq, Int.reduceAdd, Int.reduceSub, Int.reduceMul, Int.reduceNeg, IntWalk.iteOmega, IntWalk.toNatUp]) | (refine pwp_cond ?_; simp only [push_cast, reduceIte, reduceCtorEq, Nat.reduceEqDiff, Nat.reduceLT, Nat.reduceLeDiff, Nat.reduceAdd, Nat.reduceSub, Nat.reduceMul, Nat.reduceBEq, Int.reduceLE, Int.reduceLT, Int.reduceEq, Int.reduceAdd, Int.reduceSub, Int.reduceMul, Int.reduceNeg, IntWalk.iteOmega, IntWalk.toNatUp]; try (refine ⟨fun h => ?_, fun h => ?_⟩ <;> (try simp only [decide_eq_true_eq, decide_eq_false_iff_not, Bool.not_eq_true', Bool.not_eq_false', Int.not_lt, Int.not_le, Nat.not_lt, Nat.not_le] at h) <;> (try (first | contradiction | (exfalso; omega) | exact nomatch (Eq.trans (Eq.symm h) (by assumption) : true = false) | exact nomatch (Eq.trans (Eq.symm h) (by assumption) : false = true))))))
          exact ⟨(sn, sk), hle, by (refine weak_fg ?_; simp only [push_cast, reduceIte, reduceCtorEq, Nat.reduceEqDiff, Nat.reduceLT, Nat.reduceLeDiff, Nat.reduceAdd, Nat.reduceSub, Nat.reduceMul, Nat.reduceBEq, Int.reduceLE, Int.reduceLT, Int.reduceEq, Int.reduceAdd, Int.reduceSub, Int.reduceMul, Int.reduceNeg, IntWalk.iteOmega, IntWalk.toNatUp]), by simp only [List.length_append, List.length_cons, List.length_nil]; omega⟩
      · have hf := hI.skip (.inr (by rw [hv]; exact hv0))
        repeat' (first | (refine pl_call2 false [1] rfl rfl (by kernel_rfl) (why_pure c s hc.toCfgOk hsz) ?_ nofun ?_; simp only [push_cast, reduceIte, reduceCtorEq, Nat.reduceEqDiff, Nat.reduceLT, Nat.reduceLeDiff, Nat.reduceAdd, Nat.reduceSub, Nat.reduceMul, Nat.reduceBEq, Int.reduceLE, Int.reduceLT, Int.reduceEq, Int.reduceAdd, Int.reduceSub, Int.reduceMul, Int.reduceNeg, IntWalk.iteOmega, IntWalk.toNatUp, hs, e1, e2, hv, hv0]; rintro r os ⟨rfl, rfl⟩; refine pl_of_pops ?_; simp only [push_cast, reduceIte, reduceCtorEq, Nat.reduceEqDiff, Nat.reduceLT, Nat.reduceLeDiff, Nat.reduceAdd, Nat.reduceSub, Nat.reduceMul, Nat.reduceBEq, Int.reduceLE, Int.reduceLT, Int.reduceEq, Int.reduceAdd, Int.reduceSub, Int.reduceMul, Int.reduceNeg, IntWalk.iteOmega, IntWalk.toNatUp, hs, e1, e2, hv, hv0]) | (refine Kont.use (by assumption) ?_) | (refine pwp_seq fun K hK => ?_) | (refine pwp_block ?_) | (refine pwp_scope ?_) | ((first | refine pwp_region ?_ | refine pwp_quiet (by kernel_rfl) (by kernel_rfl) ?_ | refine pwp_exit ?_ | refine pwp_ret ?_ | refine pwp_skip ?_); simp only [push_cast, reduceIte, reduceCtorEq, Nat.reduceEqDiff, Nat.reduceLT, Nat.reduceLeDiff, Nat.reduceAdd, Nat.reduceSub, Nat.reduceMul, Nat.reduceBEq, Int.reduceLE, Int.reduceLT, Int.reduceEq, Int.reduceAdd, Int.reduceSub, Int.reduceMul, Int.reduceNeg, IntWalk.iteOmega, IntWalk.toNatUp, hs, e1, e2, hv, hv0]) | (refine pwp_cond ?_; simp only [push_cast, reduceIte, reduceCtorEq, Nat.reduceEqDiff, Nat.reduceLT, Nat.reduceLeDiff, Nat.reduceAdd, Nat.reduceSub, Nat.reduceMul, Nat.reduceBEq, Int.reduceLE, Int.reduceLT, Int.reduceEq, Int.reduceAdd, Int.reduceSub, Int.reduceMul, Int.reduceNeg, IntWalk.iteOmega, IntWalk.toNatUp, hs, e1, e2, hv, hv0]; try (refine ⟨fun h => ?_, fun h => ?_⟩ <;> (try simp only [decide_eq_true_eq, decide_eq_false_iff_not, Bool.not_eq_true', Bool.not_eq_false', Int.not_lt, Int.not_le, Nat.not_lt, Nat.not_le] at h) <;> (try (first | contradiction | (exfalso; omega) | exact nomatch (Eq.trans (Eq.symm h) (by assumption) : true = false) | exact nomatch (Eq.trans (Eq.symm h) (by assumption) : false = true))))))
        exact ⟨(seen, st'), hf, Weak.trans (weak_trim 3 st'.length rfl) (by (refine weak_fg ?_; simp only [push_cast, reduceIte, reduceCtorEq, Nat.reduceEqDiff, Nat.reduceLT, Nat.reduceLeDiff, Nat.reduceAdd, Nat.reduceSub, Nat.reduceMul, Nat.reduceBEq, Int.reduceLE, Int.reduceLT, Int.reduceEq, Int.reduceAdd, Int.reduceSub, Int.reduceMul, Int.reduceNeg, IntWalk.iteOmega, IntWalk.toNatUp]); exact e2), by simp⟩
    · have hf := hI.skip (.inl (inM_iff.1 hs))
      repeat' (first | (refine Kont.use (by assumption) ?_) | (refine pwp_seq fun K hK => ?_) | (refine pwp_block ?_) | (refine pwp_scope ?_) | ((first | refine pwp_region ?_ | refine pwp_quiet (by kernel_rfl) (by kernel_rfl) ?_ | refine pwp_exit ?_ | refine pwp_ret ?_ | refine pwp_skip ?_); simp only [push_cast, reduceIte, reduceCtorEq, Nat.reduceEqDiff, Nat.reduceLT, Nat.reduceLeDiff, Nat.reduceAdd, Nat.reduceSub, Nat.reduceMul, Nat.reduceBEq, Int.reduceLE, Int.reduceLT, Int.reduceEq, Int.reduceAdd, Int.reduceSub, Int.reduceMul, Int.reduceNeg, IntWalk.iteOmega, IntWalk.toNatUp, hs, e1, e2]) | (refine pwp_cond ?_; simp only [push_cast, reduceIte, reduceCtorEq, Nat.reduceEqDiff, Nat.reduceLT, Nat.reduceLeDiff, Nat.reduceAdd, Nat.reduceSub, Nat.reduceMul, Nat.reduceBEq, Int.reduceLE, Int.reduceLT, Int.reduceEq, Int.reduceAdd, Int.reduceSub, Int.reduceMul, Int.reduceNeg, IntWalk.iteOmega, IntWalk.toNatUp, hs, e1, e2]; try (refine ⟨fun h => ?_, fun h => ?_⟩ <;> (try simp only [decide_eq_true_eq, decide_eq_false_iff_not, Bool.not_eq_true', Bool.not_eq_false', Int.not_lt, Int.not_le, Nat.not_lt, Nat.not_le] at h) <;> (try (first | contradiction | (exfalso; omega) | exact nomatch (Eq.trans (Eq.symm h) (by assumption) : true = false) | exact nomatch (Eq.trans (Eq.symm h) (by assumption) : false = true))))))
      exact ⟨(seen, st'), hf, Weak.trans (weak_trim 3 st'.length rfl) (by (refine weak_fg ?_; simp only [push_cast, reduceIte, reduceCtorEq, Nat.reduceEqDiff, Nat.reduceLT, Nat.reduceLeDiff, Nat.reduceAdd, Nat.reduceSub, Nat.reduceMul, Nat.reduceBEq, Int.reduceLE, Int.reduceLT, Int.reduceEq, Int.reduceAdd, Int.reduceSub, Int.reduceMul, Int.reduceNeg, IntWalk.iteOmega, IntWalk.toNatUp]); exact e2), by simp⟩
end Go.Proofs.Ytdndljaaofkenaa
