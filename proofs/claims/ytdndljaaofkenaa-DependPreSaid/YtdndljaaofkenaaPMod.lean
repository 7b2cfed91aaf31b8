/- Modules and configurations; the reference's In, Module, Put. (pure walks) -/
import Derived.Test.YtdndljaaofkenaaPTape
namespace Go.Proofs.Ytdndljaaofkenaa
attribute [local irreducible] PL QL PWP PCalls Weak RetK Kont
open Go.RowKit
set_option linter.unusedVariables false
set_option linter.unusedSimpArgs false
structure Mod where
  name : ByteArray
  aliases : List ByteArray
  needs : List ByteArray
  pre : List ByteArray
  post : List ByteArray
  fails : Bool
  deriving DecidableEq, Inhabited
def Mod.d (m : Mod) : List D := [.v (.string m.name), .sl 1 (m.aliases.map strD), .sl 1 (m.needs.map strD), .sl 1 (m.pre.map strD), .sl 1 (m.post.map strD), .v (.bool m.fails)]
structure Ext2 where
  name : ByteArray
  value : ByteArray
  deriving DecidableEq, Inhabited
def Ext2.d (x : Ext2) : List D := [.v (.string x.name), .v (.string x.value)]
structure Cfg where
  modules : List Mod
  blocked : List ByteArray
  off : List ByteArray
  keep : List ByteArray
  extra : List Ext2
  deriving DecidableEq, Inhabited
def Cfg.d (c : Cfg) : List D := [.sl 6 (c.modules.map Mod.d), .sl 1 (c.blocked.map strD), .sl 1 (c.off.map strD), .sl 1 (c.keep.map strD), .sl 2 (c.extra.map Ext2.d)]
attribute [push_cast] Mod.d Ext2.d Cfg.d
theorem in_pure (l : List ByteArray) (s : ByteArray) (hl : l.length ≤ 9223372036854775807) :
    PCalls Try.prog 22 [.c (.sl 1 (l.map strD)), .c (.v (.string s))] [] fun r os => r = .c (.v (.bool (inM s l))) ∧ os = [] := by
  refine pcalls_of Try.func22 rfl (by simp [Try.ntmps22]) ?_
  rw [Try.ntmps22, Try.results22]
  simp only [push_cast, reduceIte, reduceCtorEq, Nat.reduceEqDiff, Nat.reduceLT, Nat.reduceLeDiff, Nat.reduceAdd, Nat.reduceSub, Nat.reduceMul, Nat.reduceBEq, Int.reduceLE, Int.reduceLT, Int.reduceEq, Int.reduceAdd, Int.reduceSub, Int.reduceMul, Int.reduceNeg, IntWalk.iteOmega, IntWalk.toNatUp]
  repeat' (first | (refine Kont.use (by assumption) ?_) | (refine pwp_seq fun K hK => ?_) | (refine pwp_block ?_) | (refine pwp_scope ?_) | ((first | refine pwp_region ?_ | refine pwp_quiet (by kernel_rfl) (by kernel_rfl) ?_ | refine pwp_exit ?_ | refine pwp_ret ?_ | refine pwp_skip ?_); simp only [push_cast, reduceIte, reduceCtorEq, Nat.reduceEqDiff, Nat.reduceLT, Nat.reduceLeDiff, Nat.reduceAdd, Nat.reduceSub, Nat.reduceMul, Nat.reduceBEq, Int.reduceLE, Int.reduceLT, Int.reduceEq, Int.reduceAdd, Int.reduceSub, Int.reduceMul, Int.reduceNeg, IntWalk.iteOmega, IntWalk.toNatUp]) | (refine pwp_cond ?_; simp only [push_cast, reduceIte, reduceCtorEq, Nat.reduceEqDiff, Nat.reduceLT, Nat.reduceLeDiff, Nat.reduceAdd, Nat.reduceSub, Nat.reduceMul, Nat.reduceBEq, Int.reduceLE, Int.reduceLT, Int.reduceEq, Int.reduceAdd, Int.reduceSub, Int.reduceMul, Int.reduceNeg, IntWalk.iteOmega, IntWalk.toNatUp]; try (refine ⟨fun h => ?_, fun h => ?_⟩ <;> (try simp only [decide_eq_true_eq, decide_eq_false_iff_not, Bool.not_eq_true', Bool.not_eq_false', Int.not_lt, Int.not_le, Nat.not_lt, Nat.not_le] at h) <;> (try (first | contradiction | (exfalso; omega) | exact nomatch (Eq.trans (Eq.symm h) (by assumption) : true = false) | exact nomatch (Eq.trans (Eq.symm h) (by assumption) : false = true))))))
  refine pwp_loop2 (α := Nat) (fun k => k ≤ l.length ∧ s ∉ l.take k) (fun k => ⟨[(5, .c (.v (.int .i64 k))), (0, .c (.sl 1 (l.map strD))), (1, .c (.v (.string s)))], []⟩) (fun k => l.length - k) 0 ⟨by omega, by simp⟩ (by (refine weak_fg ?_; simp only [push_cast, reduceIte, reduceCtorEq, Nat.reduceEqDiff, Nat.reduceLT, Nat.reduceLeDiff, Nat.reduceAdd, Nat.reduceSub, Nat.reduceMul, Nat.reduceBEq, Int.reduceLE, Int.reduceLT, Int.reduceEq, Int.reduceAdd, Int.reduceSub, Int.reduceMul, Int.reduceNeg, IntWalk.iteOmega, IntWalk.toNatUp])) ?_
  rintro k ⟨hk, hpre⟩
  by_cases hlt : k < l.length
  · have e1 := getD_lt l hlt
    repeat' (first | (refine Kont.use (by assumption) ?_) | (refine pwp_seq fun K hK => ?_) | (refine pwp_block ?_) | (refine pwp_scope ?_) | ((first | refine pwp_region ?_ | refine pwp_quiet (by kernel_rfl) (by kernel_rfl) ?_ | refine pwp_exit ?_ | refine pwp_ret ?_ | refine pwp_skip ?_); simp only [push_cast, reduceIte, reduceCtorEq, Nat.reduceEqDiff, Nat.reduceLT, Nat.reduceLeDiff, Nat.reduceAdd, Nat.reduceSub, Nat.reduceMul, Nat.reduceBEq, Int.reduceLE, Int.reduceLT, Int.reduceEq, Int.reduceAdd, Int.reduceSub, Int.reduceMul, Int.reduceNeg, IntWalk.iteOmega, IntWalk.toNatUp]) | (refine pwp_cond ?_; simp only [push_cast, reduceIte, reduceCtorEq, Nat.reduceEqDiff, Nat.reduceLT, Nat.reduceLeDiff, Nat.reduceAdd, Nat.reduceSub, Nat.reduceMul, Nat.reduceBEq, Int.reduceLE, Int.reduceLT, Int.reduceEq, Int.reduceAdd, Int.reduceSub, Int.reduceMul, Int.reduceNeg, IntWalk.iteOmega, IntWalk.toNatUp]; try (refine ⟨fun h => ?_, fun h => ?_⟩ <;> (try simp only [decide_eq_true_eq, decide_eq_false_iff_not, Bool.not_eq_true', Bool.not_eq_false', Int.not_lt, Int.not_le, Nat.not_lt, Nat.not_le] at h) <;> (try (first | contradiction | (exfalso; omega) | exact nomatch (Eq.trans (Eq.symm h) (by assumption) : true = false) | exact nomatch (Eq.trans (Eq.symm h) (by assumption) : false = true))))))
    · rename_i h
      (refine retK_of [] ?_; simp only [push_cast, reduceIte, reduceCtorEq, Nat.reduceEqDiff, Nat.reduceLT, Nat.reduceLeDiff, Nat.reduceAdd, Nat.reduceSub, Nat.reduceMul, Nat.reduceBEq, Int.reduceLE, Int.reduceLT, Int.reduceEq, Int.reduceAdd, Int.reduceSub, Int.reduceMul, Int.reduceNeg, IntWalk.iteOmega, IntWalk.toNatUp])
      rw [e1] at h
      subst h
      exact (inM_iff.2 (List.getElem_mem _)).symm
    · rename_i h
      refine ⟨k + 1, ⟨by omega, ?_⟩, by (refine weak_fg ?_; simp only [push_cast, reduceIte, reduceCtorEq, Nat.reduceEqDiff, Nat.reduceLT, Nat.reduceLeDiff, Nat.reduceAdd, Nat.reduceSub, Nat.reduceMul, Nat.reduceBEq, Int.reduceLE, Int.reduceLT, Int.reduceEq, Int.reduceAdd, Int.reduceSub, Int.reduceMul, Int.reduceNeg, IntWalk.iteOmega, IntWalk.toNatUp]), by omega⟩
      rw [e1] at h
      rw [List.take_succ_eq_append_getElem hlt]
      simp only [List.mem_append, List.mem_singleton, not_or]
      exact ⟨hpre, fun e => h e.symm⟩
  · repeat' (first | (refine Kont.use (by assumption) ?_) | (refine pwp_seq fun K hK => ?_) | (refine pwp_block ?_) | (refine pwp_scope ?_) | ((first | refine pwp_region ?_ | refine pwp_quiet (by kernel_rfl) (by kernel_rfl) ?_ | refine pwp_exit ?_ | refine pwp_ret ?_ | refine pwp_skip ?_); simp only [push_cast, reduceIte, reduceCtorEq, Nat.reduceEqDiff, Nat.reduceLT, Nat.reduceLeDiff, Nat.reduceAdd, Nat.reduceSub, Nat.reduceMul, Nat.reduceBEq, Int.reduceLE, Int.reduceLT, Int.reduceEq, Int.reduceAdd, Int.reduceSub, Int.reduceMul, Int.reduceNeg, IntWalk.iteOmega, IntWalk.toNatUp]) | (refine pwp_cond ?_; simp only [push_cast, reduceIte, reduceCtorEq, Nat.reduceEqDiff, Nat.reduceLT, Nat.reduceLeDiff, Nat.reduceAdd, Nat.reduceSub, Nat.reduceMul, Nat.reduceBEq, Int.reduceLE, Int.reduceLT, Int.reduceEq, Int.reduceAdd, Int.reduceSub, Int.reduceMul, Int.reduceNeg, IntWalk.iteOmega, IntWalk.toNatUp]; try (refine ⟨fun h => ?_, fun h => ?_⟩ <;> (try simp only [decide_eq_true_eq, decide_eq_false_iff_not, Bool.not_eq_true', Bool.not_eq_false', Int.not_lt, Int.not_le, Nat.not_lt, Nat.not_le] at h) <;> (try (first | contradiction | (exfalso; omega) | exact nomatch (Eq.trans (Eq.symm h) (by assumption) : true = false) | exact nomatch (Eq.trans (Eq.symm h) (by assumption) : false = true))))))
    (refine retK_of [] ?_; simp only [push_cast, reduceIte, reduceCtorEq, Nat.reduceEqDiff, Nat.reduceLT, Nat.reduceLeDiff, Nat.reduceAdd, Nat.reduceSub, Nat.reduceMul, Nat.reduceBEq, Int.reduceLE, Int.reduceLT, Int.reduceEq, Int.reduceAdd, Int.reduceSub, Int.reduceMul, Int.reduceNeg, IntWalk.iteOmega, IntWalk.toNatUp])
    rw [List.take_of_length_le (by omega)] at hpre
    exact (inM_false.2 hpre).symm
def modOf (l : List Mod) (n : ByteArray) : Option Mod := l.find? fun m => decide (m.name = n)
def noMod : Mod := ⟨⟨#[]⟩, [], [], [], [], false⟩
def Mod.e (m : Mod) : List E := m.d.map D.e
attribute [push_cast] Mod.e
def Mod.w (m : Mod) : List E := [.v (.string ⟨#[]⟩), .v (.slice none 0 0), .v (.slice none 0 0), .v (.slice none 0 0), .v (.slice none 0 0), .v (.bool false)]
attribute [push_cast] Mod.w
theorem module_pure (l : List Mod) (n : ByteArray) (hl : l.length ≤ 9223372036854775807) :
    PCalls Try.prog 21 [.c (.sl 6 (l.map Mod.d)), .c (.v (.string n))] [] fun r os => r = .two (.agg ((modOf l n).getD noMod).e) (.c (.v (.bool (modOf l n).isSome))) ∧ os = [] := by
  refine pcalls_of Try.func21 rfl (by simp [Try.ntmps21]) ?_
  rw [Try.ntmps21, Try.results21]
  simp only [push_cast, reduceIte, reduceCtorEq, Nat.reduceEqDiff, Nat.reduceLT, Nat.reduceLeDiff, Nat.reduceAdd, Nat.reduceSub, Nat.reduceMul, Nat.reduceBEq, Int.reduceLE, Int.reduceLT, Int.reduceEq, Int.reduceAdd, Int.reduceSub, Int.reduceMul, Int.reduceNeg, IntWalk.iteOmega, IntWalk.toNatUp]
  repeat' (first | (refine Kont.use (by assumption) ?_) | (refine pwp_seq fun K hK => ?_) | (refine pwp_block ?_) | (refine pwp_scope ?_) | ((first | refine pwp_region ?_ | refine pwp_quiet (by kernel_rfl) (by kernel_rfl) ?_ | refine pwp_exit ?_ | refine pwp_ret ?_ | refine pwp_skip ?_); simp only [push_cast, reduceIte, reduceCtorEq, Nat.reduceEqDiff, Nat.reduceLT, Nat.reduceLeDiff, Nat.reduceAdd, Nat.reduceSub, Nat.reduceMul, Nat.reduceBEq, Int.reduceLE, Int.reduceLT, Int.reduceEq, Int.reduceAdd, Int.reduceSub, Int.reduceMul, Int.reduceNeg, IntWalk.iteOmega, IntWalk.toNatUp]) | (refine pwp_cond ?_; simp only [push_cast, reduceIte, reduceCtorEq, Nat.reduceEqDiff, Nat.reduceLT, Nat.reduceLeDiff, Nat.reduceAdd, Nat.reduceSub, Nat.reduceMul, Nat.reduceBEq, Int.reduceLE, Int.reduceLT, Int.reduceEq, Int.reduceAdd, Int.reduceSub, Int.reduceMul, Int.reduceNeg, IntWalk.iteOmega, IntWalk.toNatUp]; try (refine ⟨fun h => ?_, fun h => ?_⟩ <;> (try simp only [decide_eq_true_eq, decide_eq_false_iff_not, Bool.not_eq_true', Bool.not_eq_false', Int.not_lt, Int.not_le, Nat.not_lt, Nat.not_le] at h) <;> (try (first | contradiction | (exfalso; omega) | exact nomatch (Eq.trans (Eq.symm h) (by assumption) : true = false) | exact nomatch (Eq.trans (Eq.symm h) (by assumption) : false = true))))))
  refine pwp_loop2 (α := Nat) (fun k => k ≤ l.length ∧ ∀ x ∈ l.take k, x.name ≠ n) (fun k => ⟨[(6, .c (.v (.int .i64 k))), (5, .c (.v (.bool false))), (4, .c (.ptr 0 0)), (0, .c (.sl 6 (l.map Mod.d))), (1, .c (.v (.string n)))], [.box 43 noMod.w]⟩) (fun k => l.length - k) 0 ⟨by omega, by simp⟩ (by (refine weak_fg ?_; simp only [push_cast, reduceIte, reduceCtorEq, Nat.reduceEqDiff, Nat.reduceLT, Nat.reduceLeDiff, Nat.reduceAdd, Nat.reduceSub, Nat.reduceMul, Nat.reduceBEq, Int.reduceLE, Int.reduceLT, Int.reduceEq, Int.reduceAdd, Int.reduceSub, Int.reduceMul, Int.reduceNeg, IntWalk.iteOmega, IntWalk.toNatUp])) ?_
  rintro k ⟨hk, hpre⟩
  by_cases hlt : k < l.length
  · have e1 := getD_lt l hlt
    repeat' (first | (refine Kont.use (by assumption) ?_) | (refine pwp_seq fun K hK => ?_) | (refine pwp_block ?_) | (refine pwp_scope ?_) | ((first | refine pwp_region ?_ | refine pwp_quiet (by kernel_rfl) (by kernel_rfl) ?_ | refine pwp_exit ?_ | refine pwp_ret ?_ | refine pwp_skip ?_); simp only [push_cast, reduceIte, reduceCtorEq, Nat.reduceEqDiff, Nat.reduceLT, Nat.reduceLeDiff, Nat.reduceAdd, Nat.reduceSub, Nat.reduceMul, Nat.reduceBEq, Int.reduceLE, Int.reduceLT, Int.reduceEq, Int.reduceAdd, Int.reduceSub, Int.reduceMul, Int.reduceNeg, IntWalk.iteOmega, IntWalk.toNatUp]) | (refine pwp_cond ?_; simp only [push_cast, reduceIte, reduceCtorEq, Nat.reduceEqDiff, Nat.reduceLT, Nat.reduceLeDiff, Nat.reduceAdd, Nat.reduceSub, Nat.reduceMul, Nat.reduceBEq, Int.reduceLE, Int.reduceLT, Int.reduceEq, Int.reduceAdd, Int.reduceSub, Int.reduceMul, Int.reduceNeg, IntWalk.iteOmega, IntWalk.toNatUp]; try (refine ⟨fun h => ?_, fun h => ?_⟩ <;> (try simp only [decide_eq_true_eq, decide_eq_false_iff_not, Bool.not_eq_true', Bool.not_eq_false', Int.not_lt, Int.not_le, Nat.not_lt, Nat.not_le] at h) <;> (try (first | contradiction | (exfalso; omega) | exact nomatch (Eq.trans (Eq.symm h) (by assumption) : true = false) | exact nomatch (Eq.trans (Eq.symm h) (by assumption) : false = true))))))
    · rename_i h
      (refine retK_of [] ?_; simp only [push_cast, reduceIte, reduceCtorEq, Nat.reduceEqDiff, Nat.reduceLT, Nat.reduceLeDiff, Nat.reduceAdd, Nat.reduceSub, Nat.reduceMul, Nat.reduceBEq, Int.reduceLE, Int.reduceLT, Int.reduceEq, Int.reduceAdd, Int.reduceSub, Int.reduceMul, Int.reduceNeg, IntWalk.iteOmega, IntWalk.toNatUp])
      rw [e1] at h
      have hf : modOf l n = some l[k] := by
        unfold modOf
        rw [List.find?_eq_some_iff_append]
        refine ⟨by simpa using h, l.take k, l.drop (k + 1), by rw [← List.drop_eq_getElem_cons hlt, List.take_append_drop], fun x hx => by simpa using hpre x hx⟩
      rw [e1, hf]
      simp
    · rename_i h
      refine ⟨k + 1, ⟨by omega, ?_⟩, by (refine weak_fg ?_; simp only [push_cast, reduceIte, reduceCtorEq, Nat.reduceEqDiff, Nat.reduceLT, Nat.reduceLeDiff, Nat.reduceAdd, Nat.reduceSub, Nat.reduceMul, Nat.reduceBEq, Int.reduceLE, Int.reduceLT, Int.reduceEq, Int.reduceAdd, Int.reduceSub, Int.reduceMul, Int.reduceNeg, IntWalk.iteOmega, IntWalk.toNatUp]), by omega⟩
      rw [e1] at h
      rw [List.take_succ_eq_append_getElem hlt]
      intro x hx
      rcases List.mem_append.1 hx with hx | hx
      · exact hpre x hx
      · simp only [List.mem_singleton] at hx
        subst hx
        exact h
  · repeat' (first | (refine Kont.use (by assumption) ?_) | (refine pwp_seq fun K hK => ?_) | (refine pwp_block ?_) | (refine pwp_scope ?_) | ((first | refine pwp_region ?_ | refine pwp_quiet (by kernel_rfl) (by kernel_rfl) ?_ | refine pwp_exit ?_ | refine pwp_ret ?_ | refine pwp_skip ?_); simp only [push_cast, reduceIte, reduceCtorEq, Nat.reduceEqDiff, Nat.reduceLT, Nat.reduceLeDiff, Nat.reduceAdd, Nat.reduceSub, Nat.reduceMul, Nat.reduceBEq, Int.reduceLE, Int.reduceLT, Int.reduceEq, Int.reduceAdd, Int.reduceSub, Int.reduceMul, Int.reduceNeg, IntWalk.iteOmega, IntWalk.toNatUp]) | (refine pwp_cond ?_; simp only [push_cast, reduceIte, reduceCtorEq, Nat.reduceEqDiff, Nat.reduceLT, Nat.reduceLeDiff, Nat.reduceAdd, Nat.reduceSub, Nat.reduceMul, Nat.reduceBEq, Int.reduceLE, Int.reduceLT, Int.reduceEq, Int.reduceAdd, Int.reduceSub, Int.reduceMul, Int.reduceNeg, IntWalk.iteOmega, IntWalk.toNatUp]; try (refine ⟨fun h => ?_, fun h => ?_⟩ <;> (try simp only [decide_eq_true_eq, decide_eq_false_iff_not, Bool.not_eq_true', Bool.not_eq_false', Int.not_lt, Int.not_le, Nat.not_lt, Nat.not_le] at h) <;> (try (first | contradiction | (exfalso; omega) | exact nomatch (Eq.trans (Eq.symm h) (by assumption) : true = false) | exact nomatch (Eq.trans (Eq.symm h) (by assumption) : false = true))))))
    (refine retK_of [] ?_; simp only [push_cast, reduceIte, reduceCtorEq, Nat.reduceEqDiff, Nat.reduceLT, Nat.reduceLeDiff, Nat.reduceAdd, Nat.reduceSub, Nat.reduceMul, Nat.reduceBEq, Int.reduceLE, Int.reduceLT, Int.reduceEq, Int.reduceAdd, Int.reduceSub, Int.reduceMul, Int.reduceNeg, IntWalk.iteOmega, IntWalk.toNatUp])
    have hf : modOf l n = none := by
      rw [List.take_of_length_le (by omega)] at hpre
      unfold modOf
      rw [List.find?_eq_none]
      intro x hx
      simpa using hpre x hx
    rw [hf]
    simp [noMod]
def putM (l : List ByteArray) (s : ByteArray) : List ByteArray :=
  let i := (l.takeWhile fun x => bless x s).length
  if l.getD i default = s ∧ i < l.length then l else l.take i ++ s :: l.drop i
end Go.Proofs.Ytdndljaaofkenaa
