/- depend: the map of modules; what is reached. -/
import Derived.Test.YtdndljaaofkenaaPMod
namespace Go.Proofs.Ytdndljaaofkenaa
attribute [local irreducible] PL QL PWP PCalls Weak RetK Kont PA
open Go.RowKit
set_option linter.unusedVariables false
set_option linter.unusedSimpArgs false
def modsE (l : List Mod) : List (MK × List D) := l.map fun m => (.s m.name, m.d)
theorem mget_mods (n : ByteArray) : ∀ l : List Mod, mget (modsE l) (.s n) = (modOf l n).map Mod.d
  | [] => rfl
  | a :: l => by
    have ih := mget_mods n l
    simp only [modsE, List.map_cons, mget, MK.s.injEq, modOf, List.find?_cons] at ih ⊢
    by_cases h : a.name = n
    · simp [h]
    · simp only [h, if_false, decide_false]
      exact ih
theorem mput_mods (m : Mod) : ∀ l : List Mod, (∀ x ∈ l, x.name ≠ m.name) → mput (modsE l) (.s m.name) m.d = modsE (l ++ [m])
  | [], _ => rfl
  | a :: l, h => by
    have ih := mput_mods m l (fun x hx => h x (by simp [hx]))
    have h1 := h a (by simp)
    simp only [modsE, List.map_cons, mput, MK.s.injEq, h1, if_false, List.cons_append] at ih ⊢
    rw [ih]
def Cfg.e (c : Cfg) : List E := c.d.map D.e
attribute [push_cast] Cfg.e
theorem modules_pure (c : Cfg) (hnd : (c.modules.map Mod.name).Nodup) (hl : c.modules.length ≤ 1000) :
    PCalls Try.prog 29 [.agg c.e] [] fun r os => r = .c (.mp 0) ∧ os = [.map none true (modsE c.modules)] := by
  refine pcalls_of Try.func29 rfl (by simp [Try.ntmps29]) ?_
  rw [Try.ntmps29, Try.results29]
  simp only [push_cast, reduceIte, reduceCtorEq, Nat.reduceEqDiff, Nat.reduceLT, Nat.reduceLeDiff, Nat.reduceAdd, Nat.reduceSub, Nat.reduceMul, Nat.reduceBEq, Int.reduceLE, Int.reduceLT, Int.reduceEq, Int.reduceAdd, Int.reduceSub, Int.reduceMul, Int.reduceNeg, IntWalk.iteOmega, IntWalk.toNatUp]
  repeat' (first | (refine Kont.use (by assumption) ?_) | (refine pwp_seq fun K hK => ?_) | (refine pwp_block ?_) | (refine pwp_scope ?_) | ((first | refine pwp_region ?_ | refine pwp_quiet (by kernel_rfl) (by kernel_rfl) ?_ | refine pwp_exit ?_ | refine pwp_ret ?_ | refine pwp_skip ?_); simp only [push_cast, reduceIte, reduceCtorEq, Nat.reduceEqDiff, Nat.reduceLT, Nat.reduceLeDiff, Nat.reduceAdd, Nat.reduceSub, Nat.reduceMul, Nat.reduceBEq, Int.reduceLE, Int.reduceLT, Int.reduceEq, Int.reduceAdd, Int.reduceSub, Int.reduceMul, Int.reduceNeg, IntWalk.iteOmega, IntWalk.toNatUp]) | (refine pwp_cond ?_; simp only [push_cast, reduceIte, reduceCtorEq, Nat.reduceEqDiff, Nat.reduceLT, Nat.reduceLeDiff, Nat.reduceAdd, Nat.reduceSub, Nat.reduceMul, Nat.reduceBEq, Int.reduceLE, Int.reduceLT, Int.reduceEq, Int.reduceAdd, Int.reduceSub, Int.reduceMul, Int.reduceNeg, IntWalk.iteOmega, IntWalk.toNatUp]; try (refine ⟨fun h => ?_, fun h => ?_⟩ <;> (try simp only [decide_eq_true_eq, decide_eq_false_iff_not, Bool.not_eq_true', Bool.not_eq_false', Int.not_lt, Int.not_le, Nat.not_lt, Nat.not_le] at h) <;> (try (first | contradiction | (exfalso; omega) | exact nomatch (Eq.trans (Eq.symm h) (by assumption) : true = false) | exact nomatch (Eq.trans (Eq.symm h) (by assumption) : false = true))))))
  refine pwp_loop2 (α := Nat) (fun k => k ≤ c.modules.length) (fun k => ⟨[(10, .c (.v (.int .i64 k))), (9, .c (.v (.int .i64 c.modules.length))), (8, .c (.sl 6 (c.modules.map Mod.d))), (3, .c (.mp 1))], [.box 30 c.e, .map none true (modsE (c.modules.take k))]⟩) (fun k => c.modules.length - k) 0 (by omega) (by (refine weak_fg ?_; simp only [push_cast, reduceIte, reduceCtorEq, Nat.reduceEqDiff, Nat.reduceLT, Nat.reduceLeDiff, Nat.reduceAdd, Nat.reduceSub, Nat.reduceMul, Nat.reduceBEq, Int.reduceLE, Int.reduceLT, Int.reduceEq, Int.reduceAdd, Int.reduceSub, Int.reduceMul, Int.reduceNeg, IntWalk.iteOmega, IntWalk.toNatUp]); rfl) ?_
  intro k hk
  by_cases hlt : k < c.modules.length
  · have e1 := getD_lt c.modules hlt
    have hput : mput (modsE (c.modules.take k)) (.s (c.modules.getD k default).name) [.v (.string (c.modules.getD k default).name), .sl 1 ((c.modules.getD k default).aliases.map strD), .sl 1 ((c.modules.getD k default).needs.map strD), .sl 1 ((c.modules.getD k default).pre.map strD), .sl 1 ((c.modules.getD k default).post.map strD), .v (.bool (c.modules.getD k default).fails)] = modsE (c.modules.take (k + 1)) := by
      rw [e1]
      refine (mput_mods c.modules[k] (c.modules.take k) ?_).trans ?_
      · intro x hx he
        rw [List.mem_iff_getElem?] at hx
        obtain ⟨i, hi⟩ := hx
        rw [List.getElem?_take] at hi
        split at hi
        · rename_i hik
          have := (List.getElem?_inj (l := c.modules.map Mod.name) (i := i) (j := k) (by simp; omega) hnd).1 (by rw [List.getElem?_map, List.getElem?_map, hi, List.getElem?_eq_getElem hlt]; simp [he])
          omega
        · cases hi
      · rw [← List.take_succ_eq_append_getElem hlt]
    repeat' (first | (refine Kont.use (by assumption) ?_) | (refine pwp_seq fun K hK => ?_) | (refine pwp_block ?_) | (refine pwp_scope ?_) | ((first | refine pwp_region ?_ | refine pwp_quiet (by kernel_rfl) (by kernel_rfl) ?_ | refine pwp_exit ?_ | refine pwp_ret ?_ | refine pwp_skip ?_); simp only [push_cast, reduceIte, reduceCtorEq, Nat.reduceEqDiff, Nat.reduceLT, Nat.reduceLeDiff, Nat.reduceAdd, Nat.reduceSub, Nat.reduceMul, Nat.reduceBEq, Int.reduceLE, Int.reduceLT, Int.reduceEq, Int.reduceAdd, Int.reduceSub, Int.reduceMul, Int.reduceNeg, IntWalk.iteOmega, IntWalk.toNatUp, hput]) | (refine pwp_cond ?_; simp only [push_cast, reduceIte, reduceCtorEq, Nat.reduceEqDiff, Nat.reduceLT, Nat.reduceLeDiff, Nat.reduceAdd, Nat.reduceSub, Nat.reduceMul, Nat.reduceBEq, Int.reduceLE, Int.reduceLT, Int.reduceEq, Int.reduceAdd, Int.reduceSub, Int.reduceMul, Int.reduceNeg, IntWalk.iteOmega, IntWalk.toNatUp, hput]; try (refine ⟨fun h => ?_, fun h => ?_⟩ <;> (try simp only [decide_eq_true_eq, decide_eq_false_iff_not, Bool.not_eq_true', Bool.not_eq_false', Int.not_lt, Int.not_le, Nat.not_lt, Nat.not_le] at h) <;> (try (first | contradiction | (exfalso; omega) | exact nomatch (Eq.trans (Eq.symm h) (by assumption) : true = false) | exact nomatch (Eq.trans (Eq.symm h) (by assumption) : false = true))))))
    exact ⟨k + 1, by omega, by (refine weak_fg ?_; simp only [push_cast, reduceIte, reduceCtorEq, Nat.reduceEqDiff, Nat.reduceLT, Nat.reduceLeDiff, Nat.reduceAdd, Nat.reduceSub, Nat.reduceMul, Nat.reduceBEq, Int.reduceLE, Int.reduceLT, Int.reduceEq, Int.reduceAdd, Int.reduceSub, Int.reduceMul, Int.reduceNeg, IntWalk.iteOmega, IntWalk.toNatUp]), by omega⟩
  · repeat' (first | (refine Kont.use (by assumption) ?_) | (refine pwp_seq fun K hK => ?_) | (refine pwp_block ?_) | (refine pwp_scope ?_) | ((first | refine pwp_region ?_ | refine pwp_quiet (by kernel_rfl) (by kernel_rfl) ?_ | refine pwp_exit ?_ | refine pwp_ret ?_ | refine pwp_skip ?_); simp only [push_cast, reduceIte, reduceCtorEq, Nat.reduceEqDiff, Nat.reduceLT, Nat.reduceLeDiff, Nat.reduceAdd, Nat.reduceSub, Nat.reduceMul, Nat.reduceBEq, Int.reduceLE, Int.reduceLT, Int.reduceEq, Int.reduceAdd, Int.reduceSub, Int.reduceMul, Int.reduceNeg, IntWalk.iteOmega, IntWalk.toNatUp]) | (refine pwp_cond ?_; simp only [push_cast, reduceIte, reduceCtorEq, Nat.reduceEqDiff, Nat.reduceLT, Nat.reduceLeDiff, Nat.reduceAdd, Nat.reduceSub, Nat.reduceMul, Nat.reduceBEq, Int.reduceLE, Int.reduceLT, Int.reduceEq, Int.reduceAdd, Int.reduceSub, Int.reduceMul, Int.reduceNeg, IntWalk.iteOmega, IntWalk.toNatUp]; try (refine ⟨fun h => ?_, fun h => ?_⟩ <;> (try simp only [decide_eq_true_eq, decide_eq_false_iff_not, Bool.not_eq_true', Bool.not_eq_false', Int.not_lt, Int.not_le, Nat.not_lt, Nat.not_le] at h) <;> (try (first | contradiction | (exfalso; omega) | exact nomatch (Eq.trans (Eq.symm h) (by assumption) : true = false) | exact nomatch (Eq.trans (Eq.symm h) (by assumption) : false = true))))))
    (refine retK_of [1] ?_; simp only [push_cast, reduceIte, reduceCtorEq, Nat.reduceEqDiff, Nat.reduceLT, Nat.reduceLeDiff, Nat.reduceAdd, Nat.reduceSub, Nat.reduceMul, Nat.reduceBEq, Int.reduceLE, Int.reduceLT, Int.reduceEq, Int.reduceAdd, Int.reduceSub, Int.reduceMul, Int.reduceNeg, IntWalk.iteOmega, IntWalk.toNatUp])
    rw [List.take_of_length_le (by omega)]
end Go.Proofs.Ytdndljaaofkenaa
