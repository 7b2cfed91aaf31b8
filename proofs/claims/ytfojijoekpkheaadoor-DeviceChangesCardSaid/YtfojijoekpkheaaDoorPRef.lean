/- The reference's Set; lists of attributes that are made. (pure walks) -/
import Derived.Test.YtfojijoekpkheaaDoorPSet
namespace Go.Proofs.YtfojijoekpkheaaDoor
attribute [local irreducible] PL QL PWP PCalls Weak RetK Kont
open Go.RowKit
set_option linter.unusedVariables false
set_option linter.unusedSimpArgs false
def stepA (n v : ByteArray) (s : List Atr × Bool) (x : Atr) : List Atr × Bool :=
  let s1 := if !s.2 && !bless x.name n then (s.1 ++ [⟨n, v⟩], true) else s
  if x.name = n then s1 else (s1.1 ++ [x], s1.2)
def toA (n v : ByteArray) (l : List Atr) : List Atr × Bool := l.foldl (stepA n v) ([], decide (v = ⟨#[]⟩))
def refA (l : List Atr) (n v : ByteArray) : List Atr := if (toA n v l).2 then (toA n v l).1 else (toA n v l).1 ++ [⟨n, v⟩]
theorem toA_snoc (n v : ByteArray) (l : List Atr) (x : Atr) : toA n v (l ++ [x]) = stepA n v (toA n v l) x := by simp [toA]
def refRound (n v : ByteArray) (l : List Atr) (x : Nat × List Atr × Bool) : Prop := x.1 ≤ l.length ∧ toA n v (l.take x.1) = x.2 ∧ x.2.1.length ≤ 2 * x.1
theorem refRound.next {n v : ByteArray} {l : List Atr} {k : Nat} {out : List Atr} {done : Bool} (h : refRound n v l (k, out, done)) (hk : k < l.length) {o2 : List Atr} {d2 : Bool}
    (hs : stepA n v (out, done) l[k] = (o2, d2)) : refRound n v l (k + 1, o2, d2) := by
  obtain ⟨h1, h2, h3⟩ := h
  simp only at h1 h2 h3
  refine ⟨by simp only; omega, ?_, ?_⟩
  · simp only
    rw [List.take_succ_eq_append_getElem hk, toA_snoc, h2, hs]
  · simp only
    have : o2.length ≤ out.length + 2 := by
      have := congrArg (fun p => p.1.length) hs
      simp only [stepA] at this
      split at this <;> split at this <;> simp at this <;> omega
    omega
theorem refset_pure (l : List Atr) (n v : ByteArray) (hb : l.length ≤ 1000000000) :
    PCalls Tryd.prog 22 [.c (.sl 2 (l.map Atr.d)), .c (.v (.string n)), .c (.v (.string v))] [] fun r os => r = .c (.own 0 (refA l n v).length) ∧ os = [.arr 50 2 ((refA l n v).map Atr.d)] := by
  refine pcalls_of Tryd.func22 rfl (by simp [Tryd.ntmps22]) ?_
  rw [Tryd.ntmps22, Tryd.results22]
  push_cast [eq_self, iff_self, IntWalk.iteOmega, IntWalk.toNatUp]
  repeat' (first | (refine Kont.use (by assumption) ?_) | (refine pwp_seq fun K hK => ?_) | (refine pwp_block ?_) | (refine pwp_scope ?_) | ((first | refine pwp_region ?_ | refine pwp_quiet (by kernel_rfl) (by kernel_rfl) ?_ | refine pwp_exit ?_ | refine pwp_ret ?_ | refine pwp_skip ?_); push_cast [eq_self, iff_self, IntWalk.iteOmega, IntWalk.toNatUp]) | (refine pwp_cond ?_; push_cast [eq_self, iff_self, IntWalk.iteOmega, IntWalk.toNatUp]; try (refine ⟨fun h => ?_, fun h => ?_⟩ <;> (try simp only [decide_eq_true_eq, decide_eq_false_iff_not, Bool.not_eq_true', Bool.not_eq_false', Int.not_lt, Int.not_le, Nat.not_lt, Nat.not_le] at h) <;> (try (first | contradiction | (exfalso; omega) | exact nomatch (Eq.trans (Eq.symm h) (by assumption) : true = false) | exact nomatch (Eq.trans (Eq.symm h) (by assumption) : false = true))))))
  refine pwp_weak (weak_adopt 7 50 2 (by omega) (by push_cast [eq_self, iff_self, IntWalk.iteOmega, IntWalk.toNatUp])) ?_
  push_cast [eq_self, iff_self, IntWalk.iteOmega, IntWalk.toNatUp]
  refine pwp_loop2 (α := Nat × List Atr × Bool) (refRound n v l) (fun x => ⟨[(9, .c (.v (.int .i64 x.1))), (8, .c (.v (.bool x.2.2))), (7, .c (.own 0 x.2.1.length)), (0, .c (.sl 2 (l.map Atr.d))), (1, .c (.v (.string n))), (2, .c (.v (.string v)))], [.arr 50 2 (x.2.1.map Atr.d)]⟩) (fun x => l.length - x.1) (0, [], decide (v = ⟨#[]⟩)) ⟨by simp, rfl, by simp⟩ (by (refine weak_fg ?_; push_cast [eq_self, iff_self, IntWalk.iteOmega, IntWalk.toNatUp])) ?_
  rintro ⟨k, out, done⟩ hr
  obtain ⟨hk, ht, hlen⟩ := id hr
  simp only at hk ht hlen
  by_cases hlt : k < l.length
  · have e1 := getD_lt l hlt
    cases done
    · cases hc : bless l[k].name n
      · have hc' : bless (l.getD k default).name n = false := by rw [e1]; exact hc
        repeat' (first | (refine Kont.use (by assumption) ?_) | (refine pwp_seq fun K hK => ?_) | (refine pwp_block ?_) | (refine pwp_scope ?_) | ((first | refine pwp_region ?_ | refine pwp_quiet (by kernel_rfl) (by kernel_rfl) ?_ | refine pwp_exit ?_ | refine pwp_ret ?_ | refine pwp_skip ?_); push_cast [eq_self, iff_self, IntWalk.iteOmega, IntWalk.toNatUp]) | (refine pwp_cond ?_; push_cast [eq_self, iff_self, IntWalk.iteOmega, IntWalk.toNatUp]; try (refine ⟨fun h => ?_, fun h => ?_⟩ <;> (try simp only [decide_eq_true_eq, decide_eq_false_iff_not, Bool.not_eq_true', Bool.not_eq_false', Int.not_lt, Int.not_le, Nat.not_lt, Nat.not_le] at h) <;> (try (first | contradiction | (exfalso; omega) | exact nomatch (Eq.trans (Eq.symm h) (by assumption) : true = false) | exact nomatch (Eq.trans (Eq.symm h) (by assumption) : false = true))))))
        · rename_i h
          rw [e1] at h
          refine ⟨(k + 1, out ++ [⟨n, v⟩] ++ [l[k]], true), hr.next hlt (by simp [stepA, hc, h]), ?_, by simp only; omega⟩
          rw [← e1]
          (refine weak_fg ?_; push_cast [eq_self, iff_self, IntWalk.iteOmega, IntWalk.toNatUp])
        · rename_i h
          rw [e1] at h
          exact ⟨(k + 1, out ++ [⟨n, v⟩], true), hr.next hlt (by simp [stepA, hc, h]), by (refine weak_fg ?_; push_cast [eq_self, iff_self, IntWalk.iteOmega, IntWalk.toNatUp]), by simp only; omega⟩
      · have hc' : bless (l.getD k default).name n = true := by rw [e1]; exact hc
        repeat' (first | (refine Kont.use (by assumption) ?_) | (refine pwp_seq fun K hK => ?_) | (refine pwp_block ?_) | (refine pwp_scope ?_) | ((first | refine pwp_region ?_ | refine pwp_quiet (by kernel_rfl) (by kernel_rfl) ?_ | refine pwp_exit ?_ | refine pwp_ret ?_ | refine pwp_skip ?_); push_cast [eq_self, iff_self, IntWalk.iteOmega, IntWalk.toNatUp]) | (refine pwp_cond ?_; push_cast [eq_self, iff_self, IntWalk.iteOmega, IntWalk.toNatUp]; try (refine ⟨fun h => ?_, fun h => ?_⟩ <;> (try simp only [decide_eq_true_eq, decide_eq_false_iff_not, Bool.not_eq_true', Bool.not_eq_false', Int.not_lt, Int.not_le, Nat.not_lt, Nat.not_le] at h) <;> (try (first | contradiction | (exfalso; omega) | exact nomatch (Eq.trans (Eq.symm h) (by assumption) : true = false) | exact nomatch (Eq.trans (Eq.symm h) (by assumption) : false = true))))))
        · rename_i h
          rw [e1] at h
          refine ⟨(k + 1, out ++ [l[k]], false), hr.next hlt (by simp [stepA, hc, h]), ?_, by simp only; omega⟩
          rw [← e1]
          (refine weak_fg ?_; push_cast [eq_self, iff_self, IntWalk.iteOmega, IntWalk.toNatUp])
        · rename_i h
          rw [e1] at h
          exact ⟨(k + 1, out, false), hr.next hlt (by simp [stepA, hc, h]), by (refine weak_fg ?_; push_cast [eq_self, iff_self, IntWalk.iteOmega, IntWalk.toNatUp]), by simp only; omega⟩
    · repeat' (first | (refine Kont.use (by assumption) ?_) | (refine pwp_seq fun K hK => ?_) | (refine pwp_block ?_) | (refine pwp_scope ?_) | ((first | refine pwp_region ?_ | refine pwp_quiet (by kernel_rfl) (by kernel_rfl) ?_ | refine pwp_exit ?_ | refine pwp_ret ?_ | refine pwp_skip ?_); push_cast [eq_self, iff_self, IntWalk.iteOmega, IntWalk.toNatUp]) | (refine pwp_cond ?_; push_cast [eq_self, iff_self, IntWalk.iteOmega, IntWalk.toNatUp]; try (refine ⟨fun h => ?_, fun h => ?_⟩ <;> (try simp only [decide_eq_true_eq, decide_eq_false_iff_not, Bool.not_eq_true', Bool.not_eq_false', Int.not_lt, Int.not_le, Nat.not_lt, Nat.not_le] at h) <;> (try (first | contradiction | (exfalso; omega) | exact nomatch (Eq.trans (Eq.symm h) (by assumption) : true = false) | exact nomatch (Eq.trans (Eq.symm h) (by assumption) : false = true))))))
      · rename_i h
        rw [e1] at h
        refine ⟨(k + 1, out ++ [l[k]], true), hr.next hlt (by simp [stepA, h]), ?_, by simp only; omega⟩
        rw [← e1]
        (refine weak_fg ?_; push_cast [eq_self, iff_self, IntWalk.iteOmega, IntWalk.toNatUp])
      · rename_i h
        rw [e1] at h
        exact ⟨(k + 1, out, true), hr.next hlt (by simp [stepA, h]), by (refine weak_fg ?_; push_cast [eq_self, iff_self, IntWalk.iteOmega, IntWalk.toNatUp]), by simp only; omega⟩
  · have ht' : toA n v l = (out, done) := by rwa [List.take_of_length_le (by omega)] at ht
    cases done
    · repeat' (first | (refine Kont.use (by assumption) ?_) | (refine pwp_seq fun K hK => ?_) | (refine pwp_block ?_) | (refine pwp_scope ?_) | ((first | refine pwp_region ?_ | refine pwp_quiet (by kernel_rfl) (by kernel_rfl) ?_ | refine pwp_exit ?_ | refine pwp_ret ?_ | refine pwp_skip ?_); push_cast [eq_self, iff_self, IntWalk.iteOmega, IntWalk.toNatUp]) | (refine pwp_cond ?_; push_cast [eq_self, iff_self, IntWalk.iteOmega, IntWalk.toNatUp]; try (refine ⟨fun h => ?_, fun h => ?_⟩ <;> (try simp only [decide_eq_true_eq, decide_eq_false_iff_not, Bool.not_eq_true', Bool.not_eq_false', Int.not_lt, Int.not_le, Nat.not_lt, Nat.not_le] at h) <;> (try (first | contradiction | (exfalso; omega) | exact nomatch (Eq.trans (Eq.symm h) (by assumption) : true = false) | exact nomatch (Eq.trans (Eq.symm h) (by assumption) : false = true))))))
      (refine retK_of [0] ?_; push_cast [eq_self, iff_self, IntWalk.iteOmega, IntWalk.toNatUp])
      simp [refA, ht', Atr.d]
    · repeat' (first | (refine Kont.use (by assumption) ?_) | (refine pwp_seq fun K hK => ?_) | (refine pwp_block ?_) | (refine pwp_scope ?_) | ((first | refine pwp_region ?_ | refine pwp_quiet (by kernel_rfl) (by kernel_rfl) ?_ | refine pwp_exit ?_ | refine pwp_ret ?_ | refine pwp_skip ?_); push_cast [eq_self, iff_self, IntWalk.iteOmega, IntWalk.toNatUp]) | (refine pwp_cond ?_; push_cast [eq_self, iff_self, IntWalk.iteOmega, IntWalk.toNatUp]; try (refine ⟨fun h => ?_, fun h => ?_⟩ <;> (try simp only [decide_eq_true_eq, decide_eq_false_iff_not, Bool.not_eq_true', Bool.not_eq_false', Int.not_lt, Int.not_le, Nat.not_lt, Nat.not_le] at h) <;> (try (first | contradiction | (exfalso; omega) | exact nomatch (Eq.trans (Eq.symm h) (by assumption) : true = false) | exact nomatch (Eq.trans (Eq.symm h) (by assumption) : false = true))))))
      (refine retK_of [0] ?_; push_cast [eq_self, iff_self, IntWalk.iteOmega, IntWalk.toNatUp])
      simp [refA, ht']
end Go.Proofs.YtfojijoekpkheaaDoor
