/- What the program computes, and the plain laws of it, part 36. -/
import Derived.Lib.Join
import Derived.Test.YthconflkbeipoaaGreatDoorQ30
import Derived.Test.YthconflkbeipoaaGreatDoorQ35
namespace Go.Proofs.YthconflkbeipoaaGreatDoor
attribute [local irreducible] PL QL PWPr PCalls Weak RetK Kontr PA
open Go.RowKit
open IntWalk renaming iteOmega → iO, toNatUp → tN
set_option linter.unusedVariables false
set_option linter.unusedSimpArgs false
set_option maxRecDepth 20000
def idxI : List Dev → Int → Int
  | [], _ => -1
  | d :: l, n => if d.index = n then 0 else if idxI l n < 0 then -1 else idxI l n + 1
theorem idxI_find (n : Int) : ∀ l : List Dev, (idxI l n = -1 ∧ findD l n = none) ∨ ∃ i : Nat, idxI l n = i ∧ i < l.length ∧ findD l n = some (l.getD i default)
  | [] => .inl ⟨rfl, rfl⟩
  | d :: l => by
    by_cases h : d.index = n
    · exact .inr ⟨0, by simp [idxI, h], by simp, by simp [findD, h]⟩
    · have hf : findD (d :: l) n = findD l n := by unfold findD; rw [List.find?_cons_of_neg (by simpa using h)]
      rw [hf, idxI, if_neg h]
      rcases idxI_find n l with ⟨h1, h2⟩ | ⟨i, h1, h2, h3⟩
      · exact .inl ⟨by rw [h1]; rfl, h2⟩
      · exact .inr ⟨i + 1, by rw [h1, if_neg (by omega)]; omega, by simp only [List.length_cons]; omega, by rw [h3]; rfl⟩
theorem idxI_skip {n : Int} {b : List Dev} : ∀ {a : List Dev}, (∀ d ∈ a, d.index ≠ n) → idxI (a ++ b) n = if idxI b n < 0 then -1 else a.length + idxI b n
  | [], _ => by
    rcases idxI_find n b with ⟨h1, _⟩ | ⟨i, h1, _⟩
    · simp [h1]
    · rw [List.nil_append, h1, if_neg (by omega)]; simp
  | x :: a, h => by
    rw [List.cons_append, idxI, if_neg (h x (by simp)), idxI_skip fun d hd => h d (by simp [hd])]
    split
    · simp
    · rw [if_neg (by omega), List.length_cons]; omega
theorem idxI_at {l : List Dev} {n : Int} {k : Nat} (hk : k < l.length) (h0 : ∀ d ∈ l.take k, d.index ≠ n) (h : (l.getD k default).index = n) : idxI l n = k := by
  have e : l = l.take k ++ l[k] :: l.drop (k + 1) := by rw [← List.drop_eq_getElem_cons hk, List.take_append_drop]
  rw [getD_lt l hk] at h
  rw [e, idxI_skip h0, idxI, if_pos h, List.length_take]
  simp
  omega
theorem idxI_none {l : List Dev} {n : Int} (h : ∀ d ∈ l, d.index ≠ n) : idxI l n = -1 := by
  rcases idxI_find n l with ⟨h1, _⟩ | ⟨i, _, h2, h3⟩
  · exact h1
  · rw [findD_none.2 h] at h3; cases h3
theorem dnext {l : List Dev} {n : Int} {k : Nat} (hk : k < l.length) (h0 : ∀ d ∈ l.take k, d.index ≠ n) (h : ¬ (l.getD k default).index = n) : ∀ d ∈ l.take (k + 1), d.index ≠ n := by
  intro y hy
  rw [List.take_succ_eq_append_getElem hk, List.mem_append, List.mem_singleton] at hy
  rcases hy with hy | hy
  · exact h0 y hy
  · rw [hy, ← getD_lt l hk]; exact h
set_option maxHeartbeats 1000000 in
theorem rindex_pure (l : List Dev) (n : Int) (hl : l.length ≤ 1000000000) :
    PCalls Tryz.prog 126 [.c (.sl 10 (l.map Dev.d)), .c (.v (.int .i64 n))] [] fun r os => r = .c (.v (.int .i64 (idxI l n))) ∧ os = [] := by
  refine pcalls_of Tryz.func126 rfl (by simp [Tryz.ntmps126]) ?_
  rw [Tryz.ntmps126, Tryz.results126]
  push_cast [iO, tN]
  have cB : CutB 6 [] := trivial
  repeat' (first | ((first | refine pC ?_ | refine pQC ?_ | refine pU ?_); push_cast [iO, tN]) | (refine pif (fun h => ?_) (fun h => ?_) <;> first | exact pN h | push_cast [iO, tN]))
  (apply pwp_loop3 (α := Nat) 6 [] (fun k => [(5, .c (.v (.int .i64 k)))]) (fun k => []) (fun k => k ≤ l.length ∧ ∀ d ∈ l.take k, d.index ≠ n) (fun k => l.length - k) (0); (focus ((try push_cast [iO, tN]); rfl)); (focus exact ⟨by omega, by simp⟩); (focus ((refine weak_fg ?_; try push_cast [iO, tN]))))
  rintro k ⟨hk, h0⟩
  push_cast [iO, tN]
  by_cases hlt : k < l.length
  · by_cases hn : (l.getD k default).index = n
    · have hg := idxI_at hlt h0 hn
      have hn' := eq_true hn
      repeat' (first | ((first | refine pC ?_ | refine pQC ?_ | refine pU ?_); push_cast [iO, tN, hn']) | (refine pif (fun h => ?_) (fun h => ?_) <;> first | exact pN h | push_cast [iO, tN, hn']))
      (refine retK_of [] ?_; push_cast [iO, tN])
      all_goals rw [hg]
    · have h1 := dnext hlt h0 hn
      repeat' (first | ((first | refine pC ?_ | refine pQC ?_ | refine pU ?_); push_cast [iO, tN, hn]) | (refine pif (fun h => ?_) (fun h => ?_) <;> first | exact pN h | push_cast [iO, tN, hn]))
      exact ⟨k + 1, ⟨by omega, h1⟩, by (refine weak_fg ?_; push_cast [iO, tN]), by omega⟩
  · rw [List.take_of_length_le (by omega)] at h0
    have hg := idxI_none h0
    repeat' (first | ((first | refine pC ?_ | refine pQC ?_ | refine pU ?_); push_cast [iO, tN]) | (refine pif (fun h => ?_) (fun h => ?_) <;> first | exact pN h | push_cast [iO, tN]))
    (refine retK_of [] ?_; push_cast [iO, tN])
    all_goals rw [hg]
set_option maxHeartbeats 1000000 in
theorem rfind_pure (l : List Dev) (n : Int) (hl : l.length ≤ 1000000000) :
    PCalls Tryz.prog 133 [.agg (trE l), .c (.v (.int .i64 n))] [] fun r os => r = .two (.agg ((findD l n).getD default).e) (.c (.v (.bool ((findD l n).isSome)))) ∧ os = [] := by
  have hi := rindex_pure l n hl
  refine pcalls_of Tryz.func133 rfl (by simp [Tryz.ntmps133]) ?_
  rw [Tryz.ntmps133, Tryz.results133]
  rcases idxI_find n l with ⟨h1, h2⟩ | ⟨i, h1, h2, h3⟩
  · rw [h1] at hi
    rw [h2]
    push_cast [iO, tN]
    repeat' (first |  (refine plc [] (hi) ?_ ?_; push_cast [iO, tN]; rintro r os ⟨rfl, rfl⟩; push_cast [iO, tN])  | ((first | refine pG ?_ | refine pQ ?_ | refine pU ?_); push_cast [iO, tN]) | (refine pif (fun h => ?_) (fun h => ?_) <;> first | exact pN h | push_cast [iO, tN]))
    (refine retK_of [] ?_; push_cast [iO, tN])
    all_goals exact ⟨⟨rfl, rfl, rfl, rfl, rfl, rfl, rfl, rfl, rfl, rfl⟩, rfl⟩
  · rw [h1] at hi
    rw [h3]
    push_cast [iO, tN]
    repeat' (first |  (refine plc [] (hi) ?_ ?_; push_cast [iO, tN]; rintro r os ⟨rfl, rfl⟩; push_cast [iO, tN])  | ((first | refine pG ?_ | refine pQ ?_ | refine pU ?_); push_cast [iO, tN]) | (refine pif (fun h => ?_) (fun h => ?_) <;> first | exact pN h | push_cast [iO, tN]))
    (refine retK_of [] ?_; push_cast [iO, tN])
    all_goals exact ⟨⟨rfl, rfl, rfl, rfl, rfl, rfl, rfl, rfl, rfl, rfl⟩, rfl⟩
end Go.Proofs.YthconflkbeipoaaGreatDoor
namespace Go.Proofs.YthconflkbeipoaaGreatDoor
attribute [local irreducible] PL QL PWPr PCalls Weak RetK Kontr PA
open Go.RowKit
open IntWalk renaming iteOmega → iO, toNatUp → tN
set_option linter.unusedVariables false
set_option linter.unusedSimpArgs false
set_option maxRecDepth 20000
set_option maxHeartbeats 1000000 in
theorem rchain_pure (l : List Dev) (n : Int) (hl : l.length ≤ 1000000) :
    PCalls Tryz.prog 130 [.agg (trE l), .c (.v (.int .i64 n))] [] fun r os => r = .c (.sl 10 ((chainM l n).map Dev.d)) ∧ os = [] := by
  refine pcalls_of Tryz.func130 rfl (by simp [Tryz.ntmps130]) ?_
  rw [Tryz.ntmps130, Tryz.results130]
  push_cast [iO, tN]
  have cB : CutB 8 [] := trivial
  repeat' (first | ((first | refine pC ?_ | refine pQC ?_ | refine pU ?_); push_cast [iO, tN]) | (refine pif (fun h => ?_) (fun h => ?_) <;> first | exact pN h | push_cast [iO, tN]))
  refine pwp_weak (weak_adopt 5 49 10 (by omega) (by push_cast [iO, tN])) ?_
  push_cast [iO, tN]
  (apply pwp_loop3 (α := List Dev × Int) 8 [] (fun x => [(1, .c (.v (.int .i64 x.2))), (5, .c (.own 1 (x.1.length)))]) (fun x => [(1, .arr 49 10 (x.1.map Dev.d))]) (fun x => x.1 ++ chainGo l (l.length - x.1.length) x.2 = chainM l n ∧ x.1.length ≤ l.length) (fun x => l.length - x.1.length) (([], n)); (focus ((try push_cast [iO, tN]); rfl)); (focus exact ⟨by simp [chainM], by simp⟩); (focus ((refine weak_fg ?_; try push_cast [iO, tN]))))
  rintro ⟨acc, m⟩ ⟨h1, h2⟩
  simp only at h1 h2
  push_cast [iO, tN]
  by_cases hlt : acc.length < l.length
  · have hf := rfind_pure l m (by omega)
    obtain ⟨k, hk⟩ : ∃ k, l.length - acc.length = k + 1 := ⟨l.length - acc.length - 1, by omega⟩
    rw [hk] at h1
    cases hx : findD l m with
    | none =>
      simp only [hx, Option.getD_none, Option.isSome_none] at hf
      rw [chainGo, hx] at h1
      simp only [List.append_nil] at h1
      repeat' (first |  (refine plc [] (hf) ?_ ?_; push_cast [iO, tN]; rintro r os ⟨rfl, rfl⟩; push_cast [iO, tN])  | ((first | refine pC ?_ | refine pQC ?_ | refine pU ?_); push_cast [iO, tN]) | (refine pif (fun h => ?_) (fun h => ?_) <;> first | exact pN h | push_cast [iO, tN]))
      (refine retK_of [] ?_; push_cast [iO, tN])
      all_goals rw [h1]
    | some d =>
      simp only [hx, Option.getD_some, Option.isSome_some] at hf
      rw [chainGo_some hx] at h1
      repeat' (first |  (refine plc [] (hf) ?_ ?_; push_cast [iO, tN]; rintro r os ⟨rfl, rfl⟩; push_cast [iO, tN])  | ((first | refine pC ?_ | refine pQC ?_ | refine pU ?_); push_cast [iO, tN]) | (refine pif (fun h => ?_) (fun h => ?_) <;> first | exact pN h | push_cast [iO, tN]))
      refine ⟨(acc ++ [d], d.parent), ⟨?_, by simp only [List.length_append, List.length_cons, List.length_nil]; omega⟩, by (refine weak_fg ?_; push_cast [iO, tN]), by simp only [List.length_append, List.length_cons, List.length_nil]; omega⟩
      simp only [List.length_append, List.length_cons, List.length_nil, List.append_assoc, List.singleton_append]
      rw [show l.length - (acc.length + (0 + 1)) = k by omega]
      exact h1
  · have hk : l.length - acc.length = 0 := by omega
    rw [hk, chainGo, List.append_nil] at h1
    repeat' (first | ((first | refine pC ?_ | refine pQC ?_ | refine pU ?_); push_cast [iO, tN]) | (refine pif (fun h => ?_) (fun h => ?_) <;> first | exact pN h | push_cast [iO, tN]))
    (refine retK_of [] ?_; push_cast [iO, tN])
    all_goals rw [h1]
set_option maxHeartbeats 1000000 in
theorem rorigin_pure (l : List Dev) (n : Int) (hl : l.length ≤ 1000000) :
    PCalls Tryz.prog 93 [.agg (trE l), .c (.v (.int .i64 n))] [] fun r os => r = .c (.own 0 ((origM l n).length)) ∧ os = [.arr 9 1 ((origM l n).map strD)] := by
  have hc := rchain_pure l n hl
  have hcl := chain_len l n
  unfold origM
  obtain ⟨c, hcc⟩ : ∃ c, chainM l n = c := ⟨_, rfl⟩
  rw [hcc] at hc hcl ⊢
  refine pcalls_of Tryz.func93 rfl (by simp [Tryz.ntmps93]) ?_
  rw [Tryz.ntmps93, Tryz.results93]
  push_cast [iO, tN]
  have cB : CutB 8 [] := trivial
  repeat' (first |  (refine plc [] (hc) ?_ ?_; push_cast [iO, tN]; rintro r os ⟨rfl, rfl⟩; push_cast [iO, tN])  | ((first | refine pC ?_ | refine pQC ?_ | refine pU ?_); push_cast [iO, tN]) | (refine pif (fun h => ?_) (fun h => ?_) <;> first | exact pN h | push_cast [iO, tN]))
  refine pwp_weak (weak_adopt 5 9 1 (by omega) (by push_cast [iO, tN])) ?_
  push_cast [iO, tN]
  (apply pwp_loop3 (α := Nat × List ByteArray) 8 [] (fun x => [(7, .c (.v (.int .i64 ((x.1 : Int) - 1)))), (5, .c (.own 1 (x.2.length)))]) (fun x => [(1, .arr 9 1 (x.2.map strD))]) (fun x => x.1 ≤ c.length ∧ x.2 = ((c.drop x.1).map Dev.original).reverse) (fun x => x.1) ((c.length, [])); (focus ((try push_cast [iO, tN]); rfl)); (focus exact ⟨Nat.le_refl _, by simp⟩); (focus ((refine weak_fg ?_; try push_cast [iO, tN]))))
  rintro ⟨k, out⟩ ⟨hk, ho⟩
  simp only at hk ho
  have hol : out.length ≤ c.length := by rw [ho, List.length_reverse, List.length_map, List.length_drop]; omega
  cases k with
  | zero =>
    rw [List.drop_zero] at ho
    push_cast [iO, tN]
    repeat' (first | ((first | refine pC ?_ | refine pQC ?_ | refine pU ?_); push_cast [iO, tN]) | (refine pif (fun h => ?_) (fun h => ?_) <;> first | exact pN h | push_cast [iO, tN]))
    (refine retK_of [1] ?_; push_cast [iO, tN])
    all_goals rw [ho]
    all_goals simp
  | succ k =>
    have hlt : k < c.length := by omega
    have hd : out ++ [(c.getD k default).original] = ((c.drop k).map Dev.original).reverse := by
      rw [ho, List.drop_eq_getElem_cons hlt, getD_lt c hlt, List.map_cons, List.reverse_cons]
    have hi : ((k + 1 : Nat) : Int) - 1 = (k : Int) := by omega
    simp only [hi]
    push_cast [iO, tN]
    repeat' (first | ((first | refine pC ?_ | refine pQC ?_ | refine pU ?_); push_cast [iO, tN]) | (refine pif (fun h => ?_) (fun h => ?_) <;> first | exact pN h | push_cast [iO, tN]))
    exact ⟨(k, out ++ [(c.getD k default).original]), ⟨by simp only; omega, hd⟩, by (refine weak_fg ?_; push_cast [iO, tN]), by simp only; omega⟩
end Go.Proofs.YthconflkbeipoaaGreatDoor
