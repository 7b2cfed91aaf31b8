/- What the program computes, and the plain laws of it, part 49. -/
import Derived.Test.YtcnoopjacilceaaGreatDoorQ46
import Derived.Test.YtcnoopjacilceaaGreatDoorQ48
namespace Go.Proofs.YtcnoopjacilceaaGreatDoor
open Go.RowKit
open IntWalk renaming iteOmega → iO, toNatUp → tN
set_option linter.unusedVariables false
set_option linter.unusedSimpArgs false
def OrdT (l : List Dev) : Prop := l.Pairwise fun a b => cmpL (origM l a.index) (origM l b.index) < 0
def NodT (l : List Dev) : Prop := ∀ a ∈ l, ∀ b ∈ l, hasN a = true → hasN b = true → nodeM a = nodeM b → a = b
theorem OrdT.nil : OrdT [] := List.Pairwise.nil
theorem NodT.nil : NodT [] := fun a ha => by cases ha
theorem atM_last (l : List Dev) (own : List ByteArray) : ∀ n, atM l own n = 0 ∨ cmpL (origM l (l.getD (atM l own n - 1) default).index) own < 0
  | 0 => by simp [atM]
  | n + 1 => by
    rw [atM_succ]
    split
    · rename_i h; exact .inr h
    · exact atM_last l own n
theorem ins_hi {l : List Dev} {d : Dev} (h : insErr l d = 0) : ∀ x ∈ l.drop (atM l (ownM l d) l.length), cmpL (ownM l d) (origM l x.index) < 0 := fun x hx => by
  obtain ⟨_, _, _, _, _, h6⟩ := ins_split h
  obtain ⟨i, hi, rfl⟩ := List.getElem_of_mem hx
  rw [List.length_drop] at hi
  have hb := h6 _ (List.mem_of_mem_drop hx)
  rw [List.getElem_drop] at hb ⊢
  unfold bad1 at hb
  rw [Bool.or_eq_false_iff] at hb
  have h0 : ¬ cmpL (origM l (l[atM l (ownM l d) l.length + i]'(by omega)).index) (ownM l d) = 0 := by simpa using hb.1
  have h1 : ¬ cmpL (origM l (l[atM l (ownM l d) l.length + i]'(by omega)).index) (ownM l d) < 0 := fun hc => by
    have hj : atM l (ownM l d) l.length + i < l.length := by omega
    rw [← getD_lt l hj] at hc
    have := atM_ge l (ownM l d) hc l.length hj
    omega
  rw [cmpL_anti]
  omega
theorem ins_lo {l : List Dev} {d : Dev} (ho : OrdT l) : ∀ x ∈ l.take (atM l (ownM l d) l.length), cmpL (origM l x.index) (ownM l d) < 0 := fun x hx => by
  have hle := atM_le l (ownM l d) l.length
  obtain ⟨i, hi, rfl⟩ := List.getElem_of_mem hx
  rw [List.length_take] at hi
  rw [List.getElem_take]
  rcases atM_last l (ownM l d) l.length with h0 | h0
  · omega
  · obtain ⟨k, hk⟩ : ∃ k, atM l (ownM l d) l.length = k := ⟨_, rfl⟩
    rw [hk] at hi h0 hle
    have hk1 : k - 1 < l.length := by omega
    rw [getD_lt l hk1] at h0
    by_cases e : i = k - 1
    · subst e; exact h0
    · exact cmpL_trans (List.pairwise_iff_getElem.1 ho i (k - 1) (by omega) hk1 (by omega)) h0
theorem own_orig {l : List Dev} (h : Okt l) {d : Dev} (hi : insErr l d = 0) : origM (insT l d) d.index = ownM l d := by
  obtain ⟨hok, hsame⟩ := h.ins hi
  obtain ⟨_, _, h3, _, _, _⟩ := ins_split hi
  have hmem : ∀ x, x ∈ insT l d ↔ x = d ∨ x ∈ l := fun x => put_mem
  rw [orig_step hok.p ((hmem d).2 (.inl rfl)), ownM]
  congr 1
  rcases h3 with h3 | h3
  · rw [h3, orig_none (find0 hok.pos (by omega)), orig_none (find0 h.pos (by omega))]
  · obtain ⟨j, e, hj, he⟩ := find_of_any h3
    rw [← he]
    exact hsame e (List.mem_of_getElem? hj)
theorem OrdT.ins {l : List Dev} (ho : OrdT l) (h : Okt l) {d : Dev} (hi : insErr l d = 0) : OrdT (insT l d) := by
  obtain ⟨hok, hsame⟩ := h.ins hi
  have hown := own_orig h hi
  have hlo := ins_lo (d := d) ho
  have hhi := ins_hi hi
  have ht : ∀ x ∈ l.take (atM l (ownM l d) l.length), x ∈ l := fun x hx => List.mem_of_mem_take hx
  have hd : ∀ x ∈ l.drop (atM l (ownM l d) l.length), x ∈ l := fun x hx => List.mem_of_mem_drop hx
  have key : (l.take (atM l (ownM l d) l.length) ++ ([d] ++ l.drop (atM l (ownM l d) l.length))).Pairwise fun a b => cmpL (origM (insT l d) a.index) (origM (insT l d) b.index) < 0 := by
    rw [List.pairwise_append]
    refine ⟨(List.Pairwise.sublist (List.take_sublist _ _) ho).imp_of_mem fun ha hb hab => by rw [hsame _ (ht _ ha), hsame _ (ht _ hb)]; exact hab, ?_, ?_⟩
    · rw [List.singleton_append, List.pairwise_cons]
      refine ⟨fun y hy => by rw [hown, hsame _ (hd _ hy)]; exact hhi y hy, (List.Pairwise.sublist (List.drop_sublist _ _) ho).imp_of_mem fun ha hb hab => by rw [hsame _ (hd _ ha), hsame _ (hd _ hb)]; exact hab⟩
    · intro x hx y hy
      rw [hsame _ (ht _ hx)]
      rcases List.mem_append.1 hy with hy | hy
      · rw [List.mem_singleton] at hy
        subst hy
        rw [hown]
        exact hlo x hx
      · rw [hsame _ (hd _ hy)]
        exact cmpL_trans (hlo x hx) (hhi y hy)
  unfold OrdT
  rw [← List.append_assoc] at key
  exact key
theorem NodT.ins {l : List Dev} (hn : NodT l) {d : Dev} (hi : insErr l d = 0) : NodT (insT l d) := by
  obtain ⟨_, _, _, _, _, h6⟩ := ins_split hi
  have hmem : ∀ x, x ∈ insT l d → x = d ∨ x ∈ l := fun x hx => put_mem.1 hx
  have hno : ∀ x ∈ l, hasN x = true → hasN d = true → nodeM x ≠ nodeM d := fun x hx h1 h2 e => by
    have := h6 x hx
    unfold bad1 clashM at this
    rw [h1, h2, e] at this
    simp at this
  intro a ha b hb h1 h2 e
  rcases hmem a ha with ea | ha' <;> rcases hmem b hb with eb | hb'
  · rw [ea, eb]
  · subst ea; exact absurd e.symm (hno b hb' h2 h1)
  · subst eb; exact absurd e (hno a ha' h1 h2)
  · exact hn a ha' b hb' h1 h2 e
end Go.Proofs.YtcnoopjacilceaaGreatDoor
namespace Go.Proofs.YtcnoopjacilceaaGreatDoor
attribute [local irreducible] PL QL PWPr PCalls Weak RetK Kontr PA
open Go.RowKit
open IntWalk renaming iteOmega → iO, toNatUp → tN
set_option linter.unusedVariables false
set_option linter.unusedSimpArgs false
set_option maxRecDepth 20000
structure TreeOk (l : List Dev) (n : Nat) : Prop where
  okt : Okt l
  len : l.length ≤ n
  dev : ∀ d ∈ l, d.ok ∧ d.original.size ≤ 10 + 2 * n ∧ d.index ≤ n
  att : ∀ d ∈ l, d.attrs.length ≤ 1000
  ord : OrdT l
  nod : NodT l
theorem TreeOk.nil (n : Nat) : TreeOk [] n := ⟨Okt.nil, Nat.zero_le _, fun d hd => by simp at hd, fun d hd => by simp at hd, OrdT.nil, NodT.nil⟩
theorem TreeOk.more {l : List Dev} {n m : Nat} (h : TreeOk l n) (hm : n ≤ m) : TreeOk l m := ⟨h.okt, by have := h.len; omega, fun d hd => ⟨(h.dev d hd).1, by have := (h.dev d hd).2.1; omega, by have := (h.dev d hd).2.2; omega⟩, h.att, h.ord, h.nod⟩
theorem insT_mem {l : List Dev} {d x : Dev} (h : x ∈ insT l d) : x = d ∨ x ∈ l := by unfold insT at h; exact put_mem.1 h
theorem insT_len (l : List Dev) (d : Dev) : (insT l d).length = l.length + 1 := by
  have := atM_le l (ownM l d) l.length
  unfold insT
  simp only [List.length_append, List.length_take, List.length_drop, List.length_cons, List.length_nil]
  omega
theorem TreeOk.ins {l : List Dev} {n : Nat} (h : TreeOk l n) {d : Dev} (he : insErr l d = 0) (hk : d.ok) (hz : d.original.size ≤ 10 + 2 * n + 2) (hi : d.index = ((n + 1 : Nat) : Int)) (ha : d.attrs.length ≤ 1000) : TreeOk (insT l d) (n + 1) := by
  refine ⟨(h.okt.ins he).1, by rw [insT_len]; have := h.len; omega, fun x hx => ?_, fun x hx => (insT_mem hx).elim (fun e => e ▸ ha) (h.att x), h.ord.ins h.okt he, h.nod.ins he⟩
  rcases insT_mem hx with rfl | hx
  · exact ⟨hk, by omega, by omega⟩
  · obtain ⟨a, b, c⟩ := h.dev x hx
    exact ⟨a, by omega, by omega⟩
set_option maxHeartbeats 4000000 in
theorem made_pure (L : List Int) (k n : Nat) (hk : k < 50000) (hn : n ≤ 10) (hL : ∀ x ∈ L, -9223372036854775808 ≤ x ∧ x ≤ 9223372036854775807) (hLl : L.length ≤ 9223372036854775807) :
    PCalls Tryz.prog 20 [.c (.ptr 0 0), .c (.v (.int .i64 n))] [tape L k] fun r os => ∃ (l : List Dev) (k' : Nat), TreeOk l n ∧ k' ≤ k + 12 * n ∧ r = .agg (trE l) ∧ os = [tape L k'] := by
  refine pcalls_of Tryz.func20 rfl (by simp [Tryz.ntmps20]) ?_
  rw [Tryz.ntmps20, Tryz.results20]
  push_cast [iO, tN]
  have cB : CutB 9 [] := trivial
  repeat' (first | ((first | refine pC ?_ | refine pQC ?_ | refine pU ?_); push_cast [iO, tN]) | (refine pif (fun h => ?_) (fun h => ?_) <;> first | exact pN h | push_cast [iO, tN]))
  (apply pwp_loop3 (α := Nat × List Dev × Nat) 9 [] (fun x => [(6, .c (.v (.int .i64 ((x.1 : Int) + 1))))]) (fun x => [(0, tape L x.2.2), (2, .box 25 (trE x.2.1))]) (fun x => x.1 ≤ n ∧ TreeOk x.2.1 x.1 ∧ x.2.2 ≤ k + 12 * x.1) (fun x => n - x.1) ((0, [], k)); (focus ((try push_cast [iO, tN]); rfl)); (focus exact ⟨Nat.zero_le _, TreeOk.nil _, Nat.le_refl _⟩); (focus ((refine weak_fg ?_; try push_cast [iO, tN]))))
  rintro ⟨i, l, k1⟩ ⟨h1, h2, h3⟩
  simp only at h1 h2 h3 ⊢
  push_cast [iO, tN]
  have hll := h2.len
  by_cases hlt : i < n
  case neg =>
    have hi : i = n := by omega
    have hc : ¬ (i : Int) + 1 ≤ (n : Int) := by omega
    subst hi
    repeat' (first | ((first | refine pC ?_ | refine pQC ?_ | refine pU ?_); push_cast [iO, tN, hc]) | (refine pif (fun h => ?_) (fun h => ?_) <;> first | exact pN h | push_cast [iO, tN, hc]))
    (refine retK_of [0] ?_; push_cast [iO, tN])
    exact ⟨_, _, leP_refl _, leOs_refl _, l, k1, h2, h3, rfl, rfl⟩
  have hc : (i : Int) + 1 ≤ (n : Int) := by omega
  have hzl : ∀ d ∈ l, d.original.size ≤ 10 + 2 * i := fun d hd => (h2.dev d hd).2.1
  have hzl2 : ∀ d ∈ l, d.original.size ≤ 100000 := fun d hd => by have := hzl d hd; omega
  have hdv := device_pure L k1 l ((i : Int) + 1) (10 + 2 * i) (by omega) (by omega) (by omega) (by omega) hzl (by omega) (by omega) hL hLl
  refine pwp_seq fun K1 hK1 => ?_
  refine pwp_seq fun K2 hK2 => ?_
  refine pwp_region ?_
  push_cast [iO, tN, hc]
  refine Kont.use (by assumption) ?_
  refine pwp_cond ?_
  push_cast [iO, tN, hc]
  refine pwp_skip ?_
  push_cast [iO, tN]
  refine Kont.use (by assumption) ?_
  refine pwp_seq fun K3 hK3 => ?_
  refine pwp_block ?_
  (apply pwp_mid4 (α := Int × List Dev × Nat) 9 [] (fun x => [(8, .c (.v (.int .i64 x.1))), (7, .c (.ptr 3 0))]) (fun x => [(0, tape L x.2.2)]) (fun x => [.box 25 (trE x.2.1)]) (fun x => (x.1 = 0 → TreeOk x.2.1 (i + 1)) ∧ x.2.2 ≤ k1 + 12) ((0, [], 0)); (focus ((try push_cast [iO, tN]); rfl)))
  · have hins : ∀ d : Dev, d.ok → d.original.size ≤ 10 + 2 * i + 2 → PCalls Tryz.prog 51 [.agg (trE l), .agg d.e] [] fun r os => r = .two (.agg (trE (if insErr l d = 0 then insT l d else []))) (.c (.v (.int .i64 (insErr l d)))) ∧ os = [] := fun d hd hz => rins_pure l d hd (by omega) hzl2 (by omega)
    (refine pwp_drawn (by kernel_rfl) ?_; try simp only [List.length_cons, List.length_nil, Nat.reduceAdd]; repeat' first | (refine plc [0] (hdv) ?_ ?_; push_cast [iO, tN]; rintro r os ⟨d, k2, ⟨e1, e2, e3, e5⟩, e4, rfl, rfl⟩; push_cast [iO, tN]) | (refine plc [] ((hins d e2 e3)) ?_ ?_; push_cast [iO, tN]; rintro r os ⟨rfl, rfl⟩; push_cast [iO, tN]) | ((first | refine pah 1 ?_ | refine pah 3 ?_ | refine pah 6 ?_ | refine pah 7 ?_ | refine pah 8 ?_ | refine pah 11 ?_); push_cast [iO, tN]) | (refine pad ?_; try push_cast [iO, tN]) | ((first | refine pas [0] ?_ | refine pas [2] ?_ | refine pas [4] ?_ | refine pas [5] ?_ | refine pas [9] ?_ | refine pas [10] ?_); push_cast [iO, tN]) | ((first | refine pas [0, 2] ?_ | refine pas [0, 4] ?_ | refine pas [0, 5] ?_ | refine pas [0, 9] ?_ | refine pas [0, 10] ?_ | refine pas [2, 4] ?_ | refine pas [2, 5] ?_ | refine pas [2, 9] ?_ | refine pas [2, 10] ?_ | refine pas [4, 5] ?_ | refine pas [4, 9] ?_ | refine pas [4, 10] ?_ | refine pas [5, 9] ?_ | refine pas [5, 10] ?_ | refine pas [9, 10] ?_); push_cast [iO, tN]; refine ⟨?_, ?_⟩) | ((first | refine pas [0, 2, 4] ?_ | refine pas [0, 2, 5] ?_ | refine pas [0, 2, 9] ?_ | refine pas [0, 2, 10] ?_ | refine pas [0, 4, 5] ?_ | refine pas [0, 4, 9] ?_ | refine pas [0, 4, 10] ?_ | refine pas [0, 5, 9] ?_ | refine pas [0, 5, 10] ?_ | refine pas [0, 9, 10] ?_ | refine pas [2, 4, 5] ?_ | refine pas [2, 4, 9] ?_ | refine pas [2, 4, 10] ?_ | refine pas [2, 5, 9] ?_ | refine pas [2, 5, 10] ?_ | refine pas [2, 9, 10] ?_ | refine pas [4, 5, 9] ?_ | refine pas [4, 5, 10] ?_ | refine pas [4, 9, 10] ?_ | refine pas [5, 9, 10] ?_); push_cast [iO, tN]; refine ⟨?_, ?_, ?_⟩))
    all_goals exact ⟨(insErr l d, (if insErr l d = 0 then insT l d else []), k2), ⟨fun h0 => by have h0' : insErr l d = 0 := h0; simp only; rw [if_pos h0']; exact h2.ins h0' e2 e3 (by rw [e1]; omega) e5, by simp only; omega⟩, by (refine weak_fg ?_; push_cast [iO, tN])⟩
  rintro ⟨err, l2, k2⟩ ⟨g1, g2⟩
  simp only at g1 g2
  push_cast [iO, tN]
  by_cases he : err = 0
  · repeat' (first | ((first | refine pC ?_ | refine pQC ?_ | refine pU ?_); push_cast [iO, tN, he]) | (refine pif (fun h => ?_) (fun h => ?_) <;> first | exact pN h | push_cast [iO, tN, he]))
    exact ⟨(i + 1, l2, k2), ⟨by simp only; omega, g1 he, by simp only; omega⟩, by (refine weak_fg ?_; push_cast [iO, tN]), by simp only; omega⟩
  · repeat' (first | ((first | refine pC ?_ | refine pQC ?_ | refine pU ?_); push_cast [iO, tN, he]) | (refine pif (fun h => ?_) (fun h => ?_) <;> first | exact pN h | push_cast [iO, tN, he]))
    exact ⟨(i + 1, l, k2), ⟨by simp only; omega, h2.more (by omega), by simp only; omega⟩, by (refine weak_fg ?_; push_cast [iO, tN]), by simp only; omega⟩
end Go.Proofs.YtcnoopjacilceaaGreatDoor
namespace Go.Proofs.YtcnoopjacilceaaGreatDoor
attribute [local irreducible] PL QL PWPr PCalls Weak RetK Kontr PA
open Go.RowKit
open IntWalk renaming iteOmega → iO, toNatUp → tN
set_option linter.unusedVariables false
set_option linter.unusedSimpArgs false
set_option maxRecDepth 20000
set_option maxHeartbeats 4000000 in
theorem some_pure (L : List Int) (k : Nat) (ls : List ByteArray) (hk : k < 500000) (hls : ls.length ≤ 1000) (hL : ∀ x ∈ L, -9223372036854775808 ≤ x ∧ x ≤ 9223372036854775807) (hLl : L.length ≤ 9223372036854775807) :
    PCalls Tryz.prog 55 [.c (.ptr 0 0), .c (.sl 1 (ls.map strD))] [tape L k] fun r os => ∃ out : List ByteArray, out.length ≤ ls.length ∧ r = .c (.sl 1 (out.map strD)) ∧ os = [tape L (k + ls.length)] := by
  have nex := fun (j : Nat) (hj : j < 1000000) (m : Int) (hm : 0 < m) (hm2 : m ≤ 9223372036854775807) => next_ex L j m hj hm hm2 hL hLl
  refine pcalls_of Tryz.func55 rfl (by simp [Tryz.ntmps55]) ?_
  rw [Tryz.ntmps55, Tryz.results55]
  push_cast [iO, tN]
  have cB : CutB 8 [8, 9, 10] := trivial
  repeat' (first | ((first | refine pC ?_ | refine pQC ?_ | refine pU ?_); push_cast [iO, tN]) | (refine pif (fun h => ?_) (fun h => ?_) <;> first | exact pN h | push_cast [iO, tN]))
  refine pwp_weak (weak_adopt 5 9 1 (by omega) (by push_cast [iO, tN])) ?_
  push_cast [iO, tN]
  (apply pwp_loop3 (α := Nat × List ByteArray × Nat) 8 [8, 9, 10] (fun x => [(10, .c (.v (.int .i64 x.1))), (5, .c (.own 1 (x.2.1.length)))]) (fun x => [(0, tape L x.2.2), (1, .arr 9 1 (x.2.1.map strD))]) (fun x => x.1 ≤ ls.length ∧ x.2.1.length ≤ x.1 ∧ x.2.2 = k + x.1) (fun x => ls.length - x.1) ((0, [], k)); (focus ((try push_cast [iO, tN]); rfl)); (focus exact ⟨Nat.zero_le _, Nat.le_refl _, rfl⟩); (focus ((refine weak_fg ?_; try push_cast [iO, tN]))))
  rintro ⟨j, out, q⟩ ⟨hj, hol, hq⟩
  simp only at hj hol hq
  push_cast [iO, tN]
  by_cases hlt : j < ls.length
  · repeat' (first |  ((refine plc [0] (nex q (by omega) 3 (by decide) (by decide)) ?_ ?_; push_cast [iO, tN]; rintro r os ⟨v, ⟨va, vb⟩, rfl, rfl⟩; push_cast [iO, tN]))  | ((first | refine pC ?_ | refine pQC ?_ | refine pU ?_); push_cast [iO, tN]) | (refine pif (fun h => ?_) (fun h => ?_) <;> first | exact pN h | push_cast [iO, tN]))
    · exact ⟨(j + 1, out ++ [ls.getD j default], q + 1), ⟨by simp only; omega, by simp only [List.length_append, List.length_singleton]; omega, by simp only; omega⟩, by (refine weak_fg ?_; push_cast [iO, tN]), by simp only; omega⟩
    · exact ⟨(j + 1, out, q + 1), ⟨by simp only; omega, by simp only; omega, by simp only; omega⟩, by (refine weak_fg ?_; push_cast [iO, tN]), by simp only; omega⟩
  · have hj2 : j = ls.length := by omega
    subst hj2
    subst hq
    refine pwp_seq fun K hK => ?_
    refine pC ?_
    push_cast [iO, tN]
    refine pU ?_
    refine pwp_weak (weak_frz 1 (by omega)) ?_
    push_cast [iO, tN]
    repeat' (first | ((first | refine pC ?_ | refine pQC ?_ | refine pU ?_); push_cast [iO, tN]) | (refine pif (fun h => ?_) (fun h => ?_) <;> first | exact pN h | push_cast [iO, tN]))
    (refine retK_of [0] ?_; push_cast [iO, tN])
    exact ⟨_, _, leP_refl _, leOs_refl _, out, hol, rfl, rfl⟩
end Go.Proofs.YtcnoopjacilceaaGreatDoor
