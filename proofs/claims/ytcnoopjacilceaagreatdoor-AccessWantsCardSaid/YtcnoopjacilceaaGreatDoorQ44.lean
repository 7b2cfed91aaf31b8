/- What the program computes, and the plain laws of it, part 44. -/
import Derived.Test.YtcnoopjacilceaaGreatDoorQ33
import Derived.Test.YtcnoopjacilceaaGreatDoorQ38
import Derived.Test.YtcnoopjacilceaaGreatDoorQ39
import Derived.Test.YtcnoopjacilceaaGreatDoorQ41
import Derived.Test.YtcnoopjacilceaaGreatDoorQ43
namespace Go.Proofs.YtcnoopjacilceaaGreatDoor
attribute [local irreducible] PL QL PWPr PCalls Weak RetK Kontr PA
open Go.RowKit
open IntWalk renaming iteOmega → iO, toNatUp → tN
set_option linter.unusedVariables false
set_option linter.unusedSimpArgs false
set_option maxRecDepth 20000
structure TreeOk (l : List Dev) (n : Nat) : Prop where
  okt : Okt l
  len : l.length ≤ n
  dev : ∀ d ∈ l, d.ok ∧ d.original.size ≤ 10 + 2 * n ∧ d.index ≤ n
  att : ∀ d ∈ l, d.attrs.length ≤ 1000
theorem TreeOk.nil (n : Nat) : TreeOk [] n := ⟨Okt.nil, Nat.zero_le _, fun d hd => by simp at hd, fun d hd => by simp at hd⟩
theorem TreeOk.more {l : List Dev} {n m : Nat} (h : TreeOk l n) (hm : n ≤ m) : TreeOk l m := ⟨h.okt, by have := h.len; omega, fun d hd => ⟨(h.dev d hd).1, by have := (h.dev d hd).2.1; omega, by have := (h.dev d hd).2.2; omega⟩, h.att⟩
theorem insT_mem {l : List Dev} {d x : Dev} (h : x ∈ insT l d) : x = d ∨ x ∈ l := by unfold insT at h; exact put_mem.1 h
theorem insT_len (l : List Dev) (d : Dev) : (insT l d).length = l.length + 1 := by
  have := atM_le l (ownM l d) l.length
  unfold insT
  simp only [List.length_append, List.length_take, List.length_drop, List.length_cons, List.length_nil]
  omega
theorem TreeOk.ins {l : List Dev} {n : Nat} (h : TreeOk l n) {d : Dev} (he : insErr l d = 0) (hk : d.ok) (hz : d.original.size ≤ 10 + 2 * n + 2) (hi : d.index = ((n + 1 : Nat) : Int)) (ha : d.attrs.length ≤ 1000) : TreeOk (insT l d) (n + 1) := by
  refine ⟨(h.okt.ins he).1, by rw [insT_len]; have := h.len; omega, fun x hx => ?_, fun x hx => (insT_mem hx).elim (fun e => e ▸ ha) (h.att x)⟩
  rcases insT_mem hx with rfl | hx
  · exact ⟨hk, by omega, by omega⟩
  · obtain ⟨a, b, c⟩ := h.dev x hx
    exact ⟨a, by omega, by omega⟩
set_option maxHeartbeats 4000000 in
theorem made_pure (L : List Int) (k n : Nat) (hk : k < 50000) (hn : n ≤ 10) (hL : ∀ x ∈ L, -9223372036854775808 ≤ x ∧ x ≤ 9223372036854775807) (hLl : L.length ≤ 9223372036854775807) :
    PCalls Tryz.prog 20 [.c (.ptr 0 0), .c (.v (.int .i64 n))] [tape L k] fun r os => ∃ (l : List Dev) (k' : Nat), TreeOk l n ∧ k' ≤ k + 12 * n ∧ r = .agg (trE l) ∧ os = [tape L k'] := by
  refine pcalls_of Tryz.func20 rfl (by simp [Tryz.ntmps20]) ?_
  rw [Tryz.ntmps20, Tryz.results20]
  push_cast [iO, tN]
  have cB : CutB 9 [] := trivial
  repeat' (first | ((first | refine pC ?_ | refine pQC ?_ | refine pU ?_); push_cast [iO, tN]) | (refine pif (fun h => ?_) (fun h => ?_) <;> first | exact pN h | push_cast [iO, tN]))
  (apply pwp_loop3 (α := Nat × List Dev × Nat) 9 [] (fun x => [(6, .c (.v (.int .i64 ((x.1 : Int) + 1))))]) (fun x => [(0, tape L x.2.2), (2, .box 25 (trE x.2.1))]) (fun x => x.1 ≤ n ∧ TreeOk x.2.1 x.1 ∧ x.2.2 ≤ k + 12 * x.1) (fun x => n - x.1) ((0, [], k)); (focus ((try push_cast [iO, tN]); rfl)); (focus exact ⟨Nat.zero_le _, TreeOk.nil _, Nat.le_refl _⟩); (focus ((refine weak_fg ?_; try push_cast [iO, tN]))))
  rintro ⟨i, l, k1⟩ ⟨h1, h2, h3⟩
  simp only at h1 h2 h3 ⊢
  push_cast [iO, tN]
  have hll := h2.len
  by_cases hlt : i < n
  case neg =>
    have hi : i = n := by omega
    have hc : ¬ (i : Int) + 1 ≤ (n : Int) := by omega
    subst hi
    repeat' (first | ((first | refine pC ?_ | refine pQC ?_ | refine pU ?_); push_cast [iO, tN, hc]) | (refine pif (fun h => ?_) (fun h => ?_) <;> first | exact pN h | push_cast [iO, tN, hc]))
    (refine retK_of [0] ?_; push_cast [iO, tN])
    exact ⟨_, _, leP_refl _, leOs_refl _, l, k1, h2, h3, rfl, rfl⟩
  have hc : (i : Int) + 1 ≤ (n : Int) := by omega
  have hzl : ∀ d ∈ l, d.original.size ≤ 10 + 2 * i := fun d hd => (h2.dev d hd).2.1
  have hzl2 : ∀ d ∈ l, d.original.size ≤ 100000 := fun d hd => by have := hzl d hd; omega
  have hdv := device_pure L k1 l ((i : Int) + 1) (10 + 2 * i) (by omega) (by omega) (by omega) (by omega) hzl (by omega) (by omega) hL hLl
  refine pwp_seq fun K1 hK1 => ?_
  refine pwp_seq fun K2 hK2 => ?_
  refine pwp_region ?_
  push_cast [iO, tN, hc]
  refine Kont.use (by assumption) ?_
  refine pwp_cond ?_
  push_cast [iO, tN, hc]
  refine pwp_skip ?_
  push_cast [iO, tN]
  refine Kont.use (by assumption) ?_
  refine pwp_seq fun K3 hK3 => ?_
  refine pwp_block ?_
  (apply pwp_mid4 (α := Int × List Dev × Nat) 9 [] (fun x => [(8, .c (.v (.int .i64 x.1))), (7, .c (.ptr 3 0))]) (fun x => [(0, tape L x.2.2)]) (fun x => [.box 25 (trE x.2.1)]) (fun x => (x.1 = 0 → TreeOk x.2.1 (i + 1)) ∧ x.2.2 ≤ k1 + 12) ((0, [], 0)); (focus ((try push_cast [iO, tN]); rfl)))
  · have hins : ∀ d : Dev, d.ok → d.original.size ≤ 10 + 2 * i + 2 → PCalls Tryz.prog 51 [.agg (trE l), .agg d.e] [] fun r os => r = .two (.agg (trE (if insErr l d = 0 then insT l d else []))) (.c (.v (.int .i64 (insErr l d)))) ∧ os = [] := fun d hd hz => rins_pure l d hd (by omega) hzl2 (by omega)
    (refine pwp_drawn (by kernel_rfl) ?_; try simp only [List.length_cons, List.length_nil, Nat.reduceAdd]; repeat' first | (refine plc [0] (hdv) ?_ ?_; push_cast [iO, tN]; rintro r os ⟨d, k2, ⟨e1, e2, e3, e5⟩, e4, rfl, rfl⟩; push_cast [iO, tN]) | (refine plc [] ((hins d e2 e3)) ?_ ?_; push_cast [iO, tN]; rintro r os ⟨rfl, rfl⟩; push_cast [iO, tN]) | ((first | refine pah 1 ?_ | refine pah 3 ?_ | refine pah 6 ?_ | refine pah 7 ?_ | refine pah 8 ?_ | refine pah 11 ?_); push_cast [iO, tN]) | (refine pad ?_; try push_cast [iO, tN]) | ((first | refine pas [0] ?_ | refine pas [2] ?_ | refine pas [4] ?_ | refine pas [5] ?_ | refine pas [9] ?_ | refine pas [10] ?_); push_cast [iO, tN]) | ((first | refine pas [0, 2] ?_ | refine pas [0, 4] ?_ | refine pas [0, 5] ?_ | refine pas [0, 9] ?_ | refine pas [0, 10] ?_ | refine pas [2, 4] ?_ | refine pas [2, 5] ?_ | refine pas [2, 9] ?_ | refine pas [2, 10] ?_ | refine pas [4, 5] ?_ | refine pas [4, 9] ?_ | refine pas [4, 10] ?_ | refine pas [5, 9] ?_ | refine pas [5, 10] ?_ | refine pas [9, 10] ?_); push_cast [iO, tN]; refine ⟨?_, ?_⟩) | ((first | refine pas [0, 2, 4] ?_ | refine pas [0, 2, 5] ?_ | refine pas [0, 2, 9] ?_ | refine pas [0, 2, 10] ?_ | refine pas [0, 4, 5] ?_ | refine pas [0, 4, 9] ?_ | refine pas [0, 4, 10] ?_ | refine pas [0, 5, 9] ?_ | refine pas [0, 5, 10] ?_ | refine pas [0, 9, 10] ?_ | refine pas [2, 4, 5] ?_ | refine pas [2, 4, 9] ?_ | refine pas [2, 4, 10] ?_ | refine pas [2, 5, 9] ?_ | refine pas [2, 5, 10] ?_ | refine pas [2, 9, 10] ?_ | refine pas [4, 5, 9] ?_ | refine pas [4, 5, 10] ?_ | refine pas [4, 9, 10] ?_ | refine pas [5, 9, 10] ?_); push_cast [iO, tN]; refine ⟨?_, ?_, ?_⟩))
    all_goals exact ⟨(insErr l d, (if insErr l d = 0 then insT l d else []), k2), ⟨fun h0 => by have h0' : insErr l d = 0 := h0; simp only; rw [if_pos h0']; exact h2.ins h0' e2 e3 (by rw [e1]; omega) e5, by simp only; omega⟩, by (refine weak_fg ?_; push_cast [iO, tN])⟩
  rintro ⟨err, l2, k2⟩ ⟨g1, g2⟩
  simp only at g1 g2
  push_cast [iO, tN]
  by_cases he : err = 0
  · repeat' (first | ((first | refine pC ?_ | refine pQC ?_ | refine pU ?_); push_cast [iO, tN, he]) | (refine pif (fun h => ?_) (fun h => ?_) <;> first | exact pN h | push_cast [iO, tN, he]))
    exact ⟨(i + 1, l2, k2), ⟨by simp only; omega, g1 he, by simp only; omega⟩, by (refine weak_fg ?_; push_cast [iO, tN]), by simp only; omega⟩
  · repeat' (first | ((first | refine pC ?_ | refine pQC ?_ | refine pU ?_); push_cast [iO, tN, he]) | (refine pif (fun h => ?_) (fun h => ?_) <;> first | exact pN h | push_cast [iO, tN, he]))
    exact ⟨(i + 1, l, k2), ⟨by simp only; omega, h2.more (by omega), by simp only; omega⟩, by (refine weak_fg ?_; push_cast [iO, tN]), by simp only; omega⟩
end Go.Proofs.YtcnoopjacilceaaGreatDoor
namespace Go.Proofs.YtcnoopjacilceaaGreatDoor
attribute [local irreducible] PL QL PWPr PCalls Weak RetK Kontr PA
open Go.RowKit
open IntWalk renaming iteOmega → iO, toNatUp → tN
set_option linter.unusedVariables false
set_option linter.unusedSimpArgs false
set_option maxRecDepth 20000
set_option maxHeartbeats 4000000 in
theorem some_pure (L : List Int) (k : Nat) (ls : List ByteArray) (hk : k < 500000) (hls : ls.length ≤ 1000) (hL : ∀ x ∈ L, -9223372036854775808 ≤ x ∧ x ≤ 9223372036854775807) (hLl : L.length ≤ 9223372036854775807) :
    PCalls Tryz.prog 55 [.c (.ptr 0 0), .c (.sl 1 (ls.map strD))] [tape L k] fun r os => ∃ out : List ByteArray, out.length ≤ ls.length ∧ r = .c (.sl 1 (out.map strD)) ∧ os = [tape L (k + ls.length)] := by
  have nex := fun (j : Nat) (hj : j < 1000000) (m : Int) (hm : 0 < m) (hm2 : m ≤ 9223372036854775807) => next_ex L j m hj hm hm2 hL hLl
  refine pcalls_of Tryz.func55 rfl (by simp [Tryz.ntmps55]) ?_
  rw [Tryz.ntmps55, Tryz.results55]
  push_cast [iO, tN]
  have cB : CutB 8 [8, 9, 10] := trivial
  repeat' (first | ((first | refine pC ?_ | refine pQC ?_ | refine pU ?_); push_cast [iO, tN]) | (refine pif (fun h => ?_) (fun h => ?_) <;> first | exact pN h | push_cast [iO, tN]))
  refine pwp_weak (weak_adopt 5 9 1 (by omega) (by push_cast [iO, tN])) ?_
  push_cast [iO, tN]
  (apply pwp_loop3 (α := Nat × List ByteArray × Nat) 8 [8, 9, 10] (fun x => [(10, .c (.v (.int .i64 x.1))), (5, .c (.own 1 (x.2.1.length)))]) (fun x => [(0, tape L x.2.2), (1, .arr 9 1 (x.2.1.map strD))]) (fun x => x.1 ≤ ls.length ∧ x.2.1.length ≤ x.1 ∧ x.2.2 = k + x.1) (fun x => ls.length - x.1) ((0, [], k)); (focus ((try push_cast [iO, tN]); rfl)); (focus exact ⟨Nat.zero_le _, Nat.le_refl _, rfl⟩); (focus ((refine weak_fg ?_; try push_cast [iO, tN]))))
  rintro ⟨j, out, q⟩ ⟨hj, hol, hq⟩
  simp only at hj hol hq
  push_cast [iO, tN]
  by_cases hlt : j < ls.length
  · repeat' (first |  ((refine plc [0] (nex q (by omega) 3 (by decide) (by decide)) ?_ ?_; push_cast [iO, tN]; rintro r os ⟨v, ⟨va, vb⟩, rfl, rfl⟩; push_cast [iO, tN]))  | ((first | refine pC ?_ | refine pQC ?_ | refine pU ?_); push_cast [iO, tN]) | (refine pif (fun h => ?_) (fun h => ?_) <;> first | exact pN h | push_cast [iO, tN]))
    · exact ⟨(j + 1, out ++ [ls.getD j default], q + 1), ⟨by simp only; omega, by simp only [List.length_append, List.length_singleton]; omega, by simp only; omega⟩, by (refine weak_fg ?_; push_cast [iO, tN]), by simp only; omega⟩
    · exact ⟨(j + 1, out, q + 1), ⟨by simp only; omega, by simp only; omega, by simp only; omega⟩, by (refine weak_fg ?_; push_cast [iO, tN]), by simp only; omega⟩
  · have hj2 : j = ls.length := by omega
    subst hj2
    subst hq
    refine pwp_seq fun K hK => ?_
    refine pC ?_
    push_cast [iO, tN]
    refine pU ?_
    refine pwp_weak (weak_frz 1 (by omega)) ?_
    push_cast [iO, tN]
    repeat' (first | ((first | refine pC ?_ | refine pQC ?_ | refine pU ?_); push_cast [iO, tN]) | (refine pif (fun h => ?_) (fun h => ?_) <;> first | exact pN h | push_cast [iO, tN]))
    (refine retK_of [0] ?_; push_cast [iO, tN])
    exact ⟨_, _, leP_refl _, leOs_refl _, out, hol, rfl, rfl⟩
end Go.Proofs.YtcnoopjacilceaaGreatDoor
namespace Go.Proofs.YtcnoopjacilceaaGreatDoor
attribute [local irreducible] PL QL PWPr PCalls Weak RetK Kontr PA
open Go.RowKit
open IntWalk renaming iteOmega → iO, toNatUp → tN
set_option linter.unusedVariables false
set_option linter.unusedSimpArgs false
set_option maxRecDepth 20000
theorem getD_memD (l : List Dev) {i : Nat} (hi : i < l.length) : l.getD i default ∈ l := by rw [getD_lt l hi]; exact List.getElem_mem _
theorem recs_snoc {rs : List Rec} {r : Rec} {n : Nat} (h : rs.length ≤ n) (hn : n < 1000) (h1 : r.tags.length ≤ 1000) (h2 : r.props.length ≤ 1000) (h3 : ∀ a ∈ r.props, a.value.size ≤ 1000) (ho : RecsOk rs) : RecsOk (rs ++ [r]) := by
  have key : ∀ x ∈ rs ++ [r], x ∈ rs ∨ x = r := fun x hx => by simpa using hx
  refine ⟨by rw [List.length_append, List.length_singleton]; omega, fun x hx => ?_, fun x hx => ?_, fun x hx => ?_⟩
  all_goals rcases key x hx with h | rfl
  · exact ho.tags x h
  · exact h1
  · exact ho.props x h
  · exact h2
  · exact ho.val x h
  · exact h3
theorem recs_nil : RecsOk [] := ⟨by simp, by simp, by simp, by simp⟩
theorem x_fit {n : Nat} (h : n ≤ 100000000) : (n : Int) + ((⟨#[120]⟩ : ByteArray).size : Int) ≤ 9223372036854775807 := by
  have : (⟨#[120]⟩ : ByteArray).size = 1 := rfl
  omega
theorem px_size {p : ByteArray} (h : p.size ≤ 1001000) : (p ++ ⟨#[120]⟩).size ≤ 1100000 := by
  rw [ByteArray.size_append]
  have : (⟨#[120]⟩ : ByteArray).size = 1 := rfl
  omega
theorem px_fit {p : ByteArray} (h : p.size ≤ 1001000) : (p.size : Int) + ((⟨#[120]⟩ : ByteArray).size : Int) ≤ 9223372036854775807 := x_fit (by omega)
set_option maxHeartbeats 8000000 in
theorem seated_pure (L : List Int) (k : Nat) (t : List Dev) (n : Nat) (hk : k < 50000) (ht : TreeOk t n) (hn : n ≤ 100) (hL : ∀ x ∈ L, -9223372036854775808 ≤ x ∧ x ≤ 9223372036854775807) (hLl : L.length ≤ 9223372036854775807) :
    PCalls Tryz.prog 21 [.c (.ptr 0 0), .agg (trE t)] [tape L k] fun r os => ∃ (rs : List Rec) (k' : Nat), RecsOk rs ∧ k' ≤ k + 10 * n ∧ r = .c (.sl 12 (rs.map Rec.d)) ∧ os = [tape L k'] := by
  have nex := fun (j : Nat) (hj : j < 1000000) (m : Int) (hm : 0 < m) (hm2 : m ≤ 9223372036854775807) => next_ex L j m hj hm hm2 hL hLl
  have hlen := ht.len
  have hz : ∀ d ∈ t, d.original.size ≤ 1000 := fun d hd => by have := (ht.dev d hd).2.1; omega
  refine pcalls_of Tryz.func21 rfl (by simp [Tryz.ntmps21]) ?_
  rw [Tryz.ntmps21, Tryz.results21]
  push_cast [iO, tN]
  have cB : CutB 9 [28, 43] := trivial
  repeat' (first | ((first | refine pC ?_ | refine pQC ?_ | refine pU ?_); push_cast [iO, tN]) | (refine pif (fun h => ?_) (fun h => ?_) <;> first | exact pN h | push_cast [iO, tN]))
  refine pwp_weak (weak_adopt 5 67 12 (by omega) (by push_cast [iO, tN])) ?_
  push_cast [iO, tN]
  (apply pwp_loop3 (α := Nat × List Rec × Nat) 9 [28, 43] (fun x => [(6, .c (.v (.int .i64 x.1))), (5, .c (.own 2 x.2.1.length))]) (fun x => [(0, tape L x.2.2), (2, .arr 67 12 (x.2.1.map Rec.d))]) (fun x => x.1 ≤ t.length ∧ x.2.1.length ≤ x.1 ∧ RecsOk x.2.1 ∧ x.2.2 ≤ k + 10 * x.1) (fun x => t.length - x.1) ((0, [], k)); (focus ((try push_cast [iO, tN]); rfl)); (focus exact ⟨Nat.zero_le _, Nat.le_refl _, recs_nil, by simp⟩); (focus ((refine weak_fg ?_; try push_cast [iO, tN]))))
  rintro ⟨j, rs, q⟩ ⟨hj, hrl, hro, hq⟩
  simp only at hj hrl hro hq
  push_cast [iO, tN]
  by_cases hlt : j < t.length
  case neg =>
    have hj2 : j = t.length := by omega
    refine pwp_weak (weak_frz 2 (by omega)) ?_
    push_cast [iO, tN]
    repeat' (first | ((first | refine pC ?_ | refine pQC ?_ | refine pU ?_); push_cast [iO, tN]) | (refine pif (fun h => ?_) (fun h => ?_) <;> first | exact pN h | push_cast [iO, tN]))
    (refine retK_of [0] ?_; push_cast [iO, tN])
    exact ⟨_, _, leP_refl _, leOs_refl _, rs, q, hro, by omega, rfl, rfl⟩
  have hm := getD_memD t hlt
  have hpl := place_size (l := t) (by omega) hz (t.getD j default).index
  have hp := rplace_pure t (t.getD j default).index (by omega) hz
  have hix := (ht.dev _ hm).2.2
  have hpos := ht.okt.pos _ hm
  obtain ⟨p, hpp⟩ : ∃ p, placeM t (t.getD j default).index = p := ⟨_, rfl⟩
  rw [hpp] at hpl hp
  obtain ⟨ix, hixx⟩ : ∃ ix, (t.getD j default).index = ix := ⟨_, rfl⟩
  rw [hixx] at hp hix hpos
  refine pwp_seq fun K0 hK0 => ?_
  refine pC ?_
  push_cast [iO, tN]
  refine pU ?_
  refine pwp_seq fun K1 hK1 => ?_
  refine pwp_block ?_
  refine pwp_seq fun K2 hK2 => ?_
  refine pC ?_
  push_cast [iO, tN, hixx]
  refine pU ?_
  refine pwp_seq fun K3 hK3 => ?_
  refine pC ?_
  push_cast [iO, tN]
  (refine plc [] (hp) ?_ ?_; push_cast [iO, tN]; rintro r os ⟨rfl, rfl⟩; push_cast [iO, tN])
  refine pU ?_
  have f1 : (⟨#[120]⟩ : ByteArray).size = 1 := rfl
  (apply pwp_mid3 (α := Rec × Nat) 9 [28, 43] (fun x => []) (fun x => [(0, tape L x.2), (3, .box 67 x.1.e)]) (fun x => (x.1.path.size ≤ 1100000 ∧ x.1.tags = [] ∧ x.1.props.length ≤ 1 ∧ ∀ a ∈ x.1.props, a.value.size ≤ 100) ∧ x.2 ≤ q + 3) ((default, 0)); (focus ((try push_cast [iO, tN]); rfl)))
  · refine pwp_gen fun Q0 hQ0 => ?_
    refine pwp_seq fun K5 hK5 => ?_
    refine pC ?_
    push_cast [iO, tN]
    (refine plc [0] (nex q (by omega) 12 (by decide) (by decide)) ?_ ?_; push_cast [iO, tN]; rintro r os ⟨v, ⟨va, vb⟩, rfl, rfl⟩; push_cast [iO, tN])
    have hone := one_ex L (q + 1) [⟨#[115, 101, 97, 116, 49]⟩, ⟨#[115, 101, 97, 116, 50]⟩, ⟨#[115, 101, 97, 116, 48]⟩] (by omega) (by decide) (by decide) hL hLl
    have hcase : v = 0 ∨ v = 1 ∨ v = 2 ∨ (v = 3 ∨ v = 4 ∨ v = 5) ∨ 6 ≤ v := by omega
    rcases hcase with rfl | rfl | rfl | hv | hv
    · repeat' (first | ((first | refine pC ?_ | refine pQC ?_ | refine pU ?_); push_cast [iO, tN]) | (refine pif (fun h => ?_) (fun h => ?_) <;> first | exact pN h | push_cast [iO, tN]))
      refine hQ0 _ _ ?_
      push_cast [iO, tN]
      repeat' (first | ((first | refine pC ?_ | refine pQC ?_ | refine pU ?_); push_cast [iO, tN]) | (refine pif (fun h => ?_) (fun h => ?_) <;> first | exact pN h | push_cast [iO, tN]))
      exact ⟨(j + 1, rs, q + 1), ⟨by simp only; omega, by simp only; omega, hro, by simp only; omega⟩, by (refine weak_fg ?_; push_cast [iO, tN]), by simp only; omega⟩
    · repeat' (first | ((first | refine pC ?_ | refine pQC ?_ | refine pU ?_); push_cast [iO, tN]) | (refine pif (fun h => ?_) (fun h => ?_) <;> first | exact pN h | push_cast [iO, tN]))
      refine hQ0 _ _ ?_
      push_cast [iO, tN]
      exact ⟨(⟨p, ix + 1, [], [], ⟨#[]⟩, ⟨#[]⟩, 0⟩, q + 1), ⟨⟨by simp only; omega, rfl, Nat.zero_le _, fun a ha => by cases ha⟩, by simp only; omega⟩, by (refine weak_fg ?_; push_cast [iO, tN])⟩
    · have hfit := px_fit hpl
      have hsz := px_size hpl
      clear hpl f1
      iterate 1 (first | ((first | refine pC ?_ | refine pQC ?_ | refine pU ?_); push_cast [iO, tN]) | (refine pif (fun h => ?_) (fun h => ?_) <;> first | exact pN h | push_cast [iO, tN]))
      refine pwp_block ?_
      iterate 3
        refine pwp_seq fun Kx hKx => ?_
        refine pwp_region ?_
        push_cast [iO, tN]
        refine Kont.use (by assumption) ?_
        refine pwp_cond ?_
        push_cast [iO, tN]
      refine pwp_regionL ?_
      refine pl_run1 (q := .c (.ptr 3 0)) rfl (by push_cast [iO, tN]) (by push_cast [iO, tN]) ?_
      push_cast [iO, tN]
      refine pl_run1 (q := .c (.v (.string p))) rfl (by push_cast [iO, tN]) (by push_cast [iO, tN]) ?_
      push_cast [iO, tN]
      refine pl_cat rfl rfl rfl rfl hfit (by push_cast [iO, tN]) ?_
      push_cast [iO, tN]
      refine pl_of_pops ?_
      push_cast [iO, tN]
      repeat' (first | ((first | refine pC ?_ | refine pQC ?_ | refine pU ?_); push_cast [iO, tN]) | (refine pif (fun h => ?_) (fun h => ?_) <;> first | exact pN h | push_cast [iO, tN]))
      refine hQ0 _ _ ?_
      push_cast [iO, tN]
      exact ⟨(⟨p ++ ⟨#[120]⟩, ix, [], [], ⟨#[]⟩, ⟨#[]⟩, 0⟩, q + 1), ⟨⟨hsz, rfl, Nat.zero_le _, fun a ha => by cases ha⟩, by simp only; omega⟩, by (refine weak_fg ?_; push_cast [iO, tN])⟩
    · rcases hv with rfl | rfl | rfl
      all_goals repeat' (first |  ((refine plc [0] (hone) ?_ ?_; push_cast [iO, tN]; rintro r os ⟨sv, svm, rfl, rfl⟩; push_cast [iO, tN]))  | ((first | refine pC ?_ | refine pQC ?_ | refine pU ?_); push_cast [iO, tN]) | (refine pif (fun h => ?_) (fun h => ?_) <;> first | exact pN h | push_cast [iO, tN]))
      all_goals refine hQ0 _ _ ?_
      all_goals push_cast [iO, tN]
      all_goals exact ⟨(⟨p, ix, [⟨⟨#[73, 68, 95, 83, 69, 65, 84]⟩, sv⟩], [], ⟨#[]⟩, ⟨#[]⟩, 0⟩, q + 1 + 1), ⟨⟨by simp only; omega, rfl, Nat.le_refl _, fun a ha => by rw [List.mem_singleton] at ha; subst ha; exact mem_fit (by decide) svm⟩, by simp only; omega⟩, by (refine weak_fg ?_; push_cast [iO, tN])⟩
    · repeat' (first | ((first | refine pC ?_ | refine pQC ?_ | refine pU ?_); push_cast [iO, tN]) | (refine pif (fun h => ?_) (fun h => ?_) <;> first | exact pN h | push_cast [iO, tN]))
      refine hQ0 _ _ ?_
      push_cast [iO, tN]
      exact ⟨(⟨p, ix, [], [], ⟨#[]⟩, ⟨#[]⟩, 0⟩, q + 1), ⟨⟨by simp only; omega, rfl, Nat.zero_le _, fun a ha => by cases ha⟩, by simp only; omega⟩, by (refine weak_fg ?_; push_cast [iO, tN])⟩
  rintro ⟨⟨path, index, props, tags, owner, group, mode⟩, q2⟩ ⟨⟨r1, r2, r3, r4⟩, hq2⟩
  simp only at r1 r2 r3 r4 hq2
  subst r2
  have hsm := some_pure L q2 [⟨#[109, 97, 115, 116, 101, 114, 45, 111, 102, 45, 115, 101, 97, 116]⟩, ⟨#[115, 101, 97, 116]⟩, ⟨#[117, 97, 99, 99, 101, 115, 115]⟩] (by omega) (by decide) hL hLl
  push_cast [iO, tN]
  obtain ⟨kd, hkd⟩ : ∃ kd, (t.getD j default).kind = kd := ⟨_, rfl⟩
  have v1 : ∀ a ∈ props, a.value.size ≤ 1000 := fun a ha => Nat.le_trans (r4 a ha) (by decide)
  by_cases hk2 : kd = 2
  · repeat' (first | ((refine plc [0] (hsm) ?_ ?_; push_cast [iO, tN, hkd, hk2]; rintro r os ⟨out, hol, rfl, rfl⟩; push_cast [iO, tN, hkd, hk2])) | ((refine plc [0] (nex (q2 + 3) (by omega) 2 (by decide) (by decide)) ?_ ?_; push_cast [iO, tN, hkd, hk2]; rintro r os ⟨w, ⟨wa, wb⟩, rfl, rfl⟩; push_cast [iO, tN, hkd, hk2])) | ((first | refine pC ?_ | refine pQC ?_ | refine pU ?_); push_cast [iO, tN, hkd, hk2]) | (refine pif (fun h => ?_) (fun h => ?_) <;> first | exact pN h | push_cast [iO, tN, hkd, hk2]))
    · exact ⟨(j + 1, rs ++ [⟨path, index, props, [⟨#[115, 101, 97, 116]⟩, ⟨#[117, 97, 99, 99, 101, 115, 115]⟩], ⟨#[114, 111, 111, 116]⟩, ⟨#[114, 111, 111, 116]⟩, 384⟩], q2 + 3 + 1), ⟨by simp only; omega, by simp only [List.length_append, List.length_singleton]; omega, recs_snoc hrl (by omega) (by show (2 : Nat) ≤ 1000; decide) (by simp only; omega) v1 hro, by simp only; omega⟩, by (refine weak_fg ?_; push_cast [iO, tN]), by simp only; omega⟩
    · exact ⟨(j + 1, rs ++ [⟨path, index, props, out, ⟨#[114, 111, 111, 116]⟩, ⟨#[114, 111, 111, 116]⟩, 384⟩], q2 + 3 + 1), ⟨by simp only; omega, by simp only [List.length_append, List.length_singleton]; omega, recs_snoc hrl (by omega) (Nat.le_trans hol (by decide)) (by simp only; omega) v1 hro, by simp only; omega⟩, by (refine weak_fg ?_; push_cast [iO, tN]), by simp only; omega⟩
  · by_cases hk3 : kd = 3
    · repeat' (first | ((refine plc [0] (hsm) ?_ ?_; push_cast [iO, tN, hkd, hk2, hk3]; rintro r os ⟨out, hol, rfl, rfl⟩; push_cast [iO, tN, hkd, hk2, hk3])) | ((refine plc [0] (nex (q2 + 3) (by omega) 2 (by decide) (by decide)) ?_ ?_; push_cast [iO, tN, hkd, hk2, hk3]; rintro r os ⟨w, ⟨wa, wb⟩, rfl, rfl⟩; push_cast [iO, tN, hkd, hk2, hk3])) | ((first | refine pC ?_ | refine pQC ?_ | refine pU ?_); push_cast [iO, tN, hkd, hk2, hk3]) | (refine pif (fun h => ?_) (fun h => ?_) <;> first | exact pN h | push_cast [iO, tN, hkd, hk2, hk3]))
      · exact ⟨(j + 1, rs ++ [⟨path, index, props, [⟨#[115, 101, 97, 116]⟩, ⟨#[117, 97, 99, 99, 101, 115, 115]⟩], ⟨#[114, 111, 111, 116]⟩, ⟨#[114, 111, 111, 116]⟩, 384⟩], q2 + 3 + 1), ⟨by simp only; omega, by simp only [List.length_append, List.length_singleton]; omega, recs_snoc hrl (by omega) (by show (2 : Nat) ≤ 1000; decide) (by simp only; omega) v1 hro, by simp only; omega⟩, by (refine weak_fg ?_; push_cast [iO, tN]), by simp only; omega⟩
      · exact ⟨(j + 1, rs ++ [⟨path, index, props, out, ⟨#[114, 111, 111, 116]⟩, ⟨#[114, 111, 111, 116]⟩, 384⟩], q2 + 3 + 1), ⟨by simp only; omega, by simp only [List.length_append, List.length_singleton]; omega, recs_snoc hrl (by omega) (Nat.le_trans hol (by decide)) (by simp only; omega) v1 hro, by simp only; omega⟩, by (refine weak_fg ?_; push_cast [iO, tN]), by simp only; omega⟩
    · repeat' (first | ((refine plc [0] (hsm) ?_ ?_; push_cast [iO, tN, hkd, hk2, hk3]; rintro r os ⟨out, hol, rfl, rfl⟩; push_cast [iO, tN, hkd, hk2, hk3])) | ((refine plc [0] (nex (q2 + 3) (by omega) 2 (by decide) (by decide)) ?_ ?_; push_cast [iO, tN, hkd, hk2, hk3]; rintro r os ⟨w, ⟨wa, wb⟩, rfl, rfl⟩; push_cast [iO, tN, hkd, hk2, hk3])) | ((first | refine pC ?_ | refine pQC ?_ | refine pU ?_); push_cast [iO, tN, hkd, hk2, hk3]) | (refine pif (fun h => ?_) (fun h => ?_) <;> first | exact pN h | push_cast [iO, tN, hkd, hk2, hk3]))
      · exact ⟨(j + 1, rs ++ [⟨path, index, props, [⟨#[115, 101, 97, 116]⟩, ⟨#[117, 97, 99, 99, 101, 115, 115]⟩], owner, group, mode⟩], q2 + 3 + 1), ⟨by simp only; omega, by simp only [List.length_append, List.length_singleton]; omega, recs_snoc hrl (by omega) (by show (2 : Nat) ≤ 1000; decide) (by simp only; omega) v1 hro, by simp only; omega⟩, by (refine weak_fg ?_; push_cast [iO, tN]), by simp only; omega⟩
      · exact ⟨(j + 1, rs ++ [⟨path, index, props, out, owner, group, mode⟩], q2 + 3 + 1), ⟨by simp only; omega, by simp only [List.length_append, List.length_singleton]; omega, recs_snoc hrl (by omega) (Nat.le_trans hol (by decide)) (by simp only; omega) v1 hro, by simp only; omega⟩, by (refine weak_fg ?_; push_cast [iO, tN]), by simp only; omega⟩
end Go.Proofs.YtcnoopjacilceaaGreatDoor
namespace Go.Proofs.YtcnoopjacilceaaGreatDoor
attribute [local irreducible] PL QL PWPr PCalls Weak RetK Kontr PA
open Go.RowKit
open IntWalk renaming iteOmega → iO, toNatUp → tN
set_option linter.unusedVariables false
set_option linter.unusedSimpArgs false
set_option maxRecDepth 20000
set_option maxHeartbeats 4000000 in
theorem site_pure (L : List Int) (hL : ∀ x ∈ L, -9223372036854775808 ≤ x ∧ x ≤ 9223372036854775807) (hLl : L.length ≤ 9223372036854775807) :
    PCalls Tryz.prog 7 [.c (.sl 1 (L.map fun x => [D.v (.int .i64 x)]))] [] fun r os => ∃ (t : List Dev) (rs : List Rec) (nx : Int) (s : List Ses), TreeOk t 10 ∧ RecsOk rs ∧ SessOk s ∧ r = .three (.agg (trE t)) (.c (.sl 12 (rs.map Rec.d))) (.agg [.v (.int .i64 nx), .sl 4 (s.map Ses.d)]) ∧ os = [] := by
  have hT := made_pure L 0 10 (by omega) (by omega) hL hLl
  simp only [tape] at hT
  push_cast [iO, tN] at hT
  refine pcalls_of Tryz.func7 rfl (by simp [Tryz.ntmps7]) ?_
  rw [Tryz.ntmps7, Tryz.results7]
  push_cast [iO, tN]
  have cB : CutB 8 [] := trivial
  repeat' (first | ((first | refine pC ?_ | refine pQC ?_ | refine pU ?_); push_cast [iO, tN]) | (refine pif (fun h => ?_) (fun h => ?_) <;> first | exact pN h | push_cast [iO, tN]))
  (refine plc [2] (hT) ?_ ?_; push_cast [iO, tN]; rintro r os ⟨t, k1, ht, hk1, rfl, rfl⟩; push_cast [iO, tN])
  repeat' (first | ((first | refine pC ?_ | refine pQC ?_ | refine pU ?_); push_cast [iO, tN]) | (refine pif (fun h => ?_) (fun h => ?_) <;> first | exact pN h | push_cast [iO, tN]))
  (refine plc [2] (seated_pure L k1 t 10 (by omega) ht (by decide) hL hLl) ?_ ?_; push_cast [iO, tN]; rintro r os ⟨rs, k2, hr, hk2, rfl, rfl⟩; push_cast [iO, tN])
  trace_state
  repeat' (first |  (refine hidR 4 ?_)  | ((first | refine pC ?_ | refine pQC ?_ | refine pU ?_); push_cast [iO, tN]) | (refine pif (fun h => ?_) (fun h => ?_) <;> first | exact pN h | push_cast [iO, tN]))
  refine unhid ?_
  have hS := sessions_pure L k2 (by omega) hL hLl
  (refine pwp_drawn (by kernel_rfl) ?_; try simp only [List.length_cons, List.length_nil, Nat.reduceAdd]; repeat' first | ((refine plc [2] (hS) ?_ ?_; push_cast [iO, tN]; rintro r os ⟨nx, s, k3, hso, hk3, rfl, rfl⟩; push_cast [iO, tN])) | ((first | refine pah 1 ?_ | refine pah 2 ?_ | refine pah 5 ?_); push_cast [iO, tN]) | (refine pad ?_; try push_cast [iO, tN]) | ((first | refine pas [0] ?_ | refine pas [3] ?_ | refine pas [4] ?_ | refine pas [6] ?_); push_cast [iO, tN]) | ((first | refine pas [0, 3] ?_ | refine pas [0, 4] ?_ | refine pas [0, 6] ?_ | refine pas [3, 4] ?_ | refine pas [3, 6] ?_ | refine pas [4, 6] ?_); push_cast [iO, tN]; refine ⟨?_, ?_⟩) | ((first | refine pas [0, 3, 4] ?_ | refine pas [0, 3, 6] ?_ | refine pas [0, 4, 6] ?_ | refine pas [3, 4, 6] ?_); push_cast [iO, tN]; refine ⟨?_, ?_, ?_⟩))
  all_goals repeat' (first | ((first | refine pC ?_ | refine pQC ?_ | refine pU ?_); push_cast [iO, tN]) | (refine pif (fun h => ?_) (fun h => ?_) <;> first | exact pN h | push_cast [iO, tN]))
  all_goals (refine retK_of [] ?_; push_cast [iO, tN])
  all_goals exact ⟨_, _, leP_refl _, leOs_refl _, t, rs, nx, s, ht, hr, hso, rfl, rfl⟩
end Go.Proofs.YtcnoopjacilceaaGreatDoor
