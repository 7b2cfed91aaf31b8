/- What the program computes, and the plain laws of it, part 46. -/
import Derived.Test.YtcnoopjacilceaaGreatDoorQ31
namespace Go.Proofs.YtcnoopjacilceaaGreatDoor
attribute [local irreducible] PL QL PWPr PCalls Weak RetK Kontr PA
open Go.RowKit
open IntWalk renaming iteOmega → iO, toNatUp → tN
set_option linter.unusedVariables false
set_option linter.unusedSimpArgs false
set_option maxRecDepth 20000
theorem contents_pure : PCalls Tryz.prog 95 [] [] fun r os => (∃ l : List ByteArray, l.length = 16 ∧ (∀ s ∈ l, s.size ≤ 100) ∧ r = .c (.sl 1 (l.map strD))) ∧ os = [] := by
  refine pcalls_of Tryz.func95 rfl (by simp [Tryz.ntmps95]) ?_
  rw [Tryz.ntmps95, Tryz.results95]
  push_cast [iO, tN]
  repeat' (first | (refine Kont.use (by assumption) ?_) | (refine pwp_seq fun K hK => ?_) | (refine pwp_block ?_) | (refine pwp_scope ?_) | ((first | refine pwp_region ?_ | refine pwp_quiet (by kernel_rfl) (by kernel_rfl) ?_ | refine pwp_exit ?_ | refine pwp_ret ?_ | refine pwp_skip ?_); push_cast [iO, tN]) | (refine pwp_cond ?_; push_cast [iO, tN]; try (refine ⟨fun h => ?_, fun h => ?_⟩ <;> (try simp only [decide_eq_true_eq, decide_eq_false_iff_not, cN] at h) <;> (try (first | contradiction | omega | exact cT h (by assumption) | exact cF h (by assumption))))))
  (refine retK_of [] ?_; push_cast [iO, tN])
  have e : ∀ (a0 a1 a2 a3 a4 a5 a6 a7 a8 a9 b0 b1 b2 b3 b4 b5 : ByteArray), ([a0, a1, a2, a3, a4, a5, a6, a7, a8, a9, b0, b1, b2, b3, b4, b5].all fun s => decide (s.size ≤ 100)) = true →
      ∃ l : List ByteArray, l.length = 16 ∧ (∀ s ∈ l, s.size ≤ 100) ∧ PV.c (.sl 1 [[D.v (.string a0)], [D.v (.string a1)], [D.v (.string a2)], [D.v (.string a3)], [D.v (.string a4)], [D.v (.string a5)], [D.v (.string a6)], [D.v (.string a7)], [D.v (.string a8)], [D.v (.string a9)], [D.v (.string b0)], [D.v (.string b1)], [D.v (.string b2)], [D.v (.string b3)], [D.v (.string b4)], [D.v (.string b5)]]) = .c (.sl 1 (l.map strD)) :=
    fun a0 a1 a2 a3 a4 a5 a6 a7 a8 a9 b0 b1 b2 b3 b4 b5 h => ⟨[a0, a1, a2, a3, a4, a5, a6, a7, a8, a9, b0, b1, b2, b3, b4, b5], rfl, fun s hs => mem_fit h hs, rfl⟩
  exact ⟨_, _, leP_refl _, leOs_refl _, e _ _ _ _ _ _ _ _ _ _ _ _ _ _ _ _ (by decide), rfl⟩
theorem p_size : (⟨#[112]⟩ : ByteArray).size = 1 := rfl
theorem p_fit {n : Nat} (h : n ≤ 100000000) : (n : Int) + ((⟨#[112]⟩ : ByteArray).size : Int) ≤ 9223372036854775807 := by
  have : (⟨#[112]⟩ : ByteArray).size = 1 := rfl
  omega
def dig (i : Nat) : ByteArray := ⟨(Lib.decDigits i).toArray⟩
theorem itoa_pure (i : Nat) (hi : i < 100) : PCalls Tryz.prog 96 [.c (.v (.int .i64 i))] [] fun r os => r = .c (.v (.string (dig i))) ∧ os = [] :=
  pcalls_plain [.int .i64 i] _ rfl fun w _ => (strconv_Itoa_small i hi w).mono fun e w' ⟨he, hw⟩ => by rw [he, hw]; exact ⟨rfl, Below.refl _ _⟩
theorem dig_one {i : Nat} (h : i < 5) : (dig i).size = 1 := by
  rcases (by omega : i = 0 ∨ i = 1 ∨ i = 2 ∨ i = 3 ∨ i = 4) with rfl | rfl | rfl | rfl | rfl <;> decide +kernel
abbrev devB (n par : Int) (sub : ByteArray) (kind num : Int) (a : E) : Ob := .box 39 [.v (.int .i64 n), .v (.int .i64 par), .v (.string ⟨#[]⟩), .v (.string ⟨#[]⟩), .v (.string sub), .v (.string ⟨#[]⟩), .v (.string ⟨#[]⟩), .v (.int .i64 kind), .v (.int .i64 num), a]
set_option maxHeartbeats 4000000 in
theorem device_pure (L : List Int) (k : Nat) (l : List Dev) (n : Int) (B : Nat) (hk : k < 100000) (hl : l.length ≤ 1000) (hB : 10 ≤ B) (hB2 : B ≤ 100000) (hz : ∀ d ∈ l, d.original.size ≤ B) (hn0 : 0 ≤ n) (hn : n ≤ 1000000) (hL : ∀ x ∈ L, -9223372036854775808 ≤ x ∧ x ≤ 9223372036854775807) (hLl : L.length ≤ 9223372036854775807) :
    PCalls Tryz.prog 52 [.c (.ptr 0 0), .agg (trE l), .c (.v (.int .i64 n))] [tape L k] fun r os => ∃ (d : Dev) (k' : Nat), (d.index = n ∧ d.ok ∧ d.original.size ≤ B + 2 ∧ d.attrs.length ≤ 1000) ∧ k' ≤ k + 12 ∧ r = .agg d.e ∧ os = [tape L k'] := by
  refine pcalls_of Tryz.func52 rfl (by simp [Tryz.ntmps52]) ?_
  rw [Tryz.ntmps52, Tryz.results52]
  push_cast [iO, tN]
  have cB : CutB 11 [53, 54, 59, 69, 70, 105] := trivial
  refine pwp_seq fun K0 hK0 => ?_
  refine pwp_region ?_
  push_cast [iO, tN]
  refine Kont.use (by assumption) ?_
  refine pwp_seq fun K1 hK1 => ?_
  refine pwp_region ?_
  push_cast [iO, tN]
  (refine plc [0] (one_ex L k [⟨#[117, 115, 98]⟩, ⟨#[112, 99, 105]⟩, ⟨#[115, 99, 115, 105]⟩] (by omega) (by decide) (by decide) hL hLl) ?_ ?_; push_cast [iO, tN]; rintro r os ⟨sub, subm, rfl, rfl⟩; push_cast [iO, tN])
  refine Kont.use (by assumption) ?_
  refine pwp_seq fun K2 hK2 => ?_
  refine pwp_region ?_
  push_cast [iO, tN]
  (refine plc [0] (one_ex L (k + 1) [⟨#[97]⟩, ⟨#[98]⟩, ⟨#[104, 117, 98]⟩, ⟨#[120, 33, 121]⟩] (by omega) (by decide) (by decide) hL hLl) ?_ ?_; push_cast [iO, tN]; rintro r os ⟨b0, b0m, rfl, rfl⟩; push_cast [iO, tN])
  refine Kont.use (by assumption) ?_
  have hsub : sub.size ≤ 100 := mem_fit (l := [⟨#[117, 115, 98]⟩, ⟨#[112, 99, 105]⟩, ⟨#[115, 99, 115, 105]⟩]) (by decide) subm
  have hb0 : b0.size ≤ 10 := by
    have h := List.all_eq_true.1 (show ([⟨#[97]⟩, ⟨#[98]⟩, ⟨#[104, 117, 98]⟩, ⟨#[120, 33, 121]⟩] : List ByteArray).all (fun s => decide (s.size ≤ 10)) = true by decide) b0 b0m
    simpa using h
  (apply pwp_mid3 (α := Int × Int × ByteArray × Nat) 11 [53, 54, 59, 69, 70, 105] (fun x => [(8, .c (.v (.string x.2.2.1)))]) (fun x => [(0, tape L x.2.2.2), (3, devB n x.1 sub x.2.1 0 (.v (.slice none 0 0)))]) (fun x => (x.2.1 = 1 ∨ x.2.1 = 2) ∧ x.2.2.1.size ≤ B + 1 ∧ x.2.2.2 ≤ k + 5) ((0, 0, ⟨#[]⟩, 0)); (focus ((try push_cast [iO, tN]); rfl)))
  · push_cast [iO, tN]
    have hkk : ((k : Int) + 1 + 1) = ((k + 1 + 1 : Nat) : Int) := by omega
    by_cases h0 : 0 < l.length
    case neg =>
      have h0' : ¬ (0 : Int) < (l.length : Int) := by omega
      repeat' (first | (refine Kont.use (by assumption) ?_) | (refine pwp_seq fun K hK => ?_) | (refine pwp_block ?_) | (refine pwp_scope ?_) | ((first | (refine pwp_cut 11 [53, 54, 59, 69, 70, 105] ?_; first | refine pwp_region ?_ | refine pwp_quiet (by kernel_rfl) (by kernel_rfl) ?_) | refine pwp_exit ?_ | refine pwp_ret ?_ | refine pwp_skip ?_); push_cast [iO, tN, h0']) | (refine pwp_cond ?_; push_cast [iO, tN, h0']; try (refine ⟨fun h => ?_, fun h => ?_⟩ <;> (try simp only [decide_eq_true_eq, decide_eq_false_iff_not, cN] at h) <;> (try (first | contradiction | omega | exact cT h (by assumption) | exact cF h (by assumption))))))
      exact ⟨(0, 1, b0, k + 1 + 1), ⟨.inl rfl, by simp only; omega, by simp only; omega⟩, by (refine weak_fg ?_; push_cast [iO, tN])⟩
    repeat' (first | (refine Kont.use (by assumption) ?_) | (refine pwp_seq fun K hK => ?_) | (refine pwp_block ?_) | (refine pwp_scope ?_) | ((first | (refine pwp_cut 11 [53, 54, 59, 69, 70, 105] ?_; first | refine pwp_region ?_ | refine pwp_quiet (by kernel_rfl) (by kernel_rfl) ?_) | refine pwp_exit ?_ | refine pwp_ret ?_ | refine pwp_skip ?_); push_cast [iO, tN, h0]) | (refine pwp_cond ?_; push_cast [iO, tN, h0]; try (refine ⟨fun h => ?_, fun h => ?_⟩ <;> (try simp only [decide_eq_true_eq, decide_eq_false_iff_not, cN] at h) <;> (try (first | contradiction | omega | exact cT h (by assumption) | exact cF h (by assumption))))))
    (refine plc [0] (next_ex L (k + 1 + 1) 4 (by omega) (by omega) (by omega) hL hLl) ?_ ?_; push_cast [iO, tN]; rintro r os ⟨v, ⟨va, vb⟩, rfl, rfl⟩; push_cast [iO, tN])
    by_cases hv : 0 < v
    case neg =>
      repeat' (first | (refine Kont.use (by assumption) ?_) | (refine pwp_seq fun K hK => ?_) | (refine pwp_block ?_) | (refine pwp_scope ?_) | ((first | (refine pwp_cut 11 [53, 54, 59, 69, 70, 105] ?_; first | refine pwp_region ?_ | refine pwp_quiet (by kernel_rfl) (by kernel_rfl) ?_) | refine pwp_exit ?_ | refine pwp_ret ?_ | refine pwp_skip ?_); push_cast [iO, tN, hv]) | (refine pwp_cond ?_; push_cast [iO, tN, hv]; try (refine ⟨fun h => ?_, fun h => ?_⟩ <;> (try simp only [decide_eq_true_eq, decide_eq_false_iff_not, cN] at h) <;> (try (first | contradiction | omega | exact cT h (by assumption) | exact cF h (by assumption))))))
      exact ⟨(0, 1, b0, k + 1 + 1 + 1), ⟨.inl rfl, by simp only; omega, by simp only; omega⟩, by (refine weak_fg ?_; push_cast [iO, tN])⟩
    obtain ⟨f, hf⟩ : ∃ f, fold (tapeAt L (k + 1 + 1 + 1)) l.length = f := ⟨_, rfl⟩
    have hfb := fold_bds (tapeAt L (k + 1 + 1 + 1)) l.length (by omega)
    rw [hf] at hfb
    obtain ⟨g, rfl⟩ : ∃ g : Nat, f = (g : Int) := ⟨f.toNat, by omega⟩
    have hgl : g < l.length := by omega
    have hnx := next_pure L (k + 1 + 1 + 1) l.length (by omega) (by omega) hL hLl
    rw [hf] at hnx
    have hzp : (l.getD g default).original.size ≤ B := hz _ (by rw [getD_lt l hgl]; exact List.getElem_mem _)
    repeat' (first | ((refine pwp_cut 11 [53, 54, 59, 69, 70, 105] ?_; apply pwp_drawn_to; (focus kernel_rfl); (focus (simp only [List.length_cons, List.length_nil, Nat.reduceAdd]; (repeat' first | (refine plc [0] (hnx) ?_ ?_; push_cast [iO, tN,  hgl]; rintro r os ⟨rfl, rfl⟩; push_cast [iO, tN,  hgl]) | ((first | refine pah 0 ?_ | refine pah 2 ?_ | refine pah 3 ?_ | refine pah 5 ?_ | refine pah 7 ?_); push_cast [iO, tN,  hgl]) | (refine pad ?_; first | with_reducible exact weak_cutS 11 [53, 54, 59, 69, 70, 105] _ | (refine weak_fg ?_; push_cast [iO, tN,  hgl])) | ((first | refine pas [1] ?_ | refine pas [4] ?_ | refine pas [6] ?_ | refine pas [8] ?_ | refine pas [9] ?_ | refine pas [10] ?_); push_cast [iO, tN,  hgl]) | ((first | refine pas [1, 4] ?_ | refine pas [1, 6] ?_ | refine pas [1, 9] ?_ | refine pas [4, 9] ?_ | refine pas [6, 9] ?_ | refine pas [8, 9] ?_); push_cast [iO, tN,  hgl]; refine ⟨?_, ?_⟩) | ((first | refine pas [1, 4, 9] ?_ | refine pas [1, 6, 9] ?_); push_cast [iO, tN,  hgl]; refine ⟨?_, ?_, ?_⟩)); done)); push_cast [iO, tN,  hgl])) | (refine Kont.use (by assumption) ?_) | (refine pwp_seq fun K hK => ?_) | (refine pwp_block ?_) | (refine pwp_scope ?_) | ((first | (refine pwp_cut 11 [53, 54, 59, 69, 70, 105] ?_; first | refine pwp_region ?_ | refine pwp_quiet (by kernel_rfl) (by kernel_rfl) ?_) | refine pwp_exit ?_ | refine pwp_ret ?_ | refine pwp_skip ?_); push_cast [iO, tN, hv]) | (refine pwp_cond ?_; push_cast [iO, tN, hv]; try (refine ⟨fun h => ?_, fun h => ?_⟩ <;> (try simp only [decide_eq_true_eq, decide_eq_false_iff_not, cN] at h) <;> (try (first | contradiction | omega | exact cT h (by assumption) | exact cF h (by assumption))))))
    by_cases hkd : (l.getD g default).kind = 2
    case neg =>
      push_cast [iO, tN, hkd]
      repeat' (first | (refine Kont.use (by assumption) ?_) | (refine pwp_seq fun K hK => ?_) | (refine pwp_block ?_) | (refine pwp_scope ?_) | ((first | (refine pwp_cut 11 [53, 54, 59, 69, 70, 105] ?_; first | refine pwp_region ?_ | refine pwp_quiet (by kernel_rfl) (by kernel_rfl) ?_) | refine pwp_exit ?_ | refine pwp_ret ?_ | refine pwp_skip ?_); push_cast [iO, tN, hkd]) | (refine pwp_cond ?_; push_cast [iO, tN, hkd]; try (refine ⟨fun h => ?_, fun h => ?_⟩ <;> (try simp only [decide_eq_true_eq, decide_eq_false_iff_not, cN] at h) <;> (try (first | contradiction | omega | exact cT h (by assumption) | exact cF h (by assumption))))))
      exact ⟨((l.getD g default).index, 1, b0, k + 1 + 1 + 1 + 1), ⟨.inl rfl, by simp only; omega, by simp only; omega⟩, by (refine weak_fg ?_; push_cast [iO, tN])⟩
    push_cast [iO, tN, hkd]
    (refine plc [0] (next_ex L (k + 1 + 1 + 1 + 1) 4 (by omega) (by omega) (by omega) hL hLl) ?_ ?_; push_cast [iO, tN]; rintro r os ⟨v2, ⟨v2a, v2b⟩, rfl, rfl⟩; push_cast [iO, tN])
    by_cases hv2 : 0 < v2
    case neg =>
      repeat' (first | (refine Kont.use (by assumption) ?_) | (refine pwp_seq fun K hK => ?_) | (refine pwp_block ?_) | (refine pwp_scope ?_) | ((first | (refine pwp_cut 11 [53, 54, 59, 69, 70, 105] ?_; first | refine pwp_region ?_ | refine pwp_quiet (by kernel_rfl) (by kernel_rfl) ?_) | refine pwp_exit ?_ | refine pwp_ret ?_ | refine pwp_skip ?_); push_cast [iO, tN, hv2]) | (refine pwp_cond ?_; push_cast [iO, tN, hv2]; try (refine ⟨fun h => ?_, fun h => ?_⟩ <;> (try simp only [decide_eq_true_eq, decide_eq_false_iff_not, cN] at h) <;> (try (first | contradiction | omega | exact cT h (by assumption) | exact cF h (by assumption))))))
      exact ⟨((l.getD g default).index, 1, b0, k + 1 + 1 + 1 + 1 + 1), ⟨.inl rfl, by simp only; omega, by simp only; omega⟩, by (refine weak_fg ?_; push_cast [iO, tN])⟩
    have hsz : ((l.getD g default).original ++ ⟨#[112]⟩).size ≤ B + 1 := by rw [ByteArray.size_append, p_size]; omega
    have hpf : ((l.getD g default).original.size : Int) + ((⟨#[112]⟩ : ByteArray).size : Int) ≤ 9223372036854775807 := p_fit (by omega)
    push_cast [iO, tN, hv2]
    refine Kont.use (by assumption) ?_
    refine pwp_cond ?_
    push_cast [iO, tN]
    refine pwp_seq fun K9 hK9 => ?_
    refine pwp_regionL ?_
    refine pl_run1 (q := .c (.ptr 4 3)) rfl (by push_cast [iO, tN]) (by push_cast [iO, tN]) ?_
    push_cast [iO, tN]
    refine pl_run1 (q := .c (.v (.string (l.getD g default).original))) rfl (by push_cast [iO, tN]) (by push_cast [iO, tN]) ?_
    push_cast [iO, tN]
    refine pl_cat rfl rfl rfl rfl hpf (by push_cast [iO, tN]) ?_
    push_cast [iO, tN]
    refine pl_of_pops ?_
    push_cast [iO, tN]
    repeat' (first | (refine Kont.use (by assumption) ?_) | (refine pwp_seq fun K hK => ?_) | (refine pwp_block ?_) | (refine pwp_scope ?_) | ((first | (refine pwp_cut 11 [53, 54, 59, 69, 70, 105] ?_; first | refine pwp_region ?_ | refine pwp_quiet (by kernel_rfl) (by kernel_rfl) ?_) | refine pwp_exit ?_ | refine pwp_ret ?_ | refine pwp_skip ?_); push_cast [iO, tN]) | (refine pwp_cond ?_; push_cast [iO, tN]; try (refine ⟨fun h => ?_, fun h => ?_⟩ <;> (try simp only [decide_eq_true_eq, decide_eq_false_iff_not, cN] at h) <;> (try (first | contradiction | omega | exact cT h (by assumption) | exact cF h (by assumption))))))
    exact ⟨((l.getD g default).index, 2, (l.getD g default).original ++ ⟨#[112]⟩, k + 1 + 1 + 1 + 1 + 1), ⟨.inr rfl, hsz, by simp only; omega⟩, by (refine weak_fg ?_; push_cast [iO, tN])⟩
  rintro ⟨par, kind, base, k1⟩ ⟨h1, h2, h3⟩
  simp only at h1 h2 h3
  push_cast [iO, tN]
  (apply pwp_mid3 (α := Int × ByteArray × Nat) 11 [53, 54, 59, 69, 70, 105] (fun x => [(8, .c (.v (.string x.2.1)))]) (fun x => [(0, tape L x.2.2), (3, devB n par sub x.1 0 (.v (.slice none 0 0)))]) (fun x => (x.1 = 1 ∨ x.1 = 2 ∨ x.1 = 4) ∧ x.2.1.size ≤ B + 1 ∧ x.2.2 ≤ k + 7) ((0, ⟨#[]⟩, 0)); (focus ((try push_cast [iO, tN]); rfl)))
  · push_cast [iO, tN]
    repeat' (first | (refine Kont.use (by assumption) ?_) | (refine pwp_seq fun K hK => ?_) | (refine pwp_block ?_) | (refine pwp_scope ?_) | ((first | (refine pwp_cut 11 [53, 54, 59, 69, 70, 105] ?_; first | refine pwp_region ?_ | refine pwp_quiet (by kernel_rfl) (by kernel_rfl) ?_) | refine pwp_exit ?_ | refine pwp_ret ?_ | refine pwp_skip ?_); push_cast [iO, tN]) | (refine pwp_cond ?_; push_cast [iO, tN]; try (refine ⟨fun h => ?_, fun h => ?_⟩ <;> (try simp only [decide_eq_true_eq, decide_eq_false_iff_not, cN] at h) <;> (try (first | contradiction | omega | exact cT h (by assumption) | exact cF h (by assumption))))))
    (refine plc [0] (next_ex L k1 5 (by omega) (by omega) (by omega) hL hLl) ?_ ?_; push_cast [iO, tN]; rintro r os ⟨v, ⟨va, vb⟩, rfl, rfl⟩; push_cast [iO, tN])
    by_cases w0 : v = 0
    · repeat' (first | (refine Kont.use (by assumption) ?_) | (refine pwp_seq fun K hK => ?_) | (refine pwp_block ?_) | (refine pwp_scope ?_) | ((first | (refine pwp_cut 11 [53, 54, 59, 69, 70, 105] ?_; first | refine pwp_region ?_ | refine pwp_quiet (by kernel_rfl) (by kernel_rfl) ?_) | refine pwp_exit ?_ | refine pwp_ret ?_ | refine pwp_skip ?_); push_cast [iO, tN, w0]) | (refine pwp_cond ?_; push_cast [iO, tN, w0]; try (refine ⟨fun h => ?_, fun h => ?_⟩ <;> (try simp only [decide_eq_true_eq, decide_eq_false_iff_not, cN] at h) <;> (try (first | contradiction | omega | exact cT h (by assumption) | exact cF h (by assumption))))))
      exact ⟨(2, base, k1 + 1), ⟨.inr (.inl rfl), h2, by simp only; omega⟩, by (refine weak_fg ?_; push_cast [iO, tN])⟩
    by_cases w1 : v = 1
    · repeat' (first | (refine Kont.use (by assumption) ?_) | (refine pwp_seq fun K hK => ?_) | (refine pwp_block ?_) | (refine pwp_scope ?_) | ((first | (refine pwp_cut 11 [53, 54, 59, 69, 70, 105] ?_; first | refine pwp_region ?_ | refine pwp_quiet (by kernel_rfl) (by kernel_rfl) ?_) | refine pwp_exit ?_ | refine pwp_ret ?_ | refine pwp_skip ?_); push_cast [iO, tN, w1]) | (refine pwp_cond ?_; push_cast [iO, tN, w1]; try (refine ⟨fun h => ?_, fun h => ?_⟩ <;> (try simp only [decide_eq_true_eq, decide_eq_false_iff_not, cN] at h) <;> (try (first | contradiction | omega | exact cT h (by assumption) | exact cF h (by assumption))))))
      exact ⟨(2, base, k1 + 1), ⟨.inr (.inl rfl), h2, by simp only; omega⟩, by (refine weak_fg ?_; push_cast [iO, tN])⟩
    by_cases w2 : v = 2
    · repeat' (first | (refine Kont.use (by assumption) ?_) | (refine pwp_seq fun K hK => ?_) | (refine pwp_block ?_) | (refine pwp_scope ?_) | ((first | (refine pwp_cut 11 [53, 54, 59, 69, 70, 105] ?_; first | refine pwp_region ?_ | refine pwp_quiet (by kernel_rfl) (by kernel_rfl) ?_) | refine pwp_exit ?_ | refine pwp_ret ?_ | refine pwp_skip ?_); push_cast [iO, tN, w2]) | (refine pwp_cond ?_; push_cast [iO, tN, w2]; try (refine ⟨fun h => ?_, fun h => ?_⟩ <;> (try simp only [decide_eq_true_eq, decide_eq_false_iff_not, cN] at h) <;> (try (first | contradiction | omega | exact cT h (by assumption) | exact cF h (by assumption))))))
      exact ⟨(2, base, k1 + 1), ⟨.inr (.inl rfl), h2, by simp only; omega⟩, by (refine weak_fg ?_; push_cast [iO, tN])⟩
    by_cases w3 : v = 3
    case neg =>
      repeat' (first | (refine Kont.use (by assumption) ?_) | (refine pwp_seq fun K hK => ?_) | (refine pwp_block ?_) | (refine pwp_scope ?_) | ((first | (refine pwp_cut 11 [53, 54, 59, 69, 70, 105] ?_; first | refine pwp_region ?_ | refine pwp_quiet (by kernel_rfl) (by kernel_rfl) ?_) | refine pwp_exit ?_ | refine pwp_ret ?_ | refine pwp_skip ?_); push_cast [iO, tN, w0, w1, w2, w3]) | (refine pwp_cond ?_; push_cast [iO, tN, w0, w1, w2, w3]; try (refine ⟨fun h => ?_, fun h => ?_⟩ <;> (try simp only [decide_eq_true_eq, decide_eq_false_iff_not, cN] at h) <;> (try (first | contradiction | omega | exact cT h (by assumption) | exact cF h (by assumption))))))
      exact ⟨(kind, base, k1 + 1), ⟨by rcases h1 with h | h; exact .inl h; exact .inr (.inl h), h2, by simp only; omega⟩, by (refine weak_fg ?_; push_cast [iO, tN])⟩
    by_cases hk1 : kind = 1
    case neg =>
      repeat' (first | (refine Kont.use (by assumption) ?_) | (refine pwp_seq fun K hK => ?_) | (refine pwp_block ?_) | (refine pwp_scope ?_) | ((first | (refine pwp_cut 11 [53, 54, 59, 69, 70, 105] ?_; first | refine pwp_region ?_ | refine pwp_quiet (by kernel_rfl) (by kernel_rfl) ?_) | refine pwp_exit ?_ | refine pwp_ret ?_ | refine pwp_skip ?_); push_cast [iO, tN, w3, hk1]) | (refine pwp_cond ?_; push_cast [iO, tN, w3, hk1]; try (refine ⟨fun h => ?_, fun h => ?_⟩ <;> (try simp only [decide_eq_true_eq, decide_eq_false_iff_not, cN] at h) <;> (try (first | contradiction | omega | exact cT h (by assumption) | exact cF h (by assumption))))))
      exact ⟨(kind, base, k1 + 1), ⟨by rcases h1 with h | h; exact .inl h; exact .inr (.inl h), h2, by simp only; omega⟩, by (refine weak_fg ?_; push_cast [iO, tN])⟩
    repeat' (first | (refine plc [0] (one_ex L (k1 + 1) [⟨#[101, 116, 104]⟩, ⟨#[108, 97, 110]⟩] (by omega) (by decide) (by decide) hL hLl) ?_ ?_; push_cast [iO, tN, w3, hk1]; rintro r os ⟨b1, b1m, rfl, rfl⟩; push_cast [iO, tN, w3, hk1]) | (refine Kont.use (by assumption) ?_) | (refine pwp_seq fun K hK => ?_) | (refine pwp_block ?_) | (refine pwp_scope ?_) | ((first | (refine pwp_cut 11 [53, 54, 59, 69, 70, 105] ?_; first | refine pwp_region ?_ | refine pwp_quiet (by kernel_rfl) (by kernel_rfl) ?_) | refine pwp_exit ?_ | refine pwp_ret ?_ | refine pwp_skip ?_); push_cast [iO, tN, w3, hk1]) | (refine pwp_cond ?_; push_cast [iO, tN, w3, hk1]; try (refine ⟨fun h => ?_, fun h => ?_⟩ <;> (try simp only [decide_eq_true_eq, decide_eq_false_iff_not, cN] at h) <;> (try (first | contradiction | omega | exact cT h (by assumption) | exact cF h (by assumption))))))
    have hb1 : b1.size ≤ 10 := by
      have h := List.all_eq_true.1 (show ([⟨#[101, 116, 104]⟩, ⟨#[108, 97, 110]⟩] : List ByteArray).all (fun s => decide (s.size ≤ 10)) = true by decide) b1 b1m
      simpa using h
    exact ⟨(4, b1, k1 + 1 + 1), ⟨.inr (.inr rfl), by simp only; omega, by simp only; omega⟩, by (refine weak_fg ?_; push_cast [iO, tN])⟩
  rintro ⟨kind2, base2, k2⟩ ⟨h4, h5, h6⟩
  simp only at h4 h5 h6
  push_cast [iO, tN]
  (apply pwp_mid3 (α := Int × ByteArray × ByteArray × Nat × List Atr) 11 [53, 54, 59, 69, 70, 105] (fun x => [(8, .c (.v (.string x.2.2.1)))]) (fun x => [(0, tape L x.2.2.2.1), (3, devB n par x.2.1 kind2 x.1 (.sl 2 (x.2.2.2.2.map Atr.d)))]) (fun x => x.2.1.size ≤ 100 ∧ x.2.2.1.size ≤ B + 1 ∧ x.2.2.2.1 ≤ k + 10 ∧ (okA x.2.2.2.2 ∧ x.2.2.2.2.length ≤ 1)) ((0, ⟨#[]⟩, ⟨#[]⟩, 0, [])); (focus ((try push_cast [iO, tN]); rfl)))
  · push_cast [iO, tN]
    have okN : okA [] := fun a ha => by simp at ha
    by_cases hk2 : kind2 = 2
    case neg =>
      by_cases hk4 : kind2 = 4
      · repeat' (first | (refine Kont.use (by assumption) ?_) | (refine pwp_seq fun K hK => ?_) | (refine pwp_block ?_) | (refine pwp_scope ?_) | ((first | (refine pwp_cut 11 [53, 54, 59, 69, 70, 105] ?_; first | refine pwp_region ?_ | refine pwp_quiet (by kernel_rfl) (by kernel_rfl) ?_) | refine pwp_exit ?_ | refine pwp_ret ?_ | refine pwp_skip ?_); push_cast [iO, tN, hk2, hk4]) | (refine pwp_cond ?_; push_cast [iO, tN, hk2, hk4]; try (refine ⟨fun h => ?_, fun h => ?_⟩ <;> (try simp only [decide_eq_true_eq, decide_eq_false_iff_not, cN] at h) <;> (try (first | contradiction | omega | exact cT h (by assumption) | exact cF h (by assumption))))))
        exact ⟨(0, ⟨#[110, 101, 116]⟩, base2, k2, []), ⟨(show (3 : Nat) ≤ 100 by decide), h5, by simp only; omega, okN, Nat.zero_le _⟩, by (refine weak_fg ?_; push_cast [iO, tN])⟩
      · repeat' (first | (refine Kont.use (by assumption) ?_) | (refine pwp_seq fun K hK => ?_) | (refine pwp_block ?_) | (refine pwp_scope ?_) | ((first | (refine pwp_cut 11 [53, 54, 59, 69, 70, 105] ?_; first | refine pwp_region ?_ | refine pwp_quiet (by kernel_rfl) (by kernel_rfl) ?_) | refine pwp_exit ?_ | refine pwp_ret ?_ | refine pwp_skip ?_); push_cast [iO, tN, hk2, hk4]) | (refine pwp_cond ?_; push_cast [iO, tN, hk2, hk4]; try (refine ⟨fun h => ?_, fun h => ?_⟩ <;> (try simp only [decide_eq_true_eq, decide_eq_false_iff_not, cN] at h) <;> (try (first | contradiction | omega | exact cT h (by assumption) | exact cF h (by assumption))))))
        exact ⟨(0, sub, base2, k2, []), ⟨hsub, h5, by simp only; omega, okN, Nat.zero_le _⟩, by (refine weak_fg ?_; push_cast [iO, tN])⟩
    push_cast [iO, tN, hk2]
    refine pwp_seq fun K7 hK7 => ?_
    refine pwp_region ?_
    push_cast [iO, tN]
    refine Kont.use (by assumption) ?_
    refine pwp_block ?_
    refine pwp_seq fun K8 hK8 => ?_
    refine pwp_region ?_
    push_cast [iO, tN]
    refine Kont.use (by assumption) ?_
    refine pwp_cond ?_
    push_cast [iO, tN]
    refine pwp_seq fun K9 hK9 => ?_
    refine pwp_region ?_
    push_cast [iO, tN]
    refine Kont.use (by assumption) ?_
    (apply pwp_mid3 (α := ByteArray × Nat) 11 [53, 54, 59, 69, 70, 105] (fun x => [(8, .c (.v (.string x.1)))]) (fun x => [(0, tape L x.2)]) (fun x => x.1.size ≤ B + 1 ∧ x.2 ≤ k + 8) ((⟨#[]⟩, 0)); (focus ((try push_cast [iO, tN]); rfl)))
    · push_cast [iO, tN]
      have onek := fun (j : Nat) (hj : j < 1000000) => one_ex L j [⟨#[115, 100]⟩, ⟨#[110, 118, 109, 101]⟩, ⟨#[109, 100, 45, 114]⟩, ⟨#[120, 33, 115, 100]⟩] hj (by decide) (by decide) hL hLl
      have ones : ∀ b ∈ ([⟨#[115, 100]⟩, ⟨#[110, 118, 109, 101]⟩, ⟨#[109, 100, 45, 114]⟩, ⟨#[120, 33, 115, 100]⟩] : List ByteArray), b.size ≤ 10 := fun b hb => by
        have h := List.all_eq_true.1 (show ([⟨#[115, 100]⟩, ⟨#[110, 118, 109, 101]⟩, ⟨#[109, 100, 45, 114]⟩, ⟨#[120, 33, 115, 100]⟩] : List ByteArray).all (fun s => decide (s.size ≤ 10)) = true by decide) b hb
        simpa using h
      by_cases q1 : base2 = ⟨#[97]⟩
      · repeat' (first | (refine plc [0] (onek k2 (by omega)) ?_ ?_; push_cast [iO, tN, (eq_true q1)]; rintro r os ⟨b1, b1m, rfl, rfl⟩; push_cast [iO, tN, (eq_true q1)]) | (refine Kont.use (by assumption) ?_) | (refine pwp_seq fun K hK => ?_) | (refine pwp_block ?_) | (refine pwp_scope ?_) | ((first | (refine pwp_cut 11 [53, 54, 59, 69, 70, 105] ?_; first | refine pwp_region ?_ | refine pwp_quiet (by kernel_rfl) (by kernel_rfl) ?_) | refine pwp_exit ?_ | refine pwp_ret ?_ | refine pwp_skip ?_); push_cast [iO, tN, (eq_true q1)]) | (refine pwp_cond ?_; push_cast [iO, tN, (eq_true q1)]; try (refine ⟨fun h => ?_, fun h => ?_⟩ <;> (try simp only [decide_eq_true_eq, decide_eq_false_iff_not, cN] at h) <;> (try (first | contradiction | omega | exact cT h (by assumption) | exact cF h (by assumption))))))
        have hb1 := ones b1 b1m
        exact ⟨(b1, k2 + 1), ⟨by simp only; omega, by simp only; omega⟩, by (refine weak_fg ?_; push_cast [iO, tN])⟩
      by_cases q2 : base2 = ⟨#[98]⟩
      · repeat' (first | (refine plc [0] (onek k2 (by omega)) ?_ ?_; push_cast [iO, tN, q1, (eq_true q2)]; rintro r os ⟨b1, b1m, rfl, rfl⟩; push_cast [iO, tN, q1, (eq_true q2)]) | (refine Kont.use (by assumption) ?_) | (refine pwp_seq fun K hK => ?_) | (refine pwp_block ?_) | (refine pwp_scope ?_) | ((first | (refine pwp_cut 11 [53, 54, 59, 69, 70, 105] ?_; first | refine pwp_region ?_ | refine pwp_quiet (by kernel_rfl) (by kernel_rfl) ?_) | refine pwp_exit ?_ | refine pwp_ret ?_ | refine pwp_skip ?_); push_cast [iO, tN, q1, (eq_true q2)]) | (refine pwp_cond ?_; push_cast [iO, tN, q1, (eq_true q2)]; try (refine ⟨fun h => ?_, fun h => ?_⟩ <;> (try simp only [decide_eq_true_eq, decide_eq_false_iff_not, cN] at h) <;> (try (first | contradiction | omega | exact cT h (by assumption) | exact cF h (by assumption))))))
        have hb1 := ones b1 b1m
        exact ⟨(b1, k2 + 1), ⟨by simp only; omega, by simp only; omega⟩, by (refine weak_fg ?_; push_cast [iO, tN])⟩
      by_cases q3 : base2 = ⟨#[104, 117, 98]⟩
      · repeat' (first | (refine plc [0] (onek k2 (by omega)) ?_ ?_; push_cast [iO, tN, q1, q2, (eq_true q3)]; rintro r os ⟨b1, b1m, rfl, rfl⟩; push_cast [iO, tN, q1, q2, (eq_true q3)]) | (refine Kont.use (by assumption) ?_) | (refine pwp_seq fun K hK => ?_) | (refine pwp_block ?_) | (refine pwp_scope ?_) | ((first | (refine pwp_cut 11 [53, 54, 59, 69, 70, 105] ?_; first | refine pwp_region ?_ | refine pwp_quiet (by kernel_rfl) (by kernel_rfl) ?_) | refine pwp_exit ?_ | refine pwp_ret ?_ | refine pwp_skip ?_); push_cast [iO, tN, q1, q2, (eq_true q3)]) | (refine pwp_cond ?_; push_cast [iO, tN, q1, q2, (eq_true q3)]; try (refine ⟨fun h => ?_, fun h => ?_⟩ <;> (try simp only [decide_eq_true_eq, decide_eq_false_iff_not, cN] at h) <;> (try (first | contradiction | omega | exact cT h (by assumption) | exact cF h (by assumption))))))
        have hb1 := ones b1 b1m
        exact ⟨(b1, k2 + 1), ⟨by simp only; omega, by simp only; omega⟩, by (refine weak_fg ?_; push_cast [iO, tN])⟩
      by_cases q4 : base2 = ⟨#[120, 33, 121]⟩
      · repeat' (first | (refine plc [0] (onek k2 (by omega)) ?_ ?_; push_cast [iO, tN, q1, q2, q3, (eq_true q4)]; rintro r os ⟨b1, b1m, rfl, rfl⟩; push_cast [iO, tN, q1, q2, q3, (eq_true q4)]) | (refine Kont.use (by assumption) ?_) | (refine pwp_seq fun K hK => ?_) | (refine pwp_block ?_) | (refine pwp_scope ?_) | ((first | (refine pwp_cut 11 [53, 54, 59, 69, 70, 105] ?_; first | refine pwp_region ?_ | refine pwp_quiet (by kernel_rfl) (by kernel_rfl) ?_) | refine pwp_exit ?_ | refine pwp_ret ?_ | refine pwp_skip ?_); push_cast [iO, tN, q1, q2, q3, (eq_true q4)]) | (refine pwp_cond ?_; push_cast [iO, tN, q1, q2, q3, (eq_true q4)]; try (refine ⟨fun h => ?_, fun h => ?_⟩ <;> (try simp only [decide_eq_true_eq, decide_eq_false_iff_not, cN] at h) <;> (try (first | contradiction | omega | exact cT h (by assumption) | exact cF h (by assumption))))))
        have hb1 := ones b1 b1m
        exact ⟨(b1, k2 + 1), ⟨by simp only; omega, by simp only; omega⟩, by (refine weak_fg ?_; push_cast [iO, tN])⟩
      repeat' (first | (refine Kont.use (by assumption) ?_) | (refine pwp_seq fun K hK => ?_) | (refine pwp_block ?_) | (refine pwp_scope ?_) | ((first | (refine pwp_cut 11 [53, 54, 59, 69, 70, 105] ?_; first | refine pwp_region ?_ | refine pwp_quiet (by kernel_rfl) (by kernel_rfl) ?_) | refine pwp_exit ?_ | refine pwp_ret ?_ | refine pwp_skip ?_); push_cast [iO, tN, q1, q2, q3, q4]) | (refine pwp_cond ?_; push_cast [iO, tN, q1, q2, q3, q4]; try (refine ⟨fun h => ?_, fun h => ?_⟩ <;> (try simp only [decide_eq_true_eq, decide_eq_false_iff_not, cN] at h) <;> (try (first | contradiction | omega | exact cT h (by assumption) | exact cF h (by assumption))))))
      exact ⟨(base2, k2), ⟨h5, by simp only; omega⟩, by (refine weak_fg ?_; push_cast [iO, tN])⟩
    rintro ⟨base4, k4⟩ ⟨w1, w2⟩
    simp only at w1 w2
    push_cast [iO, tN]
    repeat' (first | (refine Kont.use (by assumption) ?_) | (refine pwp_seq fun K hK => ?_) | (refine pwp_block ?_) | (refine pwp_scope ?_) | ((first | (refine pwp_cut 11 [53, 54, 59, 69, 70, 105] ?_; first | refine pwp_region ?_ | refine pwp_quiet (by kernel_rfl) (by kernel_rfl) ?_) | refine pwp_exit ?_ | refine pwp_ret ?_ | refine pwp_skip ?_); push_cast [iO, tN]) | (refine pwp_cond ?_; push_cast [iO, tN]; try (refine ⟨fun h => ?_, fun h => ?_⟩ <;> (try simp only [decide_eq_true_eq, decide_eq_false_iff_not, cN] at h) <;> (try (first | contradiction | omega | exact cT h (by assumption) | exact cF h (by assumption))))))
    have hct := contents_pure
    (refine plc [] (hct) ?_ ?_; push_cast [iO, tN]; rintro r os ⟨⟨cl, c1, c2, rfl⟩, rfl⟩; push_cast [iO, tN])
    (refine plc [] (hct) ?_ ?_; push_cast [iO, tN]; rintro r os ⟨⟨cm, d1, d2, rfl⟩, rfl⟩; push_cast [iO, tN])
    push_cast [iO, tN, d1]
    (refine plc [0] (next_ex L k4 16 (by omega) (by omega) (by omega) hL hLl) ?_ ?_; push_cast [iO, tN]; rintro r os ⟨v, ⟨va, vb⟩, rfl, rfl⟩; push_cast [iO, tN])
    obtain ⟨g, rfl⟩ : ∃ g : Nat, v = (g : Int) := ⟨v.toNat, by omega⟩
    have hgl : g < cl.length := by omega
    have hcz : (cl.getD g default).size ≤ 100 := c2 _ (by rw [getD_lt cl hgl]; exact List.getElem_mem _)
    obtain ⟨cv, hcv⟩ : ∃ cv, cl.getD g default = cv := ⟨_, rfl⟩
    rw [hcv] at hcz
    push_cast [iO, tN, hcv]
    by_cases hce : cv = ⟨#[]⟩
    · repeat' (first | (refine Kont.use (by assumption) ?_) | (refine pwp_seq fun K hK => ?_) | (refine pwp_block ?_) | (refine pwp_scope ?_) | ((first | (refine pwp_cut 11 [53, 54, 59, 69, 70, 105] ?_; first | refine pwp_region ?_ | refine pwp_quiet (by kernel_rfl) (by kernel_rfl) ?_) | refine pwp_exit ?_ | refine pwp_ret ?_ | refine pwp_skip ?_); push_cast [iO, tN, (eq_true hce), ne_eq, not_true_eq_false]) | (refine pwp_cond ?_; push_cast [iO, tN, (eq_true hce), ne_eq, not_true_eq_false]; try (refine ⟨fun h => ?_, fun h => ?_⟩ <;> (try simp only [decide_eq_true_eq, decide_eq_false_iff_not, cN] at h) <;> (try (first | contradiction | omega | exact cT h (by assumption) | exact cF h (by assumption))))))
      exact ⟨(n, ⟨#[98, 108, 111, 99, 107]⟩, base4, k4 + 1, []), ⟨(show (5 : Nat) ≤ 100 by decide), w1, by simp only; omega, okN, Nat.zero_le _⟩, by (refine weak_fg ?_; push_cast [iO, tN])⟩
    · repeat' (first | (refine Kont.use (by assumption) ?_) | (refine pwp_seq fun K hK => ?_) | (refine pwp_block ?_) | (refine pwp_scope ?_) | ((first | (refine pwp_cut 11 [53, 54, 59, 69, 70, 105] ?_; first | refine pwp_region ?_ | refine pwp_quiet (by kernel_rfl) (by kernel_rfl) ?_) | refine pwp_exit ?_ | refine pwp_ret ?_ | refine pwp_skip ?_); push_cast [iO, tN, hce, ne_eq, not_false_eq_true]) | (refine pwp_cond ?_; push_cast [iO, tN, hce, ne_eq, not_false_eq_true]; try (refine ⟨fun h => ?_, fun h => ?_⟩ <;> (try simp only [decide_eq_true_eq, decide_eq_false_iff_not, cN] at h) <;> (try (first | contradiction | omega | exact cT h (by assumption) | exact cF h (by assumption))))))
      have hoka : okA [⟨⟨#[99, 111, 110, 116, 101, 110, 116]⟩, cv⟩] := fun a ha => by
        rw [List.mem_singleton.1 ha]
        exact ⟨Nat.le_trans (show (7 : Nat) ≤ 100 by decide) (by decide), Nat.le_trans hcz (by decide)⟩
      exact ⟨(n, ⟨#[98, 108, 111, 99, 107]⟩, base4, k4 + 1, [⟨⟨#[99, 111, 110, 116, 101, 110, 116]⟩, cv⟩]), ⟨(show (5 : Nat) ≤ 100 by decide), w1, by simp only; omega, hoka, Nat.le_refl _⟩, by (refine weak_fg ?_; push_cast [iO, tN])⟩
  rintro ⟨num, sub3, base3, k3, at3⟩ ⟨h7, h8, h9, h10, h11⟩
  simp only at h7 h8 h9 h10 h11
  push_cast [iO, tN]
  repeat' (first | (refine Kont.use (by assumption) ?_) | (refine pwp_seq fun K hK => ?_) | (refine pwp_block ?_) | (refine pwp_scope ?_) | ((first | (refine pwp_cut 11 [53, 54, 59, 69, 70, 105] ?_; first | refine pwp_region ?_ | refine pwp_quiet (by kernel_rfl) (by kernel_rfl) ?_) | refine pwp_exit ?_ | refine pwp_ret ?_ | refine pwp_skip ?_); push_cast [iO, tN]) | (refine pwp_cond ?_; push_cast [iO, tN]; try (refine ⟨fun h => ?_, fun h => ?_⟩ <;> (try simp only [decide_eq_true_eq, decide_eq_false_iff_not, cN] at h) <;> (try (first | contradiction | omega | exact cT h (by assumption) | exact cF h (by assumption))))))
  (refine plc [0] (next_ex L k3 4 (by omega) (by omega) (by omega) hL hLl) ?_ ?_; push_cast [iO, tN]; rintro r os ⟨v, ⟨va, vb⟩, rfl, rfl⟩; push_cast [iO, tN])
  obtain ⟨g, hg⟩ : ∃ g : Nat, 1 + v = (g : Int) := ⟨(1 + v).toNat, by omega⟩
  have hgd := dig_one (i := g) (by omega)
  rw [hg]
  (refine plc [] (itoa_pure g (by omega)) ?_ ?_; push_cast [iO, tN]; rintro r os ⟨rfl, rfl⟩; push_cast [iO, tN])
  repeat' (first | (refine Kont.use (by assumption) ?_) | (refine pwp_seq fun K hK => ?_) | (refine pwp_block ?_) | (refine pwp_scope ?_) | ((first | (refine pwp_cut 11 [53, 54, 59, 69, 70, 105] ?_; first | refine pwp_region ?_ | refine pwp_quiet (by kernel_rfl) (by kernel_rfl) ?_) | refine pwp_exit ?_ | refine pwp_ret ?_ | refine pwp_skip ?_); push_cast [iO, tN]) | (refine pwp_cond ?_; push_cast [iO, tN]; try (refine ⟨fun h => ?_, fun h => ?_⟩ <;> (try simp only [decide_eq_true_eq, decide_eq_false_iff_not, cN] at h) <;> (try (first | contradiction | omega | exact cT h (by assumption) | exact cF h (by assumption))))))
  have hbz : (base3 ++ dig g).size ≤ B + 2 := by rw [ByteArray.size_append, hgd]; omega
  have hfit : ∀ z : ByteArray, z.size ≤ 200000 → Fit z := fun z hz => Nat.le_trans hz (by decide)
  have hf1 : Fit (base3 ++ dig g) := hfit _ (by omega)
  have hf2 : Fit sub3 := hfit _ (by omega)
  have hf3 : Fit ⟨#[]⟩ := Nat.zero_le _
  (refine retK_of [0] ?_; push_cast [iO, tN])
  exact ⟨_, _, leP_refl _, leOs_refl _, ⟨n, par, base3 ++ dig g, base3 ++ dig g, sub3, ⟨#[]⟩, ⟨#[]⟩, kind2, num, at3⟩, k3 + 1, ⟨rfl, ⟨hf1, hf1, hf2, hf3, hf3, h10, Nat.le_trans h11 (by decide), Nat.le_trans hbz (by omega)⟩, hbz, Nat.le_trans h11 (by decide)⟩, by omega, rfl, rfl⟩
end Go.Proofs.YtcnoopjacilceaaGreatDoor
