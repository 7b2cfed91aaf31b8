/- What the program computes, and the plain laws of it, part 50. -/
import Derived.Test.YtcnoopjacilceaaGreatDoorQ43
import Derived.Test.YtcnoopjacilceaaGreatDoorQ44
import Derived.Test.YtcnoopjacilceaaGreatDoorQ49
namespace Go.Proofs.YtcnoopjacilceaaGreatDoor
attribute [local irreducible] PL QL PWPr PCalls Weak RetK Kontr PA
open Go.RowKit
open IntWalk renaming iteOmega → iO, toNatUp → tN
set_option linter.unusedVariables false
set_option linter.unusedSimpArgs false
set_option maxRecDepth 20000
theorem getD_memD (l : List Dev) {i : Nat} (hi : i < l.length) : l.getD i default ∈ l := by rw [getD_lt l hi]; exact List.getElem_mem _
theorem recs_snoc {rs : List Rec} {r : Rec} {n : Nat} (h : rs.length ≤ n) (hn : n < 1000) (h1 : r.tags.length ≤ 1000) (h2 : r.props.length ≤ 1000) (h3 : ∀ a ∈ r.props, a.value.size ≤ 1000) (ho : RecsOk rs) : RecsOk (rs ++ [r]) := by
  have key : ∀ x ∈ rs ++ [r], x ∈ rs ∨ x = r := fun x hx => by simpa using hx
  refine ⟨by rw [List.length_append, List.length_singleton]; omega, fun x hx => ?_, fun x hx => ?_, fun x hx => ?_⟩
  all_goals rcases key x hx with h | rfl
  · exact ho.tags x h
  · exact h1
  · exact ho.props x h
  · exact h2
  · exact ho.val x h
  · exact h3
theorem recs_nil : RecsOk [] := ⟨by simp, by simp, by simp, by simp⟩
theorem x_fit {n : Nat} (h : n ≤ 100000000) : (n : Int) + ((⟨#[120]⟩ : ByteArray).size : Int) ≤ 9223372036854775807 := by
  have : (⟨#[120]⟩ : ByteArray).size = 1 := rfl
  omega
theorem px_size {p : ByteArray} (h : p.size ≤ 1001000) : (p ++ ⟨#[120]⟩).size ≤ 1100000 := by
  rw [ByteArray.size_append]
  have : (⟨#[120]⟩ : ByteArray).size = 1 := rfl
  omega
theorem px_fit {p : ByteArray} (h : p.size ≤ 1001000) : (p.size : Int) + ((⟨#[120]⟩ : ByteArray).size : Int) ≤ 9223372036854775807 := x_fit (by omega)
set_option maxHeartbeats 8000000 in
theorem seated_pure (L : List Int) (k : Nat) (t : List Dev) (n : Nat) (hk : k < 50000) (ht : TreeOk t n) (hn : n ≤ 100) (hL : ∀ x ∈ L, -9223372036854775808 ≤ x ∧ x ≤ 9223372036854775807) (hLl : L.length ≤ 9223372036854775807) :
    PCalls Tryz.prog 21 [.c (.ptr 0 0), .agg (trE t)] [tape L k] fun r os => ∃ (rs : List Rec) (k' : Nat), RecsOk rs ∧ k' ≤ k + 10 * n ∧ r = .c (.sl 12 (rs.map Rec.d)) ∧ os = [tape L k'] := by
  have nex := fun (j : Nat) (hj : j < 1000000) (m : Int) (hm : 0 < m) (hm2 : m ≤ 9223372036854775807) => next_ex L j m hj hm hm2 hL hLl
  have hlen := ht.len
  have hz : ∀ d ∈ t, d.original.size ≤ 1000 := fun d hd => by have := (ht.dev d hd).2.1; omega
  refine pcalls_of Tryz.func21 rfl (by simp [Tryz.ntmps21]) ?_
  rw [Tryz.ntmps21, Tryz.results21]
  push_cast [iO, tN]
  have cB : CutB 9 [28, 43] := trivial
  repeat' (first | ((first | refine pC ?_ | refine pQC ?_ | refine pU ?_); push_cast [iO, tN]) | (refine pif (fun h => ?_) (fun h => ?_) <;> first | exact pN h | push_cast [iO, tN]))
  refine pwp_weak (weak_adopt 5 67 12 (by omega) (by push_cast [iO, tN])) ?_
  push_cast [iO, tN]
  (apply pwp_loop3 (α := Nat × List Rec × Nat) 9 [28, 43] (fun x => [(6, .c (.v (.int .i64 x.1))), (5, .c (.own 2 x.2.1.length))]) (fun x => [(0, tape L x.2.2), (2, .arr 67 12 (x.2.1.map Rec.d))]) (fun x => x.1 ≤ t.length ∧ x.2.1.length ≤ x.1 ∧ RecsOk x.2.1 ∧ x.2.2 ≤ k + 10 * x.1) (fun x => t.length - x.1) ((0, [], k)); (focus ((try push_cast [iO, tN]); rfl)); (focus exact ⟨Nat.zero_le _, Nat.le_refl _, recs_nil, by simp⟩); (focus ((refine weak_fg ?_; try push_cast [iO, tN]))))
  rintro ⟨j, rs, q⟩ ⟨hj, hrl, hro, hq⟩
  simp only at hj hrl hro hq
  push_cast [iO, tN]
  by_cases hlt : j < t.length
  case neg =>
    have hj2 : j = t.length := by omega
    refine pwp_weak (weak_frz 2 (by omega)) ?_
    push_cast [iO, tN]
    repeat' (first | ((first | refine pC ?_ | refine pQC ?_ | refine pU ?_); push_cast [iO, tN]) | (refine pif (fun h => ?_) (fun h => ?_) <;> first | exact pN h | push_cast [iO, tN]))
    (refine retK_of [0] ?_; push_cast [iO, tN])
    exact ⟨_, _, leP_refl _, leOs_refl _, rs, q, hro, by omega, rfl, rfl⟩
  have hm := getD_memD t hlt
  have hpl := place_size (l := t) (by omega) hz (t.getD j default).index
  have hp := rplace_pure t (t.getD j default).index (by omega) hz
  have hix := (ht.dev _ hm).2.2
  have hpos := ht.okt.pos _ hm
  obtain ⟨p, hpp⟩ : ∃ p, placeM t (t.getD j default).index = p := ⟨_, rfl⟩
  rw [hpp] at hpl hp
  obtain ⟨ix, hixx⟩ : ∃ ix, (t.getD j default).index = ix := ⟨_, rfl⟩
  rw [hixx] at hp hix hpos
  refine pwp_seq fun K0 hK0 => ?_
  refine pC ?_
  push_cast [iO, tN]
  refine pU ?_
  refine pwp_seq fun K1 hK1 => ?_
  refine pwp_block ?_
  refine pwp_seq fun K2 hK2 => ?_
  refine pC ?_
  push_cast [iO, tN, hixx]
  refine pU ?_
  refine pwp_seq fun K3 hK3 => ?_
  refine pC ?_
  push_cast [iO, tN]
  (refine plc [] (hp) ?_ ?_; push_cast [iO, tN]; rintro r os ⟨rfl, rfl⟩; push_cast [iO, tN])
  refine pU ?_
  have f1 : (⟨#[120]⟩ : ByteArray).size = 1 := rfl
  (apply pwp_mid3 (α := Rec × Nat) 9 [28, 43] (fun x => []) (fun x => [(0, tape L x.2), (3, .box 67 x.1.e)]) (fun x => (x.1.path.size ≤ 1100000 ∧ x.1.tags = [] ∧ x.1.props.length ≤ 1 ∧ ∀ a ∈ x.1.props, a.value.size ≤ 100) ∧ x.2 ≤ q + 3) ((default, 0)); (focus ((try push_cast [iO, tN]); rfl)))
  · refine pwp_gen fun Q0 hQ0 => ?_
    refine pwp_seq fun K5 hK5 => ?_
    refine pC ?_
    push_cast [iO, tN]
    (refine plc [0] (nex q (by omega) 12 (by decide) (by decide)) ?_ ?_; push_cast [iO, tN]; rintro r os ⟨v, ⟨va, vb⟩, rfl, rfl⟩; push_cast [iO, tN])
    have hone := one_ex L (q + 1) [⟨#[115, 101, 97, 116, 49]⟩, ⟨#[115, 101, 97, 116, 50]⟩, ⟨#[115, 101, 97, 116, 48]⟩] (by omega) (by decide) (by decide) hL hLl
    have hcase : v = 0 ∨ v = 1 ∨ v = 2 ∨ (v = 3 ∨ v = 4 ∨ v = 5) ∨ 6 ≤ v := by omega
    rcases hcase with rfl | rfl | rfl | hv | hv
    · repeat' (first | ((first | refine pC ?_ | refine pQC ?_ | refine pU ?_); push_cast [iO, tN]) | (refine pif (fun h => ?_) (fun h => ?_) <;> first | exact pN h | push_cast [iO, tN]))
      refine hQ0 _ _ ?_
      push_cast [iO, tN]
      repeat' (first | ((first | refine pC ?_ | refine pQC ?_ | refine pU ?_); push_cast [iO, tN]) | (refine pif (fun h => ?_) (fun h => ?_) <;> first | exact pN h | push_cast [iO, tN]))
      exact ⟨(j + 1, rs, q + 1), ⟨by simp only; omega, by simp only; omega, hro, by simp only; omega⟩, by (refine weak_fg ?_; push_cast [iO, tN]), by simp only; omega⟩
    · repeat' (first | ((first | refine pC ?_ | refine pQC ?_ | refine pU ?_); push_cast [iO, tN]) | (refine pif (fun h => ?_) (fun h => ?_) <;> first | exact pN h | push_cast [iO, tN]))
      refine hQ0 _ _ ?_
      push_cast [iO, tN]
      exact ⟨(⟨p, ix + 1, [], [], ⟨#[]⟩, ⟨#[]⟩, 0⟩, q + 1), ⟨⟨by simp only; omega, rfl, Nat.zero_le _, fun a ha => by cases ha⟩, by simp only; omega⟩, by (refine weak_fg ?_; push_cast [iO, tN])⟩
    · have hfit := px_fit hpl
      have hsz := px_size hpl
      clear hpl f1
      iterate 1 (first | ((first | refine pC ?_ | refine pQC ?_ | refine pU ?_); push_cast [iO, tN]) | (refine pif (fun h => ?_) (fun h => ?_) <;> first | exact pN h | push_cast [iO, tN]))
      refine pwp_block ?_
      iterate 3
        refine pwp_seq fun Kx hKx => ?_
        refine pwp_region ?_
        push_cast [iO, tN]
        refine Kont.use (by assumption) ?_
        refine pwp_cond ?_
        push_cast [iO, tN]
      refine pwp_regionL ?_
      refine pl_run1 (q := .c (.ptr 3 0)) rfl (by push_cast [iO, tN]) (by push_cast [iO, tN]) ?_
      push_cast [iO, tN]
      refine pl_run1 (q := .c (.v (.string p))) rfl (by push_cast [iO, tN]) (by push_cast [iO, tN]) ?_
      push_cast [iO, tN]
      refine pl_cat rfl rfl rfl rfl hfit (by push_cast [iO, tN]) ?_
      push_cast [iO, tN]
      refine pl_of_pops ?_
      push_cast [iO, tN]
      repeat' (first | ((first | refine pC ?_ | refine pQC ?_ | refine pU ?_); push_cast [iO, tN]) | (refine pif (fun h => ?_) (fun h => ?_) <;> first | exact pN h | push_cast [iO, tN]))
      refine hQ0 _ _ ?_
      push_cast [iO, tN]
      exact ⟨(⟨p ++ ⟨#[120]⟩, ix, [], [], ⟨#[]⟩, ⟨#[]⟩, 0⟩, q + 1), ⟨⟨hsz, rfl, Nat.zero_le _, fun a ha => by cases ha⟩, by simp only; omega⟩, by (refine weak_fg ?_; push_cast [iO, tN])⟩
    · rcases hv with rfl | rfl | rfl
      all_goals repeat' (first |  ((refine plc [0] (hone) ?_ ?_; push_cast [iO, tN]; rintro r os ⟨sv, svm, rfl, rfl⟩; push_cast [iO, tN]))  | ((first | refine pC ?_ | refine pQC ?_ | refine pU ?_); push_cast [iO, tN]) | (refine pif (fun h => ?_) (fun h => ?_) <;> first | exact pN h | push_cast [iO, tN]))
      all_goals refine hQ0 _ _ ?_
      all_goals push_cast [iO, tN]
      all_goals exact ⟨(⟨p, ix, [⟨⟨#[73, 68, 95, 83, 69, 65, 84]⟩, sv⟩], [], ⟨#[]⟩, ⟨#[]⟩, 0⟩, q + 1 + 1), ⟨⟨by simp only; omega, rfl, Nat.le_refl _, fun a ha => by rw [List.mem_singleton] at ha; subst ha; exact mem_fit (by decide) svm⟩, by simp only; omega⟩, by (refine weak_fg ?_; push_cast [iO, tN])⟩
    · repeat' (first | ((first | refine pC ?_ | refine pQC ?_ | refine pU ?_); push_cast [iO, tN]) | (refine pif (fun h => ?_) (fun h => ?_) <;> first | exact pN h | push_cast [iO, tN]))
      refine hQ0 _ _ ?_
      push_cast [iO, tN]
      exact ⟨(⟨p, ix, [], [], ⟨#[]⟩, ⟨#[]⟩, 0⟩, q + 1), ⟨⟨by simp only; omega, rfl, Nat.zero_le _, fun a ha => by cases ha⟩, by simp only; omega⟩, by (refine weak_fg ?_; push_cast [iO, tN])⟩
  rintro ⟨⟨path, index, props, tags, owner, group, mode⟩, q2⟩ ⟨⟨r1, r2, r3, r4⟩, hq2⟩
  simp only at r1 r2 r3 r4 hq2
  subst r2
  have hsm := some_pure L q2 [⟨#[109, 97, 115, 116, 101, 114, 45, 111, 102, 45, 115, 101, 97, 116]⟩, ⟨#[115, 101, 97, 116]⟩, ⟨#[117, 97, 99, 99, 101, 115, 115]⟩] (by omega) (by decide) hL hLl
  push_cast [iO, tN]
  obtain ⟨kd, hkd⟩ : ∃ kd, (t.getD j default).kind = kd := ⟨_, rfl⟩
  have v1 : ∀ a ∈ props, a.value.size ≤ 1000 := fun a ha => Nat.le_trans (r4 a ha) (by decide)
  by_cases hk2 : kd = 2
  · repeat' (first | ((refine plc [0] (hsm) ?_ ?_; push_cast [iO, tN, hkd, hk2]; rintro r os ⟨out, hol, rfl, rfl⟩; push_cast [iO, tN, hkd, hk2])) | ((refine plc [0] (nex (q2 + 3) (by omega) 2 (by decide) (by decide)) ?_ ?_; push_cast [iO, tN, hkd, hk2]; rintro r os ⟨w, ⟨wa, wb⟩, rfl, rfl⟩; push_cast [iO, tN, hkd, hk2])) | ((first | refine pC ?_ | refine pQC ?_ | refine pU ?_); push_cast [iO, tN, hkd, hk2]) | (refine pif (fun h => ?_) (fun h => ?_) <;> first | exact pN h | push_cast [iO, tN, hkd, hk2]))
    · exact ⟨(j + 1, rs ++ [⟨path, index, props, [⟨#[115, 101, 97, 116]⟩, ⟨#[117, 97, 99, 99, 101, 115, 115]⟩], ⟨#[114, 111, 111, 116]⟩, ⟨#[114, 111, 111, 116]⟩, 384⟩], q2 + 3 + 1), ⟨by simp only; omega, by simp only [List.length_append, List.length_singleton]; omega, recs_snoc hrl (by omega) (by show (2 : Nat) ≤ 1000; decide) (by simp only; omega) v1 hro, by simp only; omega⟩, by (refine weak_fg ?_; push_cast [iO, tN]), by simp only; omega⟩
    · exact ⟨(j + 1, rs ++ [⟨path, index, props, out, ⟨#[114, 111, 111, 116]⟩, ⟨#[114, 111, 111, 116]⟩, 384⟩], q2 + 3 + 1), ⟨by simp only; omega, by simp only [List.length_append, List.length_singleton]; omega, recs_snoc hrl (by omega) (Nat.le_trans hol (by decide)) (by simp only; omega) v1 hro, by simp only; omega⟩, by (refine weak_fg ?_; push_cast [iO, tN]), by simp only; omega⟩
  · by_cases hk3 : kd = 3
    · repeat' (first | ((refine plc [0] (hsm) ?_ ?_; push_cast [iO, tN, hkd, hk2, hk3]; rintro r os ⟨out, hol, rfl, rfl⟩; push_cast [iO, tN, hkd, hk2, hk3])) | ((refine plc [0] (nex (q2 + 3) (by omega) 2 (by decide) (by decide)) ?_ ?_; push_cast [iO, tN, hkd, hk2, hk3]; rintro r os ⟨w, ⟨wa, wb⟩, rfl, rfl⟩; push_cast [iO, tN, hkd, hk2, hk3])) | ((first | refine pC ?_ | refine pQC ?_ | refine pU ?_); push_cast [iO, tN, hkd, hk2, hk3]) | (refine pif (fun h => ?_) (fun h => ?_) <;> first | exact pN h | push_cast [iO, tN, hkd, hk2, hk3]))
      · exact ⟨(j + 1, rs ++ [⟨path, index, props, [⟨#[115, 101, 97, 116]⟩, ⟨#[117, 97, 99, 99, 101, 115, 115]⟩], ⟨#[114, 111, 111, 116]⟩, ⟨#[114, 111, 111, 116]⟩, 384⟩], q2 + 3 + 1), ⟨by simp only; omega, by simp only [List.length_append, List.length_singleton]; omega, recs_snoc hrl (by omega) (by show (2 : Nat) ≤ 1000; decide) (by simp only; omega) v1 hro, by simp only; omega⟩, by (refine weak_fg ?_; push_cast [iO, tN]), by simp only; omega⟩
      · exact ⟨(j + 1, rs ++ [⟨path, index, props, out, ⟨#[114, 111, 111, 116]⟩, ⟨#[114, 111, 111, 116]⟩, 384⟩], q2 + 3 + 1), ⟨by simp only; omega, by simp only [List.length_append, List.length_singleton]; omega, recs_snoc hrl (by omega) (Nat.le_trans hol (by decide)) (by simp only; omega) v1 hro, by simp only; omega⟩, by (refine weak_fg ?_; push_cast [iO, tN]), by simp only; omega⟩
    · repeat' (first | ((refine plc [0] (hsm) ?_ ?_; push_cast [iO, tN, hkd, hk2, hk3]; rintro r os ⟨out, hol, rfl, rfl⟩; push_cast [iO, tN, hkd, hk2, hk3])) | ((refine plc [0] (nex (q2 + 3) (by omega) 2 (by decide) (by decide)) ?_ ?_; push_cast [iO, tN, hkd, hk2, hk3]; rintro r os ⟨w, ⟨wa, wb⟩, rfl, rfl⟩; push_cast [iO, tN, hkd, hk2, hk3])) | ((first | refine pC ?_ | refine pQC ?_ | refine pU ?_); push_cast [iO, tN, hkd, hk2, hk3]) | (refine pif (fun h => ?_) (fun h => ?_) <;> first | exact pN h | push_cast [iO, tN, hkd, hk2, hk3]))
      · exact ⟨(j + 1, rs ++ [⟨path, index, props, [⟨#[115, 101, 97, 116]⟩, ⟨#[117, 97, 99, 99, 101, 115, 115]⟩], owner, group, mode⟩], q2 + 3 + 1), ⟨by simp only; omega, by simp only [List.length_append, List.length_singleton]; omega, recs_snoc hrl (by omega) (by show (2 : Nat) ≤ 1000; decide) (by simp only; omega) v1 hro, by simp only; omega⟩, by (refine weak_fg ?_; push_cast [iO, tN]), by simp only; omega⟩
      · exact ⟨(j + 1, rs ++ [⟨path, index, props, out, owner, group, mode⟩], q2 + 3 + 1), ⟨by simp only; omega, by simp only [List.length_append, List.length_singleton]; omega, recs_snoc hrl (by omega) (Nat.le_trans hol (by decide)) (by simp only; omega) v1 hro, by simp only; omega⟩, by (refine weak_fg ?_; push_cast [iO, tN]), by simp only; omega⟩
end Go.Proofs.YtcnoopjacilceaaGreatDoor
namespace Go.Proofs.YtcnoopjacilceaaGreatDoor
attribute [local irreducible] PL QL PWPr PCalls Weak RetK Kontr PA
open Go.RowKit
open IntWalk renaming iteOmega → iO, toNatUp → tN
set_option linter.unusedVariables false
set_option linter.unusedSimpArgs false
set_option maxRecDepth 20000
set_option maxHeartbeats 4000000 in
theorem site_pure (L : List Int) (hL : ∀ x ∈ L, -9223372036854775808 ≤ x ∧ x ≤ 9223372036854775807) (hLl : L.length ≤ 9223372036854775807) :
    PCalls Tryz.prog 7 [.c (.sl 1 (L.map fun x => [D.v (.int .i64 x)]))] [] fun r os => ∃ (t : List Dev) (rs : List Rec) (nx : Int) (s : List Ses), TreeOk t 10 ∧ RecsOk rs ∧ SessOk s ∧ r = .three (.agg (trE t)) (.c (.sl 12 (rs.map Rec.d))) (.agg [.v (.int .i64 nx), .sl 4 (s.map Ses.d)]) ∧ os = [] := by
  have hT := made_pure L 0 10 (by omega) (by omega) hL hLl
  simp only [tape] at hT
  push_cast [iO, tN] at hT
  refine pcalls_of Tryz.func7 rfl (by simp [Tryz.ntmps7]) ?_
  rw [Tryz.ntmps7, Tryz.results7]
  push_cast [iO, tN]
  have cB : CutB 8 [] := trivial
  repeat' (first | ((first | refine pC ?_ | refine pQC ?_ | refine pU ?_); push_cast [iO, tN]) | (refine pif (fun h => ?_) (fun h => ?_) <;> first | exact pN h | push_cast [iO, tN]))
  (refine plc [2] (hT) ?_ ?_; push_cast [iO, tN]; rintro r os ⟨t, k1, ht, hk1, rfl, rfl⟩; push_cast [iO, tN])
  repeat' (first | ((first | refine pC ?_ | refine pQC ?_ | refine pU ?_); push_cast [iO, tN]) | (refine pif (fun h => ?_) (fun h => ?_) <;> first | exact pN h | push_cast [iO, tN]))
  (refine plc [2] (seated_pure L k1 t 10 (by omega) ht (by decide) hL hLl) ?_ ?_; push_cast [iO, tN]; rintro r os ⟨rs, k2, hr, hk2, rfl, rfl⟩; push_cast [iO, tN])
  trace_state
  repeat' (first |  (refine hidR 4 ?_)  | ((first | refine pC ?_ | refine pQC ?_ | refine pU ?_); push_cast [iO, tN]) | (refine pif (fun h => ?_) (fun h => ?_) <;> first | exact pN h | push_cast [iO, tN]))
  refine unhid ?_
  have hS := sessions_pure L k2 (by omega) hL hLl
  (refine pwp_drawn (by kernel_rfl) ?_; try simp only [List.length_cons, List.length_nil, Nat.reduceAdd]; repeat' first | ((refine plc [2] (hS) ?_ ?_; push_cast [iO, tN]; rintro r os ⟨nx, s, k3, hso, hk3, rfl, rfl⟩; push_cast [iO, tN])) | ((first | refine pah 1 ?_ | refine pah 2 ?_ | refine pah 5 ?_); push_cast [iO, tN]) | (refine pad ?_; try push_cast [iO, tN]) | ((first | refine pas [0] ?_ | refine pas [3] ?_ | refine pas [4] ?_ | refine pas [6] ?_); push_cast [iO, tN]) | ((first | refine pas [0, 3] ?_ | refine pas [0, 4] ?_ | refine pas [0, 6] ?_ | refine pas [3, 4] ?_ | refine pas [3, 6] ?_ | refine pas [4, 6] ?_); push_cast [iO, tN]; refine ⟨?_, ?_⟩) | ((first | refine pas [0, 3, 4] ?_ | refine pas [0, 3, 6] ?_ | refine pas [0, 4, 6] ?_ | refine pas [3, 4, 6] ?_); push_cast [iO, tN]; refine ⟨?_, ?_, ?_⟩))
  all_goals repeat' (first | ((first | refine pC ?_ | refine pQC ?_ | refine pU ?_); push_cast [iO, tN]) | (refine pif (fun h => ?_) (fun h => ?_) <;> first | exact pN h | push_cast [iO, tN]))
  all_goals (refine retK_of [] ?_; push_cast [iO, tN])
  all_goals exact ⟨_, _, leP_refl _, leOs_refl _, t, rs, nx, s, ht, hr, hso, rfl, rfl⟩
end Go.Proofs.YtcnoopjacilceaaGreatDoor
namespace Go.Proofs.YtcnoopjacilceaaGreatDoor
open Go.RowKit
open IntWalk renaming iteOmega → iO, toNatUp → tN
set_option linter.unusedVariables false
set_option linter.unusedSimpArgs false
theorem spl_joinL : ∀ (ps : List (List UInt8)) (p : List UInt8), (47 : UInt8) ∉ p → (∀ q ∈ ps, (47 : UInt8) ∉ q) → spl (p ++ joinL ps) = p :: ps
  | [], p, hp, _ => by rw [show joinL [] = [] from rfl, List.append_nil, spl_none hp]
  | q :: ps, p, hp, h => by
    rw [joinL_cons, spl_app _ hp, spl_joinL ps q (h q (by simp)) fun x hx => h x (by simp [hx])]
theorem splitP_join {ps : List ByteArray} (h0 : ps ≠ []) (hv : ∀ p ∈ ps, validS p = true) : splitP (joinP ps) = some ps := by
  obtain ⟨p, qs, rfl⟩ : ∃ p qs, ps = p :: qs := by cases ps with | nil => exact absurd rfl h0 | cons p qs => exact ⟨p, qs, rfl⟩
  have hd : (joinP (p :: qs)).data.toList = 47 :: (p.data.toList ++ joinL (qs.map fun q => q.data.toList)) := by rw [joinP_list, List.map_cons, joinL_cons]
  have hs : slashS (joinP (p :: qs)) = true := by unfold slashS Lib.hasPrefix; rw [hd]; simp [List.isPrefixOf]
  have hr : (restS (joinP (p :: qs))).data.toList = p.data.toList ++ joinL (qs.map fun q => q.data.toList) := by
    have := slash_rest hs
    rw [hd] at this
    injection this with _ this
    exact this.symm
  have hp : parts (restS (joinP (p :: qs))) = p :: qs := by
    unfold parts
    rw [hr, spl_joinL _ _ (valid_slash (hv p (by simp))) fun q hq => by
      obtain ⟨x, hx, rfl⟩ := List.mem_map.1 hq
      exact valid_slash (hv x (by simp [hx]))]
    rw [List.map_cons, List.map_map, unT_data]
    congr 1
    conv => rhs; rw [← List.map_id qs]
    exact List.map_congr_left fun x _ => rfl
  unfold splitP
  rw [hp, if_pos ⟨hs, List.all_eq_true.2 hv⟩]
theorem place_split {l : List Dev} (h : Okt l) {d : Dev} (hd : d ∈ l) : splitP (placeM l d.index) = some (origM l d.index) := splitP_join (orig_ne h.p hd) (orig_val h.val _)
theorem wantQ_has {l : List Dev} {rs : List Rec} {s : List Ses} {d : Dev} (h : wantQ l rs s d = true) : hasN d = true ∧ tagQ l rs d.index ⟨#[117, 97, 99, 99, 101, 115, 115]⟩ = true ∧ userM s (seatM l rs d.index) ≠ ⟨#[]⟩ := by
  unfold wantQ at h
  simp only [Bool.and_eq_true, Bool.not_eq_true', decide_eq_false_iff_not] at h
  exact ⟨h.1.1, h.1.2, h.2⟩
theorem nodup_of_map {l : List Dev} (h : (l.map Dev.index).Nodup) : l.Nodup := by
  unfold List.Nodup at h ⊢
  rw [List.pairwise_map] at h
  exact h.imp fun h e => h (by rw [e])
theorem want_right {l : List Dev} (h : Okt l) (ho : OrdT l) (hn : NodT l) (rs : List Rec) (s : List Ses) : Right (wantM l rs s) := by
  have hmem : ∀ d ∈ l.filter (wantQ l rs s), d ∈ l ∧ wantQ l rs s d = true := fun d hd => List.mem_filter.1 hd
  refine ⟨fun a ha => ?_, ?_, ?_⟩
  · obtain ⟨d, hd, rfl⟩ := List.mem_map.1 ha
    exact ⟨_, place_split h (hmem d hd).1⟩
  · unfold wantM
    rw [List.pairwise_map]
    refine (List.Pairwise.sublist List.filter_sublist ho).imp_of_mem fun {a b} ha hb hab => ?_
    unfold ltA cmpP wantA
    simp only
    rw [place_split h (hmem a ha).1, place_split h (hmem b hb).1]
    exact hab
  · unfold wantM List.Nodup
    rw [List.map_map, List.pairwise_map]
    have hnd : l.Pairwise (· ≠ ·) := nodup_of_map h.nodup
    refine (List.Pairwise.sublist List.filter_sublist hnd).imp_of_mem fun {a b} ha hb hab e => hab ?_
    exact hn a (hmem a ha).1 b (hmem b hb).1 (wantQ_has (hmem a ha).2).1 (wantQ_has (hmem b hb).2).1 e
theorem want_get {l : List Dev} {rs : List Rec} {s : List Ses} {i : Nat} (hi : i < (wantM l rs s).length) : ∃ d ∈ l, wantQ l rs s d = true ∧ (wantM l rs s).getD i default = wantA l rs s d ∧ (l.filter (wantQ l rs s)).getD i default = d := by
  have hi2 : i < (l.filter (wantQ l rs s)).length := by unfold wantM at hi; rwa [List.length_map] at hi
  have hm : (l.filter (wantQ l rs s))[i] ∈ l.filter (wantQ l rs s) := List.getElem_mem _
  obtain ⟨h1, h2⟩ := List.mem_filter.1 hm
  refine ⟨_, h1, h2, ?_, by rw [getD_lt _ hi2]⟩
  rw [getD_lt _ hi]
  exact List.getElem_map (wantA l rs s)
theorem at_place {l : List Dev} (h : Okt l) {d : Dev} (hd : d ∈ l) : atD l (placeM l d.index) = some d := by
  unfold atD
  cases hf : l.find? fun x => decide (placeM l x.index = placeM l d.index) with
  | none =>
    rw [List.find?_eq_none] at hf
    exact absurd (by simp) (hf d hd)
  | some x =>
    have h1 := List.find?_some hf
    simp only [decide_eq_true_eq] at h1
    rw [place_inj h (List.mem_of_find?_eq_some hf) hd h1]
theorem user_none {s : List Ses} {p : ByteArray} (h : ∀ x ∈ s, x.seat = p → x.active = false) : userM s p = ⟨#[]⟩ := by
  unfold userM
  rw [find_no fun x hx => ?_]
  by_cases e : x.seat = p
  · simp [h x hx e]
  · simp [e]
theorem user_some {s : List Ses} {p : ByteArray} (hu : ∀ x ∈ s, x.user ≠ ⟨#[]⟩) (h : ∃ x ∈ s, x.seat = p ∧ x.active = true) : userM s p ≠ ⟨#[]⟩ := by
  obtain ⟨x, hx, h1, h2⟩ := h
  unfold userM
  cases hf : s.find? fun x => decide (x.seat = p) && x.active with
  | none =>
    rw [List.find?_eq_none] at hf
    exact absurd (by simp [h1, h2]) (hf x hx)
  | some y => exact hu y (List.mem_of_find?_eq_some hf)
theorem userM_nil (p : ByteArray) : userM [] p = ⟨#[]⟩ := rfl
theorem wantM_nil (l : List Dev) (rs : List Rec) : wantM l rs [] = [] := by
  unfold wantM
  rw [List.filter_eq_nil_iff.2 fun d hd => ?_, List.map_nil]
  unfold wantQ
  rw [userM_nil]
  simp
def turnM (s : List Ses) (p : ByteArray) (n : Int) : List Ses := s.map fun x => if x.seat = p then { x with active := decide (x.id = n) } else x
theorem turn_other {s : List Ses} {p q : ByteArray} (n : Int) (h : q ≠ p) : userM (turnM s p n) q = userM s q := by
  have key : ∀ s : List Ses, ((turnM s p n).find? fun x => decide (x.seat = q) && x.active) = s.find? fun x => decide (x.seat = q) && x.active := by
    intro s
    induction s with
    | nil => rfl
    | cons x s ih =>
      unfold turnM at ih ⊢
      rw [List.map_cons, List.find?_cons, List.find?_cons, ih]
      by_cases e : x.seat = p
      · have hq : decide (x.seat = q) = false := by rw [e]; simpa using Ne.symm h
        simp only [if_pos e, hq, Bool.false_and]
      · simp only [if_neg e]
  unfold userM
  rw [key]
theorem turn_own {s : List Ses} {p : ByteArray} {n : Int} (hu : ∀ x ∈ s, x.user ≠ ⟨#[]⟩) (h : ∃ x ∈ s, x.seat = p ∧ x.id = n) : userM (turnM s p n) p ≠ ⟨#[]⟩ := by
  obtain ⟨x, hx, h1, h2⟩ := h
  refine user_some (fun y hy => ?_) ⟨{ x with active := decide (x.id = n) }, List.mem_map.2 ⟨x, hx, by rw [if_pos h1]⟩, h1, by simp [h2]⟩
  obtain ⟨z, hz, rfl⟩ := List.mem_map.1 hy
  split
  · exact hu z hz
  · exact hu z hz
theorem turn_want {l : List Dev} {rs : List Rec} {s : List Ses} {p : ByteArray} {n : Int} (hu : ∀ x ∈ s, x.user ≠ ⟨#[]⟩) (h : ∃ x ∈ s, x.seat = p ∧ x.id = n) (hp : userM s p ≠ ⟨#[]⟩) (d : Dev) : wantQ l rs (turnM s p n) d = wantQ l rs s d := by
  unfold wantQ
  congr 2
  by_cases e : seatM l rs d.index = p
  · rw [e, decide_eq_false (turn_own hu h), decide_eq_false hp]
  · rw [turn_other n e]
theorem turn_filter {l : List Dev} {rs : List Rec} {s : List Ses} {p : ByteArray} {n : Int} (hu : ∀ x ∈ s, x.user ≠ ⟨#[]⟩) (h : ∃ x ∈ s, x.seat = p ∧ x.id = n) (hp : userM s p ≠ ⟨#[]⟩) : l.filter (wantQ l rs (turnM s p n)) = l.filter (wantQ l rs s) := List.filter_congr fun d _ => turn_want hu h hp d
theorem turn_len {l : List Dev} {rs : List Rec} {s : List Ses} {p : ByteArray} {n : Int} (hu : ∀ x ∈ s, x.user ≠ ⟨#[]⟩) (h : ∃ x ∈ s, x.seat = p ∧ x.id = n) (hp : userM s p ≠ ⟨#[]⟩) : (wantM l rs (turnM s p n)).length = (wantM l rs s).length := by
  unfold wantM
  rw [List.length_map, List.length_map, turn_filter hu h hp]
theorem turn_get {l : List Dev} {rs : List Rec} {s : List Ses} {p : ByteArray} {n : Int} (hu : ∀ x ∈ s, x.user ≠ ⟨#[]⟩) (h : ∃ x ∈ s, x.seat = p ∧ x.id = n) (hp : userM s p ≠ ⟨#[]⟩) {i : Nat} (hi : i < (wantM l rs s).length) : ∃ d ∈ l, (wantM l rs s).getD i default = wantA l rs s d ∧ (wantM l rs (turnM s p n)).getD i default = wantA l rs (turnM s p n) d := by
  obtain ⟨d, hd, _, h1, h2⟩ := want_get hi
  obtain ⟨d', _, _, h3, h4⟩ := want_get (l := l) (rs := rs) (s := turnM s p n) (i := i) (by rw [turn_len hu h hp]; exact hi)
  rw [turn_filter hu h hp, h2] at h4
  subst h4
  exact ⟨d, hd, h1, h3⟩
end Go.Proofs.YtcnoopjacilceaaGreatDoor
