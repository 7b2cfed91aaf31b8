/- What the program computes, and the plain laws of it, part 47. -/
import Derived.Test.YtbonfcphabnlpabGreatDoorQ46
namespace Go.Proofs.YtbonfcphabnlpabGreatDoor
open Go.RowKit
open IntWalk renaming iteOmega → iO, toNatUp → tN
set_option linter.unusedVariables false
set_option linter.unusedSimpArgs false
theorem whyL_none {l : List Ihb} {p : ByteArray} {now : Int} : ∀ {rs : List Req}, (∀ r ∈ rs, r.path ≠ p) → whyL l p now rs = []
  | [], _ => rfl
  | r :: rs, h => by
    rw [whyL, if_neg (h r (by simp)), List.nil_append]
    exact whyL_none fun x hx => h x (by simp [hx])
theorem fk_split {α : Type} [Inhabited α] (q : α → Bool) (b : List α) (k : Nat) : b.filter q = fltK q b k ++ (b.drop k).filter q := by
  unfold fltK
  rw [← List.filter_append, List.take_append_drop]
theorem fk_t {α : Type} [Inhabited α] {q : α → Bool} {b : List α} {k : Nat} (hk : k < b.length) (h : q (b.getD k default) = true) : (fltK q b k).length < (b.filter q).length ∧ (b.filter q).getD (fltK q b k).length default = b.getD k default := by
  have e := fk_split q b k
  rw [List.drop_eq_getElem_cons hk, List.filter_cons_of_pos (by rw [← getD_lt b hk]; exact h)] at e
  rw [e]
  constructor
  · simp
  · rw [getD_lt b hk]
    simp [List.getD]
theorem drop_why (s : Inh) (p : ByteArray) (now : Int) : whyM (dropM s p) p now = [] := by
  unfold whyM dropM dropR
  exact whyL_none fun r hr => by simpa using (List.mem_filter.1 hr).2
theorem drop_drop (s : Inh) (p : ByteArray) : dropM (dropM s p) p = dropM s p := by
  unfold dropM dropR
  simp
end Go.Proofs.YtbonfcphabnlpabGreatDoor
namespace Go.Proofs.YtbonfcphabnlpabGreatDoor
attribute [local irreducible] PL QL PWPr PCalls Weak RetK Kontr PA
open Go.RowKit
open IntWalk renaming iteOmega → iO, toNatUp → tN
set_option linter.unusedVariables false
set_option linter.unusedSimpArgs false
set_option maxRecDepth 20000
set_option maxHeartbeats 4000000 in
theorem madeI_pure (L : List Int) (k : Nat) (t : List Dev) (n : Nat) (hk : k < 90000) (ht : TreeOk t n) (hn : n ≤ 100) (hL : ∀ x ∈ L, -9223372036854775808 ≤ x ∧ x ≤ 9223372036854775807) (hLl : L.length ≤ 9223372036854775807) :
    PCalls Tryz.prog 5 [.c (.ptr 0 0), .agg (trE t)] [tape L k] fun r os => ∃ (s : Inh) (now : Int) (k' : Nat), s.good ∧ (0 ≤ now ∧ now ≤ 2000) ∧ k' ≤ k + 200 ∧ r = .two (.agg s.e) (.c (.v (.int .i64 now))) ∧ os = [tape L k'] := by
  have nex := fun (j : Nat) (hj : j < 1000000) (m : Int) (hm : 0 < m) (hm2 : m ≤ 9223372036854775807) => next_ex L j m hj hm hm2 hL hLl
  refine pcalls_of Tryz.func5 rfl (by simp [Tryz.ntmps5]) ?_
  rw [Tryz.ntmps5, Tryz.results5]
  push_cast [iO, tN]
  have cB : CutB 9 [] := trivial
  repeat' (first |  ((refine plc [0] (nex k (by omega) 100 (by decide) (by decide)) ?_ ?_; push_cast [iO, tN]; rintro r os ⟨now0, ⟨na, nb⟩, rfl, rfl⟩; push_cast [iO, tN])) | ((refine plc [0] (nex (k + 1) (by omega) 12 (by decide) (by decide)) ?_ ?_; push_cast [iO, tN]; rintro r os ⟨c, ⟨ca, cb⟩, rfl, rfl⟩; push_cast [iO, tN]))  | ((first | refine pC ?_ | refine pQC ?_ | refine pU ?_); push_cast [iO, tN]) | (refine pif (fun h => ?_) (fun h => ?_) <;> first | exact pN h | push_cast [iO, tN]))
  (apply pwp_loop3 (α := Int × Inh × Int × Nat) 9 [] (fun x => [(7, .c (.v (.int .i64 x.1))), (8, .c (.v (.int .i64 x.2.2.1)))]) (fun x => [(0, tape L x.2.2.2), (3, .box 29 x.2.1.e)]) (fun x => x.2.1.good ∧ (0 ≤ x.2.2.1 ∧ x.2.2.1 ≤ 12) ∧ (0 ≤ x.1 ∧ x.1 ≤ 100 + (12 - x.2.2.1) * 100) ∧ (x.2.2.2 : Int) ≤ (k : Int) + 2 + (12 - x.2.2.1) * 11) (fun x => x.2.2.1.toNat) ((now0, ⟨1, [], []⟩, c, k + 2)); (focus ((try push_cast [iO, tN]); rfl)); (focus exact ⟨good_new (by decide) (by decide), by simp only; omega, by simp only; omega, by simp only; omega⟩); (focus ((refine weak_fg ?_; try push_cast [iO, tN]))))
  rintro ⟨now, s, c, q⟩ ⟨hg, ⟨hc0, hc1⟩, ⟨hn0, hn1⟩, hq⟩
  simp only at hg hc0 hc1 hn0 hn1 hq
  push_cast [iO, tN]
  by_cases hlt : 0 < c
  · have hcall := call_pure L q s t n now ⟨#[97]⟩ (by omega) hg ht hn (by omega) (by omega) (by decide) hL hLl
    repeat' (first |  (refine plc [0] (hcall) ?_ ?_; push_cast [iO, tN]; rintro r os ⟨s', q', hg', hq', rfl, rfl⟩; push_cast [iO, tN]) | ((refine plc [0] (nex q' (by omega) 100 (by decide) (by decide)) ?_ ?_; push_cast [iO, tN]; rintro r os ⟨v, ⟨va, vb⟩, rfl, rfl⟩; push_cast [iO, tN]))  | ((first | refine pC ?_ | refine pQC ?_ | refine pU ?_); push_cast [iO, tN]) | (refine pif (fun h => ?_) (fun h => ?_) <;> first | exact pN h | push_cast [iO, tN]))
    exact ⟨(now + v, s', c - 1, q' + 1), ⟨hg', by simp only; omega, by simp only; omega, by simp only; omega⟩, by (refine weak_fg ?_; push_cast [iO, tN]), by simp only; omega⟩
  · repeat' (first | ((first | refine pC ?_ | refine pQC ?_ | refine pU ?_); push_cast [iO, tN]) | (refine pif (fun h => ?_) (fun h => ?_) <;> first | exact pN h | push_cast [iO, tN]))
    (refine retK_of [0] ?_; push_cast [iO, tN])
    exact ⟨_, _, leP_refl _, leOs_refl _, s, now, q, hg, ⟨by omega, by omega⟩, by omega, rfl, rfl⟩
end Go.Proofs.YtbonfcphabnlpabGreatDoor
namespace Go.Proofs.YtbonfcphabnlpabGreatDoor
attribute [local irreducible] PL QL PWPr PCalls Weak RetK Kontr PA
open Go.RowKit
open IntWalk renaming iteOmega → iO, toNatUp → tN
set_option linter.unusedVariables false
set_option linter.unusedSimpArgs false
end Go.Proofs.YtbonfcphabnlpabGreatDoor
namespace Go.Proofs.YtbonfcphabnlpabGreatDoor
attribute [local irreducible] PL QL PWPr PCalls Weak RetK Kontr PA
open Go.RowKit
open IntWalk renaming iteOmega → iO, toNatUp → tN
set_option linter.unusedVariables false
set_option linter.unusedSimpArgs false
set_option maxRecDepth 20000
set_option maxHeartbeats 8000000 in
set_option maxRecDepth 20000 in
theorem dropsI_pure (L : List Int) (v : Int) (hL : ∀ x ∈ L, -9223372036854775808 ≤ x ∧ x ≤ 9223372036854775807) (hLl : L.length ≤ 9223372036854775807) (hv1 : -9223372036854775808 ≤ v) (hv2 : v ≤ 9223372036854775807) :
    PCalls Tryz.prog 3 [.c (.sl 1 (L.map fun x => [D.v (.int .i64 x)])), .c (.v (.int .i64 v))] [] fun r os => r = .c (.v (.bool true)) ∧ os = [] := by
  have hT := made_pure L 0 6 (by omega) (by omega) hL hLl
  simp only [tape] at hT
  push_cast [iO, tN] at hT
  refine pcalls_of Tryz.func3 rfl (by simp [Tryz.ntmps3]) ?_
  rw [Tryz.ntmps3, Tryz.results3]
  push_cast [iO, tN]
  have cB : CutB 12 [] := trivial
  repeat' (first |  (refine plc [0] (hT) ?_ ?_; push_cast [iO, tN]; rintro r os ⟨t, k1, ht, hk1, rfl, rfl⟩; push_cast [iO, tN])  | ((first | refine pC ?_ | refine pQC ?_ | refine pU ?_); push_cast [iO, tN]) | (refine pif (fun h => ?_) (fun h => ?_) <;> first | exact pN h | push_cast [iO, tN]))
  (refine plc [0] (madeI_pure L k1 t 6 (by omega) ht (by decide) hL hLl) ?_ ?_; push_cast [iO, tN]; rintro r os ⟨s, now, k2, hg, ⟨hn0, hn1⟩, hk2, rfl, rfl⟩; push_cast [iO, tN])
  have hrl := hg.ok.reqs
  have hll := hg.ok.len
  by_cases h0 : 0 < s.reqs.length
  case neg =>
    repeat' (first | ((first | refine pC ?_ | refine pQC ?_ | refine pU ?_); push_cast [iO, tN]) | (refine pif (fun h => ?_) (fun h => ?_) <;> first | exact pN h | push_cast [iO, tN]))
    obtain ⟨p, hp⟩ : ∃ p, (⟨#[47, 110, 111, 110, 101]⟩ : ByteArray) = p := ⟨_, rfl⟩
    rw [hp]
    clear h0 h
    have hdp := drop_pure s p hg.ok
    have hgd := hg.drop p
    have hd1 : (dropM s p).reqs = s.reqs.filter fun r => decide (r.path ≠ p) := rfl
    have hd2 : (dropM s p).list = s.list := rfl
    have hw := why_pure (dropM s p) p now hgd.ok
    rw [drop_why] at hw
    have hdd := drop_pure (dropM s p) p hgd.ok
    rw [drop_drop] at hdd
    obtain ⟨d, hd⟩ : ∃ d, dropM s p = d := ⟨_, rfl⟩
    rw [hd] at hdp hgd hd1 hd2 hw hdd
    have hdl := hgd.ok.reqs
    have hdl2 := hgd.ok.len
    have hsm := same_pureI d d (by omega) (by omega) (by omega) (by omega)
    rw [decide_eq_true rfl] at hsm
    obtain ⟨q, hq0⟩ : ∃ q : Req → Bool, (fun r => decide (r.path ≠ p)) = q := ⟨_, rfl⟩
    rw [hq0] at hd1
    have hqp : ∀ r : Req, q r = decide (r.path ≠ p) := fun r => by rw [← hq0]
    repeat' (first |  ((refine plc [] (hdp) ?_ ?_; push_cast [iO, tN]; rintro r os ⟨rfl, rfl⟩; push_cast [iO, tN]))  | ((first | refine pC ?_ | refine pQC ?_ | refine pU ?_); push_cast [iO, tN]) | (refine pif (fun h => ?_) (fun h => ?_) <;> first | exact pN h | push_cast [iO, tN]))
    (apply pwp_loop3 (α := Nat) 12 [] (fun k => [(11, .c (.v (.int .i64 k))), (10, .c (.v (.int .i64 (((fltK q s.reqs k).length : Int)))))]) (fun k => []) (fun k => k ≤ s.reqs.length) (fun k => s.reqs.length - k) (0); (focus ((try push_cast [iO, tN]); rfl)); (focus exact (Nat.zero_le _)); (focus ((refine weak_fg ?_; try push_cast [iO, tN]); (try (simp [fltK_zero])))))
    intro k hk
    push_cast [iO, tN]
    have hfl := fltK_len q s.reqs k
    by_cases hlt : k < s.reqs.length
    · by_cases hpe : (s.reqs.getD k default).path = p
      · have hqf : q (s.reqs.getD k default) = false := by rw [hqp, hpe]; simp
        have hs := fltK_f hlt hqf
        repeat' (first | ((first | refine pC ?_ | refine pQC ?_ | refine pU ?_); push_cast [iO, tN, hpe]) | (refine pif (fun h => ?_) (fun h => ?_) <;> first | exact pN h | push_cast [iO, tN, hpe]))
        exact ⟨k + 1, by omega, by (refine weak_fg ?_; push_cast [iO, tN, hs]), by omega⟩
      · have hqt : q (s.reqs.getD k default) = true := by rw [hqp]; exact decide_eq_true hpe
        obtain ⟨h1, h2⟩ := fk_t hlt hqt
        rw [← hd1] at h1 h2
        have hs := fltK_t hlt hqt
        repeat' (first | ((first | refine pC ?_ | refine pQC ?_ | refine pU ?_); push_cast [iO, tN, hpe, h2]) | (refine pif (fun h => ?_) (fun h => ?_) <;> first | exact pN h | push_cast [iO, tN, hpe, h2]))
        exact ⟨k + 1, by omega, by (refine weak_fg ?_; push_cast [iO, tN, hs]), by omega⟩
    · have hkk : k = s.reqs.length := by omega
      have hfe : (fltK q s.reqs k).length = d.reqs.length := by rw [hkk, fltK_all, hd1]
      rw [hfe]
      repeat' (first | (refine hidR 15 ?_) | ((first | refine pC ?_ | refine pQC ?_ | refine pU ?_); push_cast [iO, tN, hd2]) | (refine pif (fun h => ?_) (fun h => ?_) <;> first | exact pN h | push_cast [iO, tN, hd2]))
      refine unhid ?_
      (refine pwp_cut 12 [] ?_; refine pwp_drawn (by kernel_rfl) ?_; simp only [List.length_cons, List.length_nil, Nat.reduceAdd]; refine pah 0 ?_; push_cast [iO, tN,  hd2]; refine pah 1 ?_; push_cast [iO, tN,  hd2]; apply pa_hav; intro z13; apply pa_hav; intro z12; apply pa_hav; intro z11; apply pa_hav; intro z9; apply pa_hav; intro z10; apply pa_hav; intro z7; apply pa_hav; intro z8; apply pa_hav; intro z6; apply pa_hav; intro z5; apply pa_hav; intro z4; apply pa_hav; intro z2; apply pa_hav; intro z3; apply pa_hav; intro z1; refine pas [2] ?_; push_cast [iO, tN,  hd2]; (focus (refine pah 3 ?_; push_cast [iO, tN,  hd2]; refine pah 4 ?_; push_cast [iO, tN,  hd2]; refine pah 5 ?_; push_cast [iO, tN,  hd2]; refine pah 6 ?_; push_cast [iO, tN,  hd2]; refine pah 9 ?_; push_cast [iO, tN,  hd2]; exact z1)); refine pas [7, 10] ?_; push_cast [iO, tN,  hd2]; refine ⟨?_, ?_⟩; (focus (refine pah 8 ?_; push_cast [iO, tN,  hd2]; exact z2)); (focus (refine pah 11 ?_; push_cast [iO, tN,  hd2]; exact z3)); refine pas [7] ?_; push_cast [iO, tN,  hd2]; (focus (refine pah 8 ?_; push_cast [iO, tN,  hd2]; refine pah 12 ?_; push_cast [iO, tN,  hd2]; refine pah 13 ?_; push_cast [iO, tN,  hd2]; refine pah 14 ?_; push_cast [iO, tN,  hd2]; refine pah 16 ?_; push_cast [iO, tN,  hd2]; refine pah 17 ?_; push_cast [iO, tN,  hd2]; exact z4)); refine pas [10] ?_; push_cast [iO, tN,  hd2]; (focus (refine pah 11 ?_; push_cast [iO, tN,  hd2]; refine pah 12 ?_; push_cast [iO, tN,  hd2]; refine pah 13 ?_; push_cast [iO, tN,  hd2]; refine pah 14 ?_; push_cast [iO, tN,  hd2]; refine pah 16 ?_; push_cast [iO, tN,  hd2]; refine pah 17 ?_; push_cast [iO, tN,  hd2]; refine paw z4 ?_; refine weak_fg ?_; push_cast [iO, tN,  hd2])); refine pas [15] ?_; push_cast [iO, tN,  hd2]; refine z5; refine pas [18] ?_; push_cast [iO, tN,  hd2]; (focus ((first | ((refine plc [] (hw) ?_ ?_; push_cast [iO, tN,  hd2]; rintro r os ⟨rfl, rfl⟩; push_cast [iO, tN,  hd2])) | ((refine plc [] (hdd) ?_ ?_; push_cast [iO, tN,  hd2]; rintro r os ⟨rfl, rfl⟩; push_cast [iO, tN,  hd2])) | ((refine plc [] (hsm) ?_ ?_; push_cast [iO, tN,  hd2]; rintro r os ⟨rfl, rfl⟩; push_cast [iO, tN,  hd2])) | ((refine plc [] (known_pure) ?_ ?_; push_cast [iO, tN,  hd2]; rintro r os ⟨rfl, rfl⟩; push_cast [iO, tN,  hd2]))); refine pah 19 ?_; push_cast [iO, tN,  hd2]; refine pah 20 ?_; push_cast [iO, tN,  hd2]; refine pah 21 ?_; push_cast [iO, tN,  hd2]; refine pah 22 ?_; push_cast [iO, tN,  hd2]; refine pah 24 ?_; push_cast [iO, tN,  hd2]; exact z6)); refine pas [23, 26] ?_; push_cast [iO, tN,  hd2]; refine ⟨z7, z8⟩; refine pas [23] ?_; push_cast [iO, tN,  hd2]; refine z10; refine pas [25, 26] ?_; push_cast [iO, tN,  hd2]; refine ⟨?_, ?_⟩; (focus ((first | ((refine plc [] (hw) ?_ ?_; push_cast [iO, tN,  hd2]; rintro r os ⟨rfl, rfl⟩; push_cast [iO, tN,  hd2])) | ((refine plc [] (hdd) ?_ ?_; push_cast [iO, tN,  hd2]; rintro r os ⟨rfl, rfl⟩; push_cast [iO, tN,  hd2])) | ((refine plc [] (hsm) ?_ ?_; push_cast [iO, tN,  hd2]; rintro r os ⟨rfl, rfl⟩; push_cast [iO, tN,  hd2])) | ((refine plc [] (known_pure) ?_ ?_; push_cast [iO, tN,  hd2]; rintro r os ⟨rfl, rfl⟩; push_cast [iO, tN,  hd2]))); exact z9)); (focus (refine paw z10 ?_; refine weak_fg ?_; push_cast [iO, tN,  hd2])); refine pas [25] ?_; push_cast [iO, tN,  hd2]; (focus ((first | ((refine plc [] (hw) ?_ ?_; push_cast [iO, tN,  hd2]; rintro r os ⟨rfl, rfl⟩; push_cast [iO, tN,  hd2])) | ((refine plc [] (hdd) ?_ ?_; push_cast [iO, tN,  hd2]; rintro r os ⟨rfl, rfl⟩; push_cast [iO, tN,  hd2])) | ((refine plc [] (hsm) ?_ ?_; push_cast [iO, tN,  hd2]; rintro r os ⟨rfl, rfl⟩; push_cast [iO, tN,  hd2])) | ((refine plc [] (known_pure) ?_ ?_; push_cast [iO, tN,  hd2]; rintro r os ⟨rfl, rfl⟩; push_cast [iO, tN,  hd2]))); exact z11)); refine pas [26] ?_; push_cast [iO, tN,  hd2]; refine paw z11 ?_ <;> (refine weak_fg ?_; push_cast [iO, tN,  hd2]); refine pas [27] ?_; push_cast [iO, tN,  hd2]; (focus ((first | ((refine plc [] (hw) ?_ ?_; push_cast [iO, tN,  hd2]; rintro r os ⟨rfl, rfl⟩; push_cast [iO, tN,  hd2])) | ((refine plc [] (hdd) ?_ ?_; push_cast [iO, tN,  hd2]; rintro r os ⟨rfl, rfl⟩; push_cast [iO, tN,  hd2])) | ((refine plc [] (hsm) ?_ ?_; push_cast [iO, tN,  hd2]; rintro r os ⟨rfl, rfl⟩; push_cast [iO, tN,  hd2])) | ((refine plc [] (known_pure) ?_ ?_; push_cast [iO, tN,  hd2]; rintro r os ⟨rfl, rfl⟩; push_cast [iO, tN,  hd2]))); refine pah 28 ?_; push_cast [iO, tN,  hd2]; refine pah 29 ?_; push_cast [iO, tN,  hd2]; exact z12)); refine pas [30] ?_; push_cast [iO, tN,  hd2]; (focus ((first | ((refine plc [] (hw) ?_ ?_; push_cast [iO, tN,  hd2]; rintro r os ⟨rfl, rfl⟩; push_cast [iO, tN,  hd2])) | ((refine plc [] (hdd) ?_ ?_; push_cast [iO, tN,  hd2]; rintro r os ⟨rfl, rfl⟩; push_cast [iO, tN,  hd2])) | ((refine plc [] (hsm) ?_ ?_; push_cast [iO, tN,  hd2]; rintro r os ⟨rfl, rfl⟩; push_cast [iO, tN,  hd2])) | ((refine plc [] (known_pure) ?_ ?_; push_cast [iO, tN,  hd2]; rintro r os ⟨rfl, rfl⟩; push_cast [iO, tN,  hd2]))); refine pah 31 ?_; push_cast [iO, tN,  hd2]; refine pah 32 ?_; push_cast [iO, tN,  hd2]; exact paw z13 (weak_cutS 12 [] _))); push_cast [iO, tN,  hd2]; refine pad ?_; push_cast [iO, tN,  hd2])
      repeat' (first | ((first | refine pC ?_ | refine pQC ?_ | refine pU ?_); push_cast [iO, tN]) | (refine pif (fun h => ?_) (fun h => ?_) <;> first | exact pN h | push_cast [iO, tN]))
      (refine retK_of [] ?_; push_cast [iO, tN])
  obtain ⟨f0, f1⟩ := fold_bds v s.reqs.length (by omega)
  have hF := fold_pure v s.reqs.length hv1 hv2 (by omega)
  obtain ⟨j, hj⟩ : ∃ j : Nat, fold v s.reqs.length = (j : Int) := ⟨(fold v s.reqs.length).toNat, by omega⟩
  rw [hj] at f0 f1 hF
  have hjl : j < s.reqs.length := by omega
  repeat' (first |  (refine hidR 5 ?_)  | ((first | refine pC ?_ | refine pQC ?_ | refine pU ?_); push_cast [iO, tN]) | (refine pif (fun h => ?_) (fun h => ?_) <;> first | exact pN h | push_cast [iO, tN]))
  refine unhid ?_
  (refine pwp_cut 12 [] ?_; refine pwp_drawn (by kernel_rfl) ?_; simp only [List.length_cons, List.length_nil, Nat.reduceAdd]; refine pah 0 ?_; push_cast [iO, tN]; refine pah 2 ?_; push_cast [iO, tN]; refine pah 3 ?_; push_cast [iO, tN]; apply pa_hav; intro z6; apply pa_hav; intro z5; apply pa_hav; intro z3; apply pa_hav; intro z4; apply pa_hav; intro z2; apply pa_hav; intro z1; refine pas [1, 4] ?_; push_cast [iO, tN]; refine ⟨?_, ?_⟩; (focus (exact z1)); (focus (refine pah 5 ?_; push_cast [iO, tN]; exact z2)); refine pas [4] ?_; push_cast [iO, tN]; (focus (refine pah 5 ?_; push_cast [iO, tN]; exact z3)); refine pas [1, 6] ?_; push_cast [iO, tN]; refine ⟨?_, ?_⟩; (focus (refine paw z3 ?_; refine weak_fg ?_; push_cast [iO, tN])); (focus ((first | ((refine plc [] (hF) ?_ ?_; push_cast [iO, tN]; rintro r os ⟨rfl, rfl⟩; push_cast [iO, tN]))); exact z4)); refine pas [1] ?_; push_cast [iO, tN]; (focus (refine pah 7 ?_; push_cast [iO, tN]; refine pah 8 ?_; push_cast [iO, tN]; exact z5)); refine pas [6] ?_; push_cast [iO, tN]; (focus ((first | ((refine plc [] (hF) ?_ ?_; push_cast [iO, tN]; rintro r os ⟨rfl, rfl⟩; push_cast [iO, tN]))); refine pah 7 ?_; push_cast [iO, tN]; refine pah 8 ?_; push_cast [iO, tN]; refine paw z5 ?_; refine weak_fg ?_; push_cast [iO, tN])); refine pas [9] ?_; push_cast [iO, tN]; (focus (refine pah 10 ?_; push_cast [iO, tN]; exact paw z6 (weak_cutS 12 [] _))); push_cast [iO, tN]; refine pad ?_; push_cast [iO, tN])
  repeat' (first | ((first | refine pC ?_ | refine pQC ?_ | refine pU ?_); push_cast [iO, tN]) | (refine pif (fun h => ?_) (fun h => ?_) <;> first | exact pN h | push_cast [iO, tN]))
  obtain ⟨p, hp⟩ : ∃ p, (s.reqs.getD j default).path = p := ⟨_, rfl⟩
  rw [hp]
  have hdp := drop_pure s p hg.ok
  have hgd := hg.drop p
  have hd1 : (dropM s p).reqs = s.reqs.filter fun r => decide (r.path ≠ p) := rfl
  have hd2 : (dropM s p).list = s.list := rfl
  have hw := why_pure (dropM s p) p now hgd.ok
  rw [drop_why] at hw
  have hdd := drop_pure (dropM s p) p hgd.ok
  rw [drop_drop] at hdd
  obtain ⟨d, hd⟩ : ∃ d, dropM s p = d := ⟨_, rfl⟩
  rw [hd] at hdp hgd hd1 hd2 hw hdd
  have hdl := hgd.ok.reqs
  have hdl2 := hgd.ok.len
  have hsm := same_pureI d d (by omega) (by omega) (by omega) (by omega)
  rw [decide_eq_true rfl] at hsm
  obtain ⟨q, hq0⟩ : ∃ q : Req → Bool, (fun r => decide (r.path ≠ p)) = q := ⟨_, rfl⟩
  rw [hq0] at hd1
  have hqp : ∀ r : Req, q r = decide (r.path ≠ p) := fun r => by rw [← hq0]
  repeat' (first |  ((refine plc [] (hdp) ?_ ?_; push_cast [iO, tN]; rintro r os ⟨rfl, rfl⟩; push_cast [iO, tN]))  | ((first | refine pC ?_ | refine pQC ?_ | refine pU ?_); push_cast [iO, tN]) | (refine pif (fun h => ?_) (fun h => ?_) <;> first | exact pN h | push_cast [iO, tN]))
  (apply pwp_loop3 (α := Nat) 12 [] (fun k => [(11, .c (.v (.int .i64 k))), (10, .c (.v (.int .i64 (((fltK q s.reqs k).length : Int)))))]) (fun k => []) (fun k => k ≤ s.reqs.length) (fun k => s.reqs.length - k) (0); (focus ((try push_cast [iO, tN]); rfl)); (focus exact (Nat.zero_le _)); (focus ((refine weak_fg ?_; try push_cast [iO, tN]); (try (simp [fltK_zero])))))
  intro k hk
  push_cast [iO, tN]
  have hfl := fltK_len q s.reqs k
  by_cases hlt : k < s.reqs.length
  · by_cases hpe : (s.reqs.getD k default).path = p
    · have hqf : q (s.reqs.getD k default) = false := by rw [hqp, hpe]; simp
      have hs := fltK_f hlt hqf
      repeat' (first | ((first | refine pC ?_ | refine pQC ?_ | refine pU ?_); push_cast [iO, tN, hpe]) | (refine pif (fun h => ?_) (fun h => ?_) <;> first | exact pN h | push_cast [iO, tN, hpe]))
      exact ⟨k + 1, by omega, by (refine weak_fg ?_; push_cast [iO, tN, hs]), by omega⟩
    · have hqt : q (s.reqs.getD k default) = true := by rw [hqp]; exact decide_eq_true hpe
      obtain ⟨h1, h2⟩ := fk_t hlt hqt
      rw [← hd1] at h1 h2
      have hs := fltK_t hlt hqt
      repeat' (first | ((first | refine pC ?_ | refine pQC ?_ | refine pU ?_); push_cast [iO, tN, hpe, h2]) | (refine pif (fun h => ?_) (fun h => ?_) <;> first | exact pN h | push_cast [iO, tN, hpe, h2]))
      exact ⟨k + 1, by omega, by (refine weak_fg ?_; push_cast [iO, tN, hs]), by omega⟩
  · have hkk : k = s.reqs.length := by omega
    have hfe : (fltK q s.reqs k).length = d.reqs.length := by rw [hkk, fltK_all, hd1]
    rw [hfe]
    repeat' (first | (refine hidR 15 ?_) | ((first | refine pC ?_ | refine pQC ?_ | refine pU ?_); push_cast [iO, tN, hd2]) | (refine pif (fun h => ?_) (fun h => ?_) <;> first | exact pN h | push_cast [iO, tN, hd2]))
    refine unhid ?_
    (refine pwp_cut 12 [] ?_; refine pwp_drawn (by kernel_rfl) ?_; simp only [List.length_cons, List.length_nil, Nat.reduceAdd]; refine pah 0 ?_; push_cast [iO, tN,  hd2]; refine pah 1 ?_; push_cast [iO, tN,  hd2]; apply pa_hav; intro z13; apply pa_hav; intro z12; apply pa_hav; intro z11; apply pa_hav; intro z9; apply pa_hav; intro z10; apply pa_hav; intro z7; apply pa_hav; intro z8; apply pa_hav; intro z6; apply pa_hav; intro z5; apply pa_hav; intro z4; apply pa_hav; intro z2; apply pa_hav; intro z3; apply pa_hav; intro z1; refine pas [2] ?_; push_cast [iO, tN,  hd2]; (focus (refine pah 3 ?_; push_cast [iO, tN,  hd2]; refine pah 4 ?_; push_cast [iO, tN,  hd2]; refine pah 5 ?_; push_cast [iO, tN,  hd2]; refine pah 6 ?_; push_cast [iO, tN,  hd2]; refine pah 9 ?_; push_cast [iO, tN,  hd2]; exact z1)); refine pas [7, 10] ?_; push_cast [iO, tN,  hd2]; refine ⟨?_, ?_⟩; (focus (refine pah 8 ?_; push_cast [iO, tN,  hd2]; exact z2)); (focus (refine pah 11 ?_; push_cast [iO, tN,  hd2]; exact z3)); refine pas [7] ?_; push_cast [iO, tN,  hd2]; (focus (refine pah 8 ?_; push_cast [iO, tN,  hd2]; refine pah 12 ?_; push_cast [iO, tN,  hd2]; refine pah 13 ?_; push_cast [iO, tN,  hd2]; refine pah 14 ?_; push_cast [iO, tN,  hd2]; refine pah 16 ?_; push_cast [iO, tN,  hd2]; refine pah 17 ?_; push_cast [iO, tN,  hd2]; exact z4)); refine pas [10] ?_; push_cast [iO, tN,  hd2]; (focus (refine pah 11 ?_; push_cast [iO, tN,  hd2]; refine pah 12 ?_; push_cast [iO, tN,  hd2]; refine pah 13 ?_; push_cast [iO, tN,  hd2]; refine pah 14 ?_; push_cast [iO, tN,  hd2]; refine pah 16 ?_; push_cast [iO, tN,  hd2]; refine pah 17 ?_; push_cast [iO, tN,  hd2]; refine paw z4 ?_; refine weak_fg ?_; push_cast [iO, tN,  hd2])); refine pas [15] ?_; push_cast [iO, tN,  hd2]; refine z5; refine pas [18] ?_; push_cast [iO, tN,  hd2]; (focus ((first | ((refine plc [] (hw) ?_ ?_; push_cast [iO, tN,  hd2]; rintro r os ⟨rfl, rfl⟩; push_cast [iO, tN,  hd2])) | ((refine plc [] (hdd) ?_ ?_; push_cast [iO, tN,  hd2]; rintro r os ⟨rfl, rfl⟩; push_cast [iO, tN,  hd2])) | ((refine plc [] (hsm) ?_ ?_; push_cast [iO, tN,  hd2]; rintro r os ⟨rfl, rfl⟩; push_cast [iO, tN,  hd2])) | ((refine plc [] (known_pure) ?_ ?_; push_cast [iO, tN,  hd2]; rintro r os ⟨rfl, rfl⟩; push_cast [iO, tN,  hd2]))); refine pah 19 ?_; push_cast [iO, tN,  hd2]; refine pah 20 ?_; push_cast [iO, tN,  hd2]; refine pah 21 ?_; push_cast [iO, tN,  hd2]; refine pah 22 ?_; push_cast [iO, tN,  hd2]; refine pah 24 ?_; push_cast [iO, tN,  hd2]; exact z6)); refine pas [23, 26] ?_; push_cast [iO, tN,  hd2]; refine ⟨z7, z8⟩; refine pas [23] ?_; push_cast [iO, tN,  hd2]; refine z10; refine pas [25, 26] ?_; push_cast [iO, tN,  hd2]; refine ⟨?_, ?_⟩; (focus ((first | ((refine plc [] (hw) ?_ ?_; push_cast [iO, tN,  hd2]; rintro r os ⟨rfl, rfl⟩; push_cast [iO, tN,  hd2])) | ((refine plc [] (hdd) ?_ ?_; push_cast [iO, tN,  hd2]; rintro r os ⟨rfl, rfl⟩; push_cast [iO, tN,  hd2])) | ((refine plc [] (hsm) ?_ ?_; push_cast [iO, tN,  hd2]; rintro r os ⟨rfl, rfl⟩; push_cast [iO, tN,  hd2])) | ((refine plc [] (known_pure) ?_ ?_; push_cast [iO, tN,  hd2]; rintro r os ⟨rfl, rfl⟩; push_cast [iO, tN,  hd2]))); exact z9)); (focus (refine paw z10 ?_; refine weak_fg ?_; push_cast [iO, tN,  hd2])); refine pas [25] ?_; push_cast [iO, tN,  hd2]; (focus ((first | ((refine plc [] (hw) ?_ ?_; push_cast [iO, tN,  hd2]; rintro r os ⟨rfl, rfl⟩; push_cast [iO, tN,  hd2])) | ((refine plc [] (hdd) ?_ ?_; push_cast [iO, tN,  hd2]; rintro r os ⟨rfl, rfl⟩; push_cast [iO, tN,  hd2])) | ((refine plc [] (hsm) ?_ ?_; push_cast [iO, tN,  hd2]; rintro r os ⟨rfl, rfl⟩; push_cast [iO, tN,  hd2])) | ((refine plc [] (known_pure) ?_ ?_; push_cast [iO, tN,  hd2]; rintro r os ⟨rfl, rfl⟩; push_cast [iO, tN,  hd2]))); exact z11)); refine pas [26] ?_; push_cast [iO, tN,  hd2]; refine paw z11 ?_ <;> (refine weak_fg ?_; push_cast [iO, tN,  hd2]); refine pas [27] ?_; push_cast [iO, tN,  hd2]; (focus ((first | ((refine plc [] (hw) ?_ ?_; push_cast [iO, tN,  hd2]; rintro r os ⟨rfl, rfl⟩; push_cast [iO, tN,  hd2])) | ((refine plc [] (hdd) ?_ ?_; push_cast [iO, tN,  hd2]; rintro r os ⟨rfl, rfl⟩; push_cast [iO, tN,  hd2])) | ((refine plc [] (hsm) ?_ ?_; push_cast [iO, tN,  hd2]; rintro r os ⟨rfl, rfl⟩; push_cast [iO, tN,  hd2])) | ((refine plc [] (known_pure) ?_ ?_; push_cast [iO, tN,  hd2]; rintro r os ⟨rfl, rfl⟩; push_cast [iO, tN,  hd2]))); refine pah 28 ?_; push_cast [iO, tN,  hd2]; refine pah 29 ?_; push_cast [iO, tN,  hd2]; exact z12)); refine pas [30] ?_; push_cast [iO, tN,  hd2]; (focus ((first | ((refine plc [] (hw) ?_ ?_; push_cast [iO, tN,  hd2]; rintro r os ⟨rfl, rfl⟩; push_cast [iO, tN,  hd2])) | ((refine plc [] (hdd) ?_ ?_; push_cast [iO, tN,  hd2]; rintro r os ⟨rfl, rfl⟩; push_cast [iO, tN,  hd2])) | ((refine plc [] (hsm) ?_ ?_; push_cast [iO, tN,  hd2]; rintro r os ⟨rfl, rfl⟩; push_cast [iO, tN,  hd2])) | ((refine plc [] (known_pure) ?_ ?_; push_cast [iO, tN,  hd2]; rintro r os ⟨rfl, rfl⟩; push_cast [iO, tN,  hd2]))); refine pah 31 ?_; push_cast [iO, tN,  hd2]; refine pah 32 ?_; push_cast [iO, tN,  hd2]; exact paw z13 (weak_cutS 12 [] _))); push_cast [iO, tN,  hd2]; refine pad ?_; push_cast [iO, tN,  hd2])
    repeat' (first | ((first | refine pC ?_ | refine pQC ?_ | refine pU ?_); push_cast [iO, tN]) | (refine pif (fun h => ?_) (fun h => ?_) <;> first | exact pN h | push_cast [iO, tN]))
    (refine retK_of [] ?_; push_cast [iO, tN])
end Go.Proofs.YtbonfcphabnlpabGreatDoor
