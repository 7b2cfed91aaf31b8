/- What the program computes, and the plain laws of it, part 51. -/
import Derived.ProofKit
import Derived.OpenShut
import Derived.ShutString
import Derived.ChangeOld
import Derived.Deep.Slices
import Derived.Deep.Fields
import Derived.Test.YthconflkbeipoaaGreatDoorQ50
namespace Go.Proofs.YthconflkbeipoaaGreatDoor
attribute [local irreducible] PL QL PWPr PCalls Weak RetK Kontr PA
open Go.RowKit
open IntWalk renaming iteOmega → iO, toNatUp → tN
set_option linter.unusedVariables false
set_option linter.unusedSimpArgs false
set_option maxRecDepth 20000
theorem asg_len (w : List Wsh) : (assignA w).length = w.length := by unfold assignA; simp
theorem asg_get (w : List Wsh) {i : Nat} (hi : i < w.length) : (assignA w).getD i default = ⟨(w.getD i default).path, (namedA w).getD i default⟩ := by
  unfold assignA
  rw [List.getD_eq_getElem?_getD, List.getElem?_map, List.getElem?_range hi]
  rfl
theorem ifN_small : ((List.range 100).all fun m => decide ((ifN m).size ≤ 15)) = true := by decide +kernel
theorem named_ok {w : List Wsh} (h : WshT w 5) {i : Nat} (hi : i < w.length) : (namedA w).getD i default ≠ ⟨#[]⟩ ∧ ((namedA w).getD i default).size ≤ 15 := by
  rcases (named_spec h.ok).one i hi with ⟨q, hq, he⟩ | ⟨m, hm, he, _⟩
  · rw [he]
    have := nmAt_ok h.ok hi hq
    exact ⟨iface_ne this, iface_size this⟩
  · rw [he]
    have h1 := h.few
    exact ⟨ifN_ne m, of_decide_eq_true (List.all_eq_true.1 ifN_small m (List.mem_range.2 (by omega)))⟩
def lostP (w : List Wsh) (i r k : Nat) : Bool := (!decide (k = i) && decide ((namedA w).getD k default = nmAt w i r)) && (decide (rankF (w.getD k default).names (nmAt w i r) < r) || (decide (rankF (w.getD k default).names (nmAt w i r) = r) && decide (k < i)))
def lostK (w : List Wsh) (i r k : Nat) : Bool := (List.range k).any (lostP w i r)
theorem lostK_zero (w : List Wsh) (i r : Nat) : lostK w i r 0 = false := rfl
theorem lostK_succ (w : List Wsh) (i r k : Nat) : lostK w i r (k + 1) = (lostK w i r k || lostP w i r k) := by unfold lostK; rw [List.range_succ, List.any_append]; simp
theorem lostK_all {w : List Wsh} (h : wshOk w = true) {i r : Nat} (hi : i < w.length) (hr : r < rankF (w.getD i default).names ((namedA w).getD i default)) : lostK w i r w.length = true := by
  obtain ⟨k, h1, h2, h3, h4⟩ := named_lost h hi hr
  unfold lostK
  rw [List.any_eq_true]
  refine ⟨k, List.mem_range.2 h2, ?_⟩
  unfold lostP
  rw [decide_eq_false h1, decide_eq_true h3]
  rcases h4 with h4 | ⟨h4, h5⟩
  · rw [decide_eq_true h4]; rfl
  · rw [decide_eq_true h4, decide_eq_true h5, Bool.and_self, Bool.or_true]; rfl
set_option maxHeartbeats 16000000 in
theorem apart_pure (L : List Int) (hL : ∀ x ∈ L, -9223372036854775808 ≤ x ∧ x ≤ 9223372036854775807) (hLl : L.length ≤ 9223372036854775807) :
    PCalls Tryz.prog 3 [.c (.sl 1 (L.map fun x => [D.v (.int .i64 x)]))] [] fun r os => r = .c (.v (.bool true)) ∧ os = [] := by
  have hw := wishes_pure L 0 (by omega) hL hLl
  refine pcalls_of Tryz.func3 rfl (by simp [Tryz.ntmps3]) ?_
  rw [Tryz.ntmps3, Tryz.results3]
  push_cast [iO, tN]
  have cB : CutB 14 [] := trivial
  repeat' (first | ((first | refine pC ?_ | refine pQC ?_ | refine pU ?_); push_cast [iO, tN]) | (refine pif (fun h => ?_) (fun h => ?_) <;> first | exact pN h | push_cast [iO, tN]))
  (refine plc [0] (hw) ?_ ?_; push_cast [iO, tN]; rintro r os ⟨w, k', hT, hk', rfl, rfl⟩; push_cast [iO, tN])
  have ha := assign_ok w hT.fit hT.ok hT.few
  have hwl := hT.len
  have hal := asg_len w
  repeat' (first | ((refine plc [] (ha) ?_ ?_; push_cast [iO, tN, hal]; rintro r os ⟨rfl, rfl⟩; push_cast [iO, tN, hal])) | ((first | refine pC ?_ | refine pQC ?_ | refine pU ?_); push_cast [iO, tN, hal]) | (refine pif (fun h => ?_) (fun h => ?_) <;> first | exact pN h | push_cast [iO, tN, hal]))
  (apply pwp_loop3 (α := Nat) 14 [] (fun i => [(7, .c (.v (.int .i64 i)))]) (fun i => []) (fun i => i ≤ w.length) (fun i => w.length - i) (0); (focus ((try push_cast [iO, tN]); rfl)); (focus exact (Nat.zero_le _)); (focus ((refine weak_fg ?_; try push_cast [iO, tN]); (try (skip)))))
  intro i hi
  push_cast [iO, tN]
  by_cases hlt : i < w.length
  case neg =>
    repeat' (first | ((refine plc [] (known23_pure) ?_ ?_; push_cast [iO, tN, hal]; rintro r os ⟨rfl, rfl⟩; push_cast [iO, tN, hal])) | ((first | refine pC ?_ | refine pQC ?_ | refine pU ?_); push_cast [iO, tN, hal]) | (refine pif (fun h => ?_) (fun h => ?_) <;> first | exact pN h | push_cast [iO, tN, hal]))
    (refine retK_of [] ?_; push_cast [iO, tN])
  have hgi := asg_get w hlt
  obtain ⟨hv1, hv2⟩ := named_ok hT hlt
  have hinj := fun k (hk : k < i) => (named_spec hT.ok).inj k i hk hlt
  have hlost := fun r (hr : r < rankF (w.getD i default).names ((namedA w).getD i default)) => lostK_all hT.ok hlt hr
  have hrk : ∀ r, nmAt w i r = (w.getD i default).names.getD r default := fun r => rfl
  have hm : w.getD i default ∈ w := by rw [getD_lt w hlt]; exact List.getElem_mem _
  have hnl := hT.names hm
  obtain ⟨wi, hwi⟩ : ∃ wi, w.getD i default = wi := ⟨_, rfl⟩
  obtain ⟨v, hv⟩ : ∃ v, (namedA w).getD i default = v := ⟨_, rfl⟩
  rw [hwi] at hgi hnl hrk
  rw [hv] at hgi hv1 hv2
  simp only [hwi, hv] at hinj hlost
  have hne : (wi.path ≠ wi.path) = False := by simp
  have hsz : ¬ (15 : Int) < (v.size : Int) := by omega
  repeat' (first | ((first | refine pC ?_ | refine pQC ?_ | refine pU ?_); push_cast [iO, tN, hal, hgi, hwi, hne, hv1, hsz]) | (refine pif (fun h => ?_) (fun h => ?_) <;> first | exact pN h | push_cast [iO, tN, hal, hgi, hwi, hne, hv1, hsz]))
  (apply pwp_loop3 (α := Nat) 14 [] (fun k => [(8, .c (.v (.int .i64 k)))]) (fun k => []) (fun k => k ≤ i) (fun k => i - k) (0); (focus ((try push_cast [iO, tN]); rfl)); (focus exact (Nat.zero_le _)); (focus ((refine weak_fg ?_; try push_cast [iO, tN]); (try (skip)))))
  intro k hk
  push_cast [iO, tN]
  by_cases hkt : k < i
  · have hgk := asg_get w (i := k) (by omega)
    have hd := hinj k hkt
    obtain ⟨vk, hvk⟩ : ∃ vk, (namedA w).getD k default = vk := ⟨_, rfl⟩
    rw [hvk] at hgk hd
    repeat' (first | ((first | refine pC ?_ | refine pQC ?_ | refine pU ?_); push_cast [iO, tN, hal, hgi, hgk, hd]) | (refine pif (fun h => ?_) (fun h => ?_) <;> first | exact pN h | push_cast [iO, tN, hal, hgi, hgk, hd]))
    exact ⟨k + 1, by omega, by (refine weak_fg ?_; push_cast [iO, tN]), by omega⟩
  have hrp := rank_pure wi.names v (by omega)
  repeat' (first | ((refine pwp_cut 14 [] ?_; apply pwp_drawn_to; (focus kernel_rfl); (focus (simp only [List.length_cons, List.length_nil, Nat.reduceAdd]; (repeat' first | ((refine plc [] (hrp) ?_ ?_; push_cast [iO, tN,  hal, hgi, hwi]; rintro r os ⟨rfl, rfl⟩; push_cast [iO, tN,  hal, hgi, hwi])) | ((first | refine pah 0 ?_ | refine pah 1 ?_ | refine pah 2 ?_ | refine pah 3 ?_ | refine pah 5 ?_ | refine pah 6 ?_ | refine pah 7 ?_ | refine pah 8 ?_ | refine pah 11 ?_); push_cast [iO, tN,  hal, hgi, hwi]) | (refine pad ?_; first | with_reducible exact weak_cutS 14 [] _ | (refine weak_fg ?_; push_cast [iO, tN,  hal, hgi, hwi])) | ((first | refine pas [4] ?_ | refine pas [9] ?_ | refine pas [10] ?_); push_cast [iO, tN,  hal, hgi, hwi]) | ((first | refine pas [4, 9] ?_); push_cast [iO, tN,  hal, hgi, hwi]; refine ⟨?_, ?_⟩)); done)); push_cast [iO, tN,  hal, hgi, hwi])) | ((first | refine pC ?_ | refine pQC ?_ | refine pU ?_); push_cast [iO, tN, hal, hgi, hwi]) | (refine pif (fun h => ?_) (fun h => ?_) <;> first | exact pN h | push_cast [iO, tN, hal, hgi, hwi]))
  obtain ⟨own, hown⟩ : ∃ own, rankF wi.names v = own := ⟨_, rfl⟩
  have hol : own ≤ wi.names.length := by
    rw [← hown]
    refine Nat.le_of_not_lt fun hc => ?_
    have := (rankF_lt (ns := wi.names) (s := v) (q := wi.names.length) hc).1
    omega
  rw [hown]
  simp only [hown] at hlost
  (apply pwp_loop3 (α := Nat) 14 [] (fun r => [(10, .c (.v (.int .i64 r)))]) (fun r => []) (fun r => r ≤ own) (fun r => own - r) (0); (focus ((try push_cast [iO, tN]); rfl)); (focus exact (Nat.zero_le _)); (focus ((refine weak_fg ?_; try push_cast [iO, tN]); (try (skip)))))
  intro r hr
  push_cast [iO, tN]
  by_cases hrt : r < own
  case neg =>
    repeat' (first | ((first | refine pC ?_ | refine pQC ?_ | refine pU ?_); push_cast [iO, tN]) | (refine pif (fun h => ?_) (fun h => ?_) <;> first | exact pN h | push_cast [iO, tN]))
    exact ⟨i + 1, by omega, by (refine weak_fg ?_; push_cast [iO, tN]), by omega⟩
  have hL1 := hlost r hrt
  obtain ⟨s, hs⟩ : ∃ s, wi.names.getD r default = s := ⟨_, rfl⟩
  have hnm : nmAt w i r = s := by rw [hrk, hs]
  repeat' (first | ((first | refine pC ?_ | refine pQC ?_ | refine pU ?_); push_cast [iO, tN]) | (refine pif (fun h => ?_) (fun h => ?_) <;> first | exact pN h | push_cast [iO, tN]))
  (apply pwp_loop3 (α := Nat) 14 [] (fun k => [(12, .c (.v (.int .i64 k))), (11, .c (.v (.bool (lostK w i r k))))]) (fun k => []) (fun k => k ≤ w.length) (fun k => w.length - k) (0); (focus ((try push_cast [iO, tN]); rfl)); (focus exact (Nat.zero_le _)); (focus ((refine weak_fg ?_; try push_cast [iO, tN]); (try (rfl)))))
  intro k hk
  push_cast [iO, tN]
  by_cases hkt : k < w.length
  case neg =>
    have hk2 : k = w.length := by omega
    subst hk2
    repeat' (first | ((first | refine pC ?_ | refine pQC ?_ | refine pU ?_); push_cast [iO, tN, hal, hL1]) | (refine pif (fun h => ?_) (fun h => ?_) <;> first | exact pN h | push_cast [iO, tN, hal, hL1]))
    exact ⟨r + 1, by omega, by (refine weak_fg ?_; push_cast [iO, tN]), by omega⟩
  have hgk := asg_get w hkt
  have hX := lostK_succ w i r k
  have hkm : w.getD k default ∈ w := by rw [getD_lt w hkt]; exact List.getElem_mem _
  have hknl := hT.names hkm
  have hP : lostP w i r k = ((!decide (k = i) && decide ((namedA w).getD k default = s)) && (decide (rankF (w.getD k default).names s < r) || (decide (rankF (w.getD k default).names s = r) && decide (k < i)))) := by unfold lostP; rw [hnm]
  obtain ⟨wk, hwk⟩ : ∃ wk, w.getD k default = wk := ⟨_, rfl⟩
  obtain ⟨vk, hvk⟩ : ∃ vk, (namedA w).getD k default = vk := ⟨_, rfl⟩
  rw [hwk] at hgk hknl hP
  rw [hvk] at hgk hP
  have hrq := rank_pure wk.names s (by omega)
  obtain ⟨n, hn⟩ : ∃ n, rankF wk.names s = n := ⟨_, rfl⟩
  rw [hn] at hrq hP
  have hrt2 : r < wi.names.length := by omega
  repeat' (first | ((refine pwp_cut 14 [] ?_; apply pwp_drawn_to; (focus kernel_rfl); (focus (simp only [List.length_cons, List.length_nil, Nat.reduceAdd]; (repeat' first | ((refine plc [] (hrq) ?_ ?_; push_cast [iO, tN,  hal, hwi, hwk, hs]; rintro r os ⟨rfl, rfl⟩; push_cast [iO, tN,  hal, hwi, hwk, hs])) | ((first | refine pah 0 ?_ | refine pah 1 ?_ | refine pah 2 ?_ | refine pah 3 ?_ | refine pah 5 ?_ | refine pah 6 ?_ | refine pah 7 ?_ | refine pah 8 ?_ | refine pah 10 ?_ | refine pah 11 ?_ | refine pah 14 ?_); push_cast [iO, tN,  hal, hwi, hwk, hs]) | (refine pad ?_; first | with_reducible exact weak_cutS 14 [] _ | (refine weak_fg ?_; push_cast [iO, tN,  hal, hwi, hwk, hs])) | ((first | refine pas [4] ?_ | refine pas [9] ?_ | refine pas [12] ?_ | refine pas [13] ?_); push_cast [iO, tN,  hal, hwi, hwk, hs]) | ((first | refine pas [4, 9] ?_ | refine pas [4, 12] ?_); push_cast [iO, tN,  hal, hwi, hwk, hs]; refine ⟨?_, ?_⟩)); done)); push_cast [iO, tN,  hal, hwi, hwk, hs])) | (refine hidR 25 ?_) | ((first | refine pC ?_ | refine pQC ?_ | refine pU ?_); push_cast [iO, tN, hal, hwi, hwk, hs]) | (refine pif (fun h => ?_) (fun h => ?_) <;> first | exact pN h | push_cast [iO, tN, hal, hwi, hwk, hs]))
  cases hL0 : lostK w i r k with
  | true =>
    rw [hL0, Bool.true_or] at hX
    refine unhid ?_
    repeat' (first | ((first | refine pC ?_ | refine pQC ?_ | refine pU ?_); push_cast [iO, tN, hal, hgk, hwi, hwk, hs, hL0]) | (refine pif (fun h => ?_) (fun h => ?_) <;> first | exact pN h | push_cast [iO, tN, hal, hgk, hwi, hwk, hs, hL0]))
    exact ⟨k + 1, by omega, by (refine weak_fg ?_; push_cast [iO, tN, hX]), by omega⟩
  | false =>
    rw [hL0, Bool.false_or, hP] at hX
    by_cases h1 : k = i
    · have h1i : (k : Int) = (i : Int) := by omega
      rw [decide_eq_true h1, Bool.not_true, Bool.false_and, Bool.false_and] at hX
      refine unhid ?_
      repeat' (first | ((first | refine pC ?_ | refine pQC ?_ | refine pU ?_); push_cast [iO, tN, hal, hgk, hwi, hwk, hs, hL0, h1, h1i]) | (refine pif (fun h => ?_) (fun h => ?_) <;> first | exact pN h | push_cast [iO, tN, hal, hgk, hwi, hwk, hs, hL0, h1, h1i]))
      exact ⟨k + 1, by omega, (by (refine weak_fg ?_; push_cast [iO, tN, hX]); rw [h1]), by omega⟩
    · have h1i : ¬ (k : Int) = (i : Int) := by omega
      rw [decide_eq_false h1, Bool.not_false, Bool.true_and] at hX
      by_cases h2 : vk = s
      · rw [decide_eq_true h2, Bool.true_and] at hX
        by_cases h3 : n < r
        · have h3i : (n : Int) < (r : Int) := by omega
          rw [decide_eq_true h3, Bool.true_or] at hX
          refine unhid ?_
          repeat' (first | ((first | refine pC ?_ | refine pQC ?_ | refine pU ?_); push_cast [iO, tN, hal, hgk, hwi, hwk, hs, hL0, h1, h1i, h2, h3, h3i]) | (refine pif (fun h => ?_) (fun h => ?_) <;> first | exact pN h | push_cast [iO, tN, hal, hgk, hwi, hwk, hs, hL0, h1, h1i, h2, h3, h3i]))
          exact ⟨k + 1, by omega, by (refine weak_fg ?_; push_cast [iO, tN, hX]), by omega⟩
        · have h3i : ¬ (n : Int) < (r : Int) := by omega
          rw [decide_eq_false h3, Bool.false_or] at hX
          by_cases h4 : n = r
          · have h4i : (n : Int) = (r : Int) := by omega
            rw [decide_eq_true h4, Bool.true_and] at hX
            by_cases h5 : k < i
            · have h5i : (k : Int) < (i : Int) := by omega
              rw [decide_eq_true h5] at hX
              refine unhid ?_
              repeat' (first | ((first | refine pC ?_ | refine pQC ?_ | refine pU ?_); push_cast [iO, tN, hal, hgk, hwi, hwk, hs, hL0, h1, h1i, h2, h3, h3i, h4, h4i, h5, h5i]) | (refine pif (fun h => ?_) (fun h => ?_) <;> first | exact pN h | push_cast [iO, tN, hal, hgk, hwi, hwk, hs, hL0, h1, h1i, h2, h3, h3i, h4, h4i, h5, h5i]))
              exact ⟨k + 1, by omega, by (refine weak_fg ?_; push_cast [iO, tN, hX]), by omega⟩
            · have h5i : ¬ (k : Int) < (i : Int) := by omega
              rw [decide_eq_false h5] at hX
              refine unhid ?_
              repeat' (first | ((first | refine pC ?_ | refine pQC ?_ | refine pU ?_); push_cast [iO, tN, hal, hgk, hwi, hwk, hs, hL0, h1, h1i, h2, h3, h3i, h4, h4i, h5, h5i]) | (refine pif (fun h => ?_) (fun h => ?_) <;> first | exact pN h | push_cast [iO, tN, hal, hgk, hwi, hwk, hs, hL0, h1, h1i, h2, h3, h3i, h4, h4i, h5, h5i]))
              exact ⟨k + 1, by omega, by (refine weak_fg ?_; push_cast [iO, tN, hX]), by omega⟩
          · have h4i : ¬ (n : Int) = (r : Int) := by omega
            rw [decide_eq_false h4, Bool.false_and] at hX
            refine unhid ?_
            repeat' (first | ((first | refine pC ?_ | refine pQC ?_ | refine pU ?_); push_cast [iO, tN, hal, hgk, hwi, hwk, hs, hL0, h1, h1i, h2, h3, h3i, h4, h4i]) | (refine pif (fun h => ?_) (fun h => ?_) <;> first | exact pN h | push_cast [iO, tN, hal, hgk, hwi, hwk, hs, hL0, h1, h1i, h2, h3, h3i, h4, h4i]))
            exact ⟨k + 1, by omega, by (refine weak_fg ?_; push_cast [iO, tN, hX]), by omega⟩
      · rw [decide_eq_false h2, Bool.false_and] at hX
        refine unhid ?_
        repeat' (first | ((first | refine pC ?_ | refine pQC ?_ | refine pU ?_); push_cast [iO, tN, hal, hgk, hwi, hwk, hs, hL0, h1, h1i, h2]) | (refine pif (fun h => ?_) (fun h => ?_) <;> first | exact pN h | push_cast [iO, tN, hal, hgk, hwi, hwk, hs, hL0, h1, h1i, h2]))
        exact ⟨k + 1, by omega, by (refine weak_fg ?_; push_cast [iO, tN, hX]), by omega⟩
end Go.Proofs.YthconflkbeipoaaGreatDoor
namespace Go.Proofs.YthconflkbeipoaaGreatDoor
open Go.ChangeShapes Go.WideShapes Go.ChangeAt Go.RowKit
open Go.ChangeMaps (open_string shut_string)
set_option linter.unusedVariables false
set_option linter.unusedSimpArgs false
theorem int_bd {n : Int} (h : (Lit.int .i64 n).wf = true) : -9223372036854775808 ≤ n ∧ n ≤ 9223372036854775807 := by
  simpa [Lit.wf, IntKind.min, IntKind.max, IntKind.signed, IntKind.bits] using h
theorem open_ints_rd {H : Type} {enc : TypeId × Value → H} {P : Program} {W : World} {base : Nat} {t e : TypeId} {v : Value} {d : DataW H} {ps : List MemPlace}
    (ht : P.underlying t = some (.slice e)) (he : P.underlying e = some (.int .i64)) (hC : P.cellsOf e = 1) (hv : Value.okWide P W .any base t v) (h : DataW.Trod enc P W 0 (fun _ => true) true t v d ps) :
    ∃ (A : Option Addr) (L : List Int) (c : Nat), v = .slice A L.length c ∧ L.length ≤ 9223372036854775807 ∧ Rd W (fun _ => True) 1 A L.length (L.map (Value.int .i64)) ∧
      ∀ i, i < L.length → -9223372036854775808 ≤ L.getD i 0 ∧ L.getD i 0 ≤ 9223372036854775807 := by
  obtain ⟨a0, len0, cap0, rfl⟩ := okWide_slice ht hv
  obtain ⟨fuel, hf⟩ := h
  rcases open_ints ht he hC hf with ⟨hcs, _⟩ | ⟨x, l, c, zs, hcs, _, hl, hm, hz, _, hcell, hwz⟩
  · simp [Value.cells] at hcs
    obtain ⟨rfl, rfl, rfl⟩ := hcs
    exact ⟨none, [], 0, rfl, by simp, Rd.nil, fun i hi => absurd hi (by simp)⟩
  · simp [Value.cells] at hcs
    obtain ⟨rfl, rfl, rfl⟩ := hcs
    have hz' : zs.length = cap0 := by simpa using hz
    have hlt : (zs.take len0).length = len0 := by rw [List.length_take]; omega
    refine ⟨some x, zs.take len0, cap0, by rw [hlt], by rw [hlt]; unfold maxLen at hm; omega, ⟨by simp, fun hn => ?_⟩, fun i hi => ?_⟩
    · obtain ⟨b, off, spot⟩ := x
      have hc0 := hcell 0 (by omega)
      have hspot : spot = none := by simpa [Addr.add] using World.cell?_spot hc0
      subst hspot
      refine ⟨b, off, rfl, trivial, World.block_lt_of_cell? _ _ (by simpa [Addr.add] using hc0), fun j u hu => ?_⟩
      rw [List.getElem?_map] at hu
      obtain ⟨y, hy, rfl⟩ := Option.map_eq_some_iff.1 hu
      have hj : j < zs.length := by
        have := (List.getElem?_eq_some_iff.1 hy).1
        rw [hlt] at this
        omega
      have h1 := hcell j hj
      rw [Addr.add_lit] at h1
      rw [h1]
      rw [List.getElem?_take] at hy
      split at hy
      · simp [List.getD, hy]
      · cases hy
    · have hm2 : (zs.take len0).getD i 0 ∈ zs := by
        rw [hlt] at hi
        have : (zs.take len0)[i]? = some ((zs.take len0)[i]'(by omega)) := List.getElem?_eq_getElem (by omega)
        rw [List.getD, this]
        exact List.mem_of_mem_take (List.getElem_mem _)
      exact int_bd (hwz _ hm2)
theorem trod_rows {H : Type} {enc : TypeId × Value → H} {P : Program} {W : World} {t e : TypeId} {size fuel : Nat} {A : Option Addr} {n c : Nat} {x : DataW H × List MemPlace}
    (ht : P.underlying t = some (.slice e)) (hC : P.cellsOf e = size) (hp : 0 < size) (h : DataW.trod enc P W 0 (fun _ => true) true fuel t [.slice A n c] = some x) :
    ∃ F : Nat → List Value, n ≤ c ∧ c ≤ maxLen ∧ (∀ i, i < n → (F i).length = size ∧ ∃ m y, DataW.trod enc P W 0 (fun _ => true) true m e (F i) = some y) ∧
      Rd W (fun _ => True) size A n ((List.range n).flatMap F) := by
  rcases Go.Deep.open_slice ht h with ⟨hcs, _⟩ | ⟨a, len, cap, m, fu, D, Pl, hcs, _, hl, hm, hmm, _, hi⟩
  · simp at hcs
    obtain ⟨rfl, rfl, rfl⟩ := hcs
    exact ⟨fun _ => [], Nat.le_refl _, by simp [maxLen], fun i hi => absurd hi (by omega), by simpa using Rd.nil⟩
  · simp at hcs
    obtain ⟨rfl, rfl, rfl⟩ := hcs
    simp only [if_true] at hmm
    subst hmm
    obtain ⟨F, hF⟩ := Go.Deep.choose_lt (n := n) (p := fun i (cs' : List Value) => W.cells? 0 (a.add (i * P.cellsOf e)) (P.cellsOf e) = some cs' ∧ DataW.trod enc P W 0 (fun _ => true) true fu e cs' = some (D i, Pl i))
      (fun i h => hi i (by omega))
    have hlen : ∀ i, i < n → (F i).length = size := fun i h => by
      have := (World.cells?_some (hF i h).1).2.1
      rw [this, hC]
    have hflat : ∀ k, k ≤ n → ((List.range k).flatMap F).length = k * size := by
      intro k
      induction k with
      | zero => intro _; simp
      | succ k ih =>
        intro hk
        rw [List.range_succ, List.flatMap_append, List.length_append, ih (by omega)]
        simp [hlen k (by omega), Nat.add_mul]
    refine ⟨F, hl, hm, fun i h => ⟨hlen i h, fu, _, (hF i h).2⟩, hflat n (Nat.le_refl _), fun hn => ?_⟩
    have hcell : ∀ i, i < n → ∀ j, j < size → W.cell? ((a.add (i * size)).add j) = (F i)[j]? := fun i h j hj => by
      have h1 := (World.cells?_some (hF i h).1).2.2 j (by rw [hC]; exact hj)
      rw [hC] at h1
      exact h1
    have hget : ∀ k, k ≤ n → ∀ j, ((List.range k).flatMap F)[j]? = if j < k * size then (F (j / size))[j % size]? else none := by
      intro k
      induction k with
      | zero => intro _ j; simp
      | succ k ih =>
        intro hk j
        rw [List.range_succ, List.flatMap_append]
        by_cases hj : j < k * size
        · rw [List.getElem?_append_left (by rw [hflat k (by omega)]; exact hj), ih (by omega), if_pos hj, if_pos (by rw [Nat.add_mul]; omega)]
        · rw [List.getElem?_append_right (by rw [hflat k (by omega)]; omega), hflat k (by omega)]
          simp only [List.flatMap_cons, List.flatMap_nil, List.append_nil]
          by_cases hj2 : j < (k + 1) * size
          · have hj3 : j - k * size < size := by rw [Nat.add_mul] at hj2; omega
            have e1 : j / size = k := by
              rw [show j = (j - k * size) + k * size by omega, Nat.add_mul_div_right _ _ hp, Nat.div_eq_of_lt hj3]; omega
            have e2 : j % size = j - k * size := by
              conv => lhs; rw [show j = (j - k * size) + k * size by omega]
              rw [Nat.add_mul_mod_self_right, Nat.mod_eq_of_lt hj3]
            rw [if_pos hj2, e1, e2]
          · rw [if_neg hj2, List.getElem?_eq_none (by rw [hlen k (by omega)]; rw [Nat.add_mul] at hj2; omega)]
    obtain ⟨b, off, spot⟩ := a
    have h0 := hcell 0 (by omega) 0 hp
    have hs : spot = none := by
      have hx : (F 0)[0]? = some ((F 0)[0]'(by rw [hlen 0 (by omega)]; exact hp)) := List.getElem?_eq_getElem _
      rw [hx] at h0
      simpa [Addr.add] using World.cell?_spot h0
    subst hs
    have h0b : b < W.heap.size := by
      have hx : (F 0)[0]? = some ((F 0)[0]'(by rw [hlen 0 (by omega)]; exact hp)) := List.getElem?_eq_getElem _
      rw [hx] at h0
      have := World.block_lt_of_cell? _ _ h0
      simpa [Addr.add_lit] using this
    refine ⟨b, off, rfl, trivial, h0b, fun j u hu => ?_⟩
    rw [hget n (Nat.le_refl _)] at hu
    split at hu
    · rename_i hj
      have hq : j / size < n := Nat.div_lt_of_lt_mul (by rw [Nat.mul_comm]; exact hj)
      have h1 := hcell (j / size) hq (j % size) (Nat.mod_lt _ hp)
      rw [Addr.add_lit, Addr.add_lit, Nat.add_assoc, Nat.mul_comm, Nat.div_add_mod] at h1
      rw [h1, hu]
    · cases hu
theorem open_rows {H : Type} {enc : TypeId × Value → H} {P : Program} {W : World} {base : Nat} {t e : TypeId} {size : Nat} {v : Value} {d : DataW H} {ps : List MemPlace}
    (ht : P.underlying t = some (.slice e)) (hC : P.cellsOf e = size) (hp : 0 < size) (hv : Value.okWide P W .any base t v) (h : DataW.Trod enc P W 0 (fun _ => true) true t v d ps) :
    ∃ (A : Option Addr) (n c : Nat) (F : Nat → List Value), v = .slice A n c ∧ n ≤ c ∧ c ≤ maxLen ∧ (∀ i, i < n → (F i).length = size ∧ ∃ m y, DataW.trod enc P W 0 (fun _ => true) true m e (F i) = some y) ∧
      Rd W (fun _ => True) size A n ((List.range n).flatMap F) := by
  obtain ⟨A, n, c, rfl⟩ := okWide_slice ht hv
  obtain ⟨fuel, hf⟩ := h
  obtain ⟨F, h1, h2, h3, h4⟩ := trod_rows ht hC hp (by simpa [Value.cells] using hf)
  exact ⟨A, n, c, F, rfl, h1, h2, h3, h4⟩
end Go.Proofs.YthconflkbeipoaaGreatDoor
