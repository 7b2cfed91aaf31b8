/- What the program computes, and the plain laws of it, part 42. -/
import Derived.Test.YtbonfcphabnlpabGreatDoorQ41
namespace Go.Proofs.YtbonfcphabnlpabGreatDoor
attribute [local irreducible] PL QL PWPr PCalls Weak RetK Kontr PA
open Go.RowKit
open IntWalk renaming iteOmega → iO, toNatUp → tN
set_option linter.unusedVariables false
set_option linter.unusedSimpArgs false
set_option maxRecDepth 20000
abbrev elC (l : List Bool) : List E := .v (.bool false) :: .v (.bool false) :: l.map boolE
set_option maxRecDepth 20000 in
set_option maxHeartbeats 4000000 in
theorem gset_pure (p : ByteArray) (i : Nat) (hi : i ≤ p.size) (hp : p.size ≤ 1000000) (hb : ∀ k, byt p k ≤ 126) (hlo : ∀ k, k < p.size → 32 ≤ (byt p k).toNat) :
    PCalls Tryz.prog 113 [.c (.v (.string p)), .c (.v (.int .i64 i)), .c (.ptr 0 0)] [.box 164 (elC (List.replicate 128 false))] fun r os =>
      match bsetM p i with
      | none => r = .two (.c (.v (.int .i64 0))) (.c (.v (.bool false))) ∧ os = [.box 164 (elC (List.replicate 128 false))]
      | some q => r = .two (.c (.v (.int .i64 ((q.2 : Int) - 1)))) (.c (.v (.bool true))) ∧ os = [.box 164 (elC (q.1 ++ [false]))] := by
  refine pcalls_of Tryz.func113 rfl (by simp [Tryz.ntmps113]) ?_
  rw [Tryz.ntmps113, Tryz.results113]
  push_cast [-List.reduceReplicate, iO, tN]
  have cB : CutB 13 [] := trivial
  have hJi := setJ_le p i
  refine pwp_seq fun K0 hK0 => ?_
  refine pwp_region ?_
  push_cast [-List.reduceReplicate, iO, tN]
  refine Kont.use (by assumption) ?_
  apply meet
  · intro H
    by_cases hs : i < p.size
    case neg =>
      have hs' : ¬ (i : Int) < (p.size : Int) := by omega
      have hnq : notQ p i = false := by unfold notQ; rw [decide_eq_false hs]; rfl
      have hJ : setJ p i = i := by unfold setJ; rw [hnq]; rfl
      refine pwp_seq fun K hK => ?_
      refine pwp_region ?_
      push_cast [-List.reduceReplicate, iO, tN, hs']
      refine Kont.use (by assumption) ?_
      refine pwp_seq fun K2 hK2 => ?_
      refine pwp_seq fun K3 hK3 => ?_
      refine pwp_region ?_
      push_cast [-List.reduceReplicate, iO, tN, hs']
      refine Kont.use (by assumption) ?_
      refine pwp_cond ?_
      push_cast [-List.reduceReplicate, iO, tN, hs']
      refine pwp_skip ?_
      push_cast [-List.reduceReplicate, iO, tN]
      refine Kont.use (by assumption) ?_
      refine pwp_weak (s' := ⟨[(8, .c (.v (.bool (notQ p i)))), (1, .c (.v (.int .i64 (setJ p i : Int)))), (0, .c (.v (.string p))), (2, .c (.ptr 0 0)), (6, .c (.v (.int .i64 0))), (7, .c (.v (.bool false)))], [.box 164 (elC (List.replicate 128 false))]⟩) (by (refine weak_fg ?_; push_cast [-List.reduceReplicate, iO, tN, hnq, hJ])) ?_
      exact H.out
    by_cases h33 : byt p i = 33
    case pos =>
      have hg : p.data.toList.getD i 0 = 33 := h33
      have hnq : notQ p i = true := by unfold notQ; rw [decide_eq_true hs, h33]; rfl
      have hJ : setJ p i = i + 1 := by unfold setJ; rw [hnq]; rfl
      refine pwp_seq fun K hK => ?_
      refine pwp_region ?_
      push_cast [-List.reduceReplicate, iO, tN, hs, hg]
      refine Kont.use (by assumption) ?_
      refine pwp_seq fun K2 hK2 => ?_
      refine pwp_seq fun K3 hK3 => ?_
      refine pwp_region ?_
      push_cast [-List.reduceReplicate, iO, tN, hs, hg]
      refine Kont.use (by assumption) ?_
      refine pwp_cond ?_
      push_cast [-List.reduceReplicate, iO, tN, hs, hg]
      repeat' (first | (refine Kont.use hK3 ?_) | (refine pwp_seq fun K hK => ?_) | (refine pwp_region ?_; push_cast [-List.reduceReplicate, iO, tN]))
      refine Kont.use (by assumption) ?_
      refine pwp_weak (s' := ⟨[(8, .c (.v (.bool (notQ p i)))), (1, .c (.v (.int .i64 (setJ p i : Int)))), (0, .c (.v (.string p))), (2, .c (.ptr 0 0)), (6, .c (.v (.int .i64 0))), (7, .c (.v (.bool false)))], [.box 164 (elC (List.replicate 128 false))]⟩) (by (refine weak_fg ?_; push_cast [-List.reduceReplicate, iO, tN, hnq, hJ])) ?_
      exact H.out
    have hg : p.data.toList.getD i 0 = byt p i := rfl
    have h33n : ¬ (byt p i).toNat = 33 := fun e => h33 (UInt8.toNat_inj.1 e)
    have hnq : notQ p i = false := by unfold notQ; rw [beq_eq_false_iff_ne.2 h33, Bool.and_false]
    have hJ : setJ p i = i := by unfold setJ; rw [hnq]; rfl
    refine pwp_seq fun K hK => ?_
    refine pwp_region ?_
    push_cast [-List.reduceReplicate, iO, tN, hs, hg, h33, h33n]
    refine Kont.use (by assumption) ?_
    refine pwp_seq fun K2 hK2 => ?_
    refine pwp_seq fun K3 hK3 => ?_
    refine pwp_region ?_
    push_cast [-List.reduceReplicate, iO, tN, hs, hg, h33, h33n]
    refine Kont.use (by assumption) ?_
    refine pwp_cond ?_
    push_cast [-List.reduceReplicate, iO, tN, hs, hg, h33, h33n]
    refine ⟨fun h => absurd (of_decide_eq_true h) (by omega), fun _ => ?_⟩
    refine pwp_skip ?_
    push_cast [-List.reduceReplicate, iO, tN]
    refine Kont.use (by assumption) ?_
    refine pwp_weak (s' := ⟨[(8, .c (.v (.bool (notQ p i)))), (1, .c (.v (.int .i64 (setJ p i : Int)))), (0, .c (.v (.string p))), (2, .c (.ptr 0 0)), (6, .c (.v (.int .i64 0))), (7, .c (.v (.bool false)))], [.box 164 (elC (List.replicate 128 false))]⟩) (by (refine weak_fg ?_; push_cast [-List.reduceReplicate, iO, tN, hnq, hJ, (decide_eq_false (by omega : ¬ ((byt p i).toNat : Int) = 33))])) ?_
    exact H.out
  obtain ⟨J, hJ⟩ : ∃ J, setJ p i = J := ⟨_, rfl⟩
  obtain ⟨nq, hnq⟩ : ∃ nq, notQ p i = nq := ⟨_, rfl⟩
  have hJs : J ≤ p.size := by
    rw [← hJ]
    unfold setJ notQ
    split
    · rename_i h; simp only [Bool.and_eq_true, decide_eq_true_eq] at h; omega
    · exact hi
  rw [hJ, hnq]
  rw [hJ] at hJi
  have z128 : (List.replicate 128 (E.v (.bool false))) = (noneS ++ [false]).map boolE := by rw [List.map_append, noneS_rep]; rfl
  obtain ⟨c0, hc0⟩ : ∃ c0, noneS ++ [false] = c0 := ⟨_, rfl⟩
  have hc1 : c0.length = 128 := by rw [← hc0]; rfl
  rw [hc0] at z128
  repeat' (first | ((first | refine pC ?_ | refine pQC ?_ | refine pU ?_); push_cast [-List.reduceReplicate, iO, tN]) | (refine pif (fun h => ?_) (fun h => ?_) <;> first | exact pN h | push_cast [-List.reduceReplicate, iO, tN]))
  rw [z128]
  (apply pwp_loop3 (α := Nat × List Bool) 13 [] (fun x => [(1, .c (.v (.int .i64 x.1)))]) (fun x => [(1, .box 162 (x.2.map boolE))]) (fun x => J ≤ x.1 ∧ x.1 ≤ p.size ∧ x.2.length = 128 ∧ bsetGo p J c0 = bsetGo p x.1 x.2 ∧ (J < x.1 → byt p J ≠ 93)) (fun x => p.size - x.1) ((J, c0)); (focus ((try push_cast [-List.reduceReplicate, iO, tN]); rfl)); (focus exact ⟨Nat.le_refl _, hJs, hc1, rfl, fun h => absurd h (by simp)⟩); (focus ((refine weak_fg ?_; try push_cast [-List.reduceReplicate, iO, tN]))))
  rintro ⟨j, cs⟩ ⟨h1, h2, h3, h4, h5⟩
  simp only at h1 h2 h3 h4 h5 ⊢
  push_cast [-List.reduceReplicate, iO, tN]
  have happ := bsetGo_app hb (i := J) (cs := noneS) rfl
  rw [hc0] at happ
  have hnone : bsetGo p j cs = none → bsetM p i = none := fun h => by
    unfold bsetM
    rw [hJ]
    by_cases hq : p.size ≤ J ∨ byt p J = 93
    · rw [if_pos hq]
    · rw [if_neg hq]
      rw [← h4, happ] at h
      rw [Option.map_eq_none_iff.1 h]
  by_cases hlt : j < p.size
  case neg =>
    have hR := hnone (by rw [bsetGo, dif_pos (by omega)])
    repeat' (first | ((first | refine pC ?_ | refine pQC ?_ | refine pU ?_); push_cast [-List.reduceReplicate, iO, tN]) | (refine pif (fun h => ?_) (fun h => ?_) <;> first | exact pN h | push_cast [-List.reduceReplicate, iO, tN]))
    (refine retK_of [0] ?_; push_cast [-List.reduceReplicate, iO, tN, hR])
  obtain ⟨g0, g1, g2⟩ : p.data.toList.getD j 0 = byt p j ∧ p.data.toList.getD (j + 1) 0 = byt p (j + 1) ∧ p.data.toList.getD (j + 2) 0 = byt p (j + 2) := ⟨rfl, rfl, rfl⟩
  by_cases h93 : byt p j = 93
  case pos =>
    by_cases hjJ : j = J
    · have hR : bsetM p i = none := by unfold bsetM; rw [hJ, if_pos (.inr (hjJ ▸ h93))]
      have hcJ : ((j : Int) = (J : Int)) = True := eq_true (by omega)
      repeat' (first | ((first | refine pC ?_ | refine pQC ?_ | refine pU ?_); push_cast [-List.reduceReplicate, iO, tN, hlt, g0, h93, hcJ]) | (refine pif (fun h => ?_) (fun h => ?_) <;> first | exact pN h | push_cast [-List.reduceReplicate, iO, tN, hlt, g0, h93, hcJ]))
      (refine retK_of [0] ?_; push_cast [-List.reduceReplicate, iO, tN, hR])
    have hcJ : ((j : Int) = (J : Int)) = False := eq_false (by omega)
    have hge : bsetGo p j cs = some (cs, j) := by rw [bsetGo, dif_neg (by omega), if_pos h93]
    rw [← h4, happ] at hge
    obtain ⟨r, hr1, hr2⟩ := Option.map_eq_some_iff.1 hge
    have hrl : r.1.length = 127 := (bsetGo_gt hr1).2.2
    have hlow := bsetGo_low hlo noneS_low hr1
    obtain ⟨hr3, hr4⟩ : r.1 ++ [false] = cs ∧ r.2 = j := by injection hr2 with a b; exact ⟨a, b⟩
    have hJn : ¬ (p.size ≤ J ∨ byt p J = 93) := by rintro (h | h); omega; exact h5 (by omega) h
    have hR : bsetM p i = some (if nq then notS r.1 else r.1, j + 1) := by unfold bsetM; rw [hJ, if_neg hJn, hr1, hnq, ← hr4]
    repeat' (first | ((first | refine pC ?_ | refine pQC ?_ | refine pU ?_); push_cast [-List.reduceReplicate, iO, tN, hlt, g0, h93, hcJ]) | (refine pif (fun h => ?_) (fun h => ?_) <;> first | exact pN h | push_cast [-List.reduceReplicate, iO, tN, hlt, g0, h93, hcJ]))
    have z2 : elC (List.replicate 128 false) = elC (outN cs nq 0) := rfl
    rw [z2]
    (apply pwp_loop3 (α := Nat) 13 [] (fun k => [(12, .c (.v (.int .i64 (32 + k))))]) (fun k => [(0, .box 164 (elC (outN cs nq k)))]) (fun k => k ≤ 95) (fun k => 95 - k) (0); (focus ((try push_cast [-List.reduceReplicate, iO, tN]); rfl)); (focus exact (by omega)); (focus ((refine weak_fg ?_; try push_cast [-List.reduceReplicate, iO, tN]))))
    intro k hk
    push_cast [-List.reduceReplicate, iO, tN]
    have hlen : (outN cs nq k).length = 128 := outN_len _ _ _
    by_cases hlt2 : k < 95
    · have hd1 := drop_bools cs (32 + k) (by rw [h3]; omega)
      obtain ⟨v, hv⟩ : ∃ v, (cs.getD (32 + k) false != nq) = v := ⟨_, rfl⟩
      have hput : List.take (2 + (32 + k)) (E.v (.bool false) :: E.v (.bool false) :: (outN cs nq k).map boolE) ++ E.v (.bool v) :: List.drop (2 + (32 + k)) (E.v (.bool false) :: (outN cs nq k).map boolE) = elC (outN cs nq (k + 1)) := by
        have h := two_put (E.v (.bool false)) (E.v (.bool false)) ((outN cs nq k).map boolE) (32 + k) (E.v (.bool v)) (by rw [List.length_map, hlen]; omega)
        rw [List.drop_succ_cons] at h
        rw [h, outN, hv]
        show _ = E.v (.bool false) :: E.v (.bool false) :: ((outN cs nq k).set (32 + k) v).map boolE
        rw [List.map_set]
      repeat' (first | ((refine pwp_cut 13 [] ?_; apply pwp_drawn_to; (focus kernel_rfl); (focus (simp only [List.length_cons, List.length_nil, Nat.reduceAdd]; (repeat' first | ((first | refine pah 0 ?_ | refine pah 1 ?_ | refine pah 2 ?_ | refine pah 3 ?_ | refine pah 5 ?_ | refine pah 6 ?_ | refine pah 7 ?_ | refine pah 8 ?_ | refine pah 9 ?_); push_cast [-List.reduceReplicate, iO, tN, hlen, hd1, hv, hput]) | (refine pad ?_; first | with_reducible exact weak_cutS 13 [] _ | (refine weak_fg ?_; push_cast [-List.reduceReplicate, iO, tN, hlen, hd1, hv, hput])) | ((first | refine pas [4] ?_ | refine pas [10] ?_); push_cast [-List.reduceReplicate, iO, tN, hlen, hd1, hv, hput])); done)); push_cast [-List.reduceReplicate, iO, tN, hlen, hd1, hv, hput])) | ((first | refine pC ?_ | refine pQC ?_ | refine pU ?_); push_cast [-List.reduceReplicate, iO, tN, hlen, hd1, hv, hput]) | (refine pif (fun h => ?_) (fun h => ?_) <;> first | exact pN h | push_cast [-List.reduceReplicate, iO, tN, hlen, hd1, hv, hput]))
      have hk3 : (32 + (k : Int) + 1) = 32 + ((k : Int) + 1) := by omega
      exact ⟨k + 1, by omega, by (refine weak_fg ?_; push_cast [-List.reduceReplicate, iO, tN, hk3]), by omega⟩
    · have hk2 : k = 95 := by omega
      have hout : outN cs nq k = (if nq then notS r.1 else r.1) ++ [false] := by
        rw [← hr3, outN_not hrl hlow nq hk2]
        have hN : notN r.1 k = notS r.1 := by rw [hk2]; rfl
        rw [hN]
      obtain ⟨ob, hob⟩ : ∃ ob, (if nq then notS r.1 else r.1) ++ [false] = ob := ⟨_, rfl⟩
      rw [hob] at hout
      obtain ⟨q1, hq1⟩ : ∃ q1, (if nq then notS r.1 else r.1) = q1 := ⟨_, rfl⟩
      rw [hq1] at hR hob
      repeat' (first | ((first | refine pC ?_ | refine pQC ?_ | refine pU ?_); push_cast [-List.reduceReplicate, iO, tN]) | (refine pif (fun h => ?_) (fun h => ?_) <;> first | exact pN h | push_cast [-List.reduceReplicate, iO, tN]))
      (refine retK_of [0] ?_; push_cast [-List.reduceReplicate, iO, tN, hR, hout, hob])
  have h93n : ¬ (byt p j).toNat = 93 := fun e => h93 (UInt8.toNat_inj.1 e)
  obtain ⟨A, hA⟩ : ∃ A, (byt p j).toNat = A := ⟨_, rfl⟩
  have hA1 : A ≤ 126 := by rw [← hA]; exact UInt8.le_iff_toNat_le.1 (hb j)
  rw [hA] at h93n
  by_cases hl2 : j + 2 < p.size
  case neg =>
    have hq : rngQ p j = false := by unfold rngQ; rw [decide_eq_false hl2]; rfl
    have hl2 : ¬ (j : Int) + 2 < (p.size : Int) := by omega
    have hmt : memTo p j = byt p j := by unfold memTo; rw [hq]; rfl
    have hma : memAt p j = j + 1 := by unfold memAt; rw [hq]; rfl
    have hms : memS p j cs = cs.set A true := by unfold memS; rw [hmt, hA, show A + 1 - A = 1 by omega]; rfl
    have hst : bsetGo p j cs = bsetGo p (j + 1) (cs.set A true) := by rw [bsetGo, dif_neg (by omega), if_neg h93, if_pos (by rw [hmt]; exact Nat.le_refl _), hma, hms]
    repeat' (first | ((first | refine pC ?_ | refine pQC ?_ | refine pU ?_); push_cast [-List.reduceReplicate, iO, tN, hlt, h93, h93n, g0, h3, hA, hl2]) | (refine pif (fun h => ?_) (fun h => ?_) <;> first | exact pN h | push_cast [-List.reduceReplicate, iO, tN, hlt, h93, h93n, g0, h3, hA, hl2]))
    obtain ⟨cs2, hcs2⟩ : ∃ cs2, cs.set A true = cs2 := ⟨_, rfl⟩
    have hc2l : cs2.length = 128 := by rw [← hcs2, List.length_set, h3]
    have hc2 : (List.map boolE cs).set A (.v (.bool true)) = List.map boolE cs2 := by rw [← hcs2, List.map_set]
    rw [hcs2] at hst
    exact ⟨(j + 1, cs2), ⟨by simp only; omega, by simp only; omega, hc2l, by simp only; rw [h4, hst], fun _ => by by_cases e : j = J; exact e ▸ h93; exact h5 (by omega)⟩, by (refine weak_fg ?_; push_cast [-List.reduceReplicate, iO, tN, hc2]), by simp only; omega⟩
  by_cases h45 : byt p (j + 1) = 45
  case neg =>
    have hq : rngQ p j = false := by unfold rngQ; rw [beq_eq_false_iff_ne.2 h45]; simp
    have h45n : ¬ (byt p (j + 1)).toNat = 45 := fun e => h45 (UInt8.toNat_inj.1 e)
    have hmt : memTo p j = byt p j := by unfold memTo; rw [hq]; rfl
    have hma : memAt p j = j + 1 := by unfold memAt; rw [hq]; rfl
    have hms : memS p j cs = cs.set A true := by unfold memS; rw [hmt, hA, show A + 1 - A = 1 by omega]; rfl
    have hst : bsetGo p j cs = bsetGo p (j + 1) (cs.set A true) := by rw [bsetGo, dif_neg (by omega), if_neg h93, if_pos (by rw [hmt]; exact Nat.le_refl _), hma, hms]
    repeat' (first | ((first | refine pC ?_ | refine pQC ?_ | refine pU ?_); push_cast [-List.reduceReplicate, iO, tN, hlt, h93, h93n, g0, h3, hA, hl2, g1, h45, h45n]) | (refine pif (fun h => ?_) (fun h => ?_) <;> first | exact pN h | push_cast [-List.reduceReplicate, iO, tN, hlt, h93, h93n, g0, h3, hA, hl2, g1, h45, h45n]))
    obtain ⟨cs2, hcs2⟩ : ∃ cs2, cs.set A true = cs2 := ⟨_, rfl⟩
    have hc2l : cs2.length = 128 := by rw [← hcs2, List.length_set, h3]
    have hc2 : (List.map boolE cs).set A (.v (.bool true)) = List.map boolE cs2 := by rw [← hcs2, List.map_set]
    rw [hcs2] at hst
    exact ⟨(j + 1, cs2), ⟨by simp only; omega, by simp only; omega, hc2l, by simp only; rw [h4, hst], fun _ => by by_cases e : j = J; exact e ▸ h93; exact h5 (by omega)⟩, by (refine weak_fg ?_; push_cast [-List.reduceReplicate, iO, tN, hc2]), by simp only; omega⟩
  by_cases hb93 : byt p (j + 2) = 93
  case pos =>
    have hq : rngQ p j = false := by unfold rngQ; rw [hb93]; simp
    have hmt : memTo p j = byt p j := by unfold memTo; rw [hq]; rfl
    have hma : memAt p j = j + 1 := by unfold memAt; rw [hq]; rfl
    have hms : memS p j cs = cs.set A true := by unfold memS; rw [hmt, hA, show A + 1 - A = 1 by omega]; rfl
    have hst : bsetGo p j cs = bsetGo p (j + 1) (cs.set A true) := by rw [bsetGo, dif_neg (by omega), if_neg h93, if_pos (by rw [hmt]; exact Nat.le_refl _), hma, hms]
    repeat' (first | ((first | refine pC ?_ | refine pQC ?_ | refine pU ?_); push_cast [-List.reduceReplicate, iO, tN, hlt, h93, h93n, g0, h3, hA, hl2, g1, h45, g2, hb93]) | (refine pif (fun h => ?_) (fun h => ?_) <;> first | exact pN h | push_cast [-List.reduceReplicate, iO, tN, hlt, h93, h93n, g0, h3, hA, hl2, g1, h45, g2, hb93]))
    obtain ⟨cs2, hcs2⟩ : ∃ cs2, cs.set A true = cs2 := ⟨_, rfl⟩
    have hc2l : cs2.length = 128 := by rw [← hcs2, List.length_set, h3]
    have hc2 : (List.map boolE cs).set A (.v (.bool true)) = List.map boolE cs2 := by rw [← hcs2, List.map_set]
    rw [hcs2] at hst
    exact ⟨(j + 1, cs2), ⟨by simp only; omega, by simp only; omega, hc2l, by simp only; rw [h4, hst], fun _ => by by_cases e : j = J; exact e ▸ h93; exact h5 (by omega)⟩, by (refine weak_fg ?_; push_cast [-List.reduceReplicate, iO, tN, hc2]), by simp only; omega⟩
  have hq : rngQ p j = true := by unfold rngQ; rw [h45, decide_eq_true hl2]; simp [hb93]
  have hma : memAt p j = j + 3 := by unfold memAt; rw [hq]; rfl
  have hmt : memTo p j = byt p (j + 2) := by unfold memTo; rw [hq]; rfl
  have hb93n : ¬ (byt p (j + 2)).toNat = 93 := fun e => hb93 (UInt8.toNat_inj.1 e)
  obtain ⟨T, hT⟩ : ∃ T, (byt p (j + 2)).toNat = T := ⟨_, rfl⟩
  have hT1 : T ≤ 126 := by rw [← hT]; exact UInt8.le_iff_toNat_le.1 (hb _)
  rw [hT] at hb93n
  by_cases hAT : A ≤ T
  case neg =>
    have hR := hnone (by rw [bsetGo, dif_neg (by omega), if_neg h93, if_neg (by rw [hmt, UInt8.le_iff_toNat_le, hA, hT]; exact hAT)])
    repeat' (first | ((first | refine pC ?_ | refine pQC ?_ | refine pU ?_); push_cast [-List.reduceReplicate, iO, tN, hlt, h93, h93n, g0, h3, hA, hl2, g1, h45, g2, hb93, hb93n, hT]) | (refine pif (fun h => ?_) (fun h => ?_) <;> first | exact pN h | push_cast [-List.reduceReplicate, iO, tN, hlt, h93, h93n, g0, h3, hA, hl2, g1, h45, g2, hb93, hb93n, hT]))
    (refine retK_of [0] ?_; push_cast [-List.reduceReplicate, iO, tN, hR])
  have hms : memS p j cs = fillN cs A (T + 1 - A) := by unfold memS; rw [hmt, hA, hT]
  have hst : bsetGo p j cs = bsetGo p (j + 3) (fillN cs A (T + 1 - A)) := by rw [bsetGo, dif_neg (by omega), if_neg h93, if_pos (by rw [hmt, UInt8.le_iff_toNat_le, hA, hT]; exact hAT), hma, hms]
  repeat' (first | ((first | refine pC ?_ | refine pQC ?_ | refine pU ?_); push_cast [-List.reduceReplicate, iO, tN, hlt, h93, h93n, g0, h3, hA, hl2, g1, h45, g2, hb93, hb93n, hT]) | (refine pif (fun h => ?_) (fun h => ?_) <;> first | exact pN h | push_cast [-List.reduceReplicate, iO, tN, hlt, h93, h93n, g0, h3, hA, hl2, g1, h45, g2, hb93, hb93n, hT]))
  (apply pwp_loop3 (α := Nat) 13 [] (fun k => [(11, .c (.v (.int .i64 ((A + k : Nat) : Int))))]) (fun k => [(1, .box 162 ((fillN cs A k).map boolE))]) (fun k => k ≤ T + 1 - A) (fun k => (T + 1 - A) - k) (0); (focus ((try push_cast [-List.reduceReplicate, iO, tN]); rfl)); (focus exact (by omega)); (focus ((refine weak_fg ?_; try push_cast [-List.reduceReplicate, iO, tN]); (try (exact leEs_refl _)))))
  intro k hk
  push_cast [-List.reduceReplicate, iO, tN]
  have hlen : (fillN cs A k).length = 128 := by rw [fillN_len, h3]
  by_cases hlt2 : k < T + 1 - A
  · have hc : (A : Int) + (k : Int) ≤ (T : Int) := by omega
    have hs2 : (List.map boolE (fillN cs A k)).set (A + k) (.v (.bool true)) = (fillN cs A (k + 1)).map boolE := by rw [fillN, List.map_set]
    have hk3 : ((A : Int) + (k : Int) + 1) = (A : Int) + ((k : Int) + 1) := by omega
    repeat' (first | ((first | refine pC ?_ | refine pQC ?_ | refine pU ?_); push_cast [-List.reduceReplicate, iO, tN, hlen, hc, g2, hT, hl2]) | (refine pif (fun h => ?_) (fun h => ?_) <;> first | exact pN h | push_cast [-List.reduceReplicate, iO, tN, hlen, hc, g2, hT, hl2]))
    exact ⟨k + 1, by omega, by (refine weak_fg ?_; push_cast [-List.reduceReplicate, iO, tN, hs2, hk3]), by omega⟩
  · have hk2 : k = T + 1 - A := by omega
    have hc : ¬ (A : Int) + (k : Int) ≤ (T : Int) := by omega
    repeat' (first | ((first | refine pC ?_ | refine pQC ?_ | refine pU ?_); push_cast [-List.reduceReplicate, iO, tN, hlen, hc, g2, hT, hl2]) | (refine pif (fun h => ?_) (fun h => ?_) <;> first | exact pN h | push_cast [-List.reduceReplicate, iO, tN, hlen, hc, g2, hT, hl2]))
    subst hk2
    exact ⟨(j + 3, fillN cs A (T + 1 - A)), ⟨by simp only; omega, by simp only; omega, by simp only; rw [fillN_len, h3], by simp only; rw [h4, hst], fun _ => by by_cases e : j = J; exact e ▸ h93; exact h5 (by omega)⟩, by (refine weak_fg ?_; push_cast [-List.reduceReplicate, iO, tN]); omega, by simp only; omega⟩
end Go.Proofs.YtbonfcphabnlpabGreatDoor
