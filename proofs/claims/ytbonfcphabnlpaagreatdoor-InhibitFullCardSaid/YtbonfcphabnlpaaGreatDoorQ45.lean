/- What the program computes, and the plain laws of it, part 45. -/
import Derived.Test.YtbonfcphabnlpaaGreatDoorQ35
import Derived.Test.YtbonfcphabnlpaaGreatDoorQ38
import Derived.Test.YtbonfcphabnlpaaGreatDoorQ44
namespace Go.Proofs.YtbonfcphabnlpaaGreatDoor
attribute [local irreducible] PL QL PWPr PCalls Weak RetK Kontr PA
open Go.RowKit
open IntWalk renaming iteOmega → iO, toNatUp → tN
set_option linter.unusedVariables false
set_option linter.unusedSimpArgs false
set_option maxRecDepth 20000
def bD (b : Bool) : List D := [.v (.bool b)]
attribute [push_cast] bD
theorem bD_set (a : List Bool) (i : Nat) (b : Bool) : (a.map bD).set i [.v (.bool b)] = (a.set i b).map bD := by rw [List.map_set]; rfl
abbrev bArr (a : List Bool) : Ob := .arr 4 1 (a.map bD)
set_option maxRecDepth 20000 in
set_option maxHeartbeats 2000000 in
theorem places_pure (l : List El) (a : List Bool) (hl : l.length ≤ 1000000) (ha : a.length = l.length + 1) :
    PCalls Tryz.prog 129 [.c (.sl 130 (l.map El.r)), .c (.sl 1 (a.map bD))] [] fun r os => r = .c (.own 0 a.length) ∧ os = [bArr (placesL l a)] := by
  refine pcalls_of Tryz.func129 rfl (by simp [Tryz.ntmps129]) ?_
  rw [Tryz.ntmps129, Tryz.results129]
  push_cast [-List.reduceReplicate, iO, tN]
  have cB : CutB 7 [] := trivial
  repeat' (first | ((first | refine pC ?_ | refine pQC ?_ | refine pU ?_); push_cast [-List.reduceReplicate, iO, tN]) | (refine pif (fun h => ?_) (fun h => ?_) <;> first | exact pN h | push_cast [-List.reduceReplicate, iO, tN]))
  (apply pwp_loop3 (α := Nat) 7 [] (fun k => [(6, .c (.v (.int .i64 k)))]) (fun k => [(0, bArr (plN l a k))]) (fun k => k ≤ l.length) (fun k => l.length - k) (0); (focus ((try push_cast [-List.reduceReplicate, iO, tN]); rfl)); (focus exact (Nat.zero_le _)); (focus ((refine weak_fg ?_; try push_cast [-List.reduceReplicate, iO, tN]); (try (rfl)))))
  intro k hk
  push_cast [-List.reduceReplicate, iO, tN]
  have hlen := plN_len l a k
  by_cases hlt : k < l.length
  · cases h1 : (plN l a k).getD k default with
    | false =>
      have hs : plN l a (k + 1) = plN l a k := by rw [plN, show (plN l a k).getD k false = false from h1]; rfl
      repeat' (first | ((first | refine pC ?_ | refine pQC ?_ | refine pU ?_); push_cast [-List.reduceReplicate, iO, tN, hlen, h1]) | (refine pif (fun h => ?_) (fun h => ?_) <;> first | exact pN h | push_cast [-List.reduceReplicate, iO, tN, hlen, h1]))
      exact ⟨k + 1, by omega, by (refine weak_fg ?_; push_cast [-List.reduceReplicate, iO, tN, hs]), by omega⟩
    | true =>
      cases h2 : (l.getD k default).star with
      | false =>
        have hs : plN l a (k + 1) = plN l a k := by rw [plN, show (plN l a k).getD k false = true from h1, h2]; rfl
        repeat' (first | ((first | refine pC ?_ | refine pQC ?_ | refine pU ?_); push_cast [-List.reduceReplicate, iO, tN, hlen, h1, h2, El.r]) | (refine pif (fun h => ?_) (fun h => ?_) <;> first | exact pN h | push_cast [-List.reduceReplicate, iO, tN, hlen, h1, h2, El.r]))
        exact ⟨k + 1, by omega, by (refine weak_fg ?_; push_cast [-List.reduceReplicate, iO, tN, hs]), by omega⟩
      | true =>
        have hs : plN l a (k + 1) = (plN l a k).set (k + 1) true := by rw [plN, show (plN l a k).getD k false = true from h1, h2]; rfl
        repeat' (first | ((first | refine pC ?_ | refine pQC ?_ | refine pU ?_); push_cast [-List.reduceReplicate, iO, tN, hlen, h1, h2, El.r]) | (refine pif (fun h => ?_) (fun h => ?_) <;> first | exact pN h | push_cast [-List.reduceReplicate, iO, tN, hlen, h1, h2, El.r]))
        exact ⟨k + 1, by omega, by (refine weak_fg ?_; push_cast [-List.reduceReplicate, iO, tN, hs]), by omega⟩
  · have hk2 : k = l.length := by omega
    subst hk2
    repeat' (first | ((first | refine pC ?_ | refine pQC ?_ | refine pU ?_); push_cast [-List.reduceReplicate, iO, tN, hlen]) | (refine pif (fun h => ?_) (fun h => ?_) <;> first | exact pN h | push_cast [-List.reduceReplicate, iO, tN, hlen]))
    (refine retK_of [0] ?_; push_cast [-List.reduceReplicate, iO, tN, hlen])
    rfl
theorem rset_len {e : El} (h : e.set.length = 127) : (rset e).length = 128 := by
  unfold rset
  split
  · exact List.length_replicate
  · rw [List.length_append, h]; rfl
theorem rset_get {e : El} (h : e.set.length = 127) (hs : e.star = false) {k : Nat} (hk : k ≤ 126) : (rset e).getD k false = e.set.getD k false := by
  unfold rset
  rw [hs, if_neg (by simp), List.getD_eq_getElem?_getD, List.getElem?_append_left (by omega), ← List.getD_eq_getElem?_getD]
set_option maxRecDepth 20000 in
set_option maxHeartbeats 4000000 in
theorem one_pureG (l : List El) (s : ByteArray) (hok : OkEl l) (hl : l.length ≤ 100000) (hs : s.size ≤ 9000000000000000000) (hb : ∀ k, byt s k ≤ 126) :
    PCalls Tryz.prog 110 [.c (.sl 130 (l.map El.r)), .c (.v (.string s))] [] fun r os => r = .c (.v (.bool (mat l s.data.toList))) ∧ os = [] := by
  refine pcalls_of Tryz.func110 rfl (by simp [Tryz.ntmps110]) ?_
  rw [Tryz.ntmps110, Tryz.results110]
  push_cast [-List.reduceReplicate, iO, tN]
  have cB : CutB 9 [] := trivial
  obtain ⟨a0, ha0⟩ : ∃ a0, (List.replicate (l.length + 1) false).set 0 true = a0 := ⟨_, rfl⟩
  have hl0 : a0.length = l.length + 1 := by rw [← ha0]; simp
  have hst := AtOk.start l
  rw [ha0] at hst
  have hp0 := places_pure l a0 (by omega) hl0
  have hm0 : (List.replicate (l.length + 1) [D.v (.bool false)]).set 0 [D.v (.bool true)] = a0.map bD := by
    rw [← ha0, List.map_set, List.map_replicate]; rfl
  have hd0 : List.drop 1 ((List.replicate (l.length + 1) [D.v (.bool false)]).getD 0 []) = [] := by rw [List.replicate_succ]; rfl
  have hmk : (l.length : Int) + 1 = ((l.length + 1 : Nat) : Int) := by omega
  repeat' (first | (refine pl_make (n := l.length + 1) (kx := .i64) (kz := .i64) (by' := 1) (z0 := .v (.bool false)) (d := .v (.bool false)) rfl rfl (by push_cast [-List.reduceReplicate, iO, tN, hm0, hl0, hd0]) rfl (by kernel_rfl) (by kernel_rfl) rfl (by push_cast [-List.reduceReplicate, iO, tN, hm0, hl0, hd0]) (by push_cast [-List.reduceReplicate, iO, tN, hm0, hl0, hd0]) (by omega) (by omega) (by omega) ?_; push_cast [-List.reduceReplicate, iO, tN, hm0, hl0, hd0]; refine pl_of_pops ?_; push_cast [-List.reduceReplicate, iO, tN, hm0, hl0, hd0]) | ((refine pl_call2 true [] rfl rfl (by kernel_rfl) (hp0) ?_ ?_ ?_; push_cast [-List.reduceReplicate, iO, tN, hm0, hl0, hd0]; (intro _ r os; rintro ⟨rfl, rfl⟩; push_cast [-List.reduceReplicate, iO, tN, hm0, hl0, hd0]); rintro r os ⟨rfl, rfl⟩; refine pl_of_pops ?_; push_cast [-List.reduceReplicate, iO, tN, hm0, hl0, hd0])) | ((first | refine pC ?_ | refine pQC ?_ | refine pU ?_); push_cast [-List.reduceReplicate, iO, tN, hm0, hl0, hd0]) | (refine pif (fun h => ?_) (fun h => ?_) <;> first | exact pN h | push_cast [-List.reduceReplicate, iO, tN, hm0, hl0, hd0]))
  (apply pwp_loop3 (α := Nat × List Bool) 9 [] (fun x => [(6, .c (.v (.int .i64 x.1))), (5, .c (.own 1 (l.length + 1)))]) (fun x => [(1, bArr x.2)]) (fun x => x.1 ≤ s.size ∧ AtOk l x.2 (s.data.toList.take x.1)) (fun x => s.size - x.1) ((0, placesL l a0)); (focus ((try push_cast [-List.reduceReplicate, iO, tN]); rfl)); (focus exact ⟨Nat.zero_le _, hst⟩); (focus ((refine weak_fg ?_; try push_cast [-List.reduceReplicate, iO, tN]))))
  rintro ⟨k, a⟩ ⟨hk, ha⟩
  simp only at hk ha ⊢
  push_cast [-List.reduceReplicate, iO, tN]
  have hal := ha.1
  by_cases hlt : k < s.size
  case neg =>
    have hk2 : k = s.size := by omega
    subst hk2
    have hf := ha.fin
    rw [show s.data.toList.take s.size = s.data.toList from List.take_of_length_le (Nat.le_refl _)] at hf
    have hf2 : a.getD l.length default = mat l s.data.toList := hf
    repeat' (first | ((first | refine pC ?_ | refine pQC ?_ | refine pU ?_); push_cast [-List.reduceReplicate, iO, tN, hal, hf2]) | (refine pif (fun h => ?_) (fun h => ?_) <;> first | exact pN h | push_cast [-List.reduceReplicate, iO, tN, hal, hf2]))
    (refine retK_of [] ?_; push_cast [-List.reduceReplicate, iO, tN])
  obtain ⟨b, hg⟩ : ∃ b, s.data.toList.getD k 0 = b := ⟨_, rfl⟩
  have hb1 : b.toNat ≤ 126 := by rw [← hg]; exact UInt8.le_iff_toNat_le.1 (hb k)
  have hstep := ha.step b
  have htk : s.data.toList.take k ++ [b] = s.data.toList.take (k + 1) := by
    have hkl : k < s.data.toList.length := hlt
    rw [List.take_succ_eq_append_getElem hkl, ← hg, List.getD_eq_getElem?_getD, List.getElem?_eq_getElem hkl]; rfl
  rw [htk] at hstep
  have hn0 : List.replicate (l.length + 1) [D.v (.bool false)] = (nxN l a b 0).map bD := by rw [nxN, List.map_replicate]; rfl
  repeat' (first | (refine pl_make (n := l.length + 1) (kx := .i64) (kz := .i64) (by' := 1) (z0 := .v (.bool false)) (d := .v (.bool false)) rfl rfl (by push_cast [-List.reduceReplicate, iO, tN, hn0]) rfl (by kernel_rfl) (by kernel_rfl) rfl (by push_cast [-List.reduceReplicate, iO, tN, hn0]) (by push_cast [-List.reduceReplicate, iO, tN, hn0]) (by omega) (by omega) (by omega) ?_; push_cast [-List.reduceReplicate, iO, tN, hn0]; refine pl_of_pops ?_; push_cast [-List.reduceReplicate, iO, tN, hn0]) | ((first | refine pC ?_ | refine pQC ?_ | refine pU ?_); push_cast [-List.reduceReplicate, iO, tN, hn0]) | (refine pif (fun h => ?_) (fun h => ?_) <;> first | exact pN h | push_cast [-List.reduceReplicate, iO, tN, hn0]))
  (apply pwp_loop3 (α := Nat) 9 [] (fun j => [(8, .c (.v (.int .i64 j)))]) (fun j => [(2, bArr (nxN l a b j))]) (fun j => j ≤ l.length) (fun j => l.length - j) (0); (focus ((try push_cast [-List.reduceReplicate, iO, tN]); rfl)); (focus exact (Nat.zero_le _)); (focus ((refine weak_fg ?_; try push_cast [-List.reduceReplicate, iO, tN]))))
  intro j hj
  push_cast [-List.reduceReplicate, iO, tN]
  have hnl := nxN_len l a b j
  by_cases hjl : j < l.length
  · have h127 := okEl_get hok hjl
    have hr128 := rset_len h127
    have hd : List.map D.e (List.drop b.toNat ((rset (l.getD j default)).map boolD)) = E.v (.bool ((rset (l.getD j default)).getD b.toNat false)) :: ((rset (l.getD j default)).drop (b.toNat + 1)).map boolE := rd_bool _ _ (by omega)
    obtain ⟨at1, hat⟩ : ∃ c, a.getD j default = c := ⟨_, rfl⟩
    obtain ⟨st, hst1⟩ : ∃ c, (l.getD j default).star = c := ⟨_, rfl⟩
    obtain ⟨nx, hnx⟩ : ∃ nx, nxN l a b (j + 1) = nx := ⟨_, rfl⟩
    have hnx2 := hnx
    rw [nxN, show a.getD j false = at1 from hat, hst1] at hnx2
    cases at1 with
    | false =>
      have hs : nx = nxN l a b j := by rw [← hnx2]; simp
      repeat' (first | ((first | refine pC ?_ | refine pQC ?_ | refine pU ?_); push_cast [-List.reduceReplicate, iO, tN, hal, hnl, hat]) | (refine pif (fun h => ?_) (fun h => ?_) <;> first | exact pN h | push_cast [-List.reduceReplicate, iO, tN, hal, hnl, hat]))
      exact ⟨j + 1, by omega, by (refine weak_fg ?_; push_cast [-List.reduceReplicate, iO, tN, hnx, bD_set, hs]), by omega⟩
    | true =>
      cases st with
      | true =>
        have hs : (nxN l a b j).set j true = nx := by rw [← hnx2]; simp
        repeat' (first | ((first | refine pC ?_ | refine pQC ?_ | refine pU ?_); push_cast [-List.reduceReplicate, iO, tN, hal, hnl, hat, hst1, El.r]) | (refine pif (fun h => ?_) (fun h => ?_) <;> first | exact pN h | push_cast [-List.reduceReplicate, iO, tN, hal, hnl, hat, hst1, El.r]))
        exact ⟨j + 1, by omega, by (refine weak_fg ?_; push_cast [-List.reduceReplicate, iO, tN, hnx, bD_set, hs]), by omega⟩
      | false =>
        have hh : (rset (l.getD j default)).getD b.toNat false = (l.getD j default).has b := rset_get h127 hst1 hb1
        cases hv : (l.getD j default).has b with
        | true =>
          rw [hh, hv] at hd
          have hs : (nxN l a b j).set (j + 1) true = nx := by rw [← hnx2, hv]; simp
          repeat' (first | ((first | refine pC ?_ | refine pQC ?_ | refine pU ?_); push_cast [-List.reduceReplicate, iO, tN, hal, hnl, hat, hst1, El.r, hg, hd, hr128]) | (refine pif (fun h => ?_) (fun h => ?_) <;> first | exact pN h | push_cast [-List.reduceReplicate, iO, tN, hal, hnl, hat, hst1, El.r, hg, hd, hr128]))
          exact ⟨j + 1, by omega, by (refine weak_fg ?_; push_cast [-List.reduceReplicate, iO, tN, hnx, bD_set, hs]), by omega⟩
        | false =>
          rw [hh, hv] at hd
          have hs : nx = nxN l a b j := by rw [← hnx2, hv]; simp
          repeat' (first | ((first | refine pC ?_ | refine pQC ?_ | refine pU ?_); push_cast [-List.reduceReplicate, iO, tN, hal, hnl, hat, hst1, El.r, hg, hd, hr128]) | (refine pif (fun h => ?_) (fun h => ?_) <;> first | exact pN h | push_cast [-List.reduceReplicate, iO, tN, hal, hnl, hat, hst1, El.r, hg, hd, hr128]))
          exact ⟨j + 1, by omega, by (refine weak_fg ?_; push_cast [-List.reduceReplicate, iO, tN, hnx, bD_set, hs]), by omega⟩
  have hj2 : j = l.length := by omega
  have hpl := places_pure l (nxN l a b j) (by omega) hnl
  repeat' (first | ((refine pl_call2 true [] rfl rfl (by kernel_rfl) (hpl) ?_ ?_ ?_; push_cast [-List.reduceReplicate, iO, tN, hnl]; (intro _ r os; rintro ⟨rfl, rfl⟩; push_cast [-List.reduceReplicate, iO, tN, hnl]); rintro r os ⟨rfl, rfl⟩; refine pl_of_pops ?_; push_cast [-List.reduceReplicate, iO, tN, hnl])) | ((first | refine pC ?_ | refine pQC ?_ | refine pU ?_); push_cast [-List.reduceReplicate, iO, tN, hnl]) | (refine pif (fun h => ?_) (fun h => ?_) <;> first | exact pN h | push_cast [-List.reduceReplicate, iO, tN, hnl]))
  have hle : (placesL l (nxN l a b j)).length = l.length + 1 := by rw [placesL_len, hnl]
  refine ⟨(k + 1, placesL l (nxN l a b j)), ⟨by simp only; omega, by rw [hj2]; exact hstep⟩, ?_, by simp only; omega⟩
  (refine weak_keep true [0, 3] ?_; push_cast [-List.reduceReplicate, iO, tN])
set_option maxRecDepth 20000 in
set_option maxHeartbeats 4000000 in
theorem gmatch_pure (p s : ByteArray) (hf : p.size ≤ 9223372036854775807) (hs : s.size ≤ 9000000000000000000) : PCalls Tryz.prog 91 [.c (.v (.string p)), .c (.v (.string s))] [] fun r os => r = .c (.v (.bool (matchM p s))) ∧ os = [] := by
  have hc := gcheck_pure p hf
  have hpr := gprint_pure s (by omega)
  refine pcalls_of Tryz.func91 rfl (by simp [Tryz.ntmps91]) ?_
  rw [Tryz.ntmps91, Tryz.results91]
  push_cast [-List.reduceReplicate, iO, tN]
  have cB : CutB 8 [] := trivial
  by_cases h0 : globM p = 0
  case neg =>
    have hR : matchM p s = false := by unfold matchM; rw [decide_eq_false h0]; rfl
    repeat' (first | ((refine plc [] (hc) ?_ ?_; push_cast [-List.reduceReplicate, iO, tN, h0]; rintro r os ⟨rfl, rfl⟩; push_cast [-List.reduceReplicate, iO, tN, h0])) | ((first | refine pC ?_ | refine pQC ?_ | refine pU ?_); push_cast [-List.reduceReplicate, iO, tN, h0]) | (refine pif (fun h => ?_) (fun h => ?_) <;> first | exact pN h | push_cast [-List.reduceReplicate, iO, tN, h0]))
    (refine retK_of [] ?_; push_cast [-List.reduceReplicate, iO, tN, hR])
  rw [h0] at hc
  cases ht : s.data.toList.all textB with
  | false =>
    have hR : matchM p s = false := by unfold matchM; rw [ht]; simp
    rw [ht] at hpr
    repeat' (first |  ((refine plc [] (hc) ?_ ?_; push_cast [-List.reduceReplicate, iO, tN]; rintro r os ⟨rfl, rfl⟩; push_cast [-List.reduceReplicate, iO, tN])) | ((refine plc [] (hpr) ?_ ?_; push_cast [-List.reduceReplicate, iO, tN]; rintro r os ⟨rfl, rfl⟩; push_cast [-List.reduceReplicate, iO, tN]))  | ((first | refine pC ?_ | refine pQC ?_ | refine pU ?_); push_cast [-List.reduceReplicate, iO, tN]) | (refine pif (fun h => ?_) (fun h => ?_) <;> first | exact pN h | push_cast [-List.reduceReplicate, iO, tN]))
    (refine retK_of [] ?_; push_cast [-List.reduceReplicate, iO, tN, hR])
  | true =>
  rw [ht] at hpr
  have hp256 : p.size ≤ 256 := by
    unfold globM at h0
    split at h0
    · cases h0
    · omega
  have htp : p.data.toList.all textB = true := by
    unfold globM at h0
    rw [if_neg (by omega)] at h0
    cases h : p.data.toList.all textB
    · rw [h] at h0; cases h0
    · rfl
  obtain ⟨l, hq⟩ : ∃ l, altsM p = some l := by
    cases hq : altsM p with
    | some l => exact ⟨l, rfl⟩
    | none =>
      unfold globM at h0
      rw [hq] at h0
      split at h0
      · cases h0
      · split at h0 <;> cases h0
  have hok := altsM_ok hq
  have hll := altGo_len (Nat.zero_le _) (Nat.zero_le _) (show altGo p 0 [] [] = some l from hq)
  have hR : matchM p s = l.any fun x => mat x s.data.toList := by unfold matchM; rw [decide_eq_true h0, ht, hq]; rfl
  have hps := rparse_pure p (by omega)
  unfold rparseR at hps
  rw [hq, htp, if_pos ⟨rfl, rfl⟩, Option.getD_some, altsR] at hps
  simp only [Option.isSome_some, Bool.and_self] at hps
  repeat' (first |  ((refine plc [] (hc) ?_ ?_; push_cast [-List.reduceReplicate, iO, tN]; rintro r os ⟨rfl, rfl⟩; push_cast [-List.reduceReplicate, iO, tN])) | ((refine plc [] (hpr) ?_ ?_; push_cast [-List.reduceReplicate, iO, tN]; rintro r os ⟨rfl, rfl⟩; push_cast [-List.reduceReplicate, iO, tN])) | ((refine plc [] (hps) ?_ ?_; push_cast [-List.reduceReplicate, iO, tN]; rintro r os ⟨rfl, rfl⟩; push_cast [-List.reduceReplicate, iO, tN]))  | ((first | refine pC ?_ | refine pQC ?_ | refine pU ?_); push_cast [-List.reduceReplicate, iO, tN]) | (refine pif (fun h => ?_) (fun h => ?_) <;> first | exact pN h | push_cast [-List.reduceReplicate, iO, tN]))
  (apply pwp_loop3 (α := Nat) 8 [] (fun k => [(7, .c (.v (.int .i64 k)))]) (fun k => []) (fun k => k ≤ l.length ∧ ((l.take k).any fun x => mat x s.data.toList) = false) (fun k => l.length - k) (0); (focus ((try push_cast [-List.reduceReplicate, iO, tN]); rfl)); (focus exact ⟨by omega, rfl⟩); (focus ((refine weak_fg ?_; try push_cast [-List.reduceReplicate, iO, tN]))))
  rintro k ⟨hk, hn⟩
  push_cast [-List.reduceReplicate, iO, tN]
  by_cases hlt : k < l.length
  · have hx := hok (l.getD k default) (by rw [getD_lt l hlt]; exact List.getElem_mem _)
    have hm := one_pureG (l.getD k default) s hx.1 (by have := hx.2; omega) hs (text_byt ht)
    cases hv : mat (l.getD k default) s.data.toList with
    | true =>
      rw [hv] at hm
      have hR2 : matchM p s = true := by rw [hR, List.any_eq_true]; exact ⟨l.getD k default, by rw [getD_lt l hlt]; exact List.getElem_mem _, hv⟩
      repeat' (first |  ((refine plc [] (hm) ?_ ?_; push_cast [-List.reduceReplicate, iO, tN]; rintro r os ⟨rfl, rfl⟩; push_cast [-List.reduceReplicate, iO, tN]))  | ((first | refine pC ?_ | refine pQC ?_ | refine pU ?_); push_cast [-List.reduceReplicate, iO, tN]) | (refine pif (fun h => ?_) (fun h => ?_) <;> first | exact pN h | push_cast [-List.reduceReplicate, iO, tN]))
      (refine retK_of [] ?_; push_cast [-List.reduceReplicate, iO, tN, hR2])
    | false =>
      rw [hv] at hm
      have hn2 : ((l.take (k + 1)).any fun x => mat x s.data.toList) = false := by
        rw [List.take_succ_eq_append_getElem hlt, List.any_append, hn, ← getD_lt l hlt]
        simp only [List.any_cons, List.any_nil, hv]; rfl
      repeat' (first |  ((refine plc [] (hm) ?_ ?_; push_cast [-List.reduceReplicate, iO, tN]; rintro r os ⟨rfl, rfl⟩; push_cast [-List.reduceReplicate, iO, tN]))  | ((first | refine pC ?_ | refine pQC ?_ | refine pU ?_); push_cast [-List.reduceReplicate, iO, tN]) | (refine pif (fun h => ?_) (fun h => ?_) <;> first | exact pN h | push_cast [-List.reduceReplicate, iO, tN]))
      exact ⟨k + 1, ⟨by omega, hn2⟩, by (refine weak_fg ?_; push_cast [-List.reduceReplicate, iO, tN]), by omega⟩
  · have hk2 : k = l.length := by omega
    subst hk2
    rw [List.take_length] at hn
    rw [hn] at hR
    repeat' (first | ((first | refine pC ?_ | refine pQC ?_ | refine pU ?_); push_cast [-List.reduceReplicate, iO, tN]) | (refine pif (fun h => ?_) (fun h => ?_) <;> first | exact pN h | push_cast [-List.reduceReplicate, iO, tN]))
    (refine retK_of [] ?_; push_cast [-List.reduceReplicate, iO, tN, hR])
end Go.Proofs.YtbonfcphabnlpaaGreatDoor
namespace Go.Proofs.YtbonfcphabnlpaaGreatDoor
attribute [local irreducible] PL QL PWPr PCalls Weak RetK Kontr PA
open Go.RowKit
open IntWalk renaming iteOmega → iO, toNatUp → tN
set_option linter.unusedVariables false
set_option linter.unusedSimpArgs false
set_option maxRecDepth 20000
def fltK {α : Type} (q : α → Bool) (l : List α) (k : Nat) : List α := (l.take k).filter q
theorem fltK_t {α : Type} [Inhabited α] {q : α → Bool} {l : List α} {k : Nat} (hk : k < l.length) (h : q (l.getD k default) = true) : fltK q l (k + 1) = fltK q l k ++ [l.getD k default] := by
  unfold fltK
  rw [List.take_succ_eq_append_getElem hk, List.filter_append, ← getD_lt l hk, List.filter_cons_of_pos h]; rfl
theorem fltK_f {α : Type} [Inhabited α] {q : α → Bool} {l : List α} {k : Nat} (hk : k < l.length) (h : q (l.getD k default) = false) : fltK q l (k + 1) = fltK q l k := by
  unfold fltK
  rw [List.take_succ_eq_append_getElem hk, List.filter_append, ← getD_lt l hk, List.filter_cons_of_neg (by rw [h]; simp), List.filter_nil, List.append_nil]
theorem fltK_len {α : Type} (q : α → Bool) (l : List α) (k : Nat) : (fltK q l k).length ≤ k := Nat.le_trans (List.length_filter_le _ _) (List.length_take_le _ _)
theorem fltK_all {α : Type} (q : α → Bool) (l : List α) : fltK q l l.length = l.filter q := by unfold fltK; rw [List.take_length]
theorem fltK_zero {α : Type} (q : α → Bool) (l : List α) : fltK q l 0 = [] := by unfold fltK; simp
def dropK (p : ByteArray) (l : List Req) (k : Nat) : List Req := fltK (fun r => decide (r.path ≠ p)) l k
def relK (id : Int) (l : List Ihb) (k : Nat) : List Ihb := fltK (fun x => decide (x.id ≠ id)) l k
set_option maxHeartbeats 2000000 in
theorem rdrop_pure (s : Inh) (p : ByteArray) (hl : s.reqs.length ≤ 1000000) : PCalls Tryz.prog 52 [.agg s.e, .c (.v (.string p))] [] fun x os => x = .agg (dropM s p).e ∧ os = [] := by
  refine pcalls_of Tryz.func52 rfl (by simp [Tryz.ntmps52]) ?_
  rw [Tryz.ntmps52, Tryz.results52]
  push_cast [iO, tN]
  have cB : CutB 7 [] := trivial
  repeat' (first | ((first | refine pC ?_ | refine pQC ?_ | refine pU ?_); push_cast [iO, tN]) | (refine pif (fun h => ?_) (fun h => ?_) <;> first | exact pN h | push_cast [iO, tN]))
  refine pwp_weak (weak_adopt_box 2 2 59 3 (by omega) 25 [.v (.int .i64 s.next), .sl 4 (s.list.map Ihb.d), .v (.slice none 0 0)] rfl rfl) ?_
  push_cast [iO, tN]
  have h0 : dropK p s.reqs 0 = [] := fltK_zero _ _
  (apply pwp_loop3 (α := Nat) 7 [] (fun k => [(6, .c (.v (.int .i64 k)))]) (fun k => [(2, .box 25 [.v (.int .i64 s.next), .sl 4 (s.list.map Ihb.d), .own 3 (dropK p s.reqs k).length]), (3, .arr 59 3 ((dropK p s.reqs k).map Req.d))]) (fun k => k ≤ s.reqs.length) (fun k => s.reqs.length - k) (0); (focus ((try push_cast [iO, tN]); rfl)); (focus exact (by omega)); (focus ((refine weak_fg ?_; try push_cast [iO, tN]); (try ((rw [h0]; exact ⟨rfl, rfl⟩))))))
  intro k hk
  push_cast [iO, tN]
  by_cases hlt : k < s.reqs.length
  · have hrl : (dropK p s.reqs k).length ≤ k := fltK_len _ _ _
    by_cases hp : (s.reqs.getD k default).path = p
    · have he : dropK p s.reqs (k + 1) = dropK p s.reqs k := fltK_f hlt (decide_eq_false (not_not_intro hp))
      repeat' (first | ((first | refine pC ?_ | refine pQC ?_ | refine pU ?_); push_cast [iO, tN, (eq_true hp), ne_eq, not_true_eq_false]) | (refine pif (fun h => ?_) (fun h => ?_) <;> first | exact pN h | push_cast [iO, tN, (eq_true hp), ne_eq, not_true_eq_false]))
      exact ⟨k + 1, by omega, by (refine weak_fg ?_; push_cast [iO, tN, he]), by omega⟩
    · have he : dropK p s.reqs (k + 1) = dropK p s.reqs k ++ [s.reqs.getD k default] := fltK_t hlt (decide_eq_true hp)
      repeat' (first | ((refine pwp_cut 7 [] ?_; apply pwp_drawn_to; (focus kernel_rfl); (focus (simp only [List.length_cons, List.length_nil, Nat.reduceAdd]; (repeat' first | ((first | refine pah 0 ?_ | refine pah 2 ?_ | refine pah 4 ?_ | refine pah 5 ?_ | refine pah 9 ?_); push_cast [iO, tN, (eq_false hp), ne_eq, not_false_eq_true]) | (refine pad ?_; first | with_reducible exact weak_cutS 7 [] _ | (refine weak_fg ?_; push_cast [iO, tN, (eq_false hp), ne_eq, not_false_eq_true])) | ((first | refine pas [1] ?_ | refine pas [3] ?_ | refine pas [6] ?_ | refine pas [7] ?_ | refine pas [8] ?_ | refine pas [10] ?_); push_cast [iO, tN, (eq_false hp), ne_eq, not_false_eq_true]) | ((first | refine pas [1, 3] ?_ | refine pas [1, 6] ?_ | refine pas [1, 7] ?_); push_cast [iO, tN, (eq_false hp), ne_eq, not_false_eq_true]; refine ⟨?_, ?_⟩)); done)); push_cast [iO, tN, (eq_false hp), ne_eq, not_false_eq_true])) | ((first | refine pC ?_ | refine pQC ?_ | refine pU ?_); push_cast [iO, tN, (eq_false hp), ne_eq, not_false_eq_true]) | (refine pif (fun h => ?_) (fun h => ?_) <;> first | exact pN h | push_cast [iO, tN, (eq_false hp), ne_eq, not_false_eq_true]))
      exact ⟨k + 1, by omega, by (refine weak_fg ?_; push_cast [iO, tN, he]), by omega⟩
  · have he : dropK p s.reqs k = dropR p s.reqs := by have : k = s.reqs.length := by omega
                                                      rw [this]; exact fltK_all _ _
    rw [he]
    repeat' (first | ((first | refine pC ?_ | refine pQC ?_ | refine pU ?_); push_cast [iO, tN]) | (refine pif (fun h => ?_) (fun h => ?_) <;> first | exact pN h | push_cast [iO, tN]))
    (refine retK_of [] ?_; push_cast [iO, tN])
    all_goals exact ⟨rfl, rfl, rfl⟩
set_option maxHeartbeats 2000000 in
theorem rrel_pure (s : Inh) (id : Int) (hl : s.list.length ≤ 1000000) : PCalls Tryz.prog 49 [.agg s.e, .c (.v (.int .i64 id))] [] fun x os => x = .two (.agg (relM s id).e) (.c (.v (.int .i64 (relE s id)))) ∧ os = [] := by
  refine pcalls_of Tryz.func49 rfl (by simp [Tryz.ntmps49]) ?_
  rw [Tryz.ntmps49, Tryz.results49]
  push_cast [iO, tN]
  have cB : CutB 8 [] := trivial
  repeat' (first | ((first | refine pC ?_ | refine pQC ?_ | refine pU ?_); push_cast [iO, tN]) | (refine pif (fun h => ?_) (fun h => ?_) <;> first | exact pN h | push_cast [iO, tN]))
  refine pwp_weak (weak_adopt_box 2 1 68 4 (by omega) 25 [.v (.int .i64 s.next), .v (.slice none 0 0), .sl 3 (s.reqs.map Req.d)] rfl rfl) ?_
  push_cast [iO, tN]
  have h0 : relK id s.list 0 = [] := fltK_zero _ _
  (apply pwp_loop3 (α := Nat) 8 [] (fun k => [(7, .c (.v (.int .i64 k)))]) (fun k => [(2, .box 25 [.v (.int .i64 s.next), .own 3 (relK id s.list k).length, .sl 3 (s.reqs.map Req.d)]), (3, .arr 68 4 ((relK id s.list k).map Ihb.d))]) (fun k => k ≤ s.list.length) (fun k => s.list.length - k) (0); (focus ((try push_cast [iO, tN]); rfl)); (focus exact (by omega)); (focus ((refine weak_fg ?_; try push_cast [iO, tN]); (try ((rw [h0]; exact ⟨rfl, rfl⟩))))))
  intro k hk
  push_cast [iO, tN]
  by_cases hlt : k < s.list.length
  · have hrl : (relK id s.list k).length ≤ k := fltK_len _ _ _
    by_cases hp : (s.list.getD k default).id = id
    · have he : relK id s.list (k + 1) = relK id s.list k := fltK_f hlt (decide_eq_false (not_not_intro hp))
      repeat' (first | ((first | refine pC ?_ | refine pQC ?_ | refine pU ?_); push_cast [iO, tN, (eq_true hp), ne_eq, not_true_eq_false]) | (refine pif (fun h => ?_) (fun h => ?_) <;> first | exact pN h | push_cast [iO, tN, (eq_true hp), ne_eq, not_true_eq_false]))
      exact ⟨k + 1, by omega, by (refine weak_fg ?_; push_cast [iO, tN, he]), by omega⟩
    · have he : relK id s.list (k + 1) = relK id s.list k ++ [s.list.getD k default] := fltK_t hlt (decide_eq_true hp)
      repeat' (first | ((refine pwp_cut 8 [] ?_; apply pwp_drawn_to; (focus kernel_rfl); (focus (simp only [List.length_cons, List.length_nil, Nat.reduceAdd]; (repeat' first | ((first | refine pah 0 ?_ | refine pah 2 ?_ | refine pah 4 ?_ | refine pah 5 ?_ | refine pah 9 ?_); push_cast [iO, tN, (eq_false hp), ne_eq, not_false_eq_true]) | (refine pad ?_; first | with_reducible exact weak_cutS 8 [] _ | (refine weak_fg ?_; push_cast [iO, tN, (eq_false hp), ne_eq, not_false_eq_true])) | ((first | refine pas [1] ?_ | refine pas [3] ?_ | refine pas [6] ?_ | refine pas [7] ?_ | refine pas [8] ?_ | refine pas [10] ?_); push_cast [iO, tN, (eq_false hp), ne_eq, not_false_eq_true]) | ((first | refine pas [1, 3] ?_ | refine pas [1, 6] ?_ | refine pas [1, 7] ?_); push_cast [iO, tN, (eq_false hp), ne_eq, not_false_eq_true]; refine ⟨?_, ?_⟩)); done)); push_cast [iO, tN, (eq_false hp), ne_eq, not_false_eq_true])) | ((first | refine pC ?_ | refine pQC ?_ | refine pU ?_); push_cast [iO, tN, (eq_false hp), ne_eq, not_false_eq_true]) | (refine pif (fun h => ?_) (fun h => ?_) <;> first | exact pN h | push_cast [iO, tN, (eq_false hp), ne_eq, not_false_eq_true]))
      exact ⟨k + 1, by omega, by (refine weak_fg ?_; push_cast [iO, tN, he]), by omega⟩
  · have he : relK id s.list k = relL id s.list := by have : k = s.list.length := by omega
                                                      rw [this]; exact fltK_all _ _
    rw [he]
    by_cases h : (relL id s.list).length = s.list.length
    · have hE : relE s id = 393 := by unfold relE; rw [if_pos h]
      have hM : relM s id = ⟨0, [], []⟩ := by unfold relM; rw [if_pos h]
      have h' : (((relL id s.list).length : Int) = (s.list.length : Int)) = True := eq_true (by omega)
      repeat' (first | ((first | refine pC ?_ | refine pQC ?_ | refine pU ?_); push_cast [iO, tN, h']) | (refine pif (fun h => ?_) (fun h => ?_) <;> first | exact pN h | push_cast [iO, tN, h']))
      (refine retK_of [] ?_; push_cast [iO, tN, hE, hM])
    · have hE : relE s id = 0 := by unfold relE; rw [if_neg h]
      have hM : relM s id = { s with list := relL id s.list } := by unfold relM; rw [if_neg h]
      have h' : (((relL id s.list).length : Int) = (s.list.length : Int)) = False := eq_false (by omega)
      repeat' (first | ((first | refine pC ?_ | refine pQC ?_ | refine pU ?_); push_cast [iO, tN, h']) | (refine pif (fun h => ?_) (fun h => ?_) <;> first | exact pN h | push_cast [iO, tN, h']))
      (refine retK_of [] ?_; push_cast [iO, tN, hE, hM])
end Go.Proofs.YtbonfcphabnlpaaGreatDoor
