/- The walk of DeviceSetMeans. -/
import Derived.Test.YtkkgapeghlnbeaaDoorDevL1
namespace Go.Proofs.YtkkgapeghlnbeaaDoor
open Go.RowKit
set_option linter.unusedVariables false
set_option linter.unusedSimpArgs false

set_option maxHeartbeats 2000000 in
set_option maxRecDepth 1000000 in
theorem means_walk {w : World} (A : Option Addr) (L : List Int) (cL : Nat) (hl : L.length ≤ 9223372036854775807) (hr : Rd w (fun _ => True) 1 A L.length (L.map (Value.int .i64)))
    (hb : ∀ i, i < L.length → -9223372036854775808 ≤ L.getD i 0 ∧ L.getD i 0 ≤ 9223372036854775807) (a x b y c : ByteArray) (hm : MaxLen w) :
    Calls Tryd.prog 5 #[.slice A L.length cL, .string a, .string x, .string b, .string y, .string c] w fun e w' => e = .returned (.bool true) ∧ Ext No w w' := by
  have hT0 := tape_new (T := 25) (c := cL) hl hr hb
  have hE0 : Ext No w (w.alloc (.cells #[.slice A L.length cL, .int .i64 0] 25)) := (Ext.refl No w).alloc _
  have hat := attrs_walk _ _ 0 L _ hT0 (by omega)
  have hsz : (w.alloc (.cells #[.slice A L.length cL, .int .i64 0] 25)).heap.size = w.heap.size + 1 := by simp
  have HE0 := Lib.hid hE0
  have HAT := Lib.hid hat
  have HMX := Lib.hid hm
  have hw0 := hm.lt
  clear hT0 hE0 hat hr hb hm
  go_enter Tryd.func5, Tryd.ntmps5
  go_wp2_with (go_at_call 10; refine HAT.out.mono ?_; rintro e w1 ⟨vs, l, rfl, hM, hO, ⟨j, hj, hT⟩, hE1⟩)
  obtain ⟨Al, cl, rfl, hcl, _, hRl⟩ := own_form hO
  have hlen := hM.len
  have hE1' := ext_new hE1 HE0.out (Nat.le_refl _)
  have HR1 := Lib.hid hRl
  have HE1 := Lib.hid hE1'
  have HM := Lib.hid hM
  have hup := insM_pw (n := a) (v := x) hM.up
  have hga := insM_get (n := a) (v := x) (c := a) hM.up
  have hgc := insM_get (n := a) (v := x) (c := c) hM.up
  have hso := (ascB_iff _).2 ((asc_pw _).2 hup)
  have hid := insM_idem hM.up a x
  rw [if_pos rfl] at hga
  have hdx : decide (x ≠ ⟨#[]⟩) = !x.toList.isEmpty := by
    have h0 : ByteArray.toList ⟨#[]⟩ = [] := by simp [ByteArray.toList_eq]
    rw [Bool.eq_iff_iff, decide_eq_true_eq, ne_eq, Bool.not_eq_true', Bool.eq_false_iff, ne_eq, List.isEmpty_iff, ← blist_inj, h0]
  rw [hdx] at hga
  have UPO := Lib.hid hup
  have GA := Lib.hid hga
  have SO := Lib.hid hso
  have ID := Lib.hid hid
  clear hRl hT hE1 hE1' hO HAT HE0 hup hga hso hid hdx
  by_cases hca : c = a
  · subst hca
    clear hgc
    by_cases hab : c = b
    · subst hab
      clear hM
      go_wp2_with first
        | (go_at_call 16; refine (known_walk _ (HMX.out.ext HEw6.out (fun h => h))).mono ?_; rintro e w7 ⟨rfl, hEk⟩; have HEK := Lib.hid (HEw6.out.trans hEk))
        | (go_at_call 14; refine (sameattrs_walk _ _ Az Ao cz co (insM c x l) (insM c x l) w5 HZw5.out HSw5.out (by omega) (by omega)).mono ?_; rintro e w6 ⟨rfl, nw6, hqw6⟩; have hEq : Ext No w5 w6 := (by subst hqw6; exact (Ext.refl No _).drewN _); have HEw6 := Lib.hid (HEw5.out.trans hEq); rw [decide_eq_true (rfl : insM c x l = insM c x l)]; clear hEq hqw6)
        | (go_at_call 13; refine (set_walk _ Ao co (insM c x l) c x w4 HSw4.out (by omega) hco ((asc_pw _).2 UPO.out)).mono ?_; rintro e w5 ⟨vz, rfl, hOz, hEz⟩; rw [devSet_eq, ID.out] at hOz; obtain ⟨Az, cz, rfl, hcz, _, hRz⟩ := own_form hOz; have HZw5 := Lib.hid hRz; have HSw5 := Lib.hid (HSw4.out.ext hEz (fun _ _ h => h)); have HEw5 := Lib.hid (HEw4.out.trans hEz); clear hOz hEz hRz)
        | (go_at_call 19; refine (sorted_walk _ Ao co (insM c x l) w3 HSw3.out (by omega)).mono ?_; rintro e w4 ⟨rfl, nw4, hqw4⟩; have hEq : Ext No w3 w4 := (by subst hqw4; exact (Ext.refl No _).drewN _); have HSw4 := Lib.hid (HSw3.out.ext hEq (fun _ _ h => h)); have HLw4 := Lib.hid (HLw3.out.ext hEq (fun _ _ h => h)); have HEw4 := Lib.hid (HEw3.out.trans hEq); rw [SO.out]; clear hEq hqw4)
        | (go_at_call 17; refine (get_walk _ Ao co (insM c x l) c w2 HSw2.out (by omega)).mono ?_; rintro e w3 ⟨rfl, hEq⟩; have HSw3 := Lib.hid (HSw2.out.ext hEq (fun _ _ h => h)); have HLw3 := Lib.hid (HLw2.out.ext hEq (fun _ _ h => h)); have HEw3 := Lib.hid (HEw2.out.trans hEq); rw [GA.out]; clear hEq)
        | (go_at_call 13; refine (set_walk _ Al cl l c x w1 HR1.out (by omega) hcl ((asc_pw l).2 HM.out.up)).mono ?_; rintro e w2 ⟨vo, rfl, hOo, hEo⟩; rw [devSet_eq] at hOo; obtain ⟨Ao, co, rfl, hco, _, hRo⟩ := own_form hOo; have HSw2 := Lib.hid hRo; have HLw2 := Lib.hid (HR1.out.ext hEo (fun _ _ h => h)); have HEw2 := Lib.hid (HE1.out.trans hEo); have hol := insM_len c x l; clear hOo hEo hRo)
      go_ret
      exact ⟨rfl, HEK.out⟩
    · have CM := Lib.hid (insM_comm hM.up x y hab)
      have habq : (c.toList == b.toList) = false := by rw [beq_eq_false_iff_ne, ne_eq, blist_inj]; exact hab
      clear hM hab
      go_wp2_with first
        | (go_at_call 16; refine (known_walk _ (HMX.out.ext HEw10.out (fun h => h))).mono ?_; rintro e w11 ⟨rfl, hEk⟩; have HEK := Lib.hid (HEw10.out.trans hEk))
        | (go_at_call 14; refine (sameattrs_walk _ _ Az Ao cz co (insM c x l) (insM c x l) w9 HZw9.out HSw9.out (by omega) (by omega)).mono ?_; rintro e w10 ⟨rfl, nw10, hqw10⟩; have hEq : Ext No w9 w10 := (by subst hqw10; exact (Ext.refl No _).drewN _); have HEw10 := Lib.hid (HEw9.out.trans hEq); rw [decide_eq_true (rfl : insM c x l = insM c x l)]; clear hEq hqw10)
        | (go_at_call 13; refine (set_walk _ Ao co (insM c x l) c x w8 HSw8.out (by omega) hco ((asc_pw _).2 UPO.out)).mono ?_; rintro e w9 ⟨vz, rfl, hOz, hEz⟩; rw [devSet_eq, ID.out] at hOz; obtain ⟨Az, cz, rfl, hcz, _, hRz⟩ := own_form hOz; have HZw9 := Lib.hid hRz; have HSw9 := Lib.hid (HSw8.out.ext hEz (fun _ _ h => h)); have HEw9 := Lib.hid (HEw8.out.trans hEz); clear hOz hEz hRz)
        | (go_at_call 14; refine (sameattrs_walk _ _ Ap Ar cp cr (insM b y (insM c x l)) (insM c x (insM b y l)) w7 HPw7.out HRw7.out (by omega) (by omega)).mono ?_; rintro e w8 ⟨rfl, nw8, hqw8⟩; have hEq : Ext No w7 w8 := (by subst hqw8; exact (Ext.refl No _).drewN _); have HSw8 := Lib.hid (HSw7.out.ext hEq (fun _ _ h => h)); have HEw8 := Lib.hid (HEw7.out.trans hEq); rw [decide_eq_true CM.out]; clear hEq hqw8)
        | (go_at_call 13; refine (set_walk _ Aq cq (insM b y l) c x w6 HQw6.out (by omega) hcq ((asc_pw _).2 (insM_pw HM.out.up))).mono ?_; rintro e w7 ⟨vr, rfl, hOr, hEr⟩; rw [devSet_eq] at hOr; obtain ⟨Ar, cr, rfl, hcr, _, hRr⟩ := own_form hOr; have HRw7 := Lib.hid hRr; have HPw7 := Lib.hid (HPw6.out.ext hEr (fun _ _ h => h)); have HSw7 := Lib.hid (HSw6.out.ext hEr (fun _ _ h => h)); have HEw7 := Lib.hid (HEw6.out.trans hEr); have hrl := insM_len c x (insM b y l); clear hOr hEr hRr)
        | (go_at_call 13; refine (set_walk _ Al cl l b y w5 HLw5.out (by omega) hcl ((asc_pw l).2 HM.out.up)).mono ?_; rintro e w6 ⟨vq, rfl, hOq, hEq⟩; rw [devSet_eq] at hOq; obtain ⟨Aq, cq, rfl, hcq, _, hRq⟩ := own_form hOq; have HQw6 := Lib.hid hRq; have HPw6 := Lib.hid (HPw5.out.ext hEq (fun _ _ h => h)); have HSw6 := Lib.hid (HSw5.out.ext hEq (fun _ _ h => h)); have HEw6 := Lib.hid (HEw5.out.trans hEq); have hql := insM_len b y l; clear hOq hEq hRq)
        | (go_at_call 13; refine (set_walk _ Ao co (insM c x l) b y w4 HSw4.out (by omega) hco ((asc_pw _).2 UPO.out)).mono ?_; rintro e w5 ⟨vp, rfl, hOp, hEp⟩; rw [devSet_eq] at hOp; obtain ⟨Ap, cp, rfl, hcp, _, hRp⟩ := own_form hOp; have HPw5 := Lib.hid hRp; have HSw5 := Lib.hid (HSw4.out.ext hEp (fun _ _ h => h)); have HLw5 := Lib.hid (HLw4.out.ext hEp (fun _ _ h => h)); have HEw5 := Lib.hid (HEw4.out.trans hEp); have hpl := insM_len b y (insM c x l); clear hOp hEp hRp)
        | (go_at_call 19; refine (sorted_walk _ Ao co (insM c x l) w3 HSw3.out (by omega)).mono ?_; rintro e w4 ⟨rfl, nw4, hqw4⟩; have hEq : Ext No w3 w4 := (by subst hqw4; exact (Ext.refl No _).drewN _); have HSw4 := Lib.hid (HSw3.out.ext hEq (fun _ _ h => h)); have HLw4 := Lib.hid (HLw3.out.ext hEq (fun _ _ h => h)); have HEw4 := Lib.hid (HEw3.out.trans hEq); rw [SO.out]; clear hEq hqw4)
        | (go_at_call 17; refine (get_walk _ Ao co (insM c x l) c w2 HSw2.out (by omega)).mono ?_; rintro e w3 ⟨rfl, hEq⟩; have HSw3 := Lib.hid (HSw2.out.ext hEq (fun _ _ h => h)); have HLw3 := Lib.hid (HLw2.out.ext hEq (fun _ _ h => h)); have HEw3 := Lib.hid (HEw2.out.trans hEq); rw [GA.out]; clear hEq)
        | (go_at_call 13; refine (set_walk _ Al cl l c x w1 HR1.out (by omega) hcl ((asc_pw l).2 HM.out.up)).mono ?_; rintro e w2 ⟨vo, rfl, hOo, hEo⟩; rw [devSet_eq] at hOo; obtain ⟨Ao, co, rfl, hco, _, hRo⟩ := own_form hOo; have HSw2 := Lib.hid hRo; have HLw2 := Lib.hid (HR1.out.ext hEo (fun _ _ h => h)); have HEw2 := Lib.hid (HE1.out.trans hEo); have hol := insM_len c x l; clear hOo hEo hRo)
      go_ret
      exact ⟨rfl, HEK.out⟩
  · rw [if_neg hca] at hgc
    have GC := Lib.hid hgc
    have hcaq : (c.toList == a.toList) = false := by rw [beq_eq_false_iff_ne, ne_eq, blist_inj]; exact hca
    clear hgc hca
    by_cases hab : a = b
    · subst hab
      clear hM
      go_wp2_with first
        | (go_at_call 16; refine (known_walk _ (HMX.out.ext HEw8.out (fun h => h))).mono ?_; rintro e w9 ⟨rfl, hEk⟩; have HEK := Lib.hid (HEw8.out.trans hEk))
        | (go_at_call 14; refine (sameattrs_walk _ _ Az Ao cz co (insM a x l) (insM a x l) w7 HZw7.out HSw7.out (by omega) (by omega)).mono ?_; rintro e w8 ⟨rfl, nw8, hqw8⟩; have hEq : Ext No w7 w8 := (by subst hqw8; exact (Ext.refl No _).drewN _); have HEw8 := Lib.hid (HEw7.out.trans hEq); rw [decide_eq_true (rfl : insM a x l = insM a x l)]; clear hEq hqw8)
        | (go_at_call 13; refine (set_walk _ Ao co (insM a x l) a x w6 HSw6.out (by omega) hco ((asc_pw _).2 UPO.out)).mono ?_; rintro e w7 ⟨vz, rfl, hOz, hEz⟩; rw [devSet_eq, ID.out] at hOz; obtain ⟨Az, cz, rfl, hcz, _, hRz⟩ := own_form hOz; have HZw7 := Lib.hid hRz; have HSw7 := Lib.hid (HSw6.out.ext hEz (fun _ _ h => h)); have HEw7 := Lib.hid (HEw6.out.trans hEz); clear hOz hEz hRz)
        | (go_at_call 17; refine (get_walk _ Al cl l c w5 HLw5.out (by omega)).mono ?_; rintro e w6 ⟨rfl, hEq⟩; have HSw6 := Lib.hid (HSw5.out.ext hEq (fun _ _ h => h)); have HLw6 := Lib.hid (HLw5.out.ext hEq (fun _ _ h => h)); have HEw6 := Lib.hid (HEw5.out.trans hEq); clear hEq)
        | (go_at_call 17; refine (get_walk _ Ao co (insM a x l) c w4 HSw4.out (by omega)).mono ?_; rintro e w5 ⟨rfl, hEq⟩; have HSw5 := Lib.hid (HSw4.out.ext hEq (fun _ _ h => h)); have HLw5 := Lib.hid (HLw4.out.ext hEq (fun _ _ h => h)); have HEw5 := Lib.hid (HEw4.out.trans hEq); rw [GC.out]; clear hEq)
        | (go_at_call 19; refine (sorted_walk _ Ao co (insM a x l) w3 HSw3.out (by omega)).mono ?_; rintro e w4 ⟨rfl, nw4, hqw4⟩; have hEq : Ext No w3 w4 := (by subst hqw4; exact (Ext.refl No _).drewN _); have HSw4 := Lib.hid (HSw3.out.ext hEq (fun _ _ h => h)); have HLw4 := Lib.hid (HLw3.out.ext hEq (fun _ _ h => h)); have HEw4 := Lib.hid (HEw3.out.trans hEq); rw [SO.out]; clear hEq hqw4)
        | (go_at_call 17; refine (get_walk _ Ao co (insM a x l) a w2 HSw2.out (by omega)).mono ?_; rintro e w3 ⟨rfl, hEq⟩; have HSw3 := Lib.hid (HSw2.out.ext hEq (fun _ _ h => h)); have HLw3 := Lib.hid (HLw2.out.ext hEq (fun _ _ h => h)); have HEw3 := Lib.hid (HEw2.out.trans hEq); rw [GA.out]; clear hEq)
        | (go_at_call 13; refine (set_walk _ Al cl l a x w1 HR1.out (by omega) hcl ((asc_pw l).2 HM.out.up)).mono ?_; rintro e w2 ⟨vo, rfl, hOo, hEo⟩; rw [devSet_eq] at hOo; obtain ⟨Ao, co, rfl, hco, _, hRo⟩ := own_form hOo; have HSw2 := Lib.hid hRo; have HLw2 := Lib.hid (HR1.out.ext hEo (fun _ _ h => h)); have HEw2 := Lib.hid (HE1.out.trans hEo); have hol := insM_len a x l; clear hOo hEo hRo)
      go_ret
      exact ⟨rfl, HEK.out⟩
    · have CM := Lib.hid (insM_comm hM.up x y hab)
      have habq : (a.toList == b.toList) = false := by rw [beq_eq_false_iff_ne, ne_eq, blist_inj]; exact hab
      clear hM hab
      go_wp2_with first
        | (go_at_call 16; refine (known_walk _ (HMX.out.ext HEw12.out (fun h => h))).mono ?_; rintro e w13 ⟨rfl, hEk⟩; have HEK := Lib.hid (HEw12.out.trans hEk))
        | (go_at_call 14; refine (sameattrs_walk _ _ Az Ao cz co (insM a x l) (insM a x l) w11 HZw11.out HSw11.out (by omega) (by omega)).mono ?_; rintro e w12 ⟨rfl, nw12, hqw12⟩; have hEq : Ext No w11 w12 := (by subst hqw12; exact (Ext.refl No _).drewN _); have HEw12 := Lib.hid (HEw11.out.trans hEq); rw [decide_eq_true (rfl : insM a x l = insM a x l)]; clear hEq hqw12)
        | (go_at_call 13; refine (set_walk _ Ao co (insM a x l) a x w10 HSw10.out (by omega) hco ((asc_pw _).2 UPO.out)).mono ?_; rintro e w11 ⟨vz, rfl, hOz, hEz⟩; rw [devSet_eq, ID.out] at hOz; obtain ⟨Az, cz, rfl, hcz, _, hRz⟩ := own_form hOz; have HZw11 := Lib.hid hRz; have HSw11 := Lib.hid (HSw10.out.ext hEz (fun _ _ h => h)); have HEw11 := Lib.hid (HEw10.out.trans hEz); clear hOz hEz hRz)
        | (go_at_call 14; refine (sameattrs_walk _ _ Ap Ar cp cr (insM b y (insM a x l)) (insM a x (insM b y l)) w9 HPw9.out HRw9.out (by omega) (by omega)).mono ?_; rintro e w10 ⟨rfl, nw10, hqw10⟩; have hEq : Ext No w9 w10 := (by subst hqw10; exact (Ext.refl No _).drewN _); have HSw10 := Lib.hid (HSw9.out.ext hEq (fun _ _ h => h)); have HEw10 := Lib.hid (HEw9.out.trans hEq); rw [decide_eq_true CM.out]; clear hEq hqw10)
        | (go_at_call 13; refine (set_walk _ Aq cq (insM b y l) a x w8 HQw8.out (by omega) hcq ((asc_pw _).2 (insM_pw HM.out.up))).mono ?_; rintro e w9 ⟨vr, rfl, hOr, hEr⟩; rw [devSet_eq] at hOr; obtain ⟨Ar, cr, rfl, hcr, _, hRr⟩ := own_form hOr; have HRw9 := Lib.hid hRr; have HPw9 := Lib.hid (HPw8.out.ext hEr (fun _ _ h => h)); have HSw9 := Lib.hid (HSw8.out.ext hEr (fun _ _ h => h)); have HEw9 := Lib.hid (HEw8.out.trans hEr); have hrl := insM_len a x (insM b y l); clear hOr hEr hRr)
        | (go_at_call 13; refine (set_walk _ Al cl l b y w7 HLw7.out (by omega) hcl ((asc_pw l).2 HM.out.up)).mono ?_; rintro e w8 ⟨vq, rfl, hOq, hEq⟩; rw [devSet_eq] at hOq; obtain ⟨Aq, cq, rfl, hcq, _, hRq⟩ := own_form hOq; have HQw8 := Lib.hid hRq; have HPw8 := Lib.hid (HPw7.out.ext hEq (fun _ _ h => h)); have HSw8 := Lib.hid (HSw7.out.ext hEq (fun _ _ h => h)); have HEw8 := Lib.hid (HEw7.out.trans hEq); have hql := insM_len b y l; clear hOq hEq hRq)
        | (go_at_call 13; refine (set_walk _ Ao co (insM a x l) b y w6 HSw6.out (by omega) hco ((asc_pw _).2 UPO.out)).mono ?_; rintro e w7 ⟨vp, rfl, hOp, hEp⟩; rw [devSet_eq] at hOp; obtain ⟨Ap, cp, rfl, hcp, _, hRp⟩ := own_form hOp; have HPw7 := Lib.hid hRp; have HSw7 := Lib.hid (HSw6.out.ext hEp (fun _ _ h => h)); have HLw7 := Lib.hid (HLw6.out.ext hEp (fun _ _ h => h)); have HEw7 := Lib.hid (HEw6.out.trans hEp); have hpl := insM_len b y (insM a x l); clear hOp hEp hRp)
        | (go_at_call 17; refine (get_walk _ Al cl l c w5 HLw5.out (by omega)).mono ?_; rintro e w6 ⟨rfl, hEq⟩; have HSw6 := Lib.hid (HSw5.out.ext hEq (fun _ _ h => h)); have HLw6 := Lib.hid (HLw5.out.ext hEq (fun _ _ h => h)); have HEw6 := Lib.hid (HEw5.out.trans hEq); clear hEq)
        | (go_at_call 17; refine (get_walk _ Ao co (insM a x l) c w4 HSw4.out (by omega)).mono ?_; rintro e w5 ⟨rfl, hEq⟩; have HSw5 := Lib.hid (HSw4.out.ext hEq (fun _ _ h => h)); have HLw5 := Lib.hid (HLw4.out.ext hEq (fun _ _ h => h)); have HEw5 := Lib.hid (HEw4.out.trans hEq); rw [GC.out]; clear hEq)
        | (go_at_call 19; refine (sorted_walk _ Ao co (insM a x l) w3 HSw3.out (by omega)).mono ?_; rintro e w4 ⟨rfl, nw4, hqw4⟩; have hEq : Ext No w3 w4 := (by subst hqw4; exact (Ext.refl No _).drewN _); have HSw4 := Lib.hid (HSw3.out.ext hEq (fun _ _ h => h)); have HLw4 := Lib.hid (HLw3.out.ext hEq (fun _ _ h => h)); have HEw4 := Lib.hid (HEw3.out.trans hEq); rw [SO.out]; clear hEq hqw4)
        | (go_at_call 17; refine (get_walk _ Ao co (insM a x l) a w2 HSw2.out (by omega)).mono ?_; rintro e w3 ⟨rfl, hEq⟩; have HSw3 := Lib.hid (HSw2.out.ext hEq (fun _ _ h => h)); have HLw3 := Lib.hid (HLw2.out.ext hEq (fun _ _ h => h)); have HEw3 := Lib.hid (HEw2.out.trans hEq); rw [GA.out]; clear hEq)
        | (go_at_call 13; refine (set_walk _ Al cl l a x w1 HR1.out (by omega) hcl ((asc_pw l).2 HM.out.up)).mono ?_; rintro e w2 ⟨vo, rfl, hOo, hEo⟩; rw [devSet_eq] at hOo; obtain ⟨Ao, co, rfl, hco, _, hRo⟩ := own_form hOo; have HSw2 := Lib.hid hRo; have HLw2 := Lib.hid (HR1.out.ext hEo (fun _ _ h => h)); have HEw2 := Lib.hid (HE1.out.trans hEo); have hol := insM_len a x l; clear hOo hEo hRo)
      go_ret
      exact ⟨rfl, HEK.out⟩
end Go.Proofs.YtkkgapeghlnbeaaDoor
