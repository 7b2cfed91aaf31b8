/- Names: the program's walks. -/
import Derived.Test.YtfojijoekpkheaaDoorPStr
import Derived.Test.YtfojijoekpkheaaDoorPureU
import Derived.Test.YtfojijoekpkheaaDoorPureR
namespace Go.Proofs.YtfojijoekpkheaaDoor
attribute [local irreducible] PL QL PWP PCalls Weak RetK Kont PA
open Go.RowKit
set_option linter.unusedVariables false
set_option linter.unusedSimpArgs false
abbrev boolE (b : Bool) : E := .v (.bool b)
theorem all_repl (m n : Nat) (x : Value) : (List.replicate m (E.v x)).all (keyOk n) = true := List.all_eq_true.2 fun e he => by rw [List.eq_of_mem_replicate he]; rfl
theorem all_bools (cs : List Bool) (n : Nat) : (cs.map boolE).all (keyOk n) = true := List.all_eq_true.2 fun e he => by obtain ⟨b, _, rfl⟩ := List.mem_map.1 he; rfl
theorem plusL_nil (cs : List Bool) : plusL cs [] = cs := rfl
theorem seeEs_repl (v : Bool) (os : List Ob) (ks : List Nat) (m : Nat) (x : Value) : seeEs v os ks (List.replicate m (E.v x)) = some (List.replicate m (E.v x)) := by
  have := seeEs_mapv v os ks (fun _ : Unit => x) (List.replicate m ())
  simpa only [List.map_replicate] using this
attribute [push_cast] seeEs_repl all_repl all_bools plusL_nil List.drop_replicate Nat.sub_self List.replicate_zero List.append_nil
theorem drop_bools (cs : List Bool) (i : Nat) (hi : i < cs.length) : (cs.map boolE).drop i = .v (.bool (cs.getD i false)) :: (cs.map boolE).drop (i + 1) := by
  have h : i < (cs.map boolE).length := by rw [List.length_map]; exact hi
  rw [List.drop_eq_getElem_cons h, List.getElem_map, List.getD_eq_getElem?_getD, List.getElem?_eq_getElem hi]; rfl
theorem plusL_take {cs : List Bool} {t : List UInt8} {k : Nat} (hk : k < t.length) : plusL cs (t.take (k + 1)) = (plusL cs (t.take k)).set (t.getD k 0).toNat true := by
  rw [List.take_succ_eq_append_getElem hk, plusL_snoc, List.getD_eq_getElem?_getD, List.getElem?_eq_getElem hk]; rfl
set_option maxRecDepth 20000 in
set_option maxHeartbeats 1000000 in
theorem plus_pure (cs : List Bool) (t : ByteArray) (hc : cs.length = 256) (ht : t.size ≤ 1000000) :
    PCalls Tryd.prog 62 [.agg (cs.map boolE), .c (.v (.string t))] [] fun r os => r = .agg ((plusL cs t.data.toList).map boolE) ∧ os = [] := by
  refine pcalls_of Tryd.func62 rfl (by simp [Tryd.ntmps62]) ?_
  rw [Tryd.ntmps62, Tryd.results62]
  push_cast [eq_self, iff_self, IntWalk.iteOmega, IntWalk.toNatUp]
  repeat' (first | (refine Kont.use (by assumption) ?_) | (refine pwp_seq fun K hK => ?_) | (refine pwp_block ?_) | (refine pwp_scope ?_) | ((first | (refine pwp_cut 9 [] ?_; first | refine pwp_region ?_ | refine pwp_quiet (by kernel_rfl) (by kernel_rfl) ?_) | refine pwp_exit ?_ | refine pwp_ret ?_ | refine pwp_skip ?_); push_cast [eq_self, iff_self, IntWalk.iteOmega, IntWalk.toNatUp]) | (refine pwp_cond ?_; push_cast [eq_self, iff_self, IntWalk.iteOmega, IntWalk.toNatUp]; try (refine ⟨fun h => ?_, fun h => ?_⟩ <;> (try simp only [decide_eq_true_eq, decide_eq_false_iff_not, Bool.not_eq_true', Bool.not_eq_false', Int.not_lt, Int.not_le, Nat.not_lt, Nat.not_le] at h) <;> (try (first | contradiction | (exfalso; omega) | exact nomatch (Eq.trans (Eq.symm h) (by assumption) : true = false) | exact nomatch (Eq.trans (Eq.symm h) (by assumption) : false = true))))))
  (apply pwp_loop3 (α := Nat) 9 [] (fun k => [(8, .c (.v (.int .i64 k)))]) (fun k => [(0, .box 63 ((plusL cs (t.data.toList.take k)).map boolE))]) (fun k => k ≤ t.size) (fun k => t.size - k) (0); (focus ((try push_cast [eq_self, iff_self, IntWalk.iteOmega, IntWalk.toNatUp]); rfl)); (focus exact (by omega)); (focus ((refine weak_fg ?_; try push_cast [eq_self, iff_self, IntWalk.iteOmega, IntWalk.toNatUp]))))
  intro k hk
  push_cast [eq_self, iff_self, IntWalk.iteOmega, IntWalk.toNatUp]
  have hlen : (plusL cs (t.data.toList.take k)).length = 256 := by rw [plusL_len, hc]
  by_cases hlt : k < t.size
  · have hs := plusL_take (cs := cs) (t := t.data.toList) (k := k) hlt
    have hb := (t.data.toList.getD k 0).toNat_lt
    repeat' (first | (refine Kont.use (by assumption) ?_) | (refine pwp_seq fun K hK => ?_) | (refine pwp_block ?_) | (refine pwp_scope ?_) | ((first | (refine pwp_cut 9 [] ?_; first | refine pwp_region ?_ | refine pwp_quiet (by kernel_rfl) (by kernel_rfl) ?_) | refine pwp_exit ?_ | refine pwp_ret ?_ | refine pwp_skip ?_); push_cast [eq_self, iff_self, IntWalk.iteOmega, IntWalk.toNatUp, hlen]) | (refine pwp_cond ?_; push_cast [eq_self, iff_self, IntWalk.iteOmega, IntWalk.toNatUp, hlen]; try (refine ⟨fun h => ?_, fun h => ?_⟩ <;> (try simp only [decide_eq_true_eq, decide_eq_false_iff_not, Bool.not_eq_true', Bool.not_eq_false', Int.not_lt, Int.not_le, Nat.not_lt, Nat.not_le] at h) <;> (try (first | contradiction | (exfalso; omega) | exact nomatch (Eq.trans (Eq.symm h) (by assumption) : true = false) | exact nomatch (Eq.trans (Eq.symm h) (by assumption) : false = true))))))
    have hs2 : (List.map boolE (plusL cs (t.data.toList.take k))).set (t.data.toList.getD k 0).toNat (.v (.bool true)) = (plusL cs (t.data.toList.take (k + 1))).map boolE := by rw [hs, List.map_set]
    exact ⟨k + 1, by omega, by (refine weak_fg ?_; push_cast [eq_self, iff_self, IntWalk.iteOmega, IntWalk.toNatUp, hs2]), by omega⟩
  · have hk2 : k = t.size := by omega
    subst hk2
    have he : t.data.toList.take t.size = t.data.toList := List.take_of_length_le (Nat.le_refl _)
    rw [he] at hlen ⊢
    repeat' (first | (refine Kont.use (by assumption) ?_) | (refine pwp_seq fun K hK => ?_) | (refine pwp_block ?_) | (refine pwp_scope ?_) | ((first | (refine pwp_cut 9 [] ?_; first | refine pwp_region ?_ | refine pwp_quiet (by kernel_rfl) (by kernel_rfl) ?_) | refine pwp_exit ?_ | refine pwp_ret ?_ | refine pwp_skip ?_); push_cast [eq_self, iff_self, IntWalk.iteOmega, IntWalk.toNatUp, hlen]) | (refine pwp_cond ?_; push_cast [eq_self, iff_self, IntWalk.iteOmega, IntWalk.toNatUp, hlen]; try (refine ⟨fun h => ?_, fun h => ?_⟩ <;> (try simp only [decide_eq_true_eq, decide_eq_false_iff_not, Bool.not_eq_true', Bool.not_eq_false', Int.not_lt, Int.not_le, Nat.not_lt, Nat.not_le] at h) <;> (try (first | contradiction | (exfalso; omega) | exact nomatch (Eq.trans (Eq.symm h) (by assumption) : true = false) | exact nomatch (Eq.trans (Eq.symm h) (by assumption) : false = true))))))
    (refine retK_of [] ?_; push_cast [eq_self, iff_self, IntWalk.iteOmega, IntWalk.toNatUp, hlen])
set_option maxRecDepth 20000 in
set_option maxHeartbeats 1000000 in
theorem has_pure (cs : List Bool) (t : ByteArray) (hc : cs.length = 256) (ht : t.size ≤ 1000000) :
    PCalls Tryd.prog 44 [.agg (cs.map boolE), .c (.v (.string t))] [] fun r os => r = .c (.v (.bool (hasL cs t))) ∧ os = [] := by
  refine pcalls_of Tryd.func44 rfl (by simp [Tryd.ntmps44]) ?_
  rw [Tryd.ntmps44, Tryd.results44]
  push_cast [eq_self, iff_self, IntWalk.iteOmega, IntWalk.toNatUp]
  repeat' (first | (refine Kont.use (by assumption) ?_) | (refine pwp_seq fun K hK => ?_) | (refine pwp_block ?_) | (refine pwp_scope ?_) | ((first | (refine pwp_cut 9 [] ?_; first | refine pwp_region ?_ | refine pwp_quiet (by kernel_rfl) (by kernel_rfl) ?_) | refine pwp_exit ?_ | refine pwp_ret ?_ | refine pwp_skip ?_); push_cast [eq_self, iff_self, IntWalk.iteOmega, IntWalk.toNatUp]) | (refine pwp_cond ?_; push_cast [eq_self, iff_self, IntWalk.iteOmega, IntWalk.toNatUp]; try (refine ⟨fun h => ?_, fun h => ?_⟩ <;> (try simp only [decide_eq_true_eq, decide_eq_false_iff_not, Bool.not_eq_true', Bool.not_eq_false', Int.not_lt, Int.not_le, Nat.not_lt, Nat.not_le] at h) <;> (try (first | contradiction | (exfalso; omega) | exact nomatch (Eq.trans (Eq.symm h) (by assumption) : true = false) | exact nomatch (Eq.trans (Eq.symm h) (by assumption) : false = true))))))
  (apply pwp_loop3 (α := Nat) 9 [] (fun k => [(8, .c (.v (.int .i64 k)))]) (fun k => []) (fun k => k ≤ t.size ∧ (t.data.toList.take k).all (fun b => cs.getD b.toNat false) = true) (fun k => t.size - k) (0); (focus ((try push_cast [eq_self, iff_self, IntWalk.iteOmega, IntWalk.toNatUp]); rfl)); (focus exact ⟨by omega, rfl⟩); (focus ((refine weak_fg ?_; try push_cast [eq_self, iff_self, IntWalk.iteOmega, IntWalk.toNatUp]))))
  rintro k ⟨hk, ha⟩
  push_cast [eq_self, iff_self, IntWalk.iteOmega, IntWalk.toNatUp]
  by_cases hlt : k < t.size
  · have hb := (t.data.toList.getD k 0).toNat_lt
    have hst : (t.data.toList.take (k + 1)).all (fun b => cs.getD b.toNat false) = cs.getD (t.data.toList.getD k 0).toNat false := by
      have hk2 : k < t.data.toList.length := hlt
      rw [List.take_succ_eq_append_getElem hk2, List.all_append, ha, List.getD_eq_getElem?_getD, List.getD_eq_getElem?_getD (l := t.data.toList), List.getElem?_eq_getElem hk2]; simp
    have hd := drop_bools cs (t.data.toList.getD k 0).toNat (by omega)
    cases hv : cs.getD (t.data.toList.getD k 0).toNat false
    · rw [hv] at hd
      repeat' (first | (refine Kont.use (by assumption) ?_) | (refine pwp_seq fun K hK => ?_) | (refine pwp_block ?_) | (refine pwp_scope ?_) | ((first | (refine pwp_cut 9 [] ?_; first | refine pwp_region ?_ | refine pwp_quiet (by kernel_rfl) (by kernel_rfl) ?_) | refine pwp_exit ?_ | refine pwp_ret ?_ | refine pwp_skip ?_); push_cast [eq_self, iff_self, IntWalk.iteOmega, IntWalk.toNatUp, hc, hd]) | (refine pwp_cond ?_; push_cast [eq_self, iff_self, IntWalk.iteOmega, IntWalk.toNatUp, hc, hd]; try (refine ⟨fun h => ?_, fun h => ?_⟩ <;> (try simp only [decide_eq_true_eq, decide_eq_false_iff_not, Bool.not_eq_true', Bool.not_eq_false', Int.not_lt, Int.not_le, Nat.not_lt, Nat.not_le] at h) <;> (try (first | contradiction | (exfalso; omega) | exact nomatch (Eq.trans (Eq.symm h) (by assumption) : true = false) | exact nomatch (Eq.trans (Eq.symm h) (by assumption) : false = true))))))
      (refine retK_of [] ?_; push_cast [eq_self, iff_self, IntWalk.iteOmega, IntWalk.toNatUp])
      rw [hasL, List.all_eq_false.2]
      refine ⟨t.data.toList.getD k 0, ?_, by rw [hv]; decide⟩
      have hk2 : k < t.data.toList.length := hlt
      rw [List.getD_eq_getElem?_getD, List.getElem?_eq_getElem hk2]
      exact List.getElem_mem _
    · rw [hv] at hd
      repeat' (first | (refine Kont.use (by assumption) ?_) | (refine pwp_seq fun K hK => ?_) | (refine pwp_block ?_) | (refine pwp_scope ?_) | ((first | (refine pwp_cut 9 [] ?_; first | refine pwp_region ?_ | refine pwp_quiet (by kernel_rfl) (by kernel_rfl) ?_) | refine pwp_exit ?_ | refine pwp_ret ?_ | refine pwp_skip ?_); push_cast [eq_self, iff_self, IntWalk.iteOmega, IntWalk.toNatUp, hc, hd]) | (refine pwp_cond ?_; push_cast [eq_self, iff_self, IntWalk.iteOmega, IntWalk.toNatUp, hc, hd]; try (refine ⟨fun h => ?_, fun h => ?_⟩ <;> (try simp only [decide_eq_true_eq, decide_eq_false_iff_not, Bool.not_eq_true', Bool.not_eq_false', Int.not_lt, Int.not_le, Nat.not_lt, Nat.not_le] at h) <;> (try (first | contradiction | (exfalso; omega) | exact nomatch (Eq.trans (Eq.symm h) (by assumption) : true = false) | exact nomatch (Eq.trans (Eq.symm h) (by assumption) : false = true))))))
      exact ⟨k + 1, ⟨by omega, by rw [hst, hv]⟩, by (refine weak_fg ?_; push_cast [eq_self, iff_self, IntWalk.iteOmega, IntWalk.toNatUp]), by omega⟩
  · have hk2 : k = t.size := by omega
    subst hk2
    have he : t.data.toList.take t.size = t.data.toList := List.take_of_length_le (Nat.le_refl _)
    rw [he] at ha
    repeat' (first | (refine Kont.use (by assumption) ?_) | (refine pwp_seq fun K hK => ?_) | (refine pwp_block ?_) | (refine pwp_scope ?_) | ((first | (refine pwp_cut 9 [] ?_; first | refine pwp_region ?_ | refine pwp_quiet (by kernel_rfl) (by kernel_rfl) ?_) | refine pwp_exit ?_ | refine pwp_ret ?_ | refine pwp_skip ?_); push_cast [eq_self, iff_self, IntWalk.iteOmega, IntWalk.toNatUp]) | (refine pwp_cond ?_; push_cast [eq_self, iff_self, IntWalk.iteOmega, IntWalk.toNatUp]; try (refine ⟨fun h => ?_, fun h => ?_⟩ <;> (try simp only [decide_eq_true_eq, decide_eq_false_iff_not, Bool.not_eq_true', Bool.not_eq_false', Int.not_lt, Int.not_le, Nat.not_lt, Nat.not_le] at h) <;> (try (first | contradiction | (exfalso; omega) | exact nomatch (Eq.trans (Eq.symm h) (by assumption) : true = false) | exact nomatch (Eq.trans (Eq.symm h) (by assumption) : false = true))))))
    (refine retK_of [] ?_; push_cast [eq_self, iff_self, IntWalk.iteOmega, IntWalk.toNatUp])
    rw [hasL, ha]
theorem none_rep : noneL.map boolE = List.replicate 256 (E.v (.bool false)) := List.map_replicate
set_option maxRecDepth 20000 in
set_option maxHeartbeats 1000000 in
theorem common_pure : PCalls Tryd.prog 61 [] [] fun r os => r = .agg (commonL.map boolE) ∧ os = [] := by
  have h1 := plus_pure noneL ⟨#[65, 66, 67, 68, 69, 70, 71, 72, 73, 74, 75, 76, 77, 78, 79, 80, 81, 82, 83, 84, 85, 86, 87, 88, 89, 90]⟩ noneL_len (by decide)
  have h2 := plus_pure (plusL noneL upperT) ⟨#[97, 98, 99, 100, 101, 102, 103, 104, 105, 106, 107, 108, 109, 110, 111, 112, 113, 114, 115, 116, 117, 118, 119, 120, 121, 122]⟩ (by rw [plusL_len, noneL_len]) (by decide)
  have h3 := plus_pure (plusL (plusL noneL upperT) lowerT) ⟨#[48, 49, 50, 51, 52, 53, 54, 55, 56, 57]⟩ (by rw [plusL_len, plusL_len, noneL_len]) (by decide)
  have h4 := plus_pure (plusL (plusL (plusL noneL upperT) lowerT) digitT) ⟨#[95, 46, 58, 43, 45]⟩ (by rw [plusL_len, plusL_len, plusL_len, noneL_len]) (by decide)
  have hl := lower_pure
  rw [none_rep] at h1
  simp only [List.toList_toArray] at h1 h2 h3 h4
  change PCalls _ _ _ _ fun r os => r = .agg ((plusL noneL upperT).map boolE) ∧ os = [] at h1
  change PCalls _ _ _ _ fun r os => r = .agg ((plusL (plusL noneL upperT) lowerT).map boolE) ∧ os = [] at h2
  change PCalls _ _ _ _ fun r os => r = .agg ((plusL (plusL (plusL noneL upperT) lowerT) digitT).map boolE) ∧ os = [] at h3
  change PCalls _ _ _ _ fun r os => r = .agg (commonL.map boolE) ∧ os = [] at h4
  change PCalls Tryd.prog 89 [.c (.v (.string (⟨#[65, 66, 67, 68, 69, 70, 71, 72, 73, 74, 75, 76, 77, 78, 79, 80, 81, 82, 83, 84, 85, 86, 87, 88, 89, 90]⟩)))] [] fun r os => r = .c (.v (.string (⟨#[97, 98, 99, 100, 101, 102, 103, 104, 105, 106, 107, 108, 109, 110, 111, 112, 113, 114, 115, 116, 117, 118, 119, 120, 121, 122]⟩))) ∧ os = [] at hl
  have hcl := commonL_len
  generalize plusL noneL upperT = s1 at h1 h2 h3 h4
  generalize plusL s1 lowerT = s2 at h2 h3 h4
  generalize plusL s2 digitT = s3 at h3 h4
  refine pcalls_of Tryd.func61 rfl (by simp [Tryd.ntmps61]) ?_
  rw [Tryd.ntmps61, Tryd.results61]
  push_cast [eq_self, iff_self, IntWalk.iteOmega, IntWalk.toNatUp]
  repeat' (first |  (refine pl_call2 false [] rfl rfl (by kernel_rfl) (h1) ?_ nofun ?_; push_cast [eq_self, iff_self, IntWalk.iteOmega, IntWalk.toNatUp]; rintro r os ⟨rfl, rfl⟩; refine pl_of_pops ?_; push_cast [eq_self, iff_self, IntWalk.iteOmega, IntWalk.toNatUp]) | (refine pl_call2 false [] rfl rfl (by kernel_rfl) (hl) ?_ nofun ?_; push_cast [eq_self, iff_self, IntWalk.iteOmega, IntWalk.toNatUp]; rintro r os ⟨rfl, rfl⟩; refine pl_of_pops ?_; push_cast [eq_self, iff_self, IntWalk.iteOmega, IntWalk.toNatUp]) | (refine pl_call2 false [] rfl rfl (by kernel_rfl) (h2) ?_ nofun ?_; push_cast [eq_self, iff_self, IntWalk.iteOmega, IntWalk.toNatUp]; rintro r os ⟨rfl, rfl⟩; refine pl_of_pops ?_; push_cast [eq_self, iff_self, IntWalk.iteOmega, IntWalk.toNatUp]) | (refine pl_call2 false [] rfl rfl (by kernel_rfl) (h3) ?_ nofun ?_; push_cast [eq_self, iff_self, IntWalk.iteOmega, IntWalk.toNatUp]; rintro r os ⟨rfl, rfl⟩; refine pl_of_pops ?_; push_cast [eq_self, iff_self, IntWalk.iteOmega, IntWalk.toNatUp]) | (refine pl_call2 false [] rfl rfl (by kernel_rfl) (h4) ?_ nofun ?_; push_cast [eq_self, iff_self, IntWalk.iteOmega, IntWalk.toNatUp]; rintro r os ⟨rfl, rfl⟩; refine pl_of_pops ?_; push_cast [eq_self, iff_self, IntWalk.iteOmega, IntWalk.toNatUp])  | (refine Kont.use (by assumption) ?_) | (refine pwp_seq fun K hK => ?_) | (refine pwp_block ?_) | (refine pwp_scope ?_) | ((first | (refine pwp_cut 1 [] ?_; first | refine pwp_region ?_ | refine pwp_quiet (by kernel_rfl) (by kernel_rfl) ?_) | refine pwp_exit ?_ | refine pwp_ret ?_ | refine pwp_skip ?_); push_cast [eq_self, iff_self, IntWalk.iteOmega, IntWalk.toNatUp]) | (refine pwp_cond ?_; push_cast [eq_self, iff_self, IntWalk.iteOmega, IntWalk.toNatUp]; try (refine ⟨fun h => ?_, fun h => ?_⟩ <;> (try simp only [decide_eq_true_eq, decide_eq_false_iff_not, Bool.not_eq_true', Bool.not_eq_false', Int.not_lt, Int.not_le, Nat.not_lt, Nat.not_le] at h) <;> (try (first | contradiction | (exfalso; omega) | exact nomatch (Eq.trans (Eq.symm h) (by assumption) : true = false) | exact nomatch (Eq.trans (Eq.symm h) (by assumption) : false = true))))))
  (refine retK_of [] ?_; push_cast [eq_self, iff_self, IntWalk.iteOmega, IntWalk.toNatUp, hcl])
theorem dots_pure (s : ByteArray) : PCalls Tryd.prog 43 [.c (.v (.string s))] [] fun r os => r = .c (.v (.bool (dotsS s))) ∧ os = [] := by
  refine pcalls_of Tryd.func43 rfl (by simp [Tryd.ntmps43]) ?_
  rw [Tryd.ntmps43, Tryd.results43]
  unfold dotsS
  by_cases h1 : s = ⟨#[46]⟩
  · have e1 := eq_true h1
    push_cast [eq_self, iff_self, IntWalk.iteOmega, IntWalk.toNatUp]
    repeat' (first | (refine Kont.use (by assumption) ?_) | (refine pwp_seq fun K hK => ?_) | (refine pwp_block ?_) | (refine pwp_scope ?_) | ((first | refine pwp_region ?_ | refine pwp_quiet (by kernel_rfl) (by kernel_rfl) ?_ | refine pwp_exit ?_ | refine pwp_ret ?_ | refine pwp_skip ?_); push_cast [eq_self, iff_self, IntWalk.iteOmega, IntWalk.toNatUp, e1]) | (refine pwp_cond ?_; push_cast [eq_self, iff_self, IntWalk.iteOmega, IntWalk.toNatUp, e1]; try (refine ⟨fun h => ?_, fun h => ?_⟩ <;> (try simp only [decide_eq_true_eq, decide_eq_false_iff_not, Bool.not_eq_true', Bool.not_eq_false', Int.not_lt, Int.not_le, Nat.not_lt, Nat.not_le] at h) <;> (try (first | contradiction | (exfalso; omega) | exact nomatch (Eq.trans (Eq.symm h) (by assumption) : true = false) | exact nomatch (Eq.trans (Eq.symm h) (by assumption) : false = true))))))
    (refine retK_of [] ?_; push_cast [eq_self, iff_self, IntWalk.iteOmega, IntWalk.toNatUp])
  · by_cases h2 : s = ⟨#[46, 46]⟩
    · have e2 := eq_true h2
      push_cast [eq_self, iff_self, IntWalk.iteOmega, IntWalk.toNatUp]
      repeat' (first | (refine Kont.use (by assumption) ?_) | (refine pwp_seq fun K hK => ?_) | (refine pwp_block ?_) | (refine pwp_scope ?_) | ((first | refine pwp_region ?_ | refine pwp_quiet (by kernel_rfl) (by kernel_rfl) ?_ | refine pwp_exit ?_ | refine pwp_ret ?_ | refine pwp_skip ?_); push_cast [eq_self, iff_self, IntWalk.iteOmega, IntWalk.toNatUp, h1, e2]) | (refine pwp_cond ?_; push_cast [eq_self, iff_self, IntWalk.iteOmega, IntWalk.toNatUp, h1, e2]; try (refine ⟨fun h => ?_, fun h => ?_⟩ <;> (try simp only [decide_eq_true_eq, decide_eq_false_iff_not, Bool.not_eq_true', Bool.not_eq_false', Int.not_lt, Int.not_le, Nat.not_lt, Nat.not_le] at h) <;> (try (first | contradiction | (exfalso; omega) | exact nomatch (Eq.trans (Eq.symm h) (by assumption) : true = false) | exact nomatch (Eq.trans (Eq.symm h) (by assumption) : false = true))))))
      (refine retK_of [] ?_; push_cast [eq_self, iff_self, IntWalk.iteOmega, IntWalk.toNatUp])
    · push_cast [eq_self, iff_self, IntWalk.iteOmega, IntWalk.toNatUp]
      repeat' (first | (refine Kont.use (by assumption) ?_) | (refine pwp_seq fun K hK => ?_) | (refine pwp_block ?_) | (refine pwp_scope ?_) | ((first | refine pwp_region ?_ | refine pwp_quiet (by kernel_rfl) (by kernel_rfl) ?_ | refine pwp_exit ?_ | refine pwp_ret ?_ | refine pwp_skip ?_); push_cast [eq_self, iff_self, IntWalk.iteOmega, IntWalk.toNatUp, h1, h2]) | (refine pwp_cond ?_; push_cast [eq_self, iff_self, IntWalk.iteOmega, IntWalk.toNatUp, h1, h2]; try (refine ⟨fun h => ?_, fun h => ?_⟩ <;> (try simp only [decide_eq_true_eq, decide_eq_false_iff_not, Bool.not_eq_true', Bool.not_eq_false', Int.not_lt, Int.not_le, Nat.not_lt, Nat.not_le] at h) <;> (try (first | contradiction | (exfalso; omega) | exact nomatch (Eq.trans (Eq.symm h) (by assumption) : true = false) | exact nomatch (Eq.trans (Eq.symm h) (by assumption) : false = true))))))
      (refine retK_of [] ?_; push_cast [eq_self, iff_self, IntWalk.iteOmega, IntWalk.toNatUp])
set_option maxRecDepth 20000 in
set_option maxHeartbeats 1000000 in
theorem valid_pure (s : ByteArray) (hs : s.size ≤ 9223372036854775807) : PCalls Tryd.prog 56 [.c (.v (.string s))] [] fun r os => r = .c (.v (.bool (validS s))) ∧ os = [] := by
  have hp := plus_pure commonL ⟨#[33]⟩ commonL_len (by decide)
  simp only [List.toList_toArray] at hp
  have hd := dots_pure s
  have hv : validS s = (((decide (s ≠ ⟨#[]⟩) && decide (s.size ≤ 32)) && !dotsS s) && hasL (plusL commonL [33]) s) := by rw [has_name, validS]
  have hl : (plusL commonL [33]).length = 256 := by rw [plusL_len, commonL_len]
  rw [hv]
  generalize plusL commonL [33] = cs at hp hl ⊢
  refine pcalls_of Tryd.func56 rfl (by simp [Tryd.ntmps56]) ?_
  rw [Tryd.ntmps56, Tryd.results56]
  by_cases h1 : s = ⟨#[]⟩
  · have e1 := eq_true h1
    push_cast [eq_self, iff_self, IntWalk.iteOmega, IntWalk.toNatUp]
    repeat' (first | (refine Kont.use (by assumption) ?_) | (refine pwp_seq fun K hK => ?_) | (refine pwp_block ?_) | (refine pwp_scope ?_) | ((first | refine pwp_region ?_ | refine pwp_quiet (by kernel_rfl) (by kernel_rfl) ?_ | refine pwp_exit ?_ | refine pwp_ret ?_ | refine pwp_skip ?_); push_cast [eq_self, iff_self, IntWalk.iteOmega, IntWalk.toNatUp, e1, ne_eq, not_true_eq_false]) | (refine pwp_cond ?_; push_cast [eq_self, iff_self, IntWalk.iteOmega, IntWalk.toNatUp, e1, ne_eq, not_true_eq_false]; try (refine ⟨fun h => ?_, fun h => ?_⟩ <;> (try simp only [decide_eq_true_eq, decide_eq_false_iff_not, Bool.not_eq_true', Bool.not_eq_false', Int.not_lt, Int.not_le, Nat.not_lt, Nat.not_le] at h) <;> (try (first | contradiction | (exfalso; omega) | exact nomatch (Eq.trans (Eq.symm h) (by assumption) : true = false) | exact nomatch (Eq.trans (Eq.symm h) (by assumption) : false = true))))))
    (refine retK_of [] ?_; push_cast [eq_self, iff_self, IntWalk.iteOmega, IntWalk.toNatUp])
  · by_cases h2 : s.size ≤ 32
    · have h2' : (s.size : Int) ≤ 32 := by omega
      obtain ⟨b, hb⟩ : ∃ b, dotsS s = b := ⟨_, rfl⟩
      rw [hb] at hd ⊢
      have hh := has_pure cs s hl (by omega)
      obtain ⟨c, hc⟩ : ∃ c, hasL cs s = c := ⟨_, rfl⟩
      rw [hc] at hh ⊢
      cases b
      all_goals push_cast [eq_self, iff_self, IntWalk.iteOmega, IntWalk.toNatUp]
      all_goals repeat' (first | (refine pl_call2 false [] rfl rfl (by kernel_rfl) (hd) ?_ nofun ?_; push_cast [eq_self, iff_self, IntWalk.iteOmega, IntWalk.toNatUp, h1, h2', ne_eq, not_false_eq_true]; rintro r os ⟨rfl, rfl⟩; refine pl_of_pops ?_; push_cast [eq_self, iff_self, IntWalk.iteOmega, IntWalk.toNatUp, h1, h2', ne_eq, not_false_eq_true]) | (refine pl_call2 false [] rfl rfl (by kernel_rfl) (common_pure) ?_ nofun ?_; push_cast [eq_self, iff_self, IntWalk.iteOmega, IntWalk.toNatUp, h1, h2', ne_eq, not_false_eq_true]; rintro r os ⟨rfl, rfl⟩; refine pl_of_pops ?_; push_cast [eq_self, iff_self, IntWalk.iteOmega, IntWalk.toNatUp, h1, h2', ne_eq, not_false_eq_true]) | (refine pl_call2 false [] rfl rfl (by kernel_rfl) (hp) ?_ nofun ?_; push_cast [eq_self, iff_self, IntWalk.iteOmega, IntWalk.toNatUp, h1, h2', ne_eq, not_false_eq_true]; rintro r os ⟨rfl, rfl⟩; refine pl_of_pops ?_; push_cast [eq_self, iff_self, IntWalk.iteOmega, IntWalk.toNatUp, h1, h2', ne_eq, not_false_eq_true]) | (refine pl_call2 false [] rfl rfl (by kernel_rfl) (hh) ?_ nofun ?_; push_cast [eq_self, iff_self, IntWalk.iteOmega, IntWalk.toNatUp, h1, h2', ne_eq, not_false_eq_true]; rintro r os ⟨rfl, rfl⟩; refine pl_of_pops ?_; push_cast [eq_self, iff_self, IntWalk.iteOmega, IntWalk.toNatUp, h1, h2', ne_eq, not_false_eq_true]) | (refine Kont.use (by assumption) ?_) | (refine pwp_seq fun K hK => ?_) | (refine pwp_block ?_) | (refine pwp_scope ?_) | ((first | refine pwp_region ?_ | refine pwp_quiet (by kernel_rfl) (by kernel_rfl) ?_ | refine pwp_exit ?_ | refine pwp_ret ?_ | refine pwp_skip ?_); push_cast [eq_self, iff_self, IntWalk.iteOmega, IntWalk.toNatUp, h1, h2', ne_eq, not_false_eq_true]) | (refine pwp_cond ?_; push_cast [eq_self, iff_self, IntWalk.iteOmega, IntWalk.toNatUp, h1, h2', ne_eq, not_false_eq_true]; try (refine ⟨fun h => ?_, fun h => ?_⟩ <;> (try simp only [decide_eq_true_eq, decide_eq_false_iff_not, Bool.not_eq_true', Bool.not_eq_false', Int.not_lt, Int.not_le, Nat.not_lt, Nat.not_le] at h) <;> (try (first | contradiction | (exfalso; omega) | exact nomatch (Eq.trans (Eq.symm h) (by assumption) : true = false) | exact nomatch (Eq.trans (Eq.symm h) (by assumption) : false = true))))))
      all_goals (refine retK_of [] ?_; push_cast [eq_self, iff_self, IntWalk.iteOmega, IntWalk.toNatUp])
      all_goals simp [h1, h2]
    · have h2' : ¬ (s.size : Int) ≤ 32 := by omega
      push_cast [eq_self, iff_self, IntWalk.iteOmega, IntWalk.toNatUp]
      repeat' (first | (refine Kont.use (by assumption) ?_) | (refine pwp_seq fun K hK => ?_) | (refine pwp_block ?_) | (refine pwp_scope ?_) | ((first | refine pwp_region ?_ | refine pwp_quiet (by kernel_rfl) (by kernel_rfl) ?_ | refine pwp_exit ?_ | refine pwp_ret ?_ | refine pwp_skip ?_); push_cast [eq_self, iff_self, IntWalk.iteOmega, IntWalk.toNatUp, h1, h2', ne_eq, not_false_eq_true]) | (refine pwp_cond ?_; push_cast [eq_self, iff_self, IntWalk.iteOmega, IntWalk.toNatUp, h1, h2', ne_eq, not_false_eq_true]; try (refine ⟨fun h => ?_, fun h => ?_⟩ <;> (try simp only [decide_eq_true_eq, decide_eq_false_iff_not, Bool.not_eq_true', Bool.not_eq_false', Int.not_lt, Int.not_le, Nat.not_lt, Nat.not_le] at h) <;> (try (first | contradiction | (exfalso; omega) | exact nomatch (Eq.trans (Eq.symm h) (by assumption) : true = false) | exact nomatch (Eq.trans (Eq.symm h) (by assumption) : false = true))))))
      (refine retK_of [] ?_; push_cast [eq_self, iff_self, IntWalk.iteOmega, IntWalk.toNatUp])
      simp [h2]
end Go.Proofs.YtfojijoekpkheaaDoor
