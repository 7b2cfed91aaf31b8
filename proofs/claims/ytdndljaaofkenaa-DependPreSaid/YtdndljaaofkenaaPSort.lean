/- slices.Sorted(maps.Keys(m)), slices.Sort, Delete, Compact at texts: the shelf's contracts as pure ones. -/
import Derived.Test.YtdndljaaofkenaaPLib
import Derived.Test.YtdndljaaofkenaaShelfL
namespace Go.Proofs.Ytdndljaaofkenaa
attribute [local irreducible] PL QL PWP PCalls Weak RetK Kont PA
open Go.RowKit
set_option linter.unusedVariables false
set_option linter.unusedSimpArgs false
/-- texts that ascend -/
def asc (l : List ByteArray) : Prop := l.Pairwise fun a b => bless a b = true
theorem asc_ext : ∀ {l m : List ByteArray}, asc l → asc m → (∀ x, x ∈ l ↔ x ∈ m) → l = m
  | [], [], _, _, _ => rfl
  | [], b :: m, _, _, h => by have := (h b).2 (by simp); simp at this
  | a :: l, [], _, _, h => by have := (h a).1 (by simp); simp at this
  | a :: l, b :: m, hl, hm, h => by
    obtain ⟨l1, l2⟩ := List.pairwise_cons.1 hl
    obtain ⟨m1, m2⟩ := List.pairwise_cons.1 hm
    have hab : a = b := by
      rcases List.mem_cons.1 ((h a).1 (by simp)) with e | e
      · exact e
      · rcases List.mem_cons.1 ((h b).2 (by simp)) with e' | e'
        · exact e'.symm
        · have h1 := m1 a e
          have h2 := l1 b e'
          rw [bless_asymm h1] at h2
          cases h2
    subst hab
    congr 1
    refine asc_ext l2 m2 fun x => ⟨fun hx => ?_, fun hx => ?_⟩
    · rcases List.mem_cons.1 ((h x).1 (by simp [hx])) with e | e
      · subst e; have := l1 _ hx; rw [bless_irrefl] at this; cases this
      · exact e
    · rcases List.mem_cons.1 ((h x).2 (by simp [hx])) with e | e
      · subst e; have := m1 _ hx; rw [bless_irrefl] at this; cases this
      · exact e
theorem asc_nodup {l : List ByteArray} (h : asc l) : l.Nodup := h.imp fun h => bless_ne h
def unB (x : List UInt8) : ByteArray := ⟨x.toArray⟩
theorem unB_list (b : ByteArray) : unB b.data.toList = b := by unfold unB; rfl
theorem list_unB (x : List UInt8) : (unB x).data.toList = x := by unfold unB; rfl
theorem sorted_asc (ss : List (List UInt8)) (h : ss.Nodup) : asc ((ss.mergeSort fun x y => decide (x ≤ y)).map unB) := by
  have h1 : (ss.mergeSort fun x y => decide (x ≤ y)).Pairwise fun x y => decide (x ≤ y) = true :=
    List.pairwise_mergeSort (fun a b c h1 h2 => by simp only [decide_eq_true_eq] at *; exact List.le_trans h1 h2) (fun a b => by simp only [Bool.or_eq_true, decide_eq_true_eq]; exact List.le_total a b) ss
  have h2 : (ss.mergeSort fun x y => decide (x ≤ y)).Nodup := (List.mergeSort_perm ss _).nodup_iff.2 h
  rw [asc, List.pairwise_map]
  refine (h1.and h2).imp ?_
  rintro a b ⟨h3, h4⟩
  rw [bless_lt, ByteArray.toList_eq, ByteArray.toList_eq, list_unB, list_unB]
  rw [decide_eq_true_eq] at h3
  rcases Decidable.em (a < b) with h5 | h5
  · exact h5
  · exact absurd (List.le_antisymm h3 (List.not_lt.1 h5)) h4
theorem sorted_mem (ss : List (List UInt8)) (x : ByteArray) : x ∈ (ss.mergeSort fun x y => decide (x ≤ y)).map unB ↔ x.data.toList ∈ ss := by
  rw [List.mem_map]
  constructor
  · rintro ⟨y, h, rfl⟩; rw [list_unB]; exact (List.mergeSort_perm ss _).mem_iff.1 h
  · intro h; exact ⟨_, (List.mergeSort_perm ss _).mem_iff.2 h, unB_list x⟩
open Go.RowKit Go.Maps Go.Sort Go.Shelf in
theorem sortedKeys_calls {H : Type} (Bm b nn : Nat) (D0 : DataW H) (R : Value → Option (DataW H × List MemPlace)) (W : World) (hBm : Bm < W.heap.size) (hm : W.cell? ⟨Bm, 0, none⟩ = some (.map (some b))) (hown : W.ownsMap Try.prog 9 R b nn D0) (hmax : Maps.size D0 ≤ maxLen) (hbytes : Maps.size D0 * 16 ≤ 140737488355328) :
    Calls Try.prog 34 #[.func (.func 54) #[] #[.pointer (some ⟨Bm, 0, none⟩)]] W fun e w' => ∃ (v : Value) (ss : List (List UInt8)), e = .returned v ∧ ss.Perm (strKeys D0) ∧
      w'.ownsRow W.heap.size 9 1 v ss.length ((ss.mergeSort (fun x y => decide (x ≤ y))).map encStr) ∧ (v = .slice none 0 0 ↔ ss = []) ∧ Below W.heap.size W w' := by
  have hseq : SeqGives Fence.wide 2 Try.prog 54 #[.pointer (some ⟨Bm, 0, none⟩)] encStr (fun ss => ss.Perm (strKeys D0)) (Maps.size D0) W :=
    AnyZ.keys_gives (ρ := keys35_ren) { keys35 with } Fence.wide _ trivial rfl (by omega) Bm b nn D0 W hBm hm hown
  exact callsIn_wide.1 (AnyZ.sorted_in sorted34 Fence.wide 5 trivial trivial trivial trivial rfl (by omega) (sorts34 _) (enters_of Try.func39 (by kernel_rfl) rfl) 54 #[.pointer (some ⟨Bm, 0, none⟩)] trivial (enters_of Try.func54 (by kernel_rfl) rfl) _ _ hmax hbytes _ hseq)
def R0 : Value → Option (DataW Unit × List MemPlace) := fun _ => some (.nil, [])
theorem keys_rows {w : World} {I : Nat → Prop} {ag : Bool} (hku : Try.prog.underlying 9 = some .string) : ∀ (l : List ByteArray) (ms : List MapEntry), (∀ x ∈ l, x.size ≤ maxLen) → All2 (fun e m => m.key = MK.v e.1 ∧ RV w I ag e.2 m.val) (setE l) ms →
    (∀ x ∈ ms, ∃ y, WideElems.rd Try.prog 9 R0 x = some y) ∧ (ms.map (WideElems.rg Try.prog 9 R0)).map (fun p => strOf p.1) = l.map fun x => x.data.toList
  | [], ms, _, h => by
    have : ms = [] := All2.nil_l.1 h
    subst this
    simp
  | a :: l, ms, hs, h => by
    obtain ⟨m, ms', rfl, ⟨h1, h2⟩, h3⟩ := All2.cons_l.1 h
    obtain ⟨i1, i2⟩ := keys_rows hku l ms' (fun x hx => hs x (by simp [hx])) h3
    have hkey : keyOf Try.prog 9 m.key = some (.string a.data.toList) := by
      rw [h1]
      simp [keyOf, hku, mapKey, MK.v, hs a (by simp)]
    have hrd : WideElems.rd Try.prog 9 R0 m = some (.string a.data.toList, .nil) := by simp [WideElems.rd, hkey, R0]
    refine ⟨fun x hx => ?_, ?_⟩
    · rcases List.mem_cons.1 hx with rfl | hx
      · exact ⟨_, hrd⟩
      · exact i1 x hx
    · simp only [List.map_cons, WideElems.rg_of hrd, i2]
      rfl
theorem sorted_pure (l : List ByteArray) (hnd : l.Nodup) (hsz : ∀ x ∈ l, x.size ≤ maxLen) (hl : l.length ≤ 1000000) :
    PCalls Try.prog 34 [.c (.fn (.func 54) [] [1])] [.map none false (setE l), .box 58 [.mp 0]] fun r os => ∃ m, (asc m ∧ m.length = l.length ∧ ∀ x, x ∈ m ↔ x ∈ l) ∧ r = .c (.own 2 m.length) ∧ os = [.map none false (setE l), .box 58 [.mp 0], .arr 9 1 (m.map strD)] := by
  unfold PCalls
  intro Γ w xs hm hx
  obtain ⟨y, m', rfl, h1, h2⟩ := All2.cons_l.1 hx
  rw [All2.nil_l] at h2
  subst h2
  obtain ⟨fs, rfl, hfs, hks⟩ := h1
  rw [All2.nil_l] at hfs
  subst hfs
  have hn := hm.n
  simp only [List.length_cons, List.length_nil] at hn
  obtain ⟨c0, ms, ck, hb, hM⟩ := hm.ob 0 _ rfl
  obtain ⟨c1, bs, hbox, hbs⟩ := hm.ob 1 _ rfl
  obtain ⟨v0, m0, rfl, ⟨_, rfl⟩, h3⟩ := All2.cons_l.1 hbs
  rw [All2.nil_l] at h3
  subst h3
  have hku : Try.prog.underlying 9 = some .string := by kernel_rfl
  obtain ⟨i1, i2⟩ := keys_rows hku l ms.toList hsz hM.rows
  have hlen : ms.size = l.length := by rw [← Array.length_toList, ← hM.rows.length]; simp [setE]
  have hown : w.ownsMap Try.prog 9 R0 (Γ.β 0) ms.size (.map ((ms.toList.map (WideElems.rg Try.prog 9 R0)).foldr DataW.insert [])) := by
    refine ⟨ms, ck, hb, ⟨by rw [hlen]; unfold maxLen; omega, (MapKept.stamped_iff _ _).2 ⟨fun x hx => hM.clock _ (List.mem_map.2 ⟨x, hx, rfl⟩), hM.born.imp fun h => Nat.ne_of_lt h, ?_⟩, i1⟩, Nat.le_refl _, rfl⟩
    have hk : ms.toList.map MapEntry.key = l.map Value.string := by
      have : ∀ (l : List ByteArray) (ms : List MapEntry), All2 (fun e m => m.key = MK.v e.1 ∧ RV w Γ.I false e.2 m.val) (setE l) ms → ms.map MapEntry.key = l.map Value.string := by
        intro l
        induction l with
        | nil => intro ms h; rw [show setE [] = [] from rfl, All2.nil_l] at h; subst h; rfl
        | cons a l ih =>
          intro ms h
          obtain ⟨m, ms', rfl, ⟨h1, _⟩, h3⟩ := All2.cons_l.1 h
          simp only [List.map_cons, ih _ h3, h1, MK.v]
      exact this l _ hM.rows
    have : (ms.toList.map MapEntry.key).Pairwise (· ≠ ·) := by
      rw [hk, List.pairwise_map]
      exact hnd.imp fun h e => h (by injection e)
    exact List.pairwise_map.1 this
  have hsize : Maps.size (.map ((ms.toList.map (WideElems.rg Try.prog 9 R0)).foldr DataW.insert [])) = l.length := by
    simp only [Maps.size]
    rw [(WideShapes.sorted_perm _).length_eq, List.length_map, Array.length_toList, hlen]
  refine (sortedKeys_calls (Γ.β 1) (Γ.β 0) ms.size _ R0 w hbox.lt (by rw [hbox.cell]; rfl) hown (by rw [hsize]; unfold maxLen; omega) (by rw [hsize]; omega)).mono ?_
  rintro e w' ⟨v, ss, rfl, hperm, hrow, hnil, hB⟩
  have hperm2 : ss.Perm (l.map fun x => x.data.toList) := by
    refine hperm.trans ?_
    simp only [strKeys]
    rw [← i2]
    exact (WideShapes.sorted_perm _).map _
  have hinj : (l.map fun x => x.data.toList).Nodup := by
    rw [List.Nodup, List.pairwise_map]
    exact hnd.imp fun {a b} h e => h (by rw [← unB_list a, e, unB_list])
  have hssn : ss.Nodup := hperm2.nodup_iff.2 hinj
  have hlm : ((ss.mergeSort fun x y => decide (x ≤ y)).map unB).length = l.length := by
    rw [List.length_map, (List.mergeSort_perm ss _).length_eq, hperm2.length_eq, List.length_map]
  have hE : Ext No w w' := ⟨hB.os, hB.tape, hB.output, hB.size, fun k hk _ => hB.block k hk⟩
  have hS := Same.of_ext hE
  have hslen : ss.length = l.length := by rw [hperm2.length_eq, List.length_map]
  have hro : ∀ (Γ' : G) (k : Nat), All2 (RD w' Γ'.I) (((ss.mergeSort fun x y => decide (x ≤ y)).map unB).map strD).flatten ((ss.mergeSort fun x y => decide (x ≤ y)).map Go.Proofs.encStr) := by
    intro Γ' k
    generalize (ss.mergeSort fun x y => decide (x ≤ y)) = q
    induction q with
    | nil => trivial
    | cons a q ih => exact ⟨by rw [RD]; exact ⟨rfl, rfl⟩, ih⟩
  have fin : ∀ b c, v.oneCell' = true → RO w' (Γ.push b c) Γ.n (.arr 9 1 (((ss.mergeSort fun x y => decide (x ≤ y)).map unB).map strD)) → (0 < c → w.heap.size ≤ b) → OwnRep (Γ.push b c) Γ.n ((ss.mergeSort fun x y => decide (x ≤ y)).map unB).length v →
      ∃ r os' Γ' y, Ending.returned v = .returned y ∧ (∃ m, (asc m ∧ m.length = l.length ∧ ∀ x, x ∈ m ↔ x ∈ l) ∧ r = .c (.own 2 m.length) ∧ os' = [.map none false (setE l), .box 58 [.mp 0], .arr 9 1 (m.map strD)]) ∧ RP w' Γ' r y ∧ 2 ≤ os'.length ∧ MemOk Γ' os' w' ∧ Grow 2 Γ w Γ' w' := by
    intro b c _ hro' hbc hrep
    refine ⟨_, _, Γ.push b c, v, rfl, ⟨_, ⟨sorted_asc ss hssn, hlm, fun x => ?_⟩, rfl, rfl⟩, ⟨by simp [G.push, hn], by rw [hn] at hrep; exact hrep⟩, by simp, hm.push hS _ b c hro' hbc, grow_push hm hE b c hbc (by omega)⟩
    rw [sorted_mem, hperm2.mem_iff, List.mem_map]
    exact ⟨fun ⟨z, h, e⟩ => by rw [← unB_list x, ← e, unB_list]; exact h, fun h => ⟨x, h, rfl⟩⟩
  rcases Nat.eq_zero_or_pos ss.length with h0 | h0
  · have hs0 : ss = [] := List.eq_nil_of_length_eq_zero h0
    subst hs0
    have hv := hnil.2 rfl
    subst hv
    refine fin 0 0 rfl ⟨by simp, by omega, fun _ => by simp, fun h => absurd h (by simp [G.push, upd_same])⟩ (fun h => absurd h (by omega)) (.inl ⟨by simp [G.push, upd_same], ⟨none, rfl⟩, by simp⟩)
  · obtain ⟨b, c, rfl, h4, h5, h6, h7, h8, h9⟩ := arr_of_own (k := Γ.n) (Γ := Γ) (rows := ((ss.mergeSort fun x y => decide (x ≤ y)).map unB).map strD) hrow h0 (by omega) (fun r hr => by obtain ⟨z, _, rfl⟩ := List.mem_map.1 hr; rfl) (by rw [List.length_map, hlm, hslen])
    refine fin b c rfl (h9 (Γ.push b c) (by simp [G.push, upd_same]) (by simp [G.push, upd_same]) (hro _ 0)) (fun _ => h6) (.inr ⟨by simp [G.push, upd_same, h4], by simp [G.push, upd_same, hlm, hslen], by simp [G.push, upd_same]; exact h5⟩)
theorem keysOf_pure (es : List (MK × List D)) :
    PCalls Try.prog 35 [.c (.mp 0)] [.map none false es] fun r os => r = .c (.fn (.func 54) [] [1]) ∧ os = [.map none false es, .box 58 [.mp 0]] := by
  refine pcalls_of Try.func35 rfl (by simp [Try.ntmps35]) ?_
  rw [Try.ntmps35, Try.results35]
  simp only [push_cast, reduceIte, reduceCtorEq, Nat.reduceEqDiff, Nat.reduceLT, Nat.reduceLeDiff, Nat.reduceAdd, Nat.reduceSub, Nat.reduceMul, Nat.reduceBEq, Int.reduceLE, Int.reduceLT, Int.reduceEq, Int.reduceAdd, Int.reduceSub, Int.reduceMul, Int.reduceNeg, IntWalk.iteOmega, IntWalk.toNatUp]
  repeat' (first | (refine Kont.use (by assumption) ?_) | (refine pwp_seq fun K hK => ?_) | (refine pwp_block ?_) | (refine pwp_scope ?_) | ((first | refine pwp_region ?_ | refine pwp_quiet (by kernel_rfl) (by kernel_rfl) ?_ | refine pwp_exit ?_ | refine pwp_ret ?_ | refine pwp_skip ?_); simp only [push_cast, reduceIte, reduceCtorEq, Nat.reduceEqDiff, Nat.reduceLT, Nat.reduceLeDiff, Nat.reduceAdd, Nat.reduceSub, Nat.reduceMul, Nat.reduceBEq, Int.reduceLE, Int.reduceLT, Int.reduceEq, Int.reduceAdd, Int.reduceSub, Int.reduceMul, Int.reduceNeg, IntWalk.iteOmega, IntWalk.toNatUp]) | (refine pwp_cond ?_; simp only [push_cast, reduceIte, reduceCtorEq, Nat.reduceEqDiff, Nat.reduceLT, Nat.reduceLeDiff, Nat.reduceAdd, Nat.reduceSub, Nat.reduceMul, Nat.reduceBEq, Int.reduceLE, Int.reduceLT, Int.reduceEq, Int.reduceAdd, Int.reduceSub, Int.reduceMul, Int.reduceNeg, IntWalk.iteOmega, IntWalk.toNatUp]; try (refine ⟨fun h => ?_, fun h => ?_⟩ <;> (try simp only [decide_eq_true_eq, decide_eq_false_iff_not, Bool.not_eq_true', Bool.not_eq_false', Int.not_lt, Int.not_le, Nat.not_lt, Nat.not_le] at h) <;> (try (first | contradiction | (exfalso; omega) | exact nomatch (Eq.trans (Eq.symm h) (by assumption) : true = false) | exact nomatch (Eq.trans (Eq.symm h) (by assumption) : false = true))))))
  (refine retK_of [0, 1] ?_; simp only [push_cast, reduceIte, reduceCtorEq, Nat.reduceEqDiff, Nat.reduceLT, Nat.reduceLeDiff, Nat.reduceAdd, Nat.reduceSub, Nat.reduceMul, Nat.reduceBEq, Int.reduceLE, Int.reduceLT, Int.reduceEq, Int.reduceAdd, Int.reduceSub, Int.reduceMul, Int.reduceNeg, IntWalk.iteOmega, IntWalk.toNatUp])
end Go.Proofs.Ytdndljaaofkenaa
