/- The socket as a value: events, a block of events, a socket in memory; walks of Send, Len, Lost, New. -/
import Derived.Test.YtfibfahgdjhhkaaTape
import Derived.StillTailTactics
namespace Go.Proofs.Ytfibfahgdjhhkaa
open Go.RowKit
set_option linter.unusedVariables false
set_option linter.unusedSimpArgs false

structure Ev where
  seq : Int
  act : Int
  idx : Int
  path : ByteArray
  old : ByteArray
  deriving DecidableEq

def Ev.cells (e : Ev) : List Value := [.int .i64 e.seq, .int .i64 e.act, .int .i64 e.idx, .string e.path, .string e.old]
def Ev.agg (e : Ev) : Value := .agg #[.int .i64 e.seq, .int .i64 e.act, .int .i64 e.idx, .string e.path, .string e.old]
def flat (l : List Ev) : List Value := l.flatMap Ev.cells
theorem flat_length (l : List Ev) : (flat l).length = l.length * 5 := by
  induction l with
  | nil => rfl
  | cons e l ih => simp only [flat, List.flatMap_cons, List.length_append, List.length_cons] at ih ⊢; rw [ih]; simp [Ev.cells]; omega
theorem flat_append (l m : List Ev) : flat (l ++ m) = flat l ++ flat m := by simp [flat]

/-- the ring C (of cap places) holds the events evs from place first on -/
def Ring (C : Array Value) (cap first : Nat) (evs : List Ev) : Prop :=
  cap * 5 ≤ C.size ∧ (∀ i (h : i < evs.length), ∀ j, j < 5 → C[(first + i) % cap * 5 + j]? = (evs[i].cells)[j]?) ∧ ∀ u ∈ C.toList.take (cap * 5), u.oneCell' = true

theorem made_one (n : Nat) : ∀ u ∈ (madeCells #[.int .i64 0, .int .i64 0, .int .i64 0, .string ByteArray.empty, .string ByteArray.empty] n).toList, u.oneCell' = true := by
  intro u hu
  simp only [madeCells, Array.toList_map, List.mem_map] at hu
  obtain ⟨a, _, rfl⟩ := hu
  have h : a % 5 < 5 := Nat.mod_lt _ (by omega)
  show (#[Value.int .i64 0, .int .i64 0, .int .i64 0, .string ByteArray.empty, .string ByteArray.empty][a % 5]!).oneCell' = true
  match a % 5, h with
  | 0, _ => rfl
  | 1, _ => rfl
  | 2, _ => rfl
  | 3, _ => rfl
  | 4, _ => rfl
theorem set_one {C : Array Value} {k n : Nat} {x : Value} (h : ∀ u ∈ C.toList.take n, u.oneCell' = true) (hx : x.oneCell' = true) : ∀ u ∈ (C.setIfInBounds k x).toList.take n, u.oneCell' = true := by
  intro u hu
  rw [Array.toList_setIfInBounds, List.take_set] at hu
  rcases List.mem_or_eq_of_mem_set hu with h1 | h1
  · exact h u h1
  · rw [h1]; exact hx

theorem modc (a cap : Nat) (h : a < 2 * cap) : a % cap = if a < cap then a else a - cap := by
  split
  · exact Nat.mod_eq_of_lt ‹_›
  · rw [Nat.mod_eq_sub_mod (by omega)]; exact Nat.mod_eq_of_lt (by omega)

def set5 (C : Array Value) (k : Nat) (e : Ev) : Array Value :=
  ((((C.setIfInBounds k (.int .i64 e.seq)).setIfInBounds (k + 1) (.int .i64 e.act)).setIfInBounds (k + 2) (.int .i64 e.idx)).setIfInBounds (k + 3) (.string e.path)).setIfInBounds (k + 4) (.string e.old)

theorem ring_push {C : Array Value} {cap first m : Nat} {evs : List Ev} {v : Ev} (hR : Ring C cap first evs) (hl : evs.length < cap) (hf : first < cap) (hm : m = (first + evs.length) % cap) :
    Ring (set5 C (m * 5) v) cap first (evs ++ [v]) := by
  obtain ⟨hs, hc, ho⟩ := hR
  have hmc : m < cap := by rw [hm]; exact Nat.mod_lt _ (by omega)
  refine ⟨by simpa [set5] using hs, fun i h j hj => ?_, set_one (set_one (set_one (set_one (set_one ho rfl) rfl) rfl) rfl) rfl⟩
  rw [List.length_append, List.length_singleton] at h
  by_cases hi : i < evs.length
  · have hne : (first + i) % cap ≠ m := by
      rw [hm, modc _ _ (by omega), modc _ _ (by omega)]
      split <;> split <;> omega
    rw [List.getElem_append_left hi, ← hc i hi j hj]
    generalize (first + i) % cap = k at *
    simp only [set5, Array.getElem?_setIfInBounds]
    rw [if_neg (by omega), if_neg (by omega), if_neg (by omega), if_neg (by omega), if_neg (by omega)]
  · have hi' : i = evs.length := by omega
    subst hi'
    rw [List.getElem_append_right (Nat.le_refl _), ← hm]
    simp only [set5, Array.getElem?_setIfInBounds, Array.size_setIfInBounds]
    match j, hj with
    | 0, _ => simp [Ev.cells]; omega
    | 1, _ => simp [Ev.cells]; omega
    | 2, _ => simp [Ev.cells]; omega
    | 3, _ => simp [Ev.cells]; omega
    | 4, _ => simp [Ev.cells]; omega

/-- block b is a socket whose ring is block r -/
structure Sock (w : World) (b r cap : Nat) (evs : List Ev) (lost : Bool) : Prop where
  st : ∃ first C kc, Blk w b 52 #[.slice (some ⟨r, 0, none⟩) cap kc, .int .i64 ((first : Nat) : Int), .int .i64 (evs.length : Int), .bool lost] ∧ Blk w r 42 C ∧ Ring C cap first evs ∧ first < cap ∧ cap ≤ kc
  ne : b ≠ r
  len : evs.length ≤ cap
  pos : 1 ≤ cap
  max : cap ≤ 256

theorem Sock.ext {w w' : World} {b r cap : Nat} {evs : List Ev} {lost : Bool} {S : Nat → Prop} (h : Sock w b r cap evs lost) (e : Ext S w w') (hb : ¬ S b) (hr : ¬ S r) : Sock w' b r cap evs lost := by
  obtain ⟨⟨first, C, kc, h1, h2, h3⟩, hne, hl, hp, hm⟩ := h
  exact ⟨⟨first, C, kc, h1.ext e hb, h2.ext e hr, h3⟩, hne, hl, hp, hm⟩

theorem new_bad (n : Int) (w : World) (h : n < 1 ∨ 256 < n) : Calls Try.prog 8 #[.int .i64 n] w fun e w' => e = .returned (.tuple #[.pointer none, .int .i64 60]) ∧ w = w' := by
  rcases h with h | h
  · go_enter Try.func8, Try.ntmps8
    go_wp2
    go_ret2
    exact ⟨rfl, rfl⟩
  · have h' : ¬ n < 1 := by omega
    go_enter Try.func8, Try.ntmps8
    go_wp2
    go_ret2
    exact ⟨rfl, rfl⟩

theorem infoEv : (Try.prog.info? 42).map (fun i => (i.zero, i.size, i.bytes)) = some (some (.agg #[.int .i64 0, .int .i64 0, .int .i64 0, .string ByteArray.empty, .string ByteArray.empty]), 5, 56) := by kernel_rfl

theorem new_good (n : Nat) (w : World) (h : 1 ≤ n) (h' : n ≤ 256) : Calls Try.prog 8 #[.int .i64 (n : Int)] w fun e w' =>
    e = .returned (.tuple #[.pointer (some ⟨w.heap.size + 1, 0, none⟩), .int .i64 0]) ∧ Sock w' (w.heap.size + 1) w.heap.size n [] false ∧ Ext No w w' := by
  obtain ⟨i, hi, hz, hs, hb⟩ := info_parts infoEv
  have hmk := fun W : World => run_make (P := Try.prog) W 23 42 i _ Try.underlying23 hi hz .i64 .i64 (n : Int) (n : Int) (by omega) (by omega) (by rw [hb]; omega) (by omega)
  rw [hs] at hmk
  simp only [Int.toNat_natCast] at hmk
  clear hi hz hs hb
  go_enter Try.func8, Try.ntmps8
  go_wp2
  go_ret2
  exact ⟨rfl, ⟨⟨0, _, n, Blk.new_at _ _ _ (by simp), (Blk.new w _ _).alloc _, ⟨by simp [size_madeCells], fun i h => absurd h (by simp), fun u hu => made_one _ u (List.mem_of_mem_take hu)⟩, h, Nat.le_refl _⟩, by omega, by simp, h, h'⟩, ((Ext.refl _ _).alloc _).alloc _⟩

theorem len_walk (b r cap : Nat) (evs : List Ev) (lost : Bool) (w : World) (hs : Sock w b r cap evs lost) :
    Calls Try.prog 17 #[.pointer (some ⟨b, 0, none⟩)] w fun e w' => e = .returned (.int .i64 (evs.length : Int)) ∧ w = w' := by
  obtain ⟨⟨first, C, kc, hb, _⟩, _⟩ := hs
  have h2 := hb.cell 2
  simp at h2
  clear hb
  go_enter Try.func17, Try.ntmps17
  go_wp2
  go_ret
  exact ⟨rfl, rfl⟩

theorem lost_walk (b r cap : Nat) (evs : List Ev) (lost : Bool) (w : World) (hs : Sock w b r cap evs lost) :
    Calls Try.prog 14 #[.pointer (some ⟨b, 0, none⟩)] w fun e w' => e = .returned (.bool lost) ∧ Sock w' b r cap evs false ∧ Ext (fun k => k = b ∨ k = r) w w' := by
  obtain ⟨⟨first, C, kc, hb, hr, hR, hf, hkc⟩, hne, hl, hp, hm⟩ := hs
  have h3 := hb.cell 3
  have hz := hb.frozen 3
  simp at h3
  have HB := Lib.hid hb
  clear hb
  go_enter Try.func14, Try.ntmps14
  go_wp2
  go_ret
  have hb' := HB.out.set_ 3 (.bool false)
  exact ⟨rfl, ⟨⟨first, C, kc, by simpa using hb', hr.far (p := ⟨b, 3, none⟩) (Ne.symm hne) _, hR, hf, hkc⟩, hne, hl, hp, hm⟩, (Ext.refl _ w).setCell (p := ⟨b, 3, none⟩) (.inl (.inl rfl)) _⟩

theorem send_full (b r cap : Nat) (evs : List Ev) (lost : Bool) (v : Ev) (w : World) (hs : Sock w b r cap evs lost) (hfull : evs.length = cap) :
    Calls Try.prog 16 #[.pointer (some ⟨b, 0, none⟩), v.agg] w fun e w' => e = .returned (.int .i64 61) ∧ Sock w' b r cap evs true ∧ Ext (fun k => k = b ∨ k = r) w w' := by
  obtain ⟨⟨first, C, kc, hb, hr, hR, hf, hkc⟩, hne, hl, hp, hm⟩ := hs
  have hlt := hb.lt
  have h0 := hb.cell 0
  have h2 := hb.cell 2
  have h3 := hb.cell 3
  have hz := hb.frozen 3
  have hq : (((evs.length : Nat) : Int) == (cap : Int)) = true := by simp [hfull]
  simp at h0 h2 h3
  have HB := Lib.hid hb
  have HF := Lib.hid hfull
  clear hb hfull
  unfold Ev.agg
  go_enter Try.func16, Try.ntmps16
  go_wp2
  go_quiet (fail)
  go_wp2
  go_ret
  have hA : r ≠ b := Ne.symm hne
  have HB' := ((HB.out.alloc (.cells #[.int .i64 v.seq, .int .i64 v.act, .int .i64 v.idx, .string v.path, .string v.old] 42)).drewN nq).set_ 3 (.bool true)
  exact ⟨rfl, ⟨⟨first, C, kc, by simpa using HB', ((hr.alloc _).drewN nq).far (p := ⟨b, 3, none⟩) hA _, hR, hf, hkc⟩, hne, hl, hp, hm⟩, (((Ext.refl _ w).alloc _).drewN nq).setCell (p := ⟨b, 3, none⟩) (.inl (.inl rfl)) _⟩

theorem send_room (b r cap : Nat) (evs : List Ev) (lost : Bool) (v : Ev) (w : World) (hs : Sock w b r cap evs lost) (hroom : evs.length < cap) :
    Calls Try.prog 16 #[.pointer (some ⟨b, 0, none⟩), v.agg] w fun e w' => e = .returned (.int .i64 0) ∧ Sock w' b r cap (evs ++ [v]) lost ∧ Ext (fun k => k = b ∨ k = r) w w' := by
  obtain ⟨⟨first, C, kc, hb, hr, hR, hf, hkc⟩, hne, hl, hp, hm⟩ := hs
  have hlt := hb.lt
  have hltr := hr.lt
  have h0 := hb.cell 0
  have h1 := hb.cell 1
  have h2 := hb.cell 2
  have hz := hb.frozen 2
  have hzr := hr.frozen
  obtain ⟨m, hm0⟩ : ∃ m, m = (first + evs.length) % cap := ⟨_, rfl⟩
  have hmc : m < cap := by rw [hm0]; exact Nat.mod_lt _ (by omega)
  have hcs5 : ∀ j, j < 5 → w.cell? ⟨r, m * 5 + j, none⟩ = some (C.getD (m * 5 + j) undef) := by
    intro j hj
    have hsz : m * 5 + j < C.size := by have := hR.1; omega
    rw [hr.cell]; simp [hsz]
  obtain ⟨d, hd⟩ : ∃ d, d = C.getD := ⟨_, rfl⟩
  rw [← hd] at hcs5
  have c0 := hcs5 0 (by omega)
  have c1 := hcs5 1 (by omega)
  have c2 := hcs5 2 (by omega)
  have c3 := hcs5 3 (by omega)
  have c4 := hcs5 4 (by omega)
  rw [Nat.add_zero] at c0
  have hq : (((evs.length : Nat) : Int) == (cap : Int)) = false := by simp; omega
  have e1 : IntKind.i64.wrap ((first : Int) + (evs.length : Int)) = (first : Int) + (evs.length : Int) := IntWalk.i64_in _ (by omega)
  have e2 : ((first : Int) + (evs.length : Int)).tmod (cap : Int) = (m : Int) := by
    rw [Int.tmod_eq_emod_of_nonneg (by omega), hm0]; simp
  have e3 : ¬ cap = 0 := by omega
  simp at h0 h1 h2
  have HB := Lib.hid hb
  have HR := Lib.hid hr
  have HRR := Lib.hid hR
  have HM := Lib.hid hm0
  clear hb hr hR hcs5 hd hm0
  unfold Ev.agg
  go_enter Try.func16, Try.ntmps16
  go_wp2
  go_quiet (fail)
  go_wp2
  refine region_tail 21 (by kernel_rfl) (by kernel_rfl) ?_
  simp only [List.take_succ_cons, List.take_zero, List.drop_succ_cons, List.drop_zero]
  repeat still_step
  refine wpStill_nil ?_
  go_wp2
  go_ret
  have hA : b ≠ r := hne
  have hB : r ≠ b := Ne.symm hne
  have R1 := (((((((HR.out.alloc (.cells #[.int .i64 v.seq, .int .i64 v.act, .int .i64 v.idx, .string v.path, .string v.old] 42)).drewN (nq + 1)).set_ (m * 5) (.int .i64 v.seq)).set_ (m * 5 + 1) (.int .i64 v.act)).set_ (m * 5 + 2) (.int .i64 v.idx)).set_ (m * 5 + 3) (.string v.path)).set_ (m * 5 + 4) (.string v.old)).far (p := ⟨b, 2, none⟩) hB (.int .i64 ((evs.length : Int) + 1))
  have B1 := (((((((HB.out.alloc (.cells #[.int .i64 v.seq, .int .i64 v.act, .int .i64 v.idx, .string v.path, .string v.old] 42)).drewN (nq + 1)).far (p := ⟨r, m * 5, none⟩) hA (.int .i64 v.seq)).far (p := ⟨r, m * 5 + 1, none⟩) hA (.int .i64 v.act)).far (p := ⟨r, m * 5 + 2, none⟩) hA (.int .i64 v.idx)).far (p := ⟨r, m * 5 + 3, none⟩) hA (.string v.path)).far (p := ⟨r, m * 5 + 4, none⟩) hA (.string v.old)).set_ 2 (.int .i64 ((evs.length : Int) + 1))
  refine ⟨rfl, ⟨⟨first, _, kc, by simpa using B1, R1, ring_push HRR.out hroom hf HM.out, hf, hkc⟩, hne, by simp; omega, hp, hm⟩, ?_⟩
  exact (((((((((Ext.refl _ w).alloc _).drewN _).setCell (p := ⟨r, m * 5, none⟩) (.inl (.inr rfl)) _).setCell (p := ⟨r, m * 5 + 1, none⟩) (.inl (.inr rfl)) _).setCell (p := ⟨r, m * 5 + 2, none⟩) (.inl (.inr rfl)) _).setCell (p := ⟨r, m * 5 + 3, none⟩) (.inl (.inr rfl)) _).setCell (p := ⟨r, m * 5 + 4, none⟩) (.inl (.inr rfl)) _).setCell (p := ⟨b, 2, none⟩) (.inl (.inl rfl)) _)
end Go.Proofs.Ytfibfahgdjhhkaa
