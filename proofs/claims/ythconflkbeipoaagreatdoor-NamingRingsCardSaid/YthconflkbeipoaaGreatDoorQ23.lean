/- What the program computes, and the plain laws of it, part 23. -/
import Derived.Test.YthconflkbeipoaaGreatDoorQ20
namespace Go.Proofs.YthconflkbeipoaaGreatDoor
open Go.RowKit
open IntWalk renaming iteOmega → iO, toNatUp → tN
set_option linter.unusedVariables false
set_option linter.unusedSimpArgs false
section
variable {P : Program} {N p : Nat} {ops : Array Oper} {rest : List Oper} {o : Oper} {s : S} {K : S → Prop}
theorem pl_makeR {t e : TypeId} {x z : Operand} {by' n sz : Nat} {kx kz : IntKind} {zs : List E} {ds : List D} (ho : o.op = .makeSlice t x z) (hg : gd ops s o.guard = some true) (hd : dstOk N o.dst)
    (hel : elOf P t = some (e, sz)) (hby : bytOf P e = some by') (hz : zerOf P e = some zs) (hzd : toDs zs = some ds) (hzl : ds.length = sz) (h1 : 0 < sz) (hx : s.ev x = some (.c (.v (.int kx (n : Int))))) (hzz : s.ev z = some (.c (.v (.int kz (n : Int)))))
    (hb1 : (by' : Int) * n ≤ 281474976710656) (hb2 : (n : Int) ≤ 9223372036854775807)
    (hK : PL P N p ops rest (S.put ⟨s.t, s.o ++ [.arr e sz (List.replicate n ds)]⟩ o.dst (.c (.own s.o.length n))) K) : PL P N p ops (o :: rest) s K := by
  refine pl_heap (q := .c (.own s.o.length n)) (os := s.o ++ [.arr e sz (List.replicate n ds)]) hg (fun Γ a w hA => ?_) (by simp) hd hK
  have hI := hA.inv
  have hn := hI.m.n
  obtain ⟨hu, hsz'⟩ := el_run hel
  obtain ⟨ie, zv, hie, hzv, hzr⟩ := zer_ok hz
  have hies : ie.size = sz := by obtain ⟨i', hi', e'⟩ := Option.map_eq_some_iff.1 hsz'; rw [hie] at hi'; cases hi'; exact e'
  have hieb : ie.bytes = by' := by
    obtain ⟨i', hi', e'⟩ := Option.map_eq_some_iff.1 (show (P.info? e).map (·.bytes) = some by' from hby); rw [hie] at hi'; cases hi'; exact e'
  have hrow : All2 (RD w Γ.I) ds zv.cells.toList := (toDs_ok hzd (hzr w Γ)).1
  have hzsz : zv.cells.size = sz := by rw [← Array.length_toList, ← hrow.length, hzl]
  have hxv : a.eval x = .int kx (n : Int) := (S.ev_ok hx hI).1
  have hzv2 : a.eval z = .int kz (n : Int) := (S.ev_ok hzz hI).1
  have hr := run_make (P := P) w t e ie zv hu hie hzv kx kz n n (by omega) (Int.le_refl _) (by rw [hieb]; exact hb1) hb2
  simp only [Int.toNat_natCast, hies] at hr
  obtain ⟨xs, hxs⟩ : ∃ xs, madeCells zv.cells (n * sz) = xs := ⟨_, rfl⟩
  have hxl : xs.toList = (List.replicate n zv.cells.toList).flatten := by
    rw [← zero_cells (z := zv.cells.toList) n, ← hxs, Array.toArray_toList]
    unfold madeCells Builtin.zeroCells
    rw [hzsz]
  have hfl : ∀ m : Nat, (List.replicate m ds).flatten.length = m * sz := fun m => by
    induction m with
    | zero => simp
    | succ m ih => rw [List.replicate_succ, List.flatten_cons, List.length_append, ih, hzl, Nat.succ_mul]; omega
  have hall : ∀ m : Nat, All2 (RD w Γ.I) (List.replicate m ds).flatten (List.replicate m zv.cells.toList).flatten := fun m => by
    induction m with
    | zero => trivial
    | succ m ih => rw [List.replicate_succ, List.replicate_succ, List.flatten_cons, List.flatten_cons]; exact hrow.append ih
  have hxz : xs.size = n * sz := by rw [← Array.length_toList, hxl, ← (hall n).length, hfl]
  rw [hxs] at hr
  have hE : Ext No w (w.alloc (.cells xs e)) := (Ext.refl No w).alloc _
  have hS := Same.of_ext hE
  have hag := push_agree Γ w.heap.size n
  have hrun : (execOp a.eval o).run P w = .ok (.value (.slice (some ⟨w.heap.size, 0, none⟩) n n)) (w.alloc (.cells xs e)) := by
    simp only [execOp, ho, hxv, hzv2, Sem.run_bind, hr, Result.andThen_ok, Sem.run_pure]
  have hm : MemOk (Γ.push w.heap.size n) (s.o ++ [.arr e sz (List.replicate n ds)]) (w.alloc (.cells xs e)) := by
    refine hI.m.push hS _ _ _ ⟨fun r hr => by rw [List.mem_replicate] at hr; rw [hr.2]; exact hzl, h1, fun h => ?_, fun _ => ⟨xs, ?_, ?_, ?_, ?_, ?_⟩⟩ (fun _ => Nat.le_refl _)
    · simp only [G.push, upd_same] at h; subst h; rfl
    · simp only [G.push, upd_same]; exact Blk.new w e xs
    · simp only [G.push, upd_same]; exact hxz
    · simp only [G.push, upd_same, List.length_replicate]; exact Nat.le_refl _
    · simp only [G.push, upd_same, maxLen]; omega
    · rw [List.length_replicate, hxl, List.take_of_length_le (by rw [← (hall n).length, hfl]; exact Nat.le_refl _)]
      exact (hall n).mono fun _ _ => RD.stay (hS.stay Γ.I) _ _
  refine ⟨_, _, Γ.push w.heap.size n, .inl hrun, ⟨by simp [G.push, hn], ?_⟩, hI.heap hm (hS.stay Γ.I) hag, grow_push hI.m hE _ _ (fun _ => Nat.le_refl _) hA.le⟩
  unfold OwnRep
  by_cases h0 : n = 0
  · subst h0
    exact .inl ⟨by simp only [G.push, ← hn, upd_same], ⟨_, rfl⟩, rfl⟩
  · refine .inr ⟨?_, ?_, ?_⟩
    · simp only [G.push, ← hn, upd_same]; omega
    · simp only [G.push, ← hn, upd_same]
    · simp only [G.push, ← hn, upd_same]; exact Nat.le_refl _
end
end Go.Proofs.YthconflkbeipoaaGreatDoor
namespace Go.Proofs.YthconflkbeipoaaGreatDoor
open Go.RowKit
open IntWalk renaming iteOmega → iO, toNatUp → tN
set_option linter.unusedVariables false
set_option linter.unusedSimpArgs false
def swN (k j : Nat) : Nat := if j = k then k + 1 else if j = k + 1 then k else j
theorem swN_sw (k j : Nat) : swN k (swN k j) = j := by unfold swN; split <;> (try split) <;> (try split) <;> omega
theorem swN_lt {k j n : Nat} (hk : k + 1 < n) (hj : j < n) : swN k j < n := by unfold swN; split <;> (try split) <;> omega
def E.sw (k : Nat) : E → E
  | .own j n => .own (swN k j) n
  | .ptr j f => .ptr (swN k j) f
  | .orow j z i f => .orow (swN k j) z i f
  | .fn f ds ks => .fn f ds (ks.map (swN k))
  | .mp j => .mp (swN k j)
  | .seg j z lo n => .seg (swN k j) z lo n
  | e => e
def PV.sw (k : Nat) : PV → PV
  | .c e => .c (e.sw k)
  | .agg cs => .agg (cs.map (E.sw k))
  | .undef => .undef
  | .two x y => .two (x.sw k) (y.sw k)
  | .three x y z => .three (x.sw k) (y.sw k) (z.sw k)
def swT (k : Nat) : List (Nat × PV) → List (Nat × PV)
  | [] => []
  | (i, q) :: t => (i, q.sw k) :: swT k t
def Ob.sw (k : Nat) : Ob → Ob
  | .box ty cs => .box ty (cs.map (E.sw k))
  | .loop l L t => .loop l L (swT k t)
  | o => o
def S.sw (s : S) (k : Nat) : S := match s.o[k]?, s.o[k + 1]? with
  | some a, some b => ⟨swT k s.t, setO (setO (s.o.map (Ob.sw k)) k (b.sw k)) (k + 1) (a.sw k)⟩
  | _, _ => s
theorem look_sw (k i : Nat) : ∀ t : List (Nat × PV), look (swT k t) i = (look t i).map (PV.sw k)
  | [] => rfl
  | (d, q) :: t => by
    simp only [swT, look]
    split
    · rfl
    · exact look_sw k i t
theorem weak_sw {N p : Nat} {s : S} (k : Nat) (hp : p ≤ k) : Weak N p s (s.sw k) := by
  intro Γ a w hA
  unfold S.sw
  split
  case h_2 => exact ⟨Γ, hA, Grow.refl _ _ _⟩
  rename_i oa ob ha hb
  have hm := hA.inv.m
  have hn := hm.n
  have hkl : k + 1 < s.o.length := (List.getElem?_eq_some_iff.1 hb).1
  have hkn : k + 1 < Γ.n := by rw [hn]; exact hkl
  obtain ⟨Γ', hΓ⟩ : ∃ Γ' : G, Γ' = ⟨Γ.n, fun j => Γ.β (swN k j), fun j => Γ.cap (swN k j), Γ.I⟩ := ⟨_, rfl⟩
  have q1 : Γ'.n = Γ.n := by rw [hΓ]
  have q2 : Γ'.I = Γ.I := by rw [hΓ]
  have q3 : ∀ j, Γ'.β (swN k j) = Γ.β j := fun j => by rw [hΓ]; simp only [swN_sw]
  have q4 : ∀ j, Γ'.cap (swN k j) = Γ.cap j := fun j => by rw [hΓ]; simp only [swN_sw]
  have q5 : ∀ j, Γ'.β j = Γ.β (swN k j) := fun j => by rw [hΓ]
  have q6 : ∀ j, Γ'.cap j = Γ.cap (swN k j) := fun j => by rw [hΓ]
  have hE : ∀ (e : E) (y : Value), RE w Γ e y → RE w Γ' (e.sw k) y := by
    intro e y h
    cases e with
    | own j n =>
      refine ⟨by rw [q1]; exact swN_lt hkn h.1, ?_⟩
      have h2 := h.2
      unfold OwnRep at h2 ⊢
      rw [q3, q4]; exact h2
    | ptr j f => exact ⟨by rw [q1]; exact swN_lt hkn h.1, by rw [q3]; exact h.2⟩
    | orow j z i f => exact ⟨by rw [q1]; exact swN_lt hkn h.1, by rw [q3]; exact h.2⟩
    | mp j => exact ⟨by rw [q1]; exact swN_lt hkn h.1, by rw [q3]; exact h.2⟩
    | seg j z lo n =>
      refine ⟨by rw [q1]; exact swN_lt hkn h.1, ?_⟩
      have h2 := h.2
      unfold SegRep at h2 ⊢
      rw [q3, q4]; exact h2
    | fn f ds ks =>
      obtain ⟨xs, h1, h2, h3⟩ := h
      refine ⟨xs, ?_, by rw [q2]; exact h2, fun j hj => ?_⟩
      · rw [h1, List.map_map]
        congr 1
        exact List.map_congr_left fun j _ => by simp only [Function.comp, keyVal, q3]
      · obtain ⟨i, hi, rfl⟩ := List.mem_map.1 hj
        rw [q1]; exact swN_lt hkn (h3 i hi)
    | v x => exact h
    | sl z l => unfold E.sw RE; rw [q2]; exact h
    | full z l => unfold E.sw RE; rw [q2]; exact h
    | row cs => unfold E.sw RE; rw [q2]; exact h
    | any => exact h
  have hEs : ∀ {cs : List E} {ys : List Value}, All2 (RE w Γ) cs ys → All2 (RE w Γ') (cs.map (E.sw k)) ys := fun h => All2.map_l.2 (h.mono hE)
  have hP : ∀ (q : PV) (y : Value), RP w Γ q y → RP w Γ' (q.sw k) y := by
    intro q
    induction q with
    | c e => intro y h; exact hE e y h
    | agg cs => rintro y ⟨xs, h1, h2⟩; exact ⟨xs, h1, hEs h2⟩
    | undef => intro y h; exact h
    | two x z ih1 ih2 => rintro y ⟨u, v, h1, h2, h3⟩; exact ⟨u, v, h1, ih1 u h2, ih2 v h3⟩
    | three x z t ih1 ih2 ih3 => rintro y ⟨u, v, r, h1, h2, h3, h4⟩; exact ⟨u, v, r, h1, ih1 u h2, ih2 v h3, ih3 r h4⟩
  have hO : ∀ (j : Nat) (o : Ob), RO w Γ j o → RO w Γ' (swN k j) (o.sw k) := by
    intro j o h0
    cases o with
    | box ty cs =>
      obtain ⟨j1, xs, j2, j3, j6⟩ := h0
      exact ⟨by rw [q4]; exact j1, xs, by rw [q3]; exact j2, hEs j3, by unfold Room; rw [q4]; exact j6⟩
    | arr el' sz' rows' =>
      obtain ⟨j1, j2, j3, j4⟩ := h0
      refine ⟨j1, j2, by rw [q4]; exact j3, fun hc => ?_⟩
      rw [q4] at hc ⊢
      obtain ⟨cur, m1, m2, m3, m4, m5⟩ := j4 hc
      exact ⟨cur, by rw [q3]; exact m1, m2, m3, m4, by rw [q2]; exact m5⟩
    | map kk ag es =>
      obtain ⟨j1, ms, ck, j2, j3⟩ := h0
      exact ⟨by rw [q4]; exact j1, ms, ck, by rw [q3]; exact j2, by rw [q2]; exact j3⟩
    | loop l L t =>
      obtain ⟨j1, j2, tm, j3, j4, j5⟩ := h0
      refine ⟨by rw [q4]; exact j1, by rw [q3]; exact j2, tm, j3, j4, fun i q hq => ?_⟩
      rw [look_sw] at hq
      obtain ⟨q0, hq0, rfl⟩ := Option.map_eq_some_iff.1 hq
      obtain ⟨i1, i2⟩ := j5 i q0 hq0
      exact ⟨i1, hP q0 _ i2⟩
  have hsk : swN k k = k + 1 := by unfold swN; simp
  have hsk1 : swN k (k + 1) = k := by unfold swN; simp
  refine ⟨Γ', ⟨⟨hA.inv.size, hA.inv.defers, fun i q hq => ?_, ⟨by rw [q1, hn]; simp [setO], fun j o ho => ?_, fun j j' h1 h2 h3 h4 h5 => ?_, fun j h1 h2 => ?_, fun b hb => ?_, ⟨hm.pin.1, fun b hb => by rw [q2]; exact hm.pin.2 b hb⟩⟩⟩, by rw [q1]; exact hA.le⟩, ⟨Ext.refl _ _, fun b hb => by rw [q2]; exact hb, fun j h1 h2 => ?_, fun b hb => ?_, fun j hj => ?_⟩⟩
  · simp only [S.get] at hq
    rw [look_sw] at hq
    obtain ⟨q0, hq0, rfl⟩ := Option.map_eq_some_iff.1 hq
    obtain ⟨i1, i2⟩ := hA.inv.t i q0 hq0
    exact ⟨i1, hP q0 _ i2⟩
  · simp only [setO] at ho
    by_cases e1 : k + 1 = j
    · subst e1
      rw [List.getElem?_set_self (by simp; exact hkl)] at ho
      cases ho
      have := hO k oa (hm.ob k oa ha)
      rwa [hsk] at this
    rw [List.getElem?_set_ne e1] at ho
    by_cases e2 : k = j
    · subst e2
      rw [List.getElem?_set_self (by simp; omega)] at ho
      cases ho
      have := hO (k + 1) ob (hm.ob (k + 1) ob hb)
      rwa [hsk1] at this
    rw [List.getElem?_set_ne e2, List.getElem?_map] at ho
    obtain ⟨o0, ho0, rfl⟩ := Option.map_eq_some_iff.1 ho
    have := hO j o0 (hm.ob j o0 ho0)
    have e3 : swN k j = j := by unfold swN; rw [if_neg (by omega), if_neg (by omega)]
    rwa [e3] at this
  · rw [q1] at h1 h2
    rw [q6] at h3 h4
    rw [q5, q5] at h5
    have := hm.sep _ _ (swN_lt hkn h1) (swN_lt hkn h2) h3 h4 h5
    have h6 := congrArg (swN k) this
    rwa [swN_sw, swN_sw] at h6
  · rw [q1] at h1
    rw [q6] at h2
    rw [q5, q2]
    exact hm.off _ (swN_lt hkn h1) h2
  · rw [q2] at hb; exact hm.lt b hb
  · rw [q1] at h1
    rw [q6] at h2
    exact .inl ⟨swN k j, swN_lt hkn h1, h2, (q5 j).symm⟩
  · rw [q2] at hb; exact .inl hb
  · have e3 : swN k j = j := by unfold swN; rw [if_neg (by omega), if_neg (by omega)]
    rw [q5, q6, e3]; exact ⟨rfl, rfl⟩
attribute [push_cast] S.sw E.sw PV.sw Ob.sw swT swN
end Go.Proofs.YthconflkbeipoaaGreatDoor
