/- What the program computes, and the plain laws of it, part 45. -/
import Derived.Test.YtbonfcphabnlpabGreatDoorQ44
namespace Go.Proofs.YtbonfcphabnlpabGreatDoor
attribute [local irreducible] PL QL PWPr PCalls Weak RetK Kontr PA
open Go.RowKit
open IntWalk renaming iteOmega → iO, toNatUp → tN
set_option linter.unusedVariables false
set_option linter.unusedSimpArgs false
set_option maxRecDepth 20000
def atQ (t : List Dev) (r : Req) : Bool := (atD t r.path).isSome && decide (((atD t r.path).getD default).index = r.index)
def fallK (t : List Dev) (l : List Req) (k : Nat) : List Req := fltK (atQ t) l k
def rfallM (s : Inh) (t : List Dev) : Inh := { s with reqs := s.reqs.filter (atQ t) }
set_option maxHeartbeats 4000000 in
theorem rfall_pure (s : Inh) (t : List Dev) (hl : s.reqs.length ≤ 1000000) (ht : t.length ≤ 1000) (hz : ∀ d ∈ t, d.original.size ≤ 1000) : PCalls Tryz.prog 48 [.agg s.e, .agg (trE t)] [] fun x os => x = .agg (rfallM s t).e ∧ os = [] := by
  refine pcalls_of Tryz.func48 rfl (by simp [Tryz.ntmps48]) ?_
  rw [Tryz.ntmps48, Tryz.results48]
  push_cast [iO, tN]
  have cB : CutB 9 [] := trivial
  repeat' (first | ((first | refine pC ?_ | refine pQC ?_ | refine pU ?_); push_cast [iO, tN]) | (refine pif (fun h => ?_) (fun h => ?_) <;> first | exact pN h | push_cast [iO, tN]))
  refine pwp_weak (weak_adopt_box 3 2 37 3 (by omega) 29 [.v (.int .i64 s.next), .sl 4 (s.list.map Ihb.d), .v (.slice none 0 0)] rfl rfl) ?_
  push_cast [iO, tN]
  have h0 : fallK t s.reqs 0 = [] := fltK_zero _ _
  (apply pwp_loop3 (α := Nat) 9 [] (fun k => [(6, .c (.v (.int .i64 k)))]) (fun k => [(3, .box 29 [.v (.int .i64 s.next), .sl 4 (s.list.map Ihb.d), .own 4 (fallK t s.reqs k).length]), (4, .arr 37 3 ((fallK t s.reqs k).map Req.d))]) (fun k => k ≤ s.reqs.length) (fun k => s.reqs.length - k) (0); (focus ((try push_cast [iO, tN]); rfl)); (focus exact (by omega)); (focus ((refine weak_fg ?_; try push_cast [iO, tN]); (try ((rw [h0]; exact ⟨rfl, rfl⟩))))))
  intro k hk
  push_cast [iO, tN]
  by_cases hlt : k < s.reqs.length
  · have hrl : (fallK t s.reqs k).length ≤ k := fltK_len _ _ _
    have ha := rat_pure t (s.reqs.getD k default).path ht hz
    obtain ⟨od, hod⟩ : ∃ od, atD t (s.reqs.getD k default).path = od := ⟨_, rfl⟩
    obtain ⟨b, hb⟩ : ∃ b, od.isSome = b := ⟨_, rfl⟩
    rw [hod, hb] at ha
    repeat' (first |  ((refine pwp_cut 9 [] ?_; apply pwp_drawn_to; (focus kernel_rfl); (focus (simp only [List.length_cons, List.length_nil, Nat.reduceAdd]; (repeat' first | ((refine plc [] (ha) ?_ ?_; push_cast [iO, tN]; rintro r os ⟨rfl, rfl⟩; push_cast [iO, tN])) | ((first | refine pah 1 ?_ | refine pah 3 ?_ | refine pah 4 ?_ | refine pah 5 ?_ | refine pah 8 ?_ | refine pah 9 ?_ | refine pah 10 ?_ | refine pah 13 ?_); push_cast [iO, tN]) | (refine pad ?_; first | with_reducible exact weak_cutS 9 [] _ | (refine weak_fg ?_; push_cast [iO, tN])) | ((first | refine pas [0] ?_ | refine pas [2] ?_ | refine pas [6] ?_ | refine pas [7] ?_ | refine pas [11] ?_ | refine pas [12] ?_); push_cast [iO, tN]) | ((first | refine pas [0, 2] ?_ | refine pas [0, 6] ?_ | refine pas [0, 11] ?_ | refine pas [2, 11] ?_ | refine pas [6, 11] ?_ | refine pas [7, 11] ?_); push_cast [iO, tN]; refine ⟨?_, ?_⟩) | ((first | refine pas [0, 2, 11] ?_ | refine pas [0, 6, 11] ?_); push_cast [iO, tN]; refine ⟨?_, ?_, ?_⟩)); done)); push_cast [iO, tN]))  | ((first | refine pC ?_ | refine pQC ?_ | refine pU ?_); push_cast [iO, tN]) | (refine pif (fun h => ?_) (fun h => ?_) <;> first | exact pN h | push_cast [iO, tN]))
    cases b
    · have he : fallK t s.reqs (k + 1) = fallK t s.reqs k := fltK_f hlt (by unfold atQ; rw [hod, hb]; rfl)
      push_cast [iO, tN]
      repeat' (first | ((first | refine pC ?_ | refine pQC ?_ | refine pU ?_); push_cast [iO, tN]) | (refine pif (fun h => ?_) (fun h => ?_) <;> first | exact pN h | push_cast [iO, tN]))
      exact ⟨k + 1, by omega, by (refine weak_fg ?_; push_cast [iO, tN, he]), by omega⟩
    by_cases hp : (od.getD default).index = (s.reqs.getD k default).index
    · have he : fallK t s.reqs (k + 1) = fallK t s.reqs k ++ [s.reqs.getD k default] := fltK_t hlt (by unfold atQ; rw [hod, hb]; exact decide_eq_true hp)
      push_cast [iO, tN, (eq_true hp)]
      repeat' (first | ((refine pwp_cut 9 [] ?_; apply pwp_drawn_to; (focus kernel_rfl); (focus (simp only [List.length_cons, List.length_nil, Nat.reduceAdd]; (repeat' first | ((first | refine pah 0 ?_ | refine pah 2 ?_ | refine pah 4 ?_ | refine pah 5 ?_ | refine pah 9 ?_); push_cast [iO, tN, (eq_true hp)]) | (refine pad ?_; first | with_reducible exact weak_cutS 9 [] _ | (refine weak_fg ?_; push_cast [iO, tN, (eq_true hp)])) | ((first | refine pas [1] ?_ | refine pas [3] ?_ | refine pas [6] ?_ | refine pas [7] ?_ | refine pas [8] ?_ | refine pas [10] ?_); push_cast [iO, tN, (eq_true hp)]) | ((first | refine pas [1, 3] ?_ | refine pas [1, 6] ?_ | refine pas [1, 7] ?_); push_cast [iO, tN, (eq_true hp)]; refine ⟨?_, ?_⟩)); done)); push_cast [iO, tN, (eq_true hp)])) | ((first | refine pC ?_ | refine pQC ?_ | refine pU ?_); push_cast [iO, tN, (eq_true hp)]) | (refine pif (fun h => ?_) (fun h => ?_) <;> first | exact pN h | push_cast [iO, tN, (eq_true hp)]))
      exact ⟨k + 1, by omega, by (refine weak_fg ?_; push_cast [iO, tN, he]), by omega⟩
    · have he : fallK t s.reqs (k + 1) = fallK t s.reqs k := fltK_f hlt (by unfold atQ; rw [hod, hb]; exact decide_eq_false hp)
      push_cast [iO, tN, (eq_false hp)]
      repeat' (first | ((first | refine pC ?_ | refine pQC ?_ | refine pU ?_); push_cast [iO, tN, (eq_false hp)]) | (refine pif (fun h => ?_) (fun h => ?_) <;> first | exact pN h | push_cast [iO, tN, (eq_false hp)]))
      exact ⟨k + 1, by omega, by (refine weak_fg ?_; push_cast [iO, tN, he]), by omega⟩
  · have he : fallK t s.reqs k = s.reqs.filter (atQ t) := by have : k = s.reqs.length := by omega
                                                             rw [this]; exact fltK_all _ _
    rw [he]
    repeat' (first | ((first | refine pC ?_ | refine pQC ?_ | refine pU ?_); push_cast [iO, tN]) | (refine pif (fun h => ?_) (fun h => ?_) <;> first | exact pN h | push_cast [iO, tN]))
    (refine retK_of [] ?_; push_cast [iO, tN])
    all_goals exact ⟨rfl, rfl, rfl⟩
end Go.Proofs.YtbonfcphabnlpabGreatDoor
namespace Go.Proofs.YtbonfcphabnlpabGreatDoor
open Go.RowKit
open IntWalk renaming iteOmega → iO, toNatUp → tN
set_option linter.unusedVariables false
set_option linter.unusedSimpArgs false
def swN (k j : Nat) : Nat := if j = k then k + 1 else if j = k + 1 then k else j
theorem swN_sw (k j : Nat) : swN k (swN k j) = j := by unfold swN; split <;> (try split) <;> (try split) <;> omega
theorem swN_lt {k j n : Nat} (hk : k + 1 < n) (hj : j < n) : swN k j < n := by unfold swN; split <;> (try split) <;> omega
def E.sw (k : Nat) : E → E
  | .own j n => .own (swN k j) n
  | .ptr j f => .ptr (swN k j) f
  | .orow j z i f => .orow (swN k j) z i f
  | .fn f ds ks => .fn f ds (ks.map (swN k))
  | .mp j => .mp (swN k j)
  | .seg j z lo n => .seg (swN k j) z lo n
  | e => e
def PV.sw (k : Nat) : PV → PV
  | .c e => .c (e.sw k)
  | .agg cs => .agg (cs.map (E.sw k))
  | .undef => .undef
  | .two x y => .two (x.sw k) (y.sw k)
  | .three x y z => .three (x.sw k) (y.sw k) (z.sw k)
def swT (k : Nat) : List (Nat × PV) → List (Nat × PV)
  | [] => []
  | (i, q) :: t => (i, q.sw k) :: swT k t
def Ob.sw (k : Nat) : Ob → Ob
  | .box ty cs => .box ty (cs.map (E.sw k))
  | .loop l L t => .loop l L (swT k t)
  | o => o
def S.sw (s : S) (k : Nat) : S := match s.o[k]?, s.o[k + 1]? with
  | some a, some b => ⟨swT k s.t, setO (setO (s.o.map (Ob.sw k)) k (b.sw k)) (k + 1) (a.sw k)⟩
  | _, _ => s
theorem look_sw (k i : Nat) : ∀ t : List (Nat × PV), look (swT k t) i = (look t i).map (PV.sw k)
  | [] => rfl
  | (d, q) :: t => by
    simp only [swT, look]
    split
    · rfl
    · exact look_sw k i t
theorem weak_sw {N p : Nat} {s : S} (k : Nat) (hp : p ≤ k) : Weak N p s (s.sw k) := by
  intro Γ a w hA
  unfold S.sw
  split
  case h_2 => exact ⟨Γ, hA, Grow.refl _ _ _⟩
  rename_i oa ob ha hb
  have hm := hA.inv.m
  have hn := hm.n
  have hkl : k + 1 < s.o.length := (List.getElem?_eq_some_iff.1 hb).1
  have hkn : k + 1 < Γ.n := by rw [hn]; exact hkl
  obtain ⟨Γ', hΓ⟩ : ∃ Γ' : G, Γ' = ⟨Γ.n, fun j => Γ.β (swN k j), fun j => Γ.cap (swN k j), Γ.I⟩ := ⟨_, rfl⟩
  have q1 : Γ'.n = Γ.n := by rw [hΓ]
  have q2 : Γ'.I = Γ.I := by rw [hΓ]
  have q3 : ∀ j, Γ'.β (swN k j) = Γ.β j := fun j => by rw [hΓ]; simp only [swN_sw]
  have q4 : ∀ j, Γ'.cap (swN k j) = Γ.cap j := fun j => by rw [hΓ]; simp only [swN_sw]
  have q5 : ∀ j, Γ'.β j = Γ.β (swN k j) := fun j => by rw [hΓ]
  have q6 : ∀ j, Γ'.cap j = Γ.cap (swN k j) := fun j => by rw [hΓ]
  have hE : ∀ (e : E) (y : Value), RE w Γ e y → RE w Γ' (e.sw k) y := by
    intro e y h
    cases e with
    | own j n =>
      refine ⟨by rw [q1]; exact swN_lt hkn h.1, ?_⟩
      have h2 := h.2
      unfold OwnRep at h2 ⊢
      rw [q3, q4]; exact h2
    | ptr j f => exact ⟨by rw [q1]; exact swN_lt hkn h.1, by rw [q3]; exact h.2⟩
    | orow j z i f => exact ⟨by rw [q1]; exact swN_lt hkn h.1, by rw [q3]; exact h.2⟩
    | mp j => exact ⟨by rw [q1]; exact swN_lt hkn h.1, by rw [q3]; exact h.2⟩
    | seg j z lo n =>
      refine ⟨by rw [q1]; exact swN_lt hkn h.1, ?_⟩
      have h2 := h.2
      unfold SegRep at h2 ⊢
      rw [q3, q4]; exact h2
    | fn f ds ks =>
      obtain ⟨xs, h1, h2, h3⟩ := h
      refine ⟨xs, ?_, by rw [q2]; exact h2, fun j hj => ?_⟩
      · rw [h1, List.map_map]
        congr 2
        exact List.map_congr_left fun j _ => by simp only [Function.comp, keyVal, q3]
      · obtain ⟨i, hi, rfl⟩ := List.mem_map.1 hj
        rw [q1]; exact swN_lt hkn (h3 i hi)
    | v x => exact h
    | sl z l => unfold E.sw RE; rw [q2]; exact h
    | full z l => unfold E.sw RE; rw [q2]; exact h
    | row cs => unfold E.sw RE; rw [q2]; exact h
    | any => exact h
  have hEs : ∀ {cs : List E} {ys : List Value}, All2 (RE w Γ) cs ys → All2 (RE w Γ') (cs.map (E.sw k)) ys := fun h => All2.map_l.2 (h.mono hE)
  have hP : ∀ (q : PV) (y : Value), RP w Γ q y → RP w Γ' (q.sw k) y := by
    intro q
    induction q with
    | c e => intro y h; exact hE e y h
    | agg cs => rintro y ⟨xs, h1, h2⟩; exact ⟨xs, h1, hEs h2⟩
    | undef => intro y h; exact h
    | two x z ih1 ih2 => rintro y ⟨u, v, h1, h2, h3⟩; exact ⟨u, v, h1, ih1 u h2, ih2 v h3⟩
    | three x z t ih1 ih2 ih3 => rintro y ⟨u, v, r, h1, h2, h3, h4⟩; exact ⟨u, v, r, h1, ih1 u h2, ih2 v h3, ih3 r h4⟩
  have hO : ∀ (j : Nat) (o : Ob), RO w Γ j o → RO w Γ' (swN k j) (o.sw k) := by
    intro j o h0
    cases o with
    | box ty cs =>
      obtain ⟨j1, xs, j2, j3, j6⟩ := h0
      exact ⟨by rw [q4]; exact j1, xs, by rw [q3]; exact j2, hEs j3, by unfold Room; rw [q4]; exact j6⟩
    | arr el' sz' rows' =>
      obtain ⟨j1, j2, j3, j4⟩ := h0
      refine ⟨j1, j2, by rw [q4]; exact j3, fun hc => ?_⟩
      rw [q4] at hc ⊢
      obtain ⟨cur, m1, m2, m3, m4, m5⟩ := j4 hc
      exact ⟨cur, by rw [q3]; exact m1, m2, m3, m4, by rw [q2]; exact m5⟩
    | map kk ag es =>
      obtain ⟨j1, ms, ck, j2, j3⟩ := h0
      exact ⟨by rw [q4]; exact j1, ms, ck, by rw [q3]; exact j2, by rw [q2]; exact j3⟩
    | loop l L t =>
      obtain ⟨j1, j2, tm, j3, j4, j5⟩ := h0
      refine ⟨by rw [q4]; exact j1, by rw [q3]; exact j2, tm, j3, j4, fun i q hq => ?_⟩
      rw [look_sw] at hq
      obtain ⟨q0, hq0, rfl⟩ := Option.map_eq_some_iff.1 hq
      obtain ⟨i1, i2⟩ := j5 i q0 hq0
      exact ⟨i1, hP q0 _ i2⟩
  have hsk : swN k k = k + 1 := by unfold swN; simp
  have hsk1 : swN k (k + 1) = k := by unfold swN; simp
  refine ⟨Γ', ⟨⟨hA.inv.size, hA.inv.defers, fun i q hq => ?_, ⟨by rw [q1, hn]; simp [setO], fun j o ho => ?_, fun j j' h1 h2 h3 h4 h5 => ?_, fun j h1 h2 => ?_, fun b hb => ?_, ⟨hm.pin.1, fun b hb => by rw [q2]; exact hm.pin.2 b hb⟩⟩⟩, by rw [q1]; exact hA.le⟩, ⟨Ext.refl _ _, fun b hb => by rw [q2]; exact hb, fun j h1 h2 => ?_, fun b hb => ?_, fun j hj => ?_⟩⟩
  · simp only [S.get] at hq
    rw [look_sw] at hq
    obtain ⟨q0, hq0, rfl⟩ := Option.map_eq_some_iff.1 hq
    obtain ⟨i1, i2⟩ := hA.inv.t i q0 hq0
    exact ⟨i1, hP q0 _ i2⟩
  · simp only [setO] at ho
    by_cases e1 : k + 1 = j
    · subst e1
      rw [List.getElem?_set_self (by simp; exact hkl)] at ho
      cases ho
      have := hO k oa (hm.ob k oa ha)
      rwa [hsk] at this
    rw [List.getElem?_set_ne e1] at ho
    by_cases e2 : k = j
    · subst e2
      rw [List.getElem?_set_self (by simp; omega)] at ho
      cases ho
      have := hO (k + 1) ob (hm.ob (k + 1) ob hb)
      rwa [hsk1] at this
    rw [List.getElem?_set_ne e2, List.getElem?_map] at ho
    obtain ⟨o0, ho0, rfl⟩ := Option.map_eq_some_iff.1 ho
    have := hO j o0 (hm.ob j o0 ho0)
    have e3 : swN k j = j := by unfold swN; rw [if_neg (by omega), if_neg (by omega)]
    rwa [e3] at this
  · rw [q1] at h1 h2
    rw [q6] at h3 h4
    rw [q5, q5] at h5
    have := hm.sep _ _ (swN_lt hkn h1) (swN_lt hkn h2) h3 h4 h5
    have h6 := congrArg (swN k) this
    rwa [swN_sw, swN_sw] at h6
  · rw [q1] at h1
    rw [q6] at h2
    rw [q5, q2]
    exact hm.off _ (swN_lt hkn h1) h2
  · rw [q2] at hb; exact hm.lt b hb
  · rw [q1] at h1
    rw [q6] at h2
    exact .inl ⟨swN k j, swN_lt hkn h1, h2, (q5 j).symm⟩
  · rw [q2] at hb; exact .inl hb
  · have e3 : swN k j = j := by unfold swN; rw [if_neg (by omega), if_neg (by omega)]
    rw [q5, q6, e3]; exact ⟨rfl, rfl⟩
attribute [push_cast] S.sw E.sw PV.sw Ob.sw swT swN
end Go.Proofs.YtbonfcphabnlpabGreatDoor
