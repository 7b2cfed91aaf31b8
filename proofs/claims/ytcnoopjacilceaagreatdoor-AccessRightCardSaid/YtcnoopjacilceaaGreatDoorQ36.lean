/- What the program computes, and the plain laws of it, part 36. -/
import Derived.Test.YtcnoopjacilceaaGreatDoorQ35
namespace Go.Proofs.YtcnoopjacilceaaGreatDoor
open Go.RowKit
open IntWalk renaming iteOmega → iO, toNatUp → tN
set_option linter.unusedVariables false
set_option linter.unusedSimpArgs false
def swN (k j : Nat) : Nat := if j = k then k + 1 else if j = k + 1 then k else j
theorem swN_sw (k j : Nat) : swN k (swN k j) = j := by unfold swN; split <;> (try split) <;> (try split) <;> omega
theorem swN_lt {k j n : Nat} (hk : k + 1 < n) (hj : j < n) : swN k j < n := by unfold swN; split <;> (try split) <;> omega
def E.sw (k : Nat) : E → E
  | .own j n => .own (swN k j) n
  | .ptr j f => .ptr (swN k j) f
  | .orow j z i f => .orow (swN k j) z i f
  | .fn f ds ks => .fn f ds (ks.map (swN k))
  | .mp j => .mp (swN k j)
  | .seg j z lo n => .seg (swN k j) z lo n
  | e => e
def PV.sw (k : Nat) : PV → PV
  | .c e => .c (e.sw k)
  | .agg cs => .agg (cs.map (E.sw k))
  | .undef => .undef
  | .two x y => .two (x.sw k) (y.sw k)
  | .three x y z => .three (x.sw k) (y.sw k) (z.sw k)
def swT (k : Nat) : List (Nat × PV) → List (Nat × PV)
  | [] => []
  | (i, q) :: t => (i, q.sw k) :: swT k t
def Ob.sw (k : Nat) : Ob → Ob
  | .box ty cs => .box ty (cs.map (E.sw k))
  | .loop l L t => .loop l L (swT k t)
  | o => o
def S.sw (s : S) (k : Nat) : S := match s.o[k]?, s.o[k + 1]? with
  | some a, some b => ⟨swT k s.t, setO (setO (s.o.map (Ob.sw k)) k (b.sw k)) (k + 1) (a.sw k)⟩
  | _, _ => s
theorem look_sw (k i : Nat) : ∀ t : List (Nat × PV), look (swT k t) i = (look t i).map (PV.sw k)
  | [] => rfl
  | (d, q) :: t => by
    simp only [swT, look]
    split
    · rfl
    · exact look_sw k i t
theorem weak_sw {N p : Nat} {s : S} (k : Nat) (hp : p ≤ k) : Weak N p s (s.sw k) := by
  intro Γ a w hA
  unfold S.sw
  split
  case h_2 => exact ⟨Γ, hA, Grow.refl _ _ _⟩
  rename_i oa ob ha hb
  have hm := hA.inv.m
  have hn := hm.n
  have hkl : k + 1 < s.o.length := (List.getElem?_eq_some_iff.1 hb).1
  have hkn : k + 1 < Γ.n := by rw [hn]; exact hkl
  obtain ⟨Γ', hΓ⟩ : ∃ Γ' : G, Γ' = ⟨Γ.n, fun j => Γ.β (swN k j), fun j => Γ.cap (swN k j), Γ.I⟩ := ⟨_, rfl⟩
  have q1 : Γ'.n = Γ.n := by rw [hΓ]
  have q2 : Γ'.I = Γ.I := by rw [hΓ]
  have q3 : ∀ j, Γ'.β (swN k j) = Γ.β j := fun j => by rw [hΓ]; simp only [swN_sw]
  have q4 : ∀ j, Γ'.cap (swN k j) = Γ.cap j := fun j => by rw [hΓ]; simp only [swN_sw]
  have q5 : ∀ j, Γ'.β j = Γ.β (swN k j) := fun j => by rw [hΓ]
  have q6 : ∀ j, Γ'.cap j = Γ.cap (swN k j) := fun j => by rw [hΓ]
  have hE : ∀ (e : E) (y : Value), RE w Γ e y → RE w Γ' (e.sw k) y := by
    intro e y h
    cases e with
    | own j n =>
      refine ⟨by rw [q1]; exact swN_lt hkn h.1, ?_⟩
      have h2 := h.2
      unfold OwnRep at h2 ⊢
      rw [q3, q4]; exact h2
    | ptr j f => exact ⟨by rw [q1]; exact swN_lt hkn h.1, by rw [q3]; exact h.2⟩
    | orow j z i f => exact ⟨by rw [q1]; exact swN_lt hkn h.1, by rw [q3]; exact h.2⟩
    | mp j => exact ⟨by rw [q1]; exact swN_lt hkn h.1, by rw [q3]; exact h.2⟩
    | seg j z lo n =>
      refine ⟨by rw [q1]; exact swN_lt hkn h.1, ?_⟩
      have h2 := h.2
      unfold SegRep at h2 ⊢
      rw [q3, q4]; exact h2
    | fn f ds ks =>
      obtain ⟨xs, h1, h2, h3⟩ := h
      refine ⟨xs, ?_, by rw [q2]; exact h2, fun j hj => ?_⟩
      · rw [h1, List.map_map]
        congr 2
        exact List.map_congr_left fun j _ => by simp only [Function.comp, keyVal, q3]
      · obtain ⟨i, hi, rfl⟩ := List.mem_map.1 hj
        rw [q1]; exact swN_lt hkn (h3 i hi)
    | v x => exact h
    | sl z l => unfold E.sw RE; rw [q2]; exact h
    | full z l => unfold E.sw RE; rw [q2]; exact h
    | row cs => unfold E.sw RE; rw [q2]; exact h
    | any => exact h
  have hEs : ∀ {cs : List E} {ys : List Value}, All2 (RE w Γ) cs ys → All2 (RE w Γ') (cs.map (E.sw k)) ys := fun h => All2.map_l.2 (h.mono hE)
  have hP : ∀ (q : PV) (y : Value), RP w Γ q y → RP w Γ' (q.sw k) y := by
    intro q
    induction q with
    | c e => intro y h; exact hE e y h
    | agg cs => rintro y ⟨xs, h1, h2⟩; exact ⟨xs, h1, hEs h2⟩
    | undef => intro y h; exact h
    | two x z ih1 ih2 => rintro y ⟨u, v, h1, h2, h3⟩; exact ⟨u, v, h1, ih1 u h2, ih2 v h3⟩
    | three x z t ih1 ih2 ih3 => rintro y ⟨u, v, r, h1, h2, h3, h4⟩; exact ⟨u, v, r, h1, ih1 u h2, ih2 v h3, ih3 r h4⟩
  have hO : ∀ (j : Nat) (o : Ob), RO w Γ j o → RO w Γ' (swN k j) (o.sw k) := by
    intro j o h0
    cases o with
    | box ty cs =>
      obtain ⟨j1, xs, j2, j3, j6⟩ := h0
      exact ⟨by rw [q4]; exact j1, xs, by rw [q3]; exact j2, hEs j3, by unfold Room; rw [q4]; exact j6⟩
    | arr el' sz' rows' =>
      obtain ⟨j1, j2, j3, j4⟩ := h0
      refine ⟨j1, j2, by rw [q4]; exact j3, fun hc => ?_⟩
      rw [q4] at hc ⊢
      obtain ⟨cur, m1, m2, m3, m4, m5⟩ := j4 hc
      exact ⟨cur, by rw [q3]; exact m1, m2, m3, m4, by rw [q2]; exact m5⟩
    | map kk ag es =>
      obtain ⟨j1, ms, ck, j2, j3⟩ := h0
      exact ⟨by rw [q4]; exact j1, ms, ck, by rw [q3]; exact j2, by rw [q2]; exact j3⟩
    | loop l L t =>
      obtain ⟨j1, j2, tm, j3, j4, j5⟩ := h0
      refine ⟨by rw [q4]; exact j1, by rw [q3]; exact j2, tm, j3, j4, fun i q hq => ?_⟩
      rw [look_sw] at hq
      obtain ⟨q0, hq0, rfl⟩ := Option.map_eq_some_iff.1 hq
      obtain ⟨i1, i2⟩ := j5 i q0 hq0
      exact ⟨i1, hP q0 _ i2⟩
  have hsk : swN k k = k + 1 := by unfold swN; simp
  have hsk1 : swN k (k + 1) = k := by unfold swN; simp
  refine ⟨Γ', ⟨⟨hA.inv.size, hA.inv.defers, fun i q hq => ?_, ⟨by rw [q1, hn]; simp [setO], fun j o ho => ?_, fun j j' h1 h2 h3 h4 h5 => ?_, fun j h1 h2 => ?_, fun b hb => ?_, ⟨hm.pin.1, fun b hb => by rw [q2]; exact hm.pin.2 b hb⟩⟩⟩, by rw [q1]; exact hA.le⟩, ⟨Ext.refl _ _, fun b hb => by rw [q2]; exact hb, fun j h1 h2 => ?_, fun b hb => ?_, fun j hj => ?_⟩⟩
  · simp only [S.get] at hq
    rw [look_sw] at hq
    obtain ⟨q0, hq0, rfl⟩ := Option.map_eq_some_iff.1 hq
    obtain ⟨i1, i2⟩ := hA.inv.t i q0 hq0
    exact ⟨i1, hP q0 _ i2⟩
  · simp only [setO] at ho
    by_cases e1 : k + 1 = j
    · subst e1
      rw [List.getElem?_set_self (by simp; exact hkl)] at ho
      cases ho
      have := hO k oa (hm.ob k oa ha)
      rwa [hsk] at this
    rw [List.getElem?_set_ne e1] at ho
    by_cases e2 : k = j
    · subst e2
      rw [List.getElem?_set_self (by simp; omega)] at ho
      cases ho
      have := hO (k + 1) ob (hm.ob (k + 1) ob hb)
      rwa [hsk1] at this
    rw [List.getElem?_set_ne e2, List.getElem?_map] at ho
    obtain ⟨o0, ho0, rfl⟩ := Option.map_eq_some_iff.1 ho
    have := hO j o0 (hm.ob j o0 ho0)
    have e3 : swN k j = j := by unfold swN; rw [if_neg (by omega), if_neg (by omega)]
    rwa [e3] at this
  · rw [q1] at h1 h2
    rw [q6] at h3 h4
    rw [q5, q5] at h5
    have := hm.sep _ _ (swN_lt hkn h1) (swN_lt hkn h2) h3 h4 h5
    have h6 := congrArg (swN k) this
    rwa [swN_sw, swN_sw] at h6
  · rw [q1] at h1
    rw [q6] at h2
    rw [q5, q2]
    exact hm.off _ (swN_lt hkn h1) h2
  · rw [q2] at hb; exact hm.lt b hb
  · rw [q1] at h1
    rw [q6] at h2
    exact .inl ⟨swN k j, swN_lt hkn h1, h2, (q5 j).symm⟩
  · rw [q2] at hb; exact .inl hb
  · have e3 : swN k j = j := by unfold swN; rw [if_neg (by omega), if_neg (by omega)]
    rw [q5, q6, e3]; exact ⟨rfl, rfl⟩
attribute [push_cast] S.sw E.sw PV.sw Ob.sw swT swN
end Go.Proofs.YtcnoopjacilceaaGreatDoor
namespace Go.Proofs.YtcnoopjacilceaaGreatDoor
attribute [local irreducible] PL QL PWPr PCalls Weak RetK Kontr PA
open Go.RowKit
open IntWalk renaming iteOmega → iO, toNatUp → tN
set_option linter.unusedVariables false
set_option linter.unusedSimpArgs false
set_option maxRecDepth 20000
abbrev viewM (l : List Dev) : List Ob := [.map (some .i64) false (placeE l l.length), .map (some .i64) false (origE l l.length)]
theorem vfind_pure (l : List Dev) (n : Int) (h : Okp l) (hl : l.length ≤ 1000) :
    PCalls Tryz.prog 110 [.agg [.sl 10 (l.map Dev.d), .mp 0, .mp 1], .c (.v (.int .i64 n))] (viewM l) fun r os => r = .two (.agg ((findD l n).getD default).e) (.c (.v (.bool ((findD l n).isSome)))) ∧ os = viewM l := by
  rcases mget_placeE h n with ⟨h1, h2⟩ | ⟨j, hj, h1, h2⟩
  · refine pcalls_of Tryz.func110 rfl (by simp [Tryz.ntmps110]) ?_
    rw [Tryz.ntmps110, Tryz.results110]
    push_cast [iO, tN]
    repeat' (first | ((first | refine pG ?_ | refine pQ ?_ | refine pU ?_); push_cast [iO, tN, h1]) | (refine pif (fun h => ?_) (fun h => ?_) <;> first | exact pN h | push_cast [iO, tN, h1]))
    (refine retK_of [0, 1] ?_; push_cast [iO, tN, h2, Option.getD_none, Option.isSome_none])
    repeat' (first | exact rfl | exact leOs_refl _ | exact trivial | refine ⟨?_, ?_⟩)
  · refine pcalls_of Tryz.func110 rfl (by simp [Tryz.ntmps110]) ?_
    rw [Tryz.ntmps110, Tryz.results110]
    push_cast [iO, tN]
    repeat' (first | ((first | refine pG ?_ | refine pQ ?_ | refine pU ?_); push_cast [iO, tN, h1]) | (refine pif (fun h => ?_) (fun h => ?_) <;> first | exact pN h | push_cast [iO, tN, h1]))
    (refine retK_of [0, 1] ?_; push_cast [iO, tN, h2, Option.getD_some, Option.isSome_some])
    all_goals exact ⟨_, _, leP_refl _, leOs_refl _, rfl, rfl⟩
theorem up_pure (l : List Dev) (n : Int) :
    PCalls Tryz.prog 82 [.agg [.sl 10 (l.map Dev.d), .mp 0, .mp 1], .c (.v (.int .i64 n))] (viewM l) fun r os => r = .c (.fn (.func 109) [] [2, 3]) ∧ os = [.map (some .i64) false (placeE l l.length), .map (some .i64) false (origE l l.length), .box 109 [.sl 10 (l.map Dev.d), .mp 0, .mp 1], .box 3 [.v (.int .i64 n)]] := by
  refine pcalls_of Tryz.func82 rfl (by simp [Tryz.ntmps82]) ?_
  rw [Tryz.ntmps82, Tryz.results82]
  push_cast [iO, tN]
  repeat' (first | ((first | refine pG ?_ | refine pQ ?_ | refine pU ?_); push_cast [iO, tN]) | (refine pif (fun h => ?_) (fun h => ?_) <;> first | exact pN h | push_cast [iO, tN]))
  (refine retK_of [0, 1, 2, 3] ?_; push_cast [iO, tN])
theorem find1_pure (n : Int) (d : Dev) : PCalls Tryz.prog 81 [.agg d.e, .c (.ptr 0 0)] [.box 3 [.v (.int .i64 n)]] fun r os => r = .c (.v (.bool (decide (d.index = n)))) ∧ os = [.box 3 [.v (.int .i64 n)]] := by
  refine pcalls_of Tryz.func81 rfl (by simp [Tryz.ntmps81]) ?_
  rw [Tryz.ntmps81, Tryz.results81]
  push_cast [iO, tN]
  repeat' (first | ((first | refine pG ?_ | refine pQ ?_ | refine pU ?_); push_cast [iO, tN]) | (refine pif (fun h => ?_) (fun h => ?_) <;> first | exact pN h | push_cast [iO, tN]))
  (refine retK_of [0] ?_; push_cast [iO, tN])
theorem firstF_pure (l : List Dev) (n : Int) (hl : l.length ≤ 1000) (ha : ∀ d ∈ l, d.attrs.length ≤ 1000000000) : PCalls Tryz.prog 80 [.agg (trE l), .c (.fn (.func 81) [] [0])] [.box 3 [.v (.int .i64 n)]] fun r os => r = .two (.agg ((findD l n).getD default).e) (.c (.v (.bool ((findD l n).isSome)))) ∧ os = [.box 3 [.v (.int .i64 n)]] := by
  have hi := indexFuncD_pure l (by omega) 81 [0] [.box 3 [.v (.int .i64 n)]] (fun d => decide (d.index = n)) ⟨by kernel_rfl, fun x _ => find1_pure n x⟩
  refine pcalls_of Tryz.func80 rfl (by simp [Tryz.ntmps80]) ?_
  rw [Tryz.ntmps80, Tryz.results80]
  push_cast [iO, tN]
  repeat' (first | ((first | refine pG ?_ | refine pQ ?_ | refine pU ?_); push_cast [iO, tN]) | (refine pif (fun h => ?_) (fun h => ?_) <;> first | exact pN h | push_cast [iO, tN]))
  (refine plc [0] (hi) ?_ ?_; push_cast [iO, tN]; rintro r os ⟨k, hk, rfl, rfl⟩; push_cast [iO, tN])
  rcases hk with ⟨rfl, hn⟩ | ⟨i, rfl, hi2, hq, hpre⟩
  · have hR : findD l n = none := find_no hn
    repeat' (first | ((first | refine pG ?_ | refine pQ ?_ | refine pU ?_); push_cast [iO, tN]) | (refine pif (fun h => ?_) (fun h => ?_) <;> first | exact pN h | push_cast [iO, tN]))
    (refine retK_of [0] ?_; push_cast [iO, tN, hR, Option.getD_none, Option.isSome_none])
    repeat' (first | exact rfl | exact leOs_refl _ | exact trivial | refine ⟨?_, ?_⟩)
  · have hR : findD l n = some (l.getD i default) := find_at hi2 hq hpre
    have hcp := copied_pure (l.getD i default) (ha _ (by rw [getD_lt l hi2]; exact List.getElem_mem _))
    repeat' (first |  (refine plc [] (hcp) ?_ ?_; push_cast [iO, tN]; rintro r os ⟨rfl, rfl⟩; push_cast [iO, tN])  | ((first | refine pG ?_ | refine pQ ?_ | refine pU ?_); push_cast [iO, tN]) | (refine pif (fun h => ?_) (fun h => ?_) <;> first | exact pN h | push_cast [iO, tN]))
    (refine retK_of [0] ?_; push_cast [iO, tN, hR, Option.getD_some, Option.isSome_some])
    all_goals exact ⟨_, _, leP_refl _, leOs_refl _, rfl, rfl⟩
theorem tfind_pure (l : List Dev) (n : Int) (hl : l.length ≤ 1000) (ha : ∀ d ∈ l, d.attrs.length ≤ 1000000000) : PCalls Tryz.prog 38 [.agg (trE l), .c (.v (.int .i64 n))] [] fun r os => r = .two (.agg ((findD l n).getD default).e) (.c (.v (.bool ((findD l n).isSome)))) ∧ os = [] := by
  have hf := firstF_pure l n hl ha
  refine pcalls_of Tryz.func38 rfl (by simp [Tryz.ntmps38]) ?_
  rw [Tryz.ntmps38, Tryz.results38]
  push_cast [iO, tN]
  repeat' (first |  (refine plc [1] (hf) ?_ ?_; push_cast [iO, tN]; rintro r os ⟨rfl, rfl⟩; push_cast [iO, tN])  | ((first | refine pG ?_ | refine pQ ?_ | refine pU ?_); push_cast [iO, tN]) | (refine pif (fun h => ?_) (fun h => ?_) <;> first | exact pN h | push_cast [iO, tN]))
  (refine retK_of [] ?_; push_cast [iO, tN])
theorem anc_start (l : List Dev) (n : Int) : [] ++ (chainGo l (l.length - 0) n).filter (fun d => decide (d.index ≠ n)) = ancM l n := rfl
theorem anc_none {l acc : List Dev} {n c : Int} {k : Nat} (h : acc ++ (chainGo l k c).filter (fun d => decide (d.index ≠ n)) = ancM l n) (hf : findD l c = none) : acc = ancM l n := by
  rw [chainGo_none hf, List.filter_nil, List.append_nil] at h
  exact h
theorem anc_zero {l acc : List Dev} {n c : Int} (h : acc ++ (chainGo l 0 c).filter (fun d => decide (d.index ≠ n)) = ancM l n) : acc = ancM l n := by
  rw [chainGo, List.filter_nil, List.append_nil] at h
  exact h
theorem anc_skip {l acc : List Dev} {n c : Int} {k : Nat} {d : Dev} (h : acc ++ (chainGo l (k + 1) c).filter (fun d => decide (d.index ≠ n)) = ancM l n) (hf : findD l c = some d) (he : d.index = n) : acc ++ (chainGo l k d.parent).filter (fun d => decide (d.index ≠ n)) = ancM l n := by
  rw [chainGo_some hf, List.filter_cons_of_neg (by simp [he])] at h
  exact h
theorem anc_take {l acc : List Dev} {n c : Int} {k : Nat} {d : Dev} (h : acc ++ (chainGo l (k + 1) c).filter (fun d => decide (d.index ≠ n)) = ancM l n) (hf : findD l c = some d) (he : ¬ d.index = n) : (acc ++ [d]) ++ (chainGo l k d.parent).filter (fun d => decide (d.index ≠ n)) = ancM l n := by
  rw [chainGo_some hf, List.filter_cons_of_pos (by simp [he])] at h
  rw [List.append_assoc]
  exact h
set_option maxHeartbeats 8000000 in
theorem ancestors_pure (l : List Dev) (n : Int) (h : Okp l) (hl : l.length ≤ 1000) (hz : ∀ d ∈ l, d.original.size ≤ 1000) (ha : ∀ d ∈ l, d.attrs.length ≤ 1000000000) :
    PCalls Tryz.prog 39 [.agg (trE l), .c (.v (.int .i64 n))] [] fun r os => r = .c (.sl 10 ((ancM l n).map Dev.d)) ∧ os = [] := by
  have hk := look_pure l h hl hz
  have hu := up_pure l n
  have hanc : (ancM l n).length ≤ l.length := by unfold ancM; exact Nat.le_trans (List.length_filter_le _ _) (chain_len l n)
  refine pcalls_of Tryz.func39 rfl (by simp [Tryz.ntmps39]) ?_
  rw [Tryz.ntmps39, Tryz.results39]
  push_cast [iO, tN]
  have cB : CutB 7 [10] := trivial
  repeat' (first |  ((refine pwp_cut 7 [10] ?_; apply pwp_drawn_to; (focus kernel_rfl); (focus (simp only [List.length_cons, List.length_nil, Nat.reduceAdd]; (repeat' first | ((refine plc [] (hk) ?_ ?_; push_cast [iO, tN]; rintro r os ⟨rfl, rfl⟩; push_cast [iO, tN])) | ((refine plc [3, 4] (hu) ?_ ?_; push_cast [iO, tN]; rintro r os ⟨rfl, rfl⟩; push_cast [iO, tN])) | (refine pad ?_; first | with_reducible exact weak_cutS 7 [10] _ | (refine weak_fg ?_; push_cast [iO, tN])) | ((first | refine pas [0] ?_ | refine pas [1] ?_ | refine pas [2] ?_ | refine pas [3] ?_); push_cast [iO, tN]) | ((first | refine pas [0, 2] ?_ | refine pas [1, 2] ?_); push_cast [iO, tN]; refine ⟨?_, ?_⟩)); done)); push_cast [iO, tN])) | (refine pwp_seq fun K hK => ?_) | (refine pwp_block ?_)  | ((first | refine pC ?_ | refine pQC ?_ | refine pU ?_); push_cast [iO, tN]) | (refine pif (fun h => ?_) (fun h => ?_) <;> first | exact pN h | push_cast [iO, tN]))
  refine pwp_range (R := fun lo r os' => ∃ L2 t2 c j, os' = [.box 25 (trE l), .box 3 [.v (.int .i64 n)], .box 23 [.own 8 (ancM l n).length], .map (some .i64) false (placeE l l.length), .map (some .i64) false (origE l l.length), .box 109 [.sl 10 (l.map Dev.d), .mp 3, .mp 4], .box 3 [.v (.int .i64 c)], .loop lo L2 t2, .arr 39 10 ((ancM l n).map Dev.d)] ++ j ∧ (j = [] ∨ ∃ b, j = [b]) ∧ L2.st = .ready ∧ L2.pd = none) rfl (by kernel_rfl) (fun lo D fn => ?_) (fun lo r os' hR => ?_)
  · refine pcalls_of_all Tryz.func109 rfl (by simp [Tryz.ntmps109]) ?_
    rw [Tryz.ntmps109, Tryz.results109]
    push_cast [iO, tN]
    refine pwp_weak (weak_adopt_box 2 0 39 10 (by omega) 23 [.v (.slice none 0 0)] rfl rfl) ?_
    push_cast [iO, tN]
    have cB : CutB 6 [7, 8, 9] := trivial
    repeat' (first | ((first | refine pC ?_ | refine pQC ?_ | refine pU ?_); push_cast [iO, tN]) | (refine pif (fun h => ?_) (fun h => ?_) <;> first | exact pN h | push_cast [iO, tN]))
    (apply pwp_loop3 (α := Nat × Int × List Dev) 6 [7, 8, 9] (fun x => [(9, .c (.v (.int .i64 x.1)))]) (fun x => [(2, .box 23 [.own 8 x.2.2.length]), (6, .box 3 [.v (.int .i64 x.2.1)]), (8, .arr 39 10 (x.2.2.map Dev.d))]) (fun x => x.1 ≤ l.length ∧ x.2.2.length ≤ x.1 ∧ x.2.2 ++ (chainGo l (l.length - x.1) x.2.1).filter (fun d => decide (d.index ≠ n)) = ancM l n) (fun x => l.length - x.1) ((0, n, [])); (focus ((try push_cast [iO, tN]); rfl)); (focus exact ⟨Nat.zero_le _, Nat.le_refl _, rfl⟩); (focus ((refine weak_fg ?_; try push_cast [iO, tN]))))
    rintro ⟨j, c, acc⟩ ⟨hj, hal, hacc⟩
    simp only at hj hal hacc
    push_cast [iO, tN]
    have hfd := vfind_pure l c h hl
    by_cases hlt : j < l.length
    · obtain ⟨m, hm⟩ : ∃ m, l.length - j = m + 1 := ⟨l.length - j - 1, by omega⟩
      rw [hm] at hacc
      cases hd : findD l c with
      | none =>
        rw [hd] at hfd
        simp only [Option.getD_none, Option.isSome_none] at hfd
        have he := anc_none hacc hd
        subst he
        repeat' (first |  ((refine plc [3, 4] (hfd) ?_ ?_; push_cast [iO, tN]; rintro r os ⟨rfl, rfl⟩; push_cast [iO, tN]))  | ((first | refine pC ?_ | refine pQC ?_ | refine pU ?_); push_cast [iO, tN]) | (refine pif (fun h => ?_) (fun h => ?_) <;> first | exact pN h | push_cast [iO, tN]))
        exact ⟨_, rfl, by push_cast [iO, tN], _, _, _, [_], rfl, .inr ⟨_, rfl⟩, rfl, rfl⟩
      | some d =>
        rw [hd] at hfd
        simp only [Option.getD_some, Option.isSome_some] at hfd
        have hcp := copied_pure d (ha _ (findD_some hd).1)
        have hm2 : l.length - (j + 1) = m := by omega
        by_cases he : d.index = n
        · have hn2 := anc_skip hacc hd he
          repeat' (first |  ((refine plc [3, 4] (hfd) ?_ ?_; push_cast [iO, tN]; rintro r os ⟨rfl, rfl⟩; push_cast [iO, tN]))  | ((first | refine pC ?_ | refine pQC ?_ | refine pU ?_); push_cast [iO, tN]) | (refine pif (fun h => ?_) (fun h => ?_) <;> first | exact pN h | push_cast [iO, tN]))
          refine pl_yield 7 (qs := [.agg d.e]) rfl (by push_cast [iO, tN]) rfl (by push_cast [iO, tN]) rfl rfl (by push_cast [iO, tN]) rfl rfl ?_
          try dsimp only
          push_cast [iO, tN]
          have cB : CutB 7 [10, 11] := trivial
          repeat' (first | ((first | refine pC ?_ | refine pQC ?_ | refine pU ?_); push_cast [iO, tN]) | (refine pif (fun h => ?_) (fun h => ?_) <;> first | exact pN h | push_cast [iO, tN]))
          simp only [asgQ]
          refine ⟨_, _, rfl, rfl, ?_⟩
          try dsimp only
          repeat' (first | ((first | refine pC ?_ | refine pQC ?_ | refine pU ?_); push_cast [iO, tN, he]) | (refine pif (fun h => ?_) (fun h => ?_) <;> first | exact pN h | push_cast [iO, tN, he]))
          simp only [yldQ]
          refine ⟨_, _, rfl, ?_⟩
          refine pl_of_pops ?_
          push_cast [iO, tN]
          have cB : CutB 6 [7, 8, 9] := trivial
          repeat' (first | ((first | refine pC ?_ | refine pQC ?_ | refine pU ?_); push_cast [iO, tN]) | (refine pif (fun h => ?_) (fun h => ?_) <;> first | exact pN h | push_cast [iO, tN]))
          exact ⟨(j + 1, d.parent, acc), ⟨by simp only; omega, by simp only; omega, by simp only [hm2]; exact hn2⟩, by (refine weak_fg ?_; push_cast [iO, tN]), by simp only; omega⟩
        · have hn2 := anc_take hacc hd he
          repeat' (first |  ((refine plc [3, 4] (hfd) ?_ ?_; push_cast [iO, tN]; rintro r os ⟨rfl, rfl⟩; push_cast [iO, tN]))  | ((first | refine pC ?_ | refine pQC ?_ | refine pU ?_); push_cast [iO, tN]) | (refine pif (fun h => ?_) (fun h => ?_) <;> first | exact pN h | push_cast [iO, tN]))
          refine pl_yield 7 (qs := [.agg d.e]) rfl (by push_cast [iO, tN]) rfl (by push_cast [iO, tN]) rfl rfl (by push_cast [iO, tN]) rfl rfl ?_
          try dsimp only
          push_cast [iO, tN]
          have cB : CutB 7 [10, 11] := trivial
          repeat' (first | ((first | refine pC ?_ | refine pQC ?_ | refine pU ?_); push_cast [iO, tN]) | (refine pif (fun h => ?_) (fun h => ?_) <;> first | exact pN h | push_cast [iO, tN]))
          simp only [asgQ]
          refine ⟨_, _, rfl, rfl, ?_⟩
          try dsimp only
          repeat' (first | ((refine pwp_drawn (by kernel_rfl) ?_; try simp only [List.length_cons, List.length_nil, Nat.reduceAdd]; repeat' first | ((refine plc [] (hcp) ?_ ?_; push_cast [iO, tN,  he]; rintro r os ⟨rfl, rfl⟩; push_cast [iO, tN,  he])) | (refine pl_app2 (e := 39) (sz := 10) (by' := 136) (rows := acc.map Dev.d) (ys := [d.d]) 8 rfl (by push_cast [iO, tN,  he]) (by push_cast [iO, tN,  he]) (by push_cast [iO, tN,  he]) (by push_cast [iO, tN,  he]) (by omega) (by push_cast [iO, tN,  he]) (by push_cast [iO, tN,  he]) (by push_cast [iO, tN,  he]) (by push_cast [iO, tN,  he]) (by simp) (by push_cast [iO, tN,  he]; omega) (by push_cast [iO, tN,  he]; omega) ?_ ?_ <;> (refine pl_of_pops ?_; push_cast [iO, tN,  he])) | (refine pad ?_; try push_cast [iO, tN,  he]) | ((first | refine pas [0] ?_ | refine pas [1] ?_ | refine pas [2] ?_ | refine pas [3] ?_ | refine pas [4] ?_ | refine pas [5] ?_); push_cast [iO, tN,  he]) | ((first | refine pas [0, 1] ?_ | refine pas [0, 2] ?_ | refine pas [0, 3] ?_ | refine pas [0, 4] ?_ | refine pas [0, 5] ?_ | refine pas [1, 2] ?_ | refine pas [1, 3] ?_ | refine pas [1, 4] ?_ | refine pas [1, 5] ?_ | refine pas [2, 3] ?_ | refine pas [2, 4] ?_ | refine pas [2, 5] ?_ | refine pas [3, 4] ?_ | refine pas [3, 5] ?_ | refine pas [4, 5] ?_); push_cast [iO, tN,  he]; refine ⟨?_, ?_⟩) | ((first | refine pas [0, 1, 2] ?_ | refine pas [0, 1, 3] ?_ | refine pas [0, 1, 4] ?_ | refine pas [0, 1, 5] ?_ | refine pas [0, 2, 3] ?_ | refine pas [0, 2, 4] ?_ | refine pas [0, 2, 5] ?_ | refine pas [0, 3, 4] ?_ | refine pas [0, 3, 5] ?_ | refine pas [0, 4, 5] ?_ | refine pas [1, 2, 3] ?_ | refine pas [1, 2, 4] ?_ | refine pas [1, 2, 5] ?_ | refine pas [1, 3, 4] ?_ | refine pas [1, 3, 5] ?_ | refine pas [1, 4, 5] ?_ | refine pas [2, 3, 4] ?_ | refine pas [2, 3, 5] ?_ | refine pas [2, 4, 5] ?_ | refine pas [3, 4, 5] ?_); push_cast [iO, tN,  he]; refine ⟨?_, ?_, ?_⟩))) | ((first | refine pC ?_ | refine pQC ?_ | refine pU ?_); push_cast [iO, tN, he]) | (refine pif (fun h => ?_) (fun h => ?_) <;> first | exact pN h | push_cast [iO, tN, he]))
          all_goals simp only [yldQ]
          all_goals refine ⟨_, _, rfl, ?_⟩
          all_goals push_cast [iO, tN]
          have cB : CutB 6 [7, 8, 9] := trivial
          all_goals have cB6 : CutB 6 [7, 8, 9] := trivial
          all_goals first
            | (refine pl_of_pops ?_; push_cast [iO, tN]; (repeat' (first | ((first | refine pC ?_ | refine pQC ?_ | refine pU ?_); push_cast [iO, tN]) | (refine pif (fun h => ?_) (fun h => ?_) <;> first | exact pN h | push_cast [iO, tN]))); refine ⟨(j + 1, d.parent, acc ++ [d]), ⟨by simp only; omega, by simp only [List.length_append, List.length_singleton]; omega, by simp only [hm2]; exact hn2⟩, ?_, by simp only; omega⟩; (refine weak_fg ?_; push_cast [iO, tN]); done)
            | (refine pl_weak (weak_sw 10 (by omega)) ?_; push_cast [iO, tN]; refine pl_weak (weak_sw 9 (by omega)) ?_; push_cast [iO, tN]; refine pl_weak (weak_sw 8 (by omega)) ?_; push_cast [iO, tN]; refine pl_of_pops ?_; push_cast [iO, tN]; (repeat' (first | ((first | refine pC ?_ | refine pQC ?_ | refine pU ?_); push_cast [iO, tN]) | (refine pif (fun h => ?_) (fun h => ?_) <;> first | exact pN h | push_cast [iO, tN]))); refine ⟨(j + 1, d.parent, acc ++ [d]), ⟨by simp only; omega, by simp only [List.length_append, List.length_singleton]; omega, by simp only [hm2]; exact hn2⟩, ?_, by simp only; omega⟩; (refine weak_fg ?_; push_cast [iO, tN]); done)
    · have hj2 : l.length - j = 0 := by omega
      rw [hj2] at hacc
      have he := anc_zero hacc
      subst he
      repeat' (first | ((first | refine pC ?_ | refine pQC ?_ | refine pU ?_); push_cast [iO, tN]) | (refine pif (fun h => ?_) (fun h => ?_) <;> first | exact pN h | push_cast [iO, tN]))
      exact ⟨_, rfl, by push_cast [iO, tN], _, _, _, [], rfl, .inl rfl, rfl, rfl⟩
  · obtain ⟨L2, t2, c, jj, rfl, hj, h1, h2⟩ := hR
    rcases hj with rfl | ⟨b, rfl⟩
    · refine ⟨L2, t2, rfl, by rw [h1]; simp, ?_⟩
      rw [h2]
      simp only [rngfQ]
      have cB : CutB 7 [] := trivial
      push_cast [iO, tN]
      refine pU ?_
      refine pwp_weak (weak_frz 8 (by omega)) ?_
      push_cast [iO, tN]
      repeat' (first | ((first | refine pC ?_ | refine pQC ?_ | refine pU ?_); push_cast [iO, tN]) | (refine pif (fun h => ?_) (fun h => ?_) <;> first | exact pN h | push_cast [iO, tN]))
      (refine retK_of [] ?_; push_cast [iO, tN])
    · refine ⟨L2, t2, rfl, by rw [h1]; simp, ?_⟩
      rw [h2]
      simp only [rngfQ]
      have cB : CutB 7 [] := trivial
      push_cast [iO, tN]
      refine pU ?_
      refine pwp_weak (weak_frz 8 (by omega)) ?_
      push_cast [iO, tN]
      repeat' (first | ((first | refine pC ?_ | refine pQC ?_ | refine pU ?_); push_cast [iO, tN]) | (refine pif (fun h => ?_) (fun h => ?_) <;> first | exact pN h | push_cast [iO, tN]))
      (refine retK_of [] ?_; push_cast [iO, tN])
end Go.Proofs.YtcnoopjacilceaaGreatDoor
