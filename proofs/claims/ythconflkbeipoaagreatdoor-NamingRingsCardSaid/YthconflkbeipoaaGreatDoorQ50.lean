/- What the program computes, and the plain laws of it, part 50. -/
import Derived.Test.YthconflkbeipoaaGreatDoorQ44
import Derived.Test.YthconflkbeipoaaGreatDoorQ49
namespace Go.Proofs.YthconflkbeipoaaGreatDoor
open Go.RowKit
open IntWalk renaming iteOmega → iO, toNatUp → tN
set_option linter.unusedVariables false
set_option linter.unusedSimpArgs false
def leD : D → D → Prop
  | .v x, .v y => x = y
  | .v x, .sl _ l => isEmp x = true ∧ l = []
  | .sl sz l, .sl sz' l' => sz = sz' ∧ l = l'
  | _, _ => False
def leDs : List D → List D → Prop
  | [], [] => True
  | a :: l, b :: m => leD a b ∧ leDs l m
  | _, _ => False
theorem leD_ok {w : World} {I : Nat → Prop} {d d' : D} {y : Value} (h : leD d d') (hr : RD w I d y) : RD w I d' y := by
  cases d with
  | v x =>
    cases d' with
    | v z => obtain rfl : x = z := h; exact hr
    | sl sz l =>
      obtain ⟨h, rfl⟩ := h
      obtain ⟨A, c, rfl⟩ := isEmp_ok h
      rw [RD] at hr
      rw [rd_sl, hr.1]
      exact ⟨A, c, [], rfl, Nat.zero_le _, Rd.nil, by simp, trivial⟩
  | sl sz l =>
    cases d' with
    | v z => exact h.elim
    | sl sz' l' => obtain ⟨rfl, rfl⟩ := h; exact hr
theorem leDs_ok {w : World} {I : Nat → Prop} : ∀ {r r' : List D} {ys : List Value}, leDs r r' → All2 (RD w I) r ys → All2 (RD w I) r' ys
  | [], [], _, _, hr => hr
  | a :: l, b :: m, y :: ys, h, hr => ⟨leD_ok h.1 hr.1, leDs_ok h.2 hr.2⟩
  | _ :: _, _ :: _, [], _, hr => hr.elim
  | [], _ :: _, _, h, _ => h.elim
  | _ :: _, [], _, h, _ => h.elim
theorem leDs_length : ∀ {r r' : List D}, leDs r r' → r.length = r'.length
  | [], [], _ => rfl
  | a :: l, b :: m, h => by simp [leDs_length h.2]
  | [], _ :: _, h => h.elim
  | _ :: _, [], h => h.elim
attribute [push_cast] leD leDs
theorem weak_last {N p : Nat} {s : S} (k : Nat) {el : TypeId} {sz : Nat} {pre : List (List D)} {r : List D} (r' : List D) (hk : s.o[k]? = some (.arr el sz (pre ++ [r]))) (h : leDs r r') : Weak N p s ⟨s.t, setO s.o k (.arr el sz (pre ++ [r']))⟩ := by
  intro Γ a w hA
  have hm := hA.inv.m
  have hkl : k < s.o.length := (List.getElem?_eq_some_iff.1 hk).1
  refine ⟨Γ, ⟨⟨hA.inv.size, hA.inv.defers, hA.inv.t, ⟨by simp [setO, hm.n], fun j o ho => ?_, hm.sep, hm.off, hm.lt, hm.pin⟩⟩, hA.le⟩, Grow.refl _ _ _⟩
  simp only [setO] at ho
  by_cases e : k = j
  · subst e
    rw [List.getElem?_set_self hkl] at ho
    cases ho
    obtain ⟨g1, g2, g3, g4⟩ := hm.ob k _ hk
    refine ⟨fun x hx => ?_, g2, fun h => absurd (g3 h) (by simp), fun hc => ?_⟩
    · rcases List.mem_append.1 hx with hx | hx
      · exact g1 x (by simp [hx])
      · simp at hx; subst hx; rw [← leDs_length h]; exact g1 r (by simp)
    obtain ⟨cur, b1, b2, b3, b4, b5⟩ := g4 hc
    refine ⟨cur, b1, b2, by simpa using b3, b4, ?_⟩
    have e2 : (pre ++ [r']).length = (pre ++ [r]).length := by simp
    rw [e2]
    rw [List.flatten_append] at b5 ⊢
    obtain ⟨x1, x2, hx, h1, h2⟩ := b5.split
    rw [hx]
    refine h1.append ?_
    simp only [List.flatten_cons, List.flatten_nil, List.append_nil] at h2 ⊢
    exact leDs_ok h h2
  · rw [List.getElem?_set_ne e] at ho
    exact hm.ob j o ho
def leRows : List (List D) → List (List D) → Prop
  | [], [] => True
  | a :: l, b :: m => leDs a b ∧ leRows l m
  | _, _ => False
theorem leRows_ok {w : World} {I : Nat → Prop} : ∀ {r r' : List (List D)} {ys : List Value}, leRows r r' → All2 (RD w I) r.flatten ys → All2 (RD w I) r'.flatten ys
  | [], [], _, _, hr => hr
  | a :: l, b :: m, ys, h, hr => by
    simp only [List.flatten_cons] at hr ⊢
    obtain ⟨x, y, rfl, h1, h2⟩ := hr.split
    exact (leDs_ok h.1 h1).append (leRows_ok h.2 h2)
  | [], _ :: _, _, h, _ => h.elim
  | _ :: _, [], _, h, _ => h.elim
theorem leRows_length : ∀ {r r' : List (List D)}, leRows r r' → r.length = r'.length
  | [], [], _ => rfl
  | a :: l, b :: m, h => by simp [leRows_length h.2]
  | [], _ :: _, h => h.elim
  | _ :: _, [], h => h.elim
theorem leRows_mem {sz : Nat} : ∀ {r r' : List (List D)}, leRows r r' → (∀ x ∈ r, x.length = sz) → ∀ x ∈ r', x.length = sz
  | [], [], _, _, x, hx => by simp at hx
  | a :: l, b :: m, h, hr, x, hx => by
    rcases List.mem_cons.1 hx with rfl | hx
    · rw [← leDs_length h.1]; exact hr a (by simp)
    · exact leRows_mem h.2 (fun y hy => hr y (by simp [hy])) x hx
  | [], _ :: _, h, _, _, _ => h.elim
  | _ :: _, [], h, _, _, _ => h.elim
attribute [push_cast] leRows
theorem weak_rows {N p : Nat} {s : S} (i : Nat) {sz : Nat} {l : List (List D)} (l' : List (List D)) (hi : s.get i = some (.c (.full sz l))) (h : leRows l l') : Weak N p s ⟨(i, .c (.sl sz l')) :: s.t, s.o⟩ := by
  intro Γ a w hA
  refine ⟨Γ, ⟨⟨hA.inv.size, hA.inv.defers, fun j q hq => ?_, hA.inv.m⟩, hA.le⟩, Grow.refl _ _ _⟩
  simp only [S.get, look] at hq
  split at hq
  · rename_i e
    subst e
    cases hq
    obtain ⟨h1, h2, _⟩ := hA.inv.t j _ hi
    refine ⟨h1, ?_⟩
    obtain ⟨A, c, xs, h3, h4, h5, h6, h7⟩ := rd_sl.1 h2
    show RD w Γ.I (.sl sz l') _
    rw [rd_sl, h3]
    have hl := leRows_length h
    exact ⟨A, c, xs, by rw [hl], by omega, by rw [← hl]; exact h5, leRows_mem h h6, leRows_ok h h7⟩
  · exact hA.inv.t j q hq
end Go.Proofs.YthconflkbeipoaaGreatDoor
namespace Go.Proofs.YthconflkbeipoaaGreatDoor
open Go.RowKit
open IntWalk renaming iteOmega → iO, toNatUp → tN
set_option linter.unusedVariables false
set_option linter.unusedSimpArgs false
def leC : E → E → Prop
  | .full sz l, .sl sz' l' => sz = sz' ∧ leRows l l'
  | .v x, .v y => x = y
  | _, _ => False
def leCs : List E → List E → Prop
  | [], [] => True
  | a :: r, b :: r' => leC a b ∧ leCs r r'
  | _, _ => False
attribute [push_cast] leC leCs
theorem leC_ok {w : World} {Γ : G} {a b : E} {y : Value} (h : leC a b) (hr : RE w Γ a y) : RE w Γ b y := by
  unfold leC at h
  split at h
  · obtain ⟨rfl, h⟩ := h
    obtain ⟨h2, _⟩ := hr
    obtain ⟨A, c, xs, h3, h4, h5, h6, h7⟩ := rd_sl.1 h2
    show RD w Γ.I (.sl _ _) _
    rw [rd_sl, h3]
    have hl := leRows_length h
    exact ⟨A, c, xs, by rw [hl], by omega, by rw [← hl]; exact h5, leRows_mem h h6, leRows_ok h h7⟩
  · subst h; exact hr
  · exact h.elim
theorem leCs_ok {w : World} {Γ : G} : ∀ {a b : List E} {ys : List Value}, leCs a b → All2 (RE w Γ) a ys → All2 (RE w Γ) b ys
  | [], [], _, _, h => h
  | _ :: _, _ :: _, [], _, h => h.elim
  | _ :: _, _ :: _, _ :: _, h, hr => ⟨leC_ok h.1 hr.1, leCs_ok h.2 hr.2⟩
  | [], _ :: _, _, h, _ => h.elim
  | _ :: _, [], _, h, _ => h.elim
theorem weak_boxrows {N p : Nat} {s : S} (k : Nat) {ty : TypeId} {cs : List E} (cs' : List E) (hk : s.o[k]? = some (.box ty cs)) (h : leCs cs cs') : Weak N p s ⟨s.t, setO s.o k (.box ty cs')⟩ := by
  intro Γ a w hA
  have hm := hA.inv.m
  have hkl : k < s.o.length := (List.getElem?_eq_some_iff.1 hk).1
  refine ⟨Γ, ⟨⟨hA.inv.size, hA.inv.defers, hA.inv.t, ⟨by simp [setO, hm.n], fun j o ho => ?_, hm.sep, hm.off, hm.lt, hm.pin⟩⟩, hA.le⟩, Grow.refl _ _ _⟩
  simp only [setO] at ho
  by_cases e : k = j
  · subst e
    rw [List.getElem?_set_self hkl] at ho
    cases ho
    obtain ⟨g1, xs, g2, g3, g4⟩ := hm.ob k _ hk
    exact ⟨g1, xs, g2, leCs_ok h g3, g4⟩
  · rw [List.getElem?_set_ne e] at ho
    exact hm.ob j o ho
theorem weak_aggrows {N p : Nat} {s : S} (i : Nat) {cs : List E} (cs' : List E) (hi : s.get i = some (.agg cs)) (h : leCs cs cs') : Weak N p s ⟨(i, .agg cs') :: s.t, s.o⟩ := by
  intro Γ a w hA
  refine ⟨Γ, ⟨⟨hA.inv.size, hA.inv.defers, fun j q hq => ?_, hA.inv.m⟩, hA.le⟩, Grow.refl _ _ _⟩
  simp only [S.get, look] at hq
  split at hq
  · rename_i e
    subst e
    cases hq
    obtain ⟨h1, xs, h2, h3⟩ := hA.inv.t j _ hi
    exact ⟨h1, xs, h2, leCs_ok h h3⟩
  · exact hA.inv.t j q hq
end Go.Proofs.YthconflkbeipoaaGreatDoor
namespace Go.Proofs.YthconflkbeipoaaGreatDoor
attribute [local irreducible] PL QL PWPr PCalls Weak RetK Kontr PA
open Go.RowKit
open IntWalk renaming iteOmega → iO, toNatUp → tN
set_option linter.unusedVariables false
set_option linter.unusedSimpArgs false
set_option maxRecDepth 20000
theorem ren_eq {a b : Ren} (h1 : a.path = b.path) (h2 : a.old = b.old) (h3 : a.new = b.new) : a = b := by
  cases a; cases b
  simp only at h1 h2 h3
  rw [h1, h2, h3]
set_option maxHeartbeats 2000000 in
theorem sameren_pure (a b : List Ren) (ha : a.length ≤ 9223372036854775807) (hb : b.length ≤ 9223372036854775807) :
    PCalls Tryz.prog 25 [.c (.sl 3 (a.map Ren.d)), .c (.sl 3 (b.map Ren.d))] [] fun r os => r = .c (.v (.bool (decide (a = b)))) ∧ os = [] := by
  refine pcalls_of Tryz.func25 rfl (by simp [Tryz.ntmps25]) ?_
  rw [Tryz.ntmps25, Tryz.results25]
  push_cast [iO, tN]
  have cB : CutB 6 [] := trivial
  by_cases hl : a.length = b.length
  case neg =>
    have hn : decide (a = b) = false := decide_eq_false fun e => hl (by rw [e])
    have hl2 : ¬ (a.length : Int) = (b.length : Int) := by omega
    repeat' (first | ((first | refine pC ?_ | refine pQC ?_ | refine pU ?_); push_cast [iO, tN, hl, hl2]) | (refine pif (fun h => ?_) (fun h => ?_) <;> first | exact pN h | push_cast [iO, tN, hl, hl2]))
    (refine retK_of [] ?_; push_cast [iO, tN, hn])
  have hl2 : (a.length : Int) = (b.length : Int) := by omega
  repeat' (first | ((first | refine pC ?_ | refine pQC ?_ | refine pU ?_); push_cast [iO, tN, hl, hl2]) | (refine pif (fun h => ?_) (fun h => ?_) <;> first | exact pN h | push_cast [iO, tN, hl, hl2]))
  (apply pwp_loop3 (α := Nat) 6 [] (fun k => [(5, .c (.v (.int .i64 k)))]) (fun k => []) (fun k => k ≤ a.length ∧ a.take k = b.take k) (fun k => a.length - k) (0); (focus ((try push_cast [iO, tN]); rfl)); (focus exact ⟨Nat.zero_le _, rfl⟩); (focus ((refine weak_fg ?_; try push_cast [iO, tN]))))
  rintro k ⟨hk, hpre⟩
  push_cast [iO, tN]
  by_cases hlt : k < a.length
  · have hlt' : k < b.length := by omega
    by_cases h1 : (a.getD k default).path = (b.getD k default).path
    · by_cases h2 : (a.getD k default).old = (b.getD k default).old
      · by_cases h3 : (a.getD k default).new = (b.getD k default).new
        · have he := ren_eq h1 h2 h3
          repeat' (first | ((first | refine pC ?_ | refine pQC ?_ | refine pU ?_); push_cast [iO, tN, h1, h2, h3]) | (refine pif (fun h => ?_) (fun h => ?_) <;> first | exact pN h | push_cast [iO, tN, h1, h2, h3]))
          refine ⟨k + 1, ⟨by omega, ?_⟩, by (refine weak_fg ?_; push_cast [iO, tN]), by omega⟩
          rw [List.take_succ_eq_append_getElem hlt, List.take_succ_eq_append_getElem hlt', hpre, ← getD_lt a hlt, ← getD_lt b hlt', he]
        · have hn : decide (a = b) = false := decide_eq_false fun e => h3 (by rw [e])
          repeat' (first | ((first | refine pC ?_ | refine pQC ?_ | refine pU ?_); push_cast [iO, tN, h1, h2, h3]) | (refine pif (fun h => ?_) (fun h => ?_) <;> first | exact pN h | push_cast [iO, tN, h1, h2, h3]))
          (refine retK_of [] ?_; push_cast [iO, tN, hn])
      · have hn : decide (a = b) = false := decide_eq_false fun e => h2 (by rw [e])
        repeat' (first | ((first | refine pC ?_ | refine pQC ?_ | refine pU ?_); push_cast [iO, tN, h1, h2]) | (refine pif (fun h => ?_) (fun h => ?_) <;> first | exact pN h | push_cast [iO, tN, h1, h2]))
        (refine retK_of [] ?_; push_cast [iO, tN, hn])
    · have hn : decide (a = b) = false := decide_eq_false fun e => h1 (by rw [e])
      repeat' (first | ((first | refine pC ?_ | refine pQC ?_ | refine pU ?_); push_cast [iO, tN, h1]) | (refine pif (fun h => ?_) (fun h => ?_) <;> first | exact pN h | push_cast [iO, tN, h1]))
      (refine retK_of [] ?_; push_cast [iO, tN, hn])
  · have hn : decide (a = b) = true := decide_eq_true (by
      have := hpre
      rwa [List.take_of_length_le (by omega), List.take_of_length_le (by omega)] at this)
    repeat' (first | ((first | refine pC ?_ | refine pQC ?_ | refine pU ?_); push_cast [iO, tN]) | (refine pif (fun h => ?_) (fun h => ?_) <;> first | exact pN h | push_cast [iO, tN]))
    (refine retK_of [] ?_; push_cast [iO, tN, hn])
def planB (names now : List Atr) : Bool := ((decide (keys names).Nodup && decide (vals names).Nodup) && (decide (keys now).Nodup && decide (vals now).Nodup)) && (((vals names).all fun v => !decide (v = ⟨#[]⟩)) && (((keys names).all fun n => inM n (keys now)) && now.all fun x => (valOf names x.name).isSome || !inM x.value (vals names)))
theorem planB_ok {names now : List Atr} (h : planB names now = true) : PlanOk names now := by
  unfold planB at h
  simp only [Bool.and_eq_true, decide_eq_true_eq, List.all_eq_true, Bool.or_eq_true, Bool.not_eq_true', decide_eq_false_iff_not, inM_iff] at h
  obtain ⟨⟨⟨h1, h2⟩, h3, h4⟩, h5, h6, h7⟩ := h
  refine ⟨h1, h2, h3, h4, h5, h6, fun x hx hv hm => ?_⟩
  rcases h7 x hx with h8 | h8
  · rw [hv] at h8; cases h8
  · exact inM_false.1 h8 hm
def netD (i : Int) (nm og : ByteArray) : Dev := ⟨i, 0, nm, og, ⟨#[110, 101, 116]⟩, ⟨#[]⟩, ⟨#[]⟩, 4, 0, []⟩
def okpB (l : List Dev) : Bool := (l.all fun d => decide (1 ≤ d.index) && decide (d.parent = 0)) && decide (l.map Dev.index).Nodup
theorem okpB_ok {l : List Dev} (h : okpB l = true) : Okp l := by
  unfold okpB at h
  simp only [Bool.and_eq_true, List.all_eq_true, decide_eq_true_eq] at h
  exact ⟨fun d hd => (h.1 d hd).1, h.2, fun i hi => .inl (h.1 _ (List.getElem_mem _)).2⟩
def kw3 : List Wsh := [⟨⟨#[47, 97]⟩, [⟨#[108, 97, 110, 48]⟩, ⟨#[101, 116, 104, 48]⟩]⟩, ⟨⟨#[47, 98]⟩, [⟨#[108, 97, 110, 48]⟩, ⟨#[101, 116, 104, 49]⟩]⟩, ⟨⟨#[47, 99]⟩, [⟨#[108, 97, 110, 48]⟩]⟩]
def kt2 : List Dev := [netD 1 ⟨#[101, 116, 104, 48]⟩ ⟨#[97]⟩, netD 2 ⟨#[101, 116, 104, 49]⟩ ⟨#[98]⟩]
def kn2 : List Atr := [⟨⟨#[47, 97]⟩, ⟨#[101, 116, 104, 49]⟩⟩, ⟨⟨#[47, 98]⟩, ⟨#[101, 116, 104, 48]⟩⟩]
theorem kw3_ok : wshOk kw3 = true := by decide +kernel
theorem kw3_few : decide (kw3.length * ((wantA2 kw3).length + 2) ≤ 99) = true := by decide +kernel
theorem kw3_as : assignA kw3 = [⟨⟨#[47, 97]⟩, ⟨#[108, 97, 110, 48]⟩⟩, ⟨⟨#[47, 98]⟩, ⟨#[101, 116, 104, 49]⟩⟩, ⟨⟨#[47, 99]⟩, ⟨#[105, 102, 48]⟩⟩] := by decide +kernel
theorem kt2_okp : okpB kt2 = true := by decide +kernel
theorem kt2_fit : fitsB (nowP kt2) kn2 = true := by decide +kernel
theorem kt2_plan : planB kn2 (nowP kt2) = true := by decide +kernel
theorem kt2_is : planOf kn2 (nowP kt2) = [⟨⟨#[47, 97]⟩, ⟨#[101, 116, 104, 48]⟩, ⟨#[114, 101, 110, 97, 109, 101, 48]⟩⟩, ⟨⟨#[47, 98]⟩, ⟨#[101, 116, 104, 49]⟩, ⟨#[101, 116, 104, 48]⟩⟩, ⟨⟨#[47, 97]⟩, ⟨#[114, 101, 110, 97, 109, 101, 48]⟩, ⟨#[101, 116, 104, 49]⟩⟩] := by decide +kernel
theorem kw3_fit : WshFit kw3 := by
  have h : (kw3.all fun w => decide (w.path.size ≤ 100) && (decide (w.names.length ≤ 100) && w.names.all fun s => decide (s.size ≤ 100))) = true := by decide +kernel
  simp only [List.all_eq_true, Bool.and_eq_true, decide_eq_true_eq] at h
  refine ⟨by decide, fun w hw => ?_, fun w hw => ?_, fun w hw s hs => ?_⟩
  · have := (h w hw).1; omega
  · have := (h w hw).2.1; omega
  · have := (h w hw).2.2 s hs; omega
set_option maxHeartbeats 8000000 in
theorem known23_pure : PCalls Tryz.prog 12 [] [] fun r os => r = .c (.v (.bool true)) ∧ os = [] := by
  have ha := assign_ok kw3 kw3_fit kw3_ok (show kw3.length * ((wantA2 kw3).length + 2) ≤ 99 from of_decide_eq_true kw3_few)
  rw [kw3_as] at ha
  unfold kw3 at ha
  have hp := plan_ok kt2 kn2 (okpB_ok kt2_okp) (by decide) (by decide) (by decide) kt2_fit (planB_ok kt2_plan) (by decide +kernel)
  rw [kt2_is] at hp
  unfold kt2 kn2 netD at hp
  have hs := sameren_pure [⟨⟨#[47, 97]⟩, ⟨#[101, 116, 104, 48]⟩, ⟨#[114, 101, 110, 97, 109, 101, 48]⟩⟩, ⟨⟨#[47, 98]⟩, ⟨#[101, 116, 104, 49]⟩, ⟨#[101, 116, 104, 48]⟩⟩, ⟨⟨#[47, 97]⟩, ⟨#[114, 101, 110, 97, 109, 101, 48]⟩, ⟨#[101, 116, 104, 49]⟩⟩] [⟨⟨#[47, 97]⟩, ⟨#[101, 116, 104, 48]⟩, ⟨#[114, 101, 110, 97, 109, 101, 48]⟩⟩, ⟨⟨#[47, 98]⟩, ⟨#[101, 116, 104, 49]⟩, ⟨#[101, 116, 104, 48]⟩⟩, ⟨⟨#[47, 97]⟩, ⟨#[114, 101, 110, 97, 109, 101, 48]⟩, ⟨#[101, 116, 104, 49]⟩⟩] (by decide) (by decide)
  rw [decide_eq_true rfl] at hs
  refine pcalls_of Tryz.func12 rfl (by simp [Tryz.ntmps12]) ?_
  rw [Tryz.ntmps12, Tryz.results12]
  push_cast [iO, tN]
  repeat' (first |  ((refine plc [] (ha) ?_ ?_; push_cast [iO, tN]; rintro r os ⟨rfl, rfl⟩; push_cast [iO, tN]))  | ((first | refine pG ?_ | refine pQ ?_ | refine pU ?_); push_cast [iO, tN]) | (refine pif (fun h => ?_) (fun h => ?_) <;> first | exact pN h | push_cast [iO, tN]))
  refine pl_weak (weak_aggrows 22 (trE kt2) rfl (by simp [kt2, netD, trE, Dev.d, D.e, leCs, leC, leRows, leDs, leD, isEmp])) ?_
  simp only [kt2, netD]
  push_cast [iO, tN]
  (refine plc [] (hp) ?_ ?_; push_cast [iO, tN]; rintro r os ⟨rfl, rfl⟩; push_cast [iO, tN])
  repeat' (first |  ((refine plc [] (hs) ?_ ?_; push_cast [iO, tN]; rintro r os ⟨rfl, rfl⟩; push_cast [iO, tN]))  | ((first | refine pG ?_ | refine pQ ?_ | refine pU ?_); push_cast [iO, tN]) | (refine pif (fun h => ?_) (fun h => ?_) <;> first | exact pN h | push_cast [iO, tN]))
  (refine retK_of [] ?_; push_cast [iO, tN])
end Go.Proofs.YthconflkbeipoaaGreatDoor
namespace Go.Proofs.YthconflkbeipoaaGreatDoor
attribute [local irreducible] PL QL PWPr PCalls Weak RetK Kontr PA
open Go.RowKit
open IntWalk renaming iteOmega → iO, toNatUp → tN
set_option linter.unusedVariables false
set_option linter.unusedSimpArgs false
def nm5 : List ByteArray := [⟨#[97]⟩, ⟨#[98]⟩, ⟨#[99]⟩, ⟨#[100]⟩, ⟨#[101]⟩]
def lt5 (j : Nat) : ByteArray := nm5.getD j default
def netsR (n : Nat) : List Dev := (List.range n).map fun (i : Nat) => netD ((i : Int) + 1) (lt5 i) (lt5 i)
def wantR (pm : List Nat) (k : Nat) : List Atr := (List.range k).map fun i => ⟨⟨#[47]⟩ ++ lt5 i, lt5 (pm.getD i 0)⟩
def wrongR (pm : List Nat) (k : Nat) : Nat := ((List.range k).filter fun i => !decide (pm.getD i 0 = i)).length
def cf (seen : List Bool) : Nat := seen.countP fun b => !b
def rIt (pm : List Nat) (i : Nat) : Nat → Nat × List Bool × Nat → Nat × List Bool × Nat
  | 0, s => s
  | f + 1, (k, seen, r) => if seen.getD k false = false ∧ pm.getD i 0 ≠ i then rIt pm i f (pm.getD k 0, seen.set k true, if k = i then r + 1 else r) else (k, seen, r)
def ringR (pm : List Nat) (n : Nat) : Nat → List Bool × Nat
  | 0 => (List.replicate n false, 0)
  | i + 1 => ((rIt pm i (cf (ringR pm n i).1) (i, ringR pm n i)).2)
def goodR (n : Nat) (pm : List Nat) : Bool := (okpB (netsR n) && fitsB (nowP (netsR n)) (wantR pm n)) && (planB (wantR pm n) (nowP (netsR n)) && decide ((planOf (wantR pm n) (nowP (netsR n))).length = wrongR pm n + (ringR pm n n).2))
def permsL (n : Nat) : Nat → List (List Nat)
  | 0 => [[]]
  | k + 1 => (permsL n k).flatMap fun l => ((List.range n).filter fun x => !l.contains x).map fun x => x :: l
theorem permsL_mem {n : Nat} : ∀ {l : List Nat}, l.Nodup → (∀ x ∈ l, x < n) → l ∈ permsL n l.length
  | [], _, _ => by simp [permsL]
  | x :: l, h, hb => by
    obtain ⟨h1, h2⟩ := List.nodup_cons.1 h
    rw [List.length_cons, permsL, List.mem_flatMap]
    refine ⟨l, permsL_mem h2 fun y hy => hb y (by simp [hy]), List.mem_map.2 ⟨x, List.mem_filter.2 ⟨List.mem_range.2 (hb x (by simp)), ?_⟩, rfl⟩⟩
    simpa using h1
theorem good_all : ((List.range 6).all fun n => (permsL n n).all (goodR n)) = true := by decide +kernel
structure PermI (n : Nat) (pm : List Nat) : Prop where
  len : pm.length = n
  lt : ∀ x, x < n → pm.getD x 0 < n
  inj : ∀ x y, x < n → y < n → pm.getD x 0 = pm.getD y 0 → x = y
theorem PermI.nodup {n : Nat} {pm : List Nat} (h : PermI n pm) : pm.Nodup := by
  rw [List.Nodup, List.pairwise_iff_getElem]
  intro i j hi hj hij e
  have := h.inj i j (by rw [← h.len]; exact hi) (by rw [← h.len]; exact hj) (by simpa [List.getD, hi, hj] using e)
  omega
theorem PermI.good {n : Nat} {pm : List Nat} (h : PermI n pm) (hn : n < 6) : goodR n pm = true := by
  have hm := permsL_mem (n := n) h.nodup fun x hx => by
    obtain ⟨i, hi, rfl⟩ := List.getElem_of_mem hx
    have := h.lt i (by rw [← h.len]; exact hi)
    simpa [List.getD, hi] using this
  rw [h.len] at hm
  exact List.all_eq_true.1 (List.all_eq_true.1 good_all n (List.mem_range.2 hn)) pm hm
theorem getD_set0 {l : List Nat} {i j x : Nat} (hi : i < l.length) : (l.set i x).getD j 0 = if i = j then x else l.getD j 0 := by
  by_cases e : i = j
  · subst e
    rw [if_pos rfl, List.getD_eq_getElem?_getD, List.getElem?_set_self hi]; rfl
  · rw [if_neg e, List.getD_eq_getElem?_getD, List.getElem?_set_ne e, ← List.getD_eq_getElem?_getD]
def swp (pm : List Nat) (i k : Nat) : List Nat := (pm.set i (pm.getD k 0)).set k (pm.getD i 0)
theorem swp_get {pm : List Nat} {i k j : Nat} (hi : i < pm.length) (hk : k < pm.length) : (swp pm i k).getD j 0 = pm.getD (if k = j then i else if i = j then k else j) 0 := by
  unfold swp
  rw [getD_set0 (by rw [List.length_set]; exact hk), getD_set0 hi]
  by_cases h1 : k = j
  · rw [if_pos h1, if_pos h1]
  · rw [if_neg h1, if_neg h1]
    by_cases h2 : i = j
    · rw [if_pos h2, if_pos h2]
    · rw [if_neg h2, if_neg h2]
theorem swb {i k x n : Nat} (hi : i < n) (hk : k < n) (hx : x < n) : (if k = x then i else if i = x then k else x) < n := by
  split
  · exact hi
  · split
    · exact hk
    · exact hx
theorem PermI.swp {n : Nat} {pm : List Nat} (h : PermI n pm) {i k : Nat} (hi : i < n) (hk : k < n) : PermI n (swp pm i k) := by
  have hl := h.len
  refine ⟨by unfold Go.Proofs.YthconflkbeipoaaGreatDoor.swp; rw [List.length_set, List.length_set]; exact hl, fun x hx => ?_, fun x y hx hy e => ?_⟩
  · rw [swp_get (by omega) (by omega)]
    exact h.lt _ (swb hi hk hx)
  · rw [swp_get (by omega) (by omega), swp_get (by omega) (by omega)] at e
    have := h.inj _ _ (swb hi hk hx) (swb hi hk hy) e
    split at this <;> split at this <;> (try split at this) <;> (try split at this) <;> omega
theorem PermI.range (n : Nat) : PermI n (List.range n) := by
  have hg : ∀ x, x < n → (List.range n).getD x 0 = x := fun x hx => by rw [List.getD_eq_getElem?_getD, List.getElem?_range hx]; rfl
  exact ⟨List.length_range, fun x hx => by rw [hg x hx]; exact hx, fun x y hx hy e => by rw [hg x hx, hg y hy] at e; exact e⟩
theorem rIt_stop {pm : List Nat} {i : Nat} (f : Nat) {k : Nat} {seen : List Bool} {r : Nat} (h : ¬ (seen.getD k false = false ∧ pm.getD i 0 ≠ i)) : rIt pm i f (k, seen, r) = (k, seen, r) := by
  cases f with
  | zero => rfl
  | succ f => rw [rIt, if_neg h]
theorem rIt_step {pm : List Nat} {i f k : Nat} {seen : List Bool} {r : Nat} (h : seen.getD k false = false ∧ pm.getD i 0 ≠ i) : rIt pm i (f + 1) (k, seen, r) = rIt pm i f (pm.getD k 0, seen.set k true, if k = i then r + 1 else r) := by rw [rIt, if_pos h]
theorem cf_set {seen : List Bool} {k : Nat} (hk : k < seen.length) (h : seen.getD k false = false) : cf seen = cf (seen.set k true) + 1 := by
  have hg : seen[k] = false := by simpa [List.getD, hk] using h
  unfold cf
  rw [List.countP_set hk, hg]
  have : 0 < seen.countP fun b => !b := List.countP_pos_iff.2 ⟨seen[k], List.getElem_mem _, by rw [hg]; rfl⟩
  simp
  omega
theorem lt5_size : ∀ j, j < 5 → (lt5 j).size = 1 := by
  have h : ((List.range 5).all fun j => decide ((lt5 j).size = 1)) = true := by decide +kernel
  exact fun j hj => of_decide_eq_true (List.all_eq_true.1 h j (List.mem_range.2 hj))
theorem lt5_index : ∀ j, j < 5 → Lib.index (⟨#[97, 98, 99, 100, 101]⟩ : ByteArray).data.toList (lt5 j).data.toList = (j : Int) := by
  have h : ((List.range 5).all fun j => decide (Lib.index (⟨#[97, 98, 99, 100, 101]⟩ : ByteArray).data.toList (lt5 j).data.toList = (j : Int))) = true := by decide +kernel
  exact fun j hj => of_decide_eq_true (List.all_eq_true.1 h j (List.mem_range.2 hj))
theorem idx5_pure (j : Nat) (hj : j < 5) : PCalls Tryz.prog 17 [.c (.v (.string (⟨#[97, 98, 99, 100, 101]⟩))), .c (.v (.string (lt5 j)))] [] fun r os => r = .c (.v (.int .i64 j)) ∧ os = [] :=
  pcalls_plain [.string ⟨#[97, 98, 99, 100, 101]⟩, .string (lt5 j)] _ rfl fun w hp => by
    obtain ⟨m, hm⟩ := hp
    refine (strings_Index ⟨#[97, 98, 99, 100, 101]⟩ (lt5 j) m w (by decide) hm).mono fun e w' ⟨he, hw⟩ => ?_
    rw [lt5_index j hj] at he
    rw [he, hw]
    exact ⟨rfl, Below.refl _ _⟩
theorem lt5_take : ∀ n, n < 6 → (nm5.map strD).take n = ((List.range n).map lt5).map strD := fun n hn => by
  rcases (by omega : n = 0 ∨ n = 1 ∨ n = 2 ∨ n = 3 ∨ n = 4 ∨ n = 5) with rfl | rfl | rfl | rfl | rfl | rfl <;> rfl
end Go.Proofs.YthconflkbeipoaaGreatDoor
