/- What the program computes, and the plain laws of it, part 50. -/
import Derived.Test.YtbonfcphabnlpabGreatDoorQ40
import Derived.Test.YtbonfcphabnlpabGreatDoorQ48
import Derived.Test.YtbonfcphabnlpabGreatDoorQ49
namespace Go.Proofs.YtbonfcphabnlpabGreatDoor
attribute [local irreducible] PL QL PWPr PCalls Weak RetK Kontr PA
open Go.RowKit
open IntWalk renaming iteOmega → iO, toNatUp → tN
set_option linter.unusedVariables false
set_option linter.unusedSimpArgs false
set_option maxRecDepth 20000
structure DelI {α : Type} [Inhabited α] (l : List α) (q : α → Bool) (j i : Nat) (m : List α) : Prop where
  len : m.length = l.length
  ij : i < j
  jl : j ≤ l.length
  pre : m.take i = (l.take j).filter fun x => !q x
  post : m.drop j = l.drop j
theorem DelI.start {α : Type} [Inhabited α] {l : List α} {q : α → Bool} {i : Nat} (h1 : i < l.length) (h2 : q (l.getD i default) = true) (h3 : ∀ x ∈ l.take i, q x = false) : DelI l q (i + 1) i l := by
  refine ⟨rfl, by omega, by omega, ?_, rfl⟩
  rw [List.take_succ_eq_append_getElem h1, List.filter_append]
  rw [getD_lt l h1] at h2
  rw [List.filter_eq_self.2 fun x hx => by simp [h3 x hx]]
  simp [h2]
theorem DelI.get {α : Type} [Inhabited α] {l m : List α} {q : α → Bool} {j i : Nat} (h : DelI l q j i m) (hj : j < l.length) : m.getD j default = l.getD j default := by
  have := congrArg (fun x => x[0]?) h.post
  simp only [List.getElem?_drop, Nat.add_zero] at this
  simp [List.getD, this]
theorem DelI.drop {α : Type} [Inhabited α] {l m : List α} {q : α → Bool} {j i : Nat} (h : DelI l q j i m) (hj : j < l.length) (hq : q (l.getD j default) = true) : DelI l q (j + 1) i m := by
  refine ⟨h.len, by have := h.ij; omega, by omega, ?_, ?_⟩
  · rw [List.take_succ_eq_append_getElem hj, List.filter_append, h.pre]
    rw [getD_lt l hj] at hq
    simp [hq]
  · have := congrArg (List.drop 1) h.post
    simpa [List.drop_drop] using this
theorem DelI.keep {α : Type} [Inhabited α] {l m : List α} {q : α → Bool} {j i : Nat} (h : DelI l q j i m) (hj : j < l.length) (hq : q (l.getD j default) = false) : DelI l q (j + 1) (i + 1) (m.set i (l.getD j default)) := by
  have hij := h.ij
  have hl := h.len
  refine ⟨by simpa using hl, by omega, by omega, ?_, ?_⟩
  · have hi : i < (m.set i (l.getD j default)).length := by rw [List.length_set]; omega
    rw [List.take_succ_eq_append_getElem hi, List.take_set_of_le (Nat.le_refl _), h.pre, List.getElem_set_self, List.take_succ_eq_append_getElem hj, List.filter_append]
    rw [getD_lt l hj] at hq ⊢
    simp [hq]
  · rw [List.drop_set_of_lt (by omega)]
    have := congrArg (List.drop 1) h.post
    simpa [List.drop_drop] using this
theorem DelI.done {α : Type} [Inhabited α] {l m : List α} {q : α → Bool} {j i : Nat} (h : DelI l q j i m) (hj : ¬ j < l.length) : m.take i = (l.filter fun x => !q x) ∧ i = (l.filter fun x => !q x).length := by
  have := h.pre
  have e : l.take j = l := List.take_of_length_le (by omega)
  rw [e] at this
  refine ⟨this, ?_⟩
  rw [← this, List.length_take]
  have := h.ij; have := h.jl; have := h.len
  omega
theorem indexFuncDO_pure (l : List Dev) (hl : l.length ≤ 1000000000) (g : FuncId) (ks : List Nat) (rest : List Ob) (q : Dev → Bool) (hp : PredD Tryz.prog g ks (.arr 51 10 (l.map Dev.d) :: rest) l q) :
    PCalls Tryz.prog 73 [.c (.own 0 l.length), .c (.fn (.func g) [] ks)] (.arr 51 10 (l.map Dev.d) :: rest) fun r os' => ∃ k, idxD q l k ∧ r = .c (.v (.int .i64 k)) ∧ os' = .arr 51 10 (l.map Dev.d) :: rest := by
  refine pcalls_of_all Tryz.func73 rfl (by simp [Tryz.ntmps73]) ?_
  rw [Tryz.ntmps73, Tryz.results73]
  push_cast [iO, tN]
  repeat' (first | ((first | refine pG ?_ | refine pQ ?_ | refine pU ?_); push_cast [iO, tN]) | (refine pif (fun h => ?_) (fun h => ?_) <;> first | exact pN h | push_cast [iO, tN]))
  refine pwp_loop2 (α := Nat) (fun k => k ≤ l.length ∧ ∀ x ∈ l.take k, q x = false) (fun k => ⟨[(8, .c (.v (.int .i64 k))), (7, .c (.v (.int .i64 l.length))), (6, .c (.own 0 l.length)), (0, .c (.own 0 l.length)), (1, .c (.fn (.func g) [] ks))], .arr 51 10 (l.map Dev.d) :: rest⟩) (fun k => l.length - k) 0 ⟨by omega, by simp⟩ (weak_slots (by push_cast [iO, tN]) rfl) ?_
  rintro k ⟨hk, hpre⟩
  by_cases hlt : k < l.length
  · have hm : l.getD k default ∈ l := by rw [getD_lt l hlt]; exact List.getElem_mem _
    have hc := hp.2 _ hm
    have hpre2 : q (l.getD k default) = false → ∀ x ∈ l.take (k + 1), q x = false := fun h x hx => by
      rw [List.take_succ_eq_append_getElem hlt] at hx
      rcases List.mem_append.1 hx with hx | hx
      · exact hpre x hx
      · simp at hx; subst hx; rw [← getD_lt l hlt]; exact h
    cases hq : q (l.getD k default)
    all_goals rw [hq] at hc
    all_goals repeat' (first |  (refine pl_call_all rfl (by push_cast [iO, tN]) rfl hp.1 (by push_cast [iO, tN]) ?_ hc ?_; (focus (unfold callArgs; push_cast [iO, tN]; exact allSomeD ks)); rintro r os ⟨rfl, rfl⟩; refine pl_of_pops ?_; push_cast [iO, tN])  | ((first | refine pG ?_ | refine pQ ?_ | refine pU ?_); push_cast [iO, tN]) | (refine pif (fun h => ?_) (fun h => ?_) <;> first | exact pN h | push_cast [iO, tN]))
    · exact ⟨k + 1, ⟨by omega, hpre2 hq⟩, weak_slots (by push_cast [iO, tN]) rfl, by omega⟩
    · exact ⟨_, rfl, by push_cast [iO, tN], k, .inr ⟨k, rfl, hlt, hq, hpre⟩, rfl, rfl⟩
  · rw [List.take_of_length_le (by omega)] at hpre
    repeat' (first | ((first | refine pG ?_ | refine pQ ?_ | refine pU ?_); push_cast [iO, tN]) | (refine pif (fun h => ?_) (fun h => ?_) <;> first | exact pN h | push_cast [iO, tN]))
    exact ⟨_, rfl, by push_cast [iO, tN], -1, .inl ⟨rfl, hpre⟩, rfl, rfl⟩
abbrev goneO (es : List (MK × List D)) (m : List Dev) : List Ob := [.arr 51 10 (m.map Dev.d), .box 80 [.mp 2], .map (some .i64) false es]
def GoneQ (es : List (MK × List D)) (l : List Dev) (q : Dev → Bool) : Prop := ∀ x ∈ l, lkP false (.c (.v (.bool false))) false (mget es (.i .i64 x.index)) = some (.c (.v (.bool (q x))))
theorem gone1_pure (es : List (MK × List D)) (m : List Dev) (d : Dev) (b : Bool) (h : lkP false (.c (.v (.bool false))) false (mget es (.i .i64 d.index)) = some (.c (.v (.bool b)))) :
    PCalls Tryz.prog 39 [.agg d.e, .c (.ptr 1 0)] (goneO es m) fun r os => r = .c (.v (.bool b)) ∧ os = goneO es m := by
  refine pcalls_of Tryz.func39 rfl (by simp [Tryz.ntmps39]) ?_
  rw [Tryz.ntmps39, Tryz.results39]
  push_cast [iO, tN]
  repeat' (first | ((first | refine pG ?_ | refine pQ ?_ | refine pU ?_); push_cast [iO, tN, h]) | (refine pif (fun h => ?_) (fun h => ?_) <;> first | exact pN h | push_cast [iO, tN, h]))
  (refine retK_of [0, 1, 2] ?_; push_cast [iO, tN])
set_option maxHeartbeats 4000000 in
theorem deleteGone_pure (l : List Dev) (hl : l.length ≤ 1000000000) (es : List (MK × List D)) (q : Dev → Bool) (hq : GoneQ es l q) (hex : ∃ x ∈ l, q x = true) :
    PCalls Tryz.prog 37 [.c (.own 0 l.length), .c (.fn (.func 39) [] [1])] (goneO es l) fun r os => ∃ m : List (List D), r = .c (.own 0 (l.filter fun x => !q x).length) ∧ os = [.arr 51 10 ((l.filter fun x => !q x).map Dev.d ++ m), .box 80 [.mp 2], .map (some .i64) false es] := by
  have hp : ∀ m : List Dev, PredD Tryz.prog 39 [1] (goneO es m) l q := fun m => ⟨by kernel_rfl, fun x hx => gone1_pure es m x (q x) (hq x hx)⟩
  have hcall := indexFuncDO_pure l hl 39 [1] [.box 80 [.mp 2], .map (some .i64) false es] q (hp l)
  refine pcalls_of Tryz.func37 rfl (by simp [Tryz.ntmps37]) ?_
  rw [Tryz.ntmps37, Tryz.results37]
  push_cast [iO, tN]
  have cB : CutB 8 [] := trivial
  have hc2 := hcall.mono (R' := fun r os => ∃ i : Nat, (i < l.length ∧ q (l.getD i default) = true ∧ ∀ x ∈ l.take i, q x = false) ∧ r = .c (.v (.int .i64 i)) ∧ os = goneO es l) (by
    rintro r os ⟨k, ⟨rfl, h⟩ | ⟨i, rfl, h⟩, rfl, rfl⟩
    · obtain ⟨x, hx, hq⟩ := hex; rw [h x hx] at hq; cases hq
    · exact ⟨i, h, rfl, rfl⟩)
  repeat' (first |  ((refine plc [0, 1, 2] (hc2) ?_ ?_; push_cast [iO, tN]; rintro r os ⟨i0, ⟨h1, h2, h3⟩, rfl, rfl⟩; push_cast [iO, tN]))  | ((first | refine pC ?_ | refine pQC ?_ | refine pU ?_); push_cast [iO, tN]) | (refine pif (fun h => ?_) (fun h => ?_) <;> first | exact pN h | push_cast [iO, tN]))
  (apply pwp_loop3 (α := Nat × Nat × List Dev) 8 [] (fun x => [(6, .c (.v (.int .i64 x.1))), (5, .c (.v (.int .i64 x.2.1)))]) (fun x => [(0, .arr 51 10 (x.2.2.map Dev.d))]) (fun x => DelI l q x.1 x.2.1 x.2.2) (fun x => l.length - x.1) ((i0 + 1, i0, l)); (focus ((try push_cast [iO, tN]); rfl)); (focus exact (DelI.start h1 h2 h3)); (focus ((refine weak_fg ?_; try push_cast [iO, tN]))))
  rintro ⟨j, i, m⟩ hD
  simp only at hD
  push_cast [iO, tN]
  have hml := hD.len
  have hij := hD.ij
  have hjl := hD.jl
  by_cases hlt : j < l.length
  · have hmem : l.getD j default ∈ l := by rw [getD_lt l hlt]; exact List.getElem_mem _
    have hv := hD.get hlt
    have hc := (hp m).2 _ hmem
    cases hqx : q (l.getD j default) with
    | false =>
      rw [hqx] at hc
      repeat' (first | ((refine plc [0, 1, 2] (hc) ?_ ?_; push_cast [iO, tN, hv, hml]; rintro r os ⟨rfl, rfl⟩; push_cast [iO, tN, hv, hml])) | ((first | refine pC ?_ | refine pQC ?_ | refine pU ?_); push_cast [iO, tN, hv, hml]) | (refine pif (fun h => ?_) (fun h => ?_) <;> first | exact pN h | push_cast [iO, tN, hv, hml]))
      exact ⟨(j + 1, i + 1, m.set i (l.getD j default)), hD.keep hlt hqx, by (refine weak_fg ?_; push_cast [iO, tN, List.map_set]), by simp only; omega⟩
    | true =>
      rw [hqx] at hc
      repeat' (first | ((refine plc [0, 1, 2] (hc) ?_ ?_; push_cast [iO, tN, hv, hml]; rintro r os ⟨rfl, rfl⟩; push_cast [iO, tN, hv, hml])) | ((first | refine pC ?_ | refine pQC ?_ | refine pU ?_); push_cast [iO, tN, hv, hml]) | (refine pif (fun h => ?_) (fun h => ?_) <;> first | exact pN h | push_cast [iO, tN, hv, hml]))
      exact ⟨(j + 1, i, m), hD.drop hlt hqx, by (refine weak_fg ?_; push_cast [iO, tN]), by simp only; omega⟩
  · have hd := hD.done hlt
    have hz : (m.map Dev.d).length = l.length := by rw [List.length_map, hml]
    have hrow : ∀ z : List (List D), (m.map Dev.d).take i ++ z = (l.filter fun x => !q x).map Dev.d ++ z := fun z => by rw [← List.map_take, hd.1]
    by_cases hi0 : i = 0
    · subst hi0
      repeat' (first | ((first | refine pC ?_ | refine pQC ?_ | refine pU ?_); push_cast [iO, tN, hml]) | (refine pif (fun h => ?_) (fun h => ?_) <;> first | exact pN h | push_cast [iO, tN, hml]))
      refine pl_weak (weak_seg 38 10 (k := 0) (n := l.length) rfl) ?_
      refine pl_of_pops ?_
      push_cast [iO, tN, hml]
      repeat' (first | ((first | refine pC ?_ | refine pQC ?_ | refine pU ?_); push_cast [iO, tN, hml]) | (refine pif (fun h => ?_) (fun h => ?_) <;> first | exact pN h | push_cast [iO, tN, hml]))
      (refine retK_of [0, 1, 2] ?_; push_cast [iO, tN])
      have hnil : (l.filter fun x => !q x) = [] := List.length_eq_zero_iff.1 hd.2.symm
      rw [hnil]
      simp only [List.map_nil, List.nil_append, List.length_nil]
      exact ⟨_, _, leP_refl _, leOs_refl _, _, rfl, rfl⟩
    · repeat' (first | ((first | refine pC ?_ | refine pQC ?_ | refine pU ?_); push_cast [iO, tN, hml, hi0]) | (refine pif (fun h => ?_) (fun h => ?_) <;> first | exact pN h | push_cast [iO, tN, hml, hi0]))
      (refine retK_of [0, 1, 2] ?_; push_cast [iO, tN])
      rw [hrow]
      exact ⟨_, _, leP_refl _, leOs_refl _, _, by rw [← hd.2], rfl⟩
theorem copies_pure (l : List Dev) (hl : l.length ≤ 1000000) (ha : ∀ d ∈ l, d.attrs.length ≤ 1000000000) :
    PCalls Tryz.prog 38 [.c (.sl 10 (l.map Dev.d))] [] fun r os => r = .c (.own 0 l.length) ∧ os = [.arr 51 10 (l.map Dev.d)] := by
  refine pcalls_of Tryz.func38 rfl (by simp [Tryz.ntmps38]) ?_
  rw [Tryz.ntmps38, Tryz.results38]
  push_cast [iO, tN]
  have cB : CutB 6 [6, 7, 8] := trivial
  repeat' (first | ((first | refine pC ?_ | refine pQC ?_ | refine pU ?_); push_cast [iO, tN]) | (refine pif (fun h => ?_) (fun h => ?_) <;> first | exact pN h | push_cast [iO, tN]))
  refine pwp_weak (weak_adopt 3 51 10 (by omega) (by push_cast [iO, tN])) ?_
  push_cast [iO, tN]
  (apply pwp_loop3 (α := Nat) 6 [6, 7, 8] (fun k => [(8, .c (.v (.int .i64 k))), (3, .c (.own 0 k))]) (fun k => [(0, .arr 51 10 ((l.take k).map Dev.d))]) (fun k => k ≤ l.length) (fun k => l.length - k) (0); (focus ((try push_cast [iO, tN]); rfl)); (focus exact (Nat.zero_le _)); (focus ((refine weak_fg ?_; try push_cast [iO, tN]); (try (exact ⟨rfl, rfl⟩)))))
  intro k hk
  push_cast [iO, tN]
  by_cases hlt : k < l.length
  · have hm : l.getD k default ∈ l := by rw [getD_lt l hlt]; exact List.getElem_mem _
    have hc := copied_pure (l.getD k default) (ha _ hm)
    have hmem : (0 ∈ ([] : List Nat)) = False := eq_false (by simp)
    have htk : l.take (k + 1) = l.take k ++ [l.getD k default] := by rw [List.take_succ_eq_append_getElem hlt, getD_lt l hlt]
    have htl : (l.take k).length = k := by rw [List.length_take]; omega
    obtain ⟨u, hu⟩ : ∃ u, l.take k = u := ⟨_, rfl⟩
    rw [hu] at htk htl ⊢
    repeat' (first | (refine plc [] (hc) ?_ ?_; push_cast [iO, tN, htl]; rintro r os ⟨rfl, rfl⟩; push_cast [iO, tN, htl]) | ((first | refine pC ?_ | refine pQC ?_ | refine pU ?_); push_cast [iO, tN, htl]) | (refine pif (fun h => ?_) (fun h => ?_) <;> first | exact pN h | push_cast [iO, tN, htl]))
    exact ⟨k + 1, by omega, by (refine weak_fg ?_; push_cast [iO, tN, htk, hmem]), by omega⟩
  · have hk2 : k = l.length := by omega
    have hk3 : l.take k = l := List.take_of_length_le (by omega)
    rw [hk3, hk2]
    repeat' (first | ((first | refine pC ?_ | refine pQC ?_ | refine pU ?_); push_cast [iO, tN]) | (refine pif (fun h => ?_) (fun h => ?_) <;> first | exact pN h | push_cast [iO, tN]))
    (refine retK_of [0] ?_; push_cast [iO, tN])
theorem subtree_pure (l : List Dev) (n : Int) :
    PCalls Tryz.prog 36 [.agg (trE l), .c (.v (.int .i64 n))] [] fun r os => r = .c (.fn (.func 72) [] [0, 1]) ∧ os = [.box 34 (trE l), .box 3 [.v (.int .i64 n)]] := by
  refine pcalls_of Tryz.func36 rfl (by simp [Tryz.ntmps36]) ?_
  rw [Tryz.ntmps36, Tryz.results36]
  push_cast [iO, tN]
  repeat' (first | ((first | refine pG ?_ | refine pQ ?_ | refine pU ?_); push_cast [iO, tN]) | (refine pif (fun h => ?_) (fun h => ?_) <;> first | exact pN h | push_cast [iO, tN]))
  (refine retK_of [0, 1] ?_; push_cast [iO, tN])
end Go.Proofs.YtbonfcphabnlpabGreatDoor
namespace Go.Proofs.YtbonfcphabnlpabGreatDoor
open Go.RowKit
open IntWalk renaming iteOmega → iO, toNatUp → tN
set_option linter.unusedVariables false
set_option linter.unusedSimpArgs false
def rqOf (l : List Dev) (d : Dev) : Req := ⟨placeM l d.index, d.index, 5⟩
def rqF (l : List Dev) (i : Nat) : List Req := (l.take i).map (rqOf l)
def stF (l : List Dev) (i : Nat) : Inh := ⟨1, [], rqF l i⟩
theorem rqF_succ (l : List Dev) {i : Nat} (hi : i < l.length) : rqF l (i + 1) = rqF l i ++ [rqOf l (l.getD i default)] := by
  unfold rqF
  rw [List.take_add_one, List.getElem?_eq_getElem hi, List.map_append, getD_lt l hi]
  rfl
theorem getD_memD (l : List Dev) {i : Nat} (hi : i < l.length) : l.getD i default ∈ l := by rw [getD_lt l hi]; exact List.getElem_mem _
theorem at_place {l : List Dev} (h : Okt l) {d : Dev} (hd : d ∈ l) : atD l (placeM l d.index) = some d := by
  cases ha : atD l (placeM l d.index) with
  | none =>
    unfold atD at ha
    rw [List.find?_eq_none] at ha
    exact absurd (decide_eq_true rfl) (ha d hd)
  | some e =>
    obtain ⟨h1, h2⟩ := atD_mem ha
    rw [place_inj h h1 hd h2]
theorem rqF_other {l : List Dev} (h : Okt l) {i : Nat} (hi : i < l.length) : ∀ r ∈ rqF l i, r.path ≠ placeM l (l.getD i default).index ∧ r.index ≠ (l.getD i default).index := by
  intro r hr
  unfold rqF at hr
  obtain ⟨d, hd, rfl⟩ := List.mem_map.1 hr
  have hne : d.index ≠ (l.getD i default).index := by
    obtain ⟨j, hj, rfl⟩ := List.mem_take_iff_getElem.1 hd
    have := new_index h.p hi j (by omega)
    rwa [getD_lt l (by omega)] at this
  exact ⟨fun e => hne (by rw [place_inj h (List.mem_of_mem_take hd) (getD_memD l hi) e]), hne⟩
theorem rqF_drop {l : List Dev} (h : Okt l) {i : Nat} (hi : i < l.length) : dropR (placeM l (l.getD i default).index) (rqF l i) = rqF l i := by
  unfold dropR
  rw [List.filter_eq_self]
  intro r hr
  simpa using (rqF_other h hi r hr).1
theorem rqF_len (l : List Dev) (i : Nat) : (rqF l i).length ≤ i := by unfold rqF; rw [List.length_map]; exact List.length_take_le _ _
theorem askF_new {l : List Dev} (h : Okt l) {i : Nat} (hi : i < l.length) (hl : l.length ≤ 32) : askE (stF l i) l (placeM l (l.getD i default).index) = 0 := by
  unfold askE
  rw [at_place h (getD_memD l hi)]
  have ht : takenQ (stF l i) (placeM l (l.getD i default).index) (l.getD i default) = false := by
    unfold takenQ
    rw [List.any_eq_false]
    intro r hr
    have h0 := (rqF_other h hi r hr).1
    rw [decide_eq_false h0, Bool.false_and]
    exact Bool.false_ne_true
  simp only [ht]
  have := rqF_len l i
  rw [show (stF l i).reqs = rqF l i from rfl, rqF_drop h hi, if_neg (by simp), if_neg (by omega)]
theorem askF_made {l : List Dev} (h : Okt l) {i : Nat} (hi : i < l.length) (hl : l.length ≤ 32) : askM (stF l i) l (placeM l (l.getD i default).index) 5 = stF l (i + 1) := by
  unfold askM
  rw [if_pos (askF_new h hi hl), at_place h (getD_memD l hi), show (stF l i).reqs = rqF l i from rfl, rqF_drop h hi]
  unfold stF
  rw [rqF_succ l hi]
  rfl
theorem askF_again {l : List Dev} (h : Okt l) {i : Nat} (hi : i < l.length) : askE (stF l (i + 1)) l (placeM l (l.getD i default).index) = 394 := by
  unfold askE
  rw [at_place h (getD_memD l hi)]
  have ht : takenQ (stF l (i + 1)) (placeM l (l.getD i default).index) (l.getD i default) = true := by
    unfold takenQ
    rw [List.any_eq_true]
    refine ⟨rqOf l (l.getD i default), ?_, by simp [rqOf]⟩
    rw [show (stF l (i + 1)).reqs = rqF l (i + 1) from rfl, rqF_succ l hi]
    simp
  simp only [ht]
  rfl
theorem stF_ok {l : List Dev} {n : Nat} (h : TreeOk l n) (hn : n ≤ 8) (i : Nat) : (stF l i).ok := by
  have hl := h.len
  refine ⟨by show (0 : Int) ≤ 1; decide, by show (1 : Int) ≤ 1073741824; decide, by simp [stF], ?_, fun x hx => by simp [stF] at hx, fun r hr => ?_⟩
  · show (rqF l i).length ≤ 32
    unfold rqF
    rw [List.length_map, List.length_take]
    omega
  · rw [show (stF l i).reqs = rqF l i from rfl] at hr
    unfold rqF at hr
    obtain ⟨d, hd, rfl⟩ := List.mem_map.1 hr
    have hd := List.mem_of_mem_take hd
    have h3 := h.dev d hd
    have h4 := h.okt.pos d hd
    have h5 := place_size (l := l) (by omega) (fun d hd => by have := (h.dev d hd).2.1; omega) d.index
    exact ⟨by simp [rqOf], by simp only [rqOf]; omega, by simp only [rqOf]; omega, by simp only [rqOf]; omega⟩
theorem below_gone {l : List Dev} (h : Okt l) (n : Int) {d : Dev} (hd : d ∈ l) : ((findD (remT l n) d.index).isSome && decide (placeM (remT l n) d.index = placeM l d.index)) = !belowM l d.index n := by
  obtain ⟨h1, h2⟩ := h.rem n
  cases hb : belowM l d.index n with
  | false =>
    have hm : d ∈ remT l n := by unfold remT; rw [List.mem_filter]; exact ⟨hd, by simp [hb]⟩
    rw [findD_mem h1.nodup hm]
    have := h2 d hm
    unfold placeM
    rw [this]
    simp
  | true =>
    cases hf : findD (remT l n) d.index with
    | none => rfl
    | some e =>
      obtain ⟨h3, h4⟩ := findD_some hf
      unfold remT at h3
      rw [List.mem_filter] at h3
      rw [h4, hb] at h3
      simp at h3
theorem fallF {l : List Dev} (h : Okt l) (n : Int) : fallM (stF l l.length) (remT l n) = ⟨1, [], (remT l n).map (rqOf l)⟩ := by
  unfold fallM fallR stF rqF
  rw [List.take_length]
  congr 1
  rw [List.filter_map]
  congr 1
  unfold remT
  refine List.filter_congr fun d hd => ?_
  exact below_gone h n hd
theorem fallF_same {l : List Dev} (h : Okt l) : fallM (stF l l.length) l = stF l l.length := by
  unfold fallM fallR stF rqF
  rw [List.take_length]
  congr 1
  rw [List.filter_eq_self]
  intro r hr
  obtain ⟨d, hd, rfl⟩ := List.mem_map.1 hr
  show ((findD l d.index).isSome && decide (placeM l d.index = placeM l d.index)) = true
  rw [findD_mem h.nodup hd]
  simp
theorem fallF_none (s : Inh) : (fallM s []).reqs = [] := by
  unfold fallM fallR
  rw [List.filter_eq_nil_iff]
  intro r hr
  simp [findD]
theorem fallF_at {l : List Dev} (h : Okt l) (n : Int) {d : Dev} (hd : d ∈ remT l n) : atD (remT l n) (rqOf l d).path = some d := by
  obtain ⟨h1, h2⟩ := h.rem n
  have : (rqOf l d).path = placeM (remT l n) d.index := by
    show placeM l d.index = placeM (remT l n) d.index
    unfold placeM
    rw [h2 d hd]
  rw [this, at_place h1 hd]
def goneL (l : List Dev) (n : Int) (i : Nat) : List Dev := (l.take i).filter fun d => belowM l d.index n
def goneE (l : List Dev) (n : Int) (i : Nat) : List (MK × List D) := (goneL l n i).map fun d => (.i .i64 d.index, [.v (.bool true)])
theorem goneE_zero (l : List Dev) (n : Int) : goneE l n 0 = [] := rfl
theorem mget_gone (n : Int) : ∀ m : List Dev, mget (m.map fun d => ((.i .i64 d.index : MK), [D.v (.bool true)])) (.i .i64 n) = (findD m n).map fun _ => [D.v (.bool true)]
  | [] => rfl
  | d :: m => by
    rw [List.map_cons, mget]
    unfold findD
    by_cases h : d.index = n
    · rw [List.find?_cons_of_pos (by simpa using h)]
      subst h
      simp
    · rw [List.find?_cons_of_neg (by simpa using h), if_neg (by simp [h])]
      exact mget_gone n m
theorem lk_gone (l : List Dev) (n : Int) (i : Nat) (k : Int) : lkP false (.c (.v (.bool false))) false (mget (goneE l n i) (.i .i64 k)) = some (.c (.v (.bool (findD (goneL l n i) k).isSome))) := by
  unfold goneE
  rw [mget_gone]
  cases findD (goneL l n i) k <;> rfl
theorem goneL_find {l : List Dev} (h : Okp l) (n : Int) {i : Nat} {d : Dev} (hd : d ∈ l.take i) : (findD (goneL l n i) d.index).isSome = belowM l d.index n := by
  cases hb : belowM l d.index n with
  | true =>
    have hm : d ∈ goneL l n i := by unfold goneL; rw [List.mem_filter]; exact ⟨hd, hb⟩
    have hn : ((goneL l n i).map Dev.index).Nodup := h.nodup.sublist (((List.filter_sublist).trans (List.take_sublist _ _)).map _)
    rw [findD_mem hn hm]; rfl
  | false =>
    cases hf : findD (goneL l n i) d.index with
    | none => rfl
    | some e =>
      obtain ⟨h3, h4⟩ := findD_some hf
      unfold goneL at h3
      rw [List.mem_filter, h4, hb] at h3
      simp at h3
theorem below_step {l : List Dev} (h : Okp l) (n : Int) {i : Nat} (hi : i < l.length) : belowM l (l.getD i default).index n = (decide ((l.getD i default).index = n) || (findD (goneL l n i) (l.getD i default).parent).isSome) := by
  have hm := getD_memD l hi
  unfold belowM
  rw [chain_step h hm, List.any_cons]
  congr 1
  rw [getD_lt l hi]
  rcases h.par i hi with h0 | ⟨j, hj, hp⟩
  · rw [h0, chain_none (find0 h.pos (by omega)), find0 (fun d hd => ?_) (by omega)]
    · rfl
    · unfold goneL at hd
      exact h.pos d (List.mem_of_mem_take (List.mem_filter.1 hd).1)
  · have hm : l[j] ∈ l.take i := by rw [List.mem_take_iff_getElem]; exact ⟨j, by omega, rfl⟩
    rw [← hp, goneL_find h n hm]
    rfl
theorem goneE_yes {l : List Dev} (h : Okp l) {n : Int} {i : Nat} (hi : i < l.length) (hb : belowM l (l.getD i default).index n = true) : mput (goneE l n i) (.i .i64 (l.getD i default).index) [.v (.bool true)] = goneE l n (i + 1) := by
  rw [mput_new]
  · unfold goneE goneL
    rw [List.take_add_one, List.getElem?_eq_getElem hi, ← getD_lt l hi, List.filter_append, List.map_append, Option.toList_some, List.filter_cons_of_pos (p := fun d : Dev => belowM l d.index n) (a := l.getD i default) (l := []) hb]
    rfl
  · unfold goneE
    rw [mget_gone, findD_none.2 fun d hd e => ?_]
    · rfl
    · unfold goneL at hd
      obtain ⟨j, hj, rfl⟩ := List.mem_take_iff_getElem.1 (List.mem_filter.1 hd).1
      exact new_index h hi j (by omega) (by rw [getD_lt l (by omega)]; exact e)
theorem goneE_no {l : List Dev} {n : Int} {i : Nat} (hi : i < l.length) (hb : belowM l (l.getD i default).index n = false) : goneE l n (i + 1) = goneE l n i := by
  unfold goneE goneL
  rw [List.take_add_one, List.getElem?_eq_getElem hi, ← getD_lt l hi, List.filter_append, Option.toList_some, List.filter_cons_of_neg (p := fun d : Dev => belowM l d.index n) (a := l.getD i default) (l := []) (by rw [hb]; exact Bool.false_ne_true), List.filter_nil, List.append_nil]
theorem gone_all {l : List Dev} (h : Okp l) (n : Int) {d : Dev} (hd : d ∈ l) : (findD (goneL l n l.length) d.index).isSome = belowM l d.index n := goneL_find h n (by rw [List.take_length]; exact hd)
theorem below_self {l : List Dev} (h : Okp l) {d : Dev} (hd : d ∈ l) : belowM l d.index d.index = true := by unfold belowM; rw [chain_step h hd, List.any_cons]; simp
theorem gone_ne {l : List Dev} (h : Okp l) {d : Dev} (hd : d ∈ l) : goneE l d.index l.length ≠ [] := by
  intro e
  have h1 := gone_all h d.index hd
  have h2 : belowM l d.index d.index = true := by unfold belowM; rw [chain_step h hd, List.any_cons]; simp
  unfold goneE at e
  rw [List.map_eq_nil_iff] at e
  rw [e, h2] at h1
  cases h1
end Go.Proofs.YtbonfcphabnlpabGreatDoor
