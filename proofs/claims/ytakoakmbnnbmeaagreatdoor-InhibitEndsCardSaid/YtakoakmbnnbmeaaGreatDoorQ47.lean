/- What the program computes, and the plain laws of it, part 47. -/
import Derived.Test.YtakoakmbnnbmeaaGreatDoorQ46
namespace Go.Proofs.YtakoakmbnnbmeaaGreatDoor
open Go.RowKit
open IntWalk renaming iteOmega → iO, toNatUp → tN
set_option linter.unusedVariables false
set_option linter.unusedSimpArgs false
theorem whyL_none {l : List Ihb} {p : ByteArray} {now : Int} : ∀ {rs : List Req}, (∀ r ∈ rs, r.path ≠ p) → whyL l p now rs = []
  | [], _ => rfl
  | r :: rs, h => by
    rw [whyL, if_neg (h r (by simp)), List.nil_append]
    exact whyL_none fun x hx => h x (by simp [hx])
theorem whyL_one {l : List Ihb} {now : Int} {r : Req} : ∀ {rs : List Req}, (rs.map Req.path).Nodup → r ∈ rs → whyL l r.path now rs = (delL l r now).map Ihb.who
  | [], _, h => by simp at h
  | x :: rs, hn, h => by
    rw [List.map_cons, List.nodup_cons] at hn
    rw [whyL]
    rcases List.mem_cons.1 h with h | h
    · subst h
      rw [if_pos rfl, whyL_none, List.append_nil]
      intro y hy e
      exact hn.1 (List.mem_map.2 ⟨y, hy, e⟩)
    · have : ¬ x.path = r.path := fun e => hn.1 (by rw [e]; exact List.mem_map.2 ⟨r, h, rfl⟩)
      rw [if_neg this, List.nil_append]
      exact whyL_one hn.2 h
theorem due_mem {s : Inh} {r : Req} {now : Int} (h : r ∈ s.reqs) : (decide (r ∈ dueM s now)) = decide ((delL s.list r now).length = 0) := by
  unfold dueM
  rw [Bool.eq_iff_iff]
  simp only [List.mem_filter, h, true_and, decide_eq_true_eq]
theorem why_len {s : Inh} (hs : s.good) {r : Req} {now : Int} (h : r ∈ s.reqs) : (whyM s r.path now).length = (delL s.list r now).length := by
  unfold whyM
  rw [whyL_one hs.paths h, List.length_map]
theorem del_late {s : Inh} {r : Req} {now : Int} (h : r.asked + 600 ≤ now) : delL s.list r now = [] := by
  unfold delL
  rw [List.filter_eq_nil_iff]
  intro x _
  unfold delQ
  simp; omega
theorem fk_split {α : Type} [Inhabited α] (q : α → Bool) (b : List α) (k : Nat) : b.filter q = fltK q b k ++ (b.drop k).filter q := by
  unfold fltK
  rw [← List.filter_append, List.take_append_drop]
theorem fk_t {α : Type} [Inhabited α] {q : α → Bool} {b : List α} {k : Nat} (hk : k < b.length) (h : q (b.getD k default) = true) : (fltK q b k).length < (b.filter q).length ∧ (b.filter q).getD (fltK q b k).length default = b.getD k default := by
  have e := fk_split q b k
  rw [List.drop_eq_getElem_cons hk, List.filter_cons_of_pos (by rw [← getD_lt b hk]; exact h)] at e
  rw [e]
  constructor
  · simp
  · rw [getD_lt b hk]
    simp [List.getD]
theorem fk_f {α : Type} [Inhabited α] {q : α → Bool} {b : List α} {k : Nat} (hk : k < b.length) (h : q (b.getD k default) = false) (hl : (fltK q b k).length < (b.filter q).length) : (b.filter q).getD (fltK q b k).length default ≠ b.getD k default := fun e => by
  have hm : (b.filter q).getD (fltK q b k).length default ∈ b.filter q := by rw [getD_lt _ hl]; exact List.getElem_mem _
  have := (List.mem_filter.1 hm).2
  rw [e, h] at this
  cases this
theorem filter_filter_sub {α : Type} {p q : α → Bool} {l : List α} (h : ∀ x ∈ l, p x = true → q x = true) : (l.filter q).filter p = l.filter p := by
  rw [List.filter_filter]
  apply List.filter_congr
  intro x hx
  cases hp : p x
  · simp
  · simp [h x hx hp]
theorem del_mono {l : List Ihb} {r : Req} {now th : Int} (h : now ≤ th) (hd : (delL l r now).length = 0) : (delL l r th).length = 0 := by
  rw [List.length_eq_zero_iff] at hd ⊢
  unfold delL at hd ⊢
  rw [List.filter_eq_nil_iff] at hd ⊢
  intro x hx hq
  apply hd x hx
  unfold delQ at hq ⊢
  simp only [Bool.and_eq_true, decide_eq_true_eq] at hq ⊢
  exact ⟨⟨by omega, by omega⟩, hq.2⟩
theorem due_pass {s : Inh} {now th : Int} (h : now ≤ th) : (dueM s th).filter (fun r => decide ((delL s.list r now).length = 0)) = dueM s now := by
  unfold dueM
  apply filter_filter_sub
  intro r _ hr
  simp only [decide_eq_true_eq] at hr ⊢
  exact del_mono h hr
theorem minOf_cons (a : Int) (l : List Int) : Lib.minOf (a :: l) = l.foldl min a := by
  unfold Lib.minOf
  simp [List.foldl_cons]
theorem minOf_le : ∀ {l : List Int} {x : Int}, x ∈ l → Lib.minOf l ≤ x
  | [], x, h => by simp at h
  | a :: l, x, h => by
    have key : ∀ (l : List Int) (a : Int), l.foldl min a ≤ a ∧ ∀ x ∈ l, l.foldl min a ≤ x := by
      intro l
      induction l with
      | nil => intro a; exact ⟨Int.le_refl _, fun x hx => by simp at hx⟩
      | cons b l ih =>
        intro a
        obtain ⟨h1, h2⟩ := ih (min a b)
        rw [List.foldl_cons]
        refine ⟨by omega, fun x hx => ?_⟩
        rcases List.mem_cons.1 hx with hx | hx
        · subst hx; omega
        · exact h2 x hx
    have := key l a
    rw [minOf_cons]
    rcases List.mem_cons.1 h with h | h
    · subst h; exact this.1
    · exact this.2 x h
theorem minOf_mem : ∀ {l : List Int}, l ≠ [] → Lib.minOf l ∈ l
  | [], h => absurd rfl h
  | a :: l, _ => by
    have key : ∀ (l : List Int) (a : Int), l.foldl min a = a ∨ l.foldl min a ∈ l := by
      intro l
      induction l with
      | nil => intro a; exact .inl rfl
      | cons b l ih =>
        intro a
        rw [List.foldl_cons]
        rcases ih (min a b) with h | h
        · rw [h]
          rcases Int.le_total a b with h' | h'
          · exact .inl (by omega)
          · exact .inr (by rw [show min a b = b by omega]; simp)
        · exact .inr (by simp [h])
    rw [minOf_cons]
    rcases key l a with h | h
    · rw [h]; simp
    · simp [h]
theorem next_yes {s : Inh} {now : Int} (h : nextB s now = true) : nextN s now ∈ laterL s now ∧ now < nextN s now ∧ ∀ t ∈ laterL s now, nextN s now ≤ t := by
  unfold nextB at h
  have hne : laterL s now ≠ [] := fun e => by rw [e] at h; simp at h
  unfold nextN
  rw [if_neg hne]
  have hm := minOf_mem hne
  refine ⟨hm, ?_, fun t ht => minOf_le ht⟩
  have := (List.mem_filter.1 hm).2
  simpa using this
theorem next_no {s : Inh} {now : Int} (h : nextB s now = false) : laterL s now = [] := by
  unfold nextB at h
  simpa using h
theorem till_times {s : Inh} {x : Ihb} (h : x ∈ s.list) : x.till ∈ timesL s := by
  unfold timesL
  rw [List.mem_append]
  exact .inl (List.mem_map.2 ⟨x, h, rfl⟩)
theorem asked_times {s : Inh} {r : Req} (h : r ∈ s.reqs) : r.asked + 600 ∈ timesL s := by
  unfold timesL
  rw [List.mem_append]
  exact .inr (List.mem_map.2 ⟨r, h, rfl⟩)
theorem later_mem {s : Inh} {now t : Int} (h : t ∈ timesL s) (h2 : now < t) : t ∈ laterL s now := List.mem_filter.2 ⟨h, by simpa using h2⟩
theorem due_same {s : Inh} {now th : Int} (h : now ≤ th) (hn : (nextB s now && decide (nextN s now ≤ th)) = false) : dueM s now = dueM s th := by
  have hno : ∀ t ∈ timesL s, now < t → th < t := by
    intro t ht h1
    rcases Int.lt_or_le th t with h2 | h2
    · exact h2
    exfalso
    have hl := later_mem ht h1
    cases hb : nextB s now with
    | false => rw [next_no hb] at hl; simp at hl
    | true =>
      have := (next_yes hb).2.2 t hl
      rw [hb, Bool.true_and, decide_eq_false_iff_not] at hn
      omega
  unfold dueM
  apply List.filter_congr
  intro r hr
  have : delL s.list r now = delL s.list r th := by
    unfold delL
    apply List.filter_congr
    intro x hx
    have h1 := hno _ (till_times hx)
    have h2 := hno _ (asked_times hr)
    unfold delQ
    rw [show decide (now < x.till) = decide (th < x.till) by rw [decide_eq_decide]; omega, show decide (now < r.asked + 600) = decide (th < r.asked + 600) by rw [decide_eq_decide]; omega]
  rw [this]
theorem later_len (s : Inh) (now : Int) : (laterL s now).length ≤ s.list.length + s.reqs.length := by
  refine Nat.le_trans (List.length_filter_le _ _) ?_
  unfold timesL
  rw [List.length_append, List.length_map, List.length_map]; omega
theorem later_less {s : Inh} {now : Int} (h : nextB s now = true) : (laterL s (nextN s now)).length < (laterL s now).length := by
  obtain ⟨h1, h2, h3⟩ := next_yes h
  have e : laterL s (nextN s now) = (laterL s now).filter fun t => decide (nextN s now < t) := by
    unfold laterL
    rw [filter_filter_sub]
    intro t _ ht
    simp only [decide_eq_true_eq] at ht ⊢
    omega
  rw [e]
  have := List.length_filter_lt_length_iff_exists (p := fun t => decide (nextN s now < t)) (l := laterL s now)
  rw [this]
  exact ⟨_, h1, by simp⟩
theorem due_all {s : Inh} {now : Int} (h : nextB s now = false) : dueM s now = s.reqs := by
  have hl := next_no h
  unfold dueM
  rw [List.filter_eq_self]
  intro r hr
  rw [decide_eq_true_eq, List.length_eq_zero_iff]
  unfold delL
  rw [List.filter_eq_nil_iff]
  intro x hx hq
  unfold delQ at hq
  simp only [Bool.and_eq_true, decide_eq_true_eq] at hq
  have := later_mem (till_times hx) hq.1.1
  rw [hl] at this
  simp at this
theorem due_free {n : Int} {rs : List Req} {now : Int} : dueM ⟨n, [], rs⟩ now = rs := by
  unfold dueM
  rw [List.filter_eq_self]
  intro r _
  simp [delL]
theorem rel_len {s : Inh} (hs : s.good) {i : Nat} (h : i < s.list.length) : (relL (s.list.getD i default).id s.list).length + 1 = s.list.length := by
  have key : ∀ (l : List Ihb), (l.map Ihb.id).Nodup → ∀ i, i < l.length → (relL (l.getD i default).id l).length + 1 = l.length := by
    intro l
    induction l with
    | nil => intro _ i h; simp at h
    | cons a l ih =>
      intro hn i h
      rw [List.map_cons, List.nodup_cons] at hn
      cases i with
      | zero =>
        rw [show (a :: l).getD 0 default = a from rfl]
        unfold relL
        rw [List.filter_cons_of_neg (by simp), List.filter_eq_self.2 (fun x hx => by
          simp only [decide_eq_true_eq]
          exact fun e => hn.1 (by rw [← e]; exact List.mem_map.2 ⟨x, hx, rfl⟩))]
        simp
      | succ i =>
        have h' : i < l.length := by simpa using h
        rw [show (a :: l).getD (i + 1) default = l.getD i default from rfl]
        have hm : l.getD i default ∈ l := by rw [getD_lt l h']; exact List.getElem_mem _
        have hne : a.id ≠ (l.getD i default).id := fun e => hn.1 (by rw [e]; exact List.mem_map.2 ⟨_, hm, rfl⟩)
        have := ih hn.2 i h'
        unfold relL at this ⊢
        rw [List.filter_cons_of_pos (by simpa using hne), List.length_cons, List.length_cons]
        omega
  exact key _ hs.ids i h
theorem rel_ok {s : Inh} (hs : s.good) {i : Nat} (h : i < s.list.length) : relE s (s.list.getD i default).id = 0 ∧ relM s (s.list.getD i default).id = ⟨s.next, relL (s.list.getD i default).id s.list, s.reqs⟩ := by
  have := rel_len hs h
  unfold relE relM
  rw [if_neg (by omega), if_neg (by omega)]
  exact ⟨rfl, rfl⟩
theorem due_rel {s : Inh} {id : Int} {now : Int} : (dueM ⟨s.next, relL id s.list, s.reqs⟩ now).filter (fun r => decide ((delL s.list r now).length = 0)) = dueM s now := by
  unfold dueM
  apply filter_filter_sub
  intro r _ hr
  simp only [decide_eq_true_eq, List.length_eq_zero_iff] at hr ⊢
  unfold delL relL at *
  rw [List.filter_eq_nil_iff] at hr ⊢
  intro x hx
  exact hr x (List.mem_filter.1 hx).1
theorem drop_why (s : Inh) (p : ByteArray) (now : Int) : whyM (dropM s p) p now = [] := by
  unfold whyM dropM dropR
  exact whyL_none fun r hr => by simpa using (List.mem_filter.1 hr).2
theorem drop_drop (s : Inh) (p : ByteArray) : dropM (dropM s p) p = dropM s p := by
  unfold dropM dropR
  simp
end Go.Proofs.YtakoakmbnnbmeaaGreatDoor
namespace Go.Proofs.YtakoakmbnnbmeaaGreatDoor
attribute [local irreducible] PL QL PWPr PCalls Weak RetK Kontr PA
open Go.RowKit
open IntWalk renaming iteOmega → iO, toNatUp → tN
set_option linter.unusedVariables false
set_option linter.unusedSimpArgs false
set_option maxRecDepth 20000
set_option maxHeartbeats 4000000 in
theorem madeI_pure (L : List Int) (k : Nat) (t : List Dev) (n : Nat) (hk : k < 90000) (ht : TreeOk t n) (hn : n ≤ 100) (hL : ∀ x ∈ L, -9223372036854775808 ≤ x ∧ x ≤ 9223372036854775807) (hLl : L.length ≤ 9223372036854775807) :
    PCalls Tryz.prog 28 [.c (.ptr 0 0), .agg (trE t)] [tape L k] fun r os => ∃ (s : Inh) (now : Int) (k' : Nat), s.good ∧ (0 ≤ now ∧ now ≤ 2000) ∧ k' ≤ k + 200 ∧ r = .two (.agg s.e) (.c (.v (.int .i64 now))) ∧ os = [tape L k'] := by
  have nex := fun (j : Nat) (hj : j < 1000000) (m : Int) (hm : 0 < m) (hm2 : m ≤ 9223372036854775807) => next_ex L j m hj hm hm2 hL hLl
  refine pcalls_of Tryz.func28 rfl (by simp [Tryz.ntmps28]) ?_
  rw [Tryz.ntmps28, Tryz.results28]
  push_cast [iO, tN]
  have cB : CutB 9 [] := trivial
  repeat' (first |  ((refine plc [0] (nex k (by omega) 100 (by decide) (by decide)) ?_ ?_; push_cast [iO, tN]; rintro r os ⟨now0, ⟨na, nb⟩, rfl, rfl⟩; push_cast [iO, tN])) | ((refine plc [0] (nex (k + 1) (by omega) 12 (by decide) (by decide)) ?_ ?_; push_cast [iO, tN]; rintro r os ⟨c, ⟨ca, cb⟩, rfl, rfl⟩; push_cast [iO, tN]))  | ((first | refine pC ?_ | refine pQC ?_ | refine pU ?_); push_cast [iO, tN]) | (refine pif (fun h => ?_) (fun h => ?_) <;> first | exact pN h | push_cast [iO, tN]))
  (apply pwp_loop3 (α := Int × Inh × Int × Nat) 9 [] (fun x => [(7, .c (.v (.int .i64 x.1))), (8, .c (.v (.int .i64 x.2.2.1)))]) (fun x => [(0, tape L x.2.2.2), (3, .box 25 x.2.1.e)]) (fun x => x.2.1.good ∧ (0 ≤ x.2.2.1 ∧ x.2.2.1 ≤ 12) ∧ (0 ≤ x.1 ∧ x.1 ≤ 100 + (12 - x.2.2.1) * 100) ∧ (x.2.2.2 : Int) ≤ (k : Int) + 2 + (12 - x.2.2.1) * 11) (fun x => x.2.2.1.toNat) ((now0, ⟨1, [], []⟩, c, k + 2)); (focus ((try push_cast [iO, tN]); rfl)); (focus exact ⟨good_new (by decide) (by decide), by simp only; omega, by simp only; omega, by simp only; omega⟩); (focus ((refine weak_fg ?_; try push_cast [iO, tN]))))
  rintro ⟨now, s, c, q⟩ ⟨hg, ⟨hc0, hc1⟩, ⟨hn0, hn1⟩, hq⟩
  simp only at hg hc0 hc1 hn0 hn1 hq
  push_cast [iO, tN]
  by_cases hlt : 0 < c
  · have hcall := call_pure L q s t n now ⟨#[97]⟩ (by omega) hg ht hn (by omega) (by omega) (by decide) hL hLl
    repeat' (first |  (refine plc [0] (hcall) ?_ ?_; push_cast [iO, tN]; rintro r os ⟨s', q', hg', hq', rfl, rfl⟩; push_cast [iO, tN]) | ((refine plc [0] (nex q' (by omega) 100 (by decide) (by decide)) ?_ ?_; push_cast [iO, tN]; rintro r os ⟨v, ⟨va, vb⟩, rfl, rfl⟩; push_cast [iO, tN]))  | ((first | refine pC ?_ | refine pQC ?_ | refine pU ?_); push_cast [iO, tN]) | (refine pif (fun h => ?_) (fun h => ?_) <;> first | exact pN h | push_cast [iO, tN]))
    exact ⟨(now + v, s', c - 1, q' + 1), ⟨hg', by simp only; omega, by simp only; omega, by simp only; omega⟩, by (refine weak_fg ?_; push_cast [iO, tN]), by simp only; omega⟩
  · repeat' (first | ((first | refine pC ?_ | refine pQC ?_ | refine pU ?_); push_cast [iO, tN]) | (refine pif (fun h => ?_) (fun h => ?_) <;> first | exact pN h | push_cast [iO, tN]))
    (refine retK_of [0] ?_; push_cast [iO, tN])
    exact ⟨_, _, leP_refl _, leOs_refl _, s, now, q, hg, ⟨by omega, by omega⟩, by omega, rfl, rfl⟩
end Go.Proofs.YtakoakmbnnbmeaaGreatDoor
namespace Go.Proofs.YtakoakmbnnbmeaaGreatDoor
attribute [local irreducible] PL QL PWPr PCalls Weak RetK Kontr PA
open Go.RowKit
open IntWalk renaming iteOmega → iO, toNatUp → tN
set_option linter.unusedVariables false
set_option linter.unusedSimpArgs false
set_option maxRecDepth 20000
attribute [push_cast] Bool.true_bne Bool.false_bne bne_self_eq_false
def memK (r : Req) (l : List Req) (j : Nat) : Bool := decide (r ∈ l.take j)
theorem memK_zero (r : Req) (l : List Req) : memK r l 0 = false := by simp [memK]
theorem memK_all (r : Req) (l : List Req) {j : Nat} (h : l.length ≤ j) : memK r l j = decide (r ∈ l) := by unfold memK; rw [List.take_of_length_le h]
theorem memK_succ (r : Req) (l : List Req) {j : Nat} (h : j < l.length) : memK r l (j + 1) = (memK r l j || decide (l.getD j default = r)) := by
  unfold memK
  rw [List.take_succ_eq_append_getElem h, ← getD_lt l h, Bool.eq_iff_iff]
  simp only [List.mem_append, List.mem_singleton, Bool.or_eq_true, decide_eq_true_eq]
  constructor
  · rintro (h | h)
    · exact .inl h
    · exact .inr h.symm
  · rintro (h | h)
    · exact .inl h
    · exact .inr h.symm
theorem req_ne {a b : Req} (h : ¬ a = b) : (decide (a.path = b.path) && (decide (a.index = b.index) && decide (a.asked = b.asked))) = false := by
  rw [Bool.eq_false_iff]
  intro e
  simp only [Bool.and_eq_true, decide_eq_true_eq] at e
  exact h (by cases a; cases b; simp_all)
set_option maxHeartbeats 4000000 in
set_option maxRecDepth 20000 in
theorem delaysI_pure (L : List Int) (v : Int) (hL : ∀ x ∈ L, -9223372036854775808 ≤ x ∧ x ≤ 9223372036854775807) (hLl : L.length ≤ 9223372036854775807) (hv1 : -9223372036854775808 ≤ v) (hv2 : v ≤ 9223372036854775807) :
    PCalls Tryz.prog 5 [.c (.sl 1 (L.map fun x => [D.v (.int .i64 x)])), .c (.v (.int .i64 v))] [] fun r os => r = .c (.v (.bool true)) ∧ os = [] := by
  have hT := made_pure L 0 6 (by omega) (by omega) hL hLl
  simp only [tape] at hT
  push_cast [iO, tN] at hT
  have hF := fold_pure v 900 hv1 hv2 (by decide)
  have hFb := fold_bds v 900 (by decide)
  obtain ⟨fv, hfv⟩ : ∃ fv, fold v 900 = fv := ⟨_, rfl⟩
  rw [hfv] at hF hFb
  refine pcalls_of Tryz.func5 rfl (by simp [Tryz.ntmps5]) ?_
  rw [Tryz.ntmps5, Tryz.results5]
  push_cast [iO, tN]
  have cB : CutB 13 [] := trivial
  repeat' (first |  (refine plc [0] (hT) ?_ ?_; push_cast [iO, tN]; rintro r os ⟨t, k1, ht, hk1, rfl, rfl⟩; push_cast [iO, tN]) | ((refine plc [0] (madeI_pure L k1 t 6 (by omega) ht (by decide) hL hLl) ?_ ?_; push_cast [iO, tN]; rintro r os ⟨s, now, k2, hg, ⟨hn0, hn1⟩, hk2, rfl, rfl⟩; push_cast [iO, tN])) | (refine plc [] (hF) ?_ ?_; push_cast [iO, tN]; rintro r os ⟨rfl, rfl⟩; push_cast [iO, tN]) | ((refine plc [] (due_pure (now + fv) s hg.ok) ?_ ?_; push_cast [iO, tN]; rintro r os ⟨rfl, rfl⟩; push_cast [iO, tN]))  | ((first | refine pC ?_ | refine pQC ?_ | refine pU ?_); push_cast [iO, tN]) | (refine pif (fun h => ?_) (fun h => ?_) <;> first | exact pN h | push_cast [iO, tN]))
  have hdl : (dueM s (now + fv)).length ≤ s.reqs.length := List.length_filter_le _ _
  have hrl := hg.ok.reqs
  obtain ⟨th, hth⟩ : ∃ th, now + fv = th := ⟨_, rfl⟩
  have ht0 : 0 ≤ th := by omega
  have ht1 : th ≤ 3000 := by omega
  rw [hth] at hdl ⊢
  obtain ⟨due, hdue⟩ : ∃ due, dueM s th = due := ⟨_, rfl⟩
  rw [hdue] at hdl ⊢
  (apply pwp_loop3 (α := Nat) 13 [] (fun i => [(9, .c (.v (.int .i64 i)))]) (fun i => []) (fun i => i ≤ s.reqs.length) (fun i => s.reqs.length - i) (0); (focus ((try push_cast [iO, tN]); rfl)); (focus exact (Nat.zero_le _)); (focus ((refine weak_fg ?_; try push_cast [iO, tN]))))
  intro i hi
  push_cast [iO, tN]
  by_cases hlt : i < s.reqs.length
  case neg =>
    repeat' (first |  (refine plc [] (known_pure) ?_ ?_; push_cast [iO, tN]; rintro r os ⟨rfl, rfl⟩; push_cast [iO, tN])  | ((first | refine pC ?_ | refine pQC ?_ | refine pU ?_); push_cast [iO, tN]) | (refine pif (fun h => ?_) (fun h => ?_) <;> first | exact pN h | push_cast [iO, tN]))
    (refine retK_of [] ?_; push_cast [iO, tN])
  have hrm : s.reqs.getD i default ∈ s.reqs := by rw [getD_lt s.reqs hlt]; exact List.getElem_mem _
  obtain ⟨r, hr⟩ : ∃ r, s.reqs.getD i default = r := ⟨_, rfl⟩
  rw [hr] at hrm
  have hra := (hg.ok.req r hrm).1
  have hwhy := why_pure s r.path th hg.ok
  have hwl := why_len hg (now := th) hrm
  obtain ⟨W, hW⟩ : ∃ W, whyM s r.path th = W := ⟨_, rfl⟩
  rw [hW] at hwhy hwl
  repeat' (first | ((first | refine pC ?_ | refine pQC ?_ | refine pU ?_); push_cast [iO, tN, hr]) | (refine pif (fun h => ?_) (fun h => ?_) <;> first | exact pN h | push_cast [iO, tN, hr]))
  (apply pwp_loop3 (α := Nat) 13 [] (fun j => [(12, .c (.v (.int .i64 j))), (11, .c (.v (.bool (memK r due j))))]) (fun j => []) (fun j => j ≤ due.length) (fun j => due.length - j) (0); (focus ((try push_cast [iO, tN]); rfl)); (focus exact (Nat.zero_le _)); (focus ((refine weak_fg ?_; try push_cast [iO, tN]); (try (exact (memK_zero r due).symm)))))
  intro j hj
  push_cast [iO, tN]
  by_cases hjl : j < due.length
  · have hst := memK_succ r due hjl
    cases hm : memK r due j with
    | true =>
      rw [hm, Bool.true_or] at hst
      repeat' (first | ((first | refine pC ?_ | refine pQC ?_ | refine pU ?_); push_cast [iO, tN]) | (refine pif (fun h => ?_) (fun h => ?_) <;> first | exact pN h | push_cast [iO, tN]))
      exact ⟨j + 1, by omega, by (refine weak_fg ?_; push_cast [iO, tN, hst]), by omega⟩
    | false =>
      rw [hm, Bool.false_or] at hst
      by_cases he : due.getD j default = r
      · rw [decide_eq_true he] at hst
        repeat' (first | ((first | refine pC ?_ | refine pQC ?_ | refine pU ?_); push_cast [iO, tN, he]) | (refine pif (fun h => ?_) (fun h => ?_) <;> first | exact pN h | push_cast [iO, tN, he]))
        exact ⟨j + 1, by omega, by (refine weak_fg ?_; push_cast [iO, tN, hst]), by omega⟩
      · rw [decide_eq_false he] at hst
        have he2 := req_ne he
        repeat' (first | ((first | refine pC ?_ | refine pQC ?_ | refine pU ?_); push_cast [iO, tN, he2]) | (refine pif (fun h => ?_) (fun h => ?_) <;> first | exact pN h | push_cast [iO, tN, he2]))
        exact ⟨j + 1, by omega, by (refine weak_fg ?_; push_cast [iO, tN, hst]), by omega⟩
  · have hdm := due_mem (now := th) hrm
    rw [hdue] at hdm
    have hma := memK_all r due (j := j) (by omega)
    rw [hma, hdm]
    by_cases hn0 : (delL s.list r th).length = 0
    · rw [decide_eq_true hn0]
      have hW0 : W = [] := List.length_eq_zero_iff.1 (by omega)
      subst hW0
      by_cases hla : 600 ≤ th - r.asked
      · repeat' (first |  (refine plc [] (hwhy) ?_ ?_; push_cast [iO, tN]; rintro r os ⟨rfl, rfl⟩; push_cast [iO, tN])  | ((first | refine pC ?_ | refine pQC ?_ | refine pU ?_); push_cast [iO, tN]) | (refine pif (fun h => ?_) (fun h => ?_) <;> first | exact pN h | push_cast [iO, tN]))
        exact ⟨i + 1, by omega, by (refine weak_fg ?_; push_cast [iO, tN]), by omega⟩
      · repeat' (first |  (refine plc [] (hwhy) ?_ ?_; push_cast [iO, tN]; rintro r os ⟨rfl, rfl⟩; push_cast [iO, tN])  | ((first | refine pC ?_ | refine pQC ?_ | refine pU ?_); push_cast [iO, tN]) | (refine pif (fun h => ?_) (fun h => ?_) <;> first | exact pN h | push_cast [iO, tN]))
        exact ⟨i + 1, by omega, by (refine weak_fg ?_; push_cast [iO, tN]), by omega⟩
    · rw [decide_eq_false hn0]
      have hW0 : decide ((W.length : Int) = 0) = false := decide_eq_false (by omega)
      have hla : ¬ 600 ≤ th - r.asked := fun h => hn0 (by rw [del_late (by omega)]; rfl)
      repeat' (first | (refine plc [] (hwhy) ?_ ?_; push_cast [iO, tN, hW0]; rintro r os ⟨rfl, rfl⟩; push_cast [iO, tN, hW0]) | ((first | refine pC ?_ | refine pQC ?_ | refine pU ?_); push_cast [iO, tN, hW0]) | (refine pif (fun h => ?_) (fun h => ?_) <;> first | exact pN h | push_cast [iO, tN, hW0]))
      exact ⟨i + 1, by omega, by (refine weak_fg ?_; push_cast [iO, tN]), by omega⟩
end Go.Proofs.YtakoakmbnnbmeaaGreatDoor
