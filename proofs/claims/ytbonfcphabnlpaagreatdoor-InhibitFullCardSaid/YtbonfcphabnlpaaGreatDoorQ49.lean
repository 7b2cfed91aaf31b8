/- What the program computes, and the plain laws of it, part 49. -/
import Derived.ProofKit
import Derived.OpenShut
import Derived.ShutString
import Derived.ChangeOld
import Derived.Deep.Slices
import Derived.Deep.Fields
import Derived.Test.YtbonfcphabnlpaaGreatDoorQ48
namespace Go.Proofs.YtbonfcphabnlpaaGreatDoor
open Go.RowKit
open IntWalk renaming iteOmega → iO, toNatUp → tN
set_option linter.unusedVariables false
set_option linter.unusedSimpArgs false
theorem fk_split {α : Type} [Inhabited α] (q : α → Bool) (b : List α) (k : Nat) : b.filter q = fltK q b k ++ (b.drop k).filter q := by
  unfold fltK
  rw [← List.filter_append, List.take_append_drop]
theorem fk_t {α : Type} [Inhabited α] {q : α → Bool} {b : List α} {k : Nat} (hk : k < b.length) (h : q (b.getD k default) = true) : (fltK q b k).length < (b.filter q).length ∧ (b.filter q).getD (fltK q b k).length default = b.getD k default := by
  have e := fk_split q b k
  rw [List.drop_eq_getElem_cons hk, List.filter_cons_of_pos (by rw [← getD_lt b hk]; exact h)] at e
  rw [e]
  constructor
  · simp
  · rw [getD_lt b hk]
    simp [List.getD]
theorem fk_f {α : Type} [Inhabited α] {q : α → Bool} {b : List α} {k : Nat} (hk : k < b.length) (h : q (b.getD k default) = false) (hl : (fltK q b k).length < (b.filter q).length) : (b.filter q).getD (fltK q b k).length default ≠ b.getD k default := fun e => by
  have hm : (b.filter q).getD (fltK q b k).length default ∈ b.filter q := by rw [getD_lt _ hl]; exact List.getElem_mem _
  have := (List.mem_filter.1 hm).2
  rw [e, h] at this
  cases this
theorem filter_filter_sub {α : Type} {p q : α → Bool} {l : List α} (h : ∀ x ∈ l, p x = true → q x = true) : (l.filter q).filter p = l.filter p := by
  rw [List.filter_filter]
  apply List.filter_congr
  intro x hx
  cases hp : p x
  · simp
  · simp [h x hx hp]
theorem del_mono {l : List Ihb} {r : Req} {now th : Int} (h : now ≤ th) (hd : (delL l r now).length = 0) : (delL l r th).length = 0 := by
  rw [List.length_eq_zero_iff] at hd ⊢
  unfold delL at hd ⊢
  rw [List.filter_eq_nil_iff] at hd ⊢
  intro x hx hq
  apply hd x hx
  unfold delQ at hq ⊢
  simp only [Bool.and_eq_true, decide_eq_true_eq] at hq ⊢
  exact ⟨⟨by omega, by omega⟩, hq.2⟩
theorem due_pass {s : Inh} {now th : Int} (h : now ≤ th) : (dueM s th).filter (fun r => decide ((delL s.list r now).length = 0)) = dueM s now := by
  unfold dueM
  apply filter_filter_sub
  intro r _ hr
  simp only [decide_eq_true_eq] at hr ⊢
  exact del_mono h hr
theorem minOf_cons (a : Int) (l : List Int) : Lib.minOf (a :: l) = l.foldl min a := by
  unfold Lib.minOf
  simp [List.foldl_cons]
theorem minOf_le : ∀ {l : List Int} {x : Int}, x ∈ l → Lib.minOf l ≤ x
  | [], x, h => by simp at h
  | a :: l, x, h => by
    have key : ∀ (l : List Int) (a : Int), l.foldl min a ≤ a ∧ ∀ x ∈ l, l.foldl min a ≤ x := by
      intro l
      induction l with
      | nil => intro a; exact ⟨Int.le_refl _, fun x hx => by simp at hx⟩
      | cons b l ih =>
        intro a
        obtain ⟨h1, h2⟩ := ih (min a b)
        rw [List.foldl_cons]
        refine ⟨by omega, fun x hx => ?_⟩
        rcases List.mem_cons.1 hx with hx | hx
        · subst hx; omega
        · exact h2 x hx
    have := key l a
    rw [minOf_cons]
    rcases List.mem_cons.1 h with h | h
    · subst h; exact this.1
    · exact this.2 x h
theorem minOf_mem : ∀ {l : List Int}, l ≠ [] → Lib.minOf l ∈ l
  | [], h => absurd rfl h
  | a :: l, _ => by
    have key : ∀ (l : List Int) (a : Int), l.foldl min a = a ∨ l.foldl min a ∈ l := by
      intro l
      induction l with
      | nil => intro a; exact .inl rfl
      | cons b l ih =>
        intro a
        rw [List.foldl_cons]
        rcases ih (min a b) with h | h
        · rw [h]
          rcases Int.le_total a b with h' | h'
          · exact .inl (by omega)
          · exact .inr (by rw [show min a b = b by omega]; simp)
        · exact .inr (by simp [h])
    rw [minOf_cons]
    rcases key l a with h | h
    · rw [h]; simp
    · simp [h]
theorem next_yes {s : Inh} {now : Int} (h : nextB s now = true) : nextN s now ∈ laterL s now ∧ now < nextN s now ∧ ∀ t ∈ laterL s now, nextN s now ≤ t := by
  unfold nextB at h
  have hne : laterL s now ≠ [] := fun e => by rw [e] at h; simp at h
  unfold nextN
  rw [if_neg hne]
  have hm := minOf_mem hne
  refine ⟨hm, ?_, fun t ht => minOf_le ht⟩
  have := (List.mem_filter.1 hm).2
  simpa using this
theorem next_no {s : Inh} {now : Int} (h : nextB s now = false) : laterL s now = [] := by
  unfold nextB at h
  simpa using h
theorem till_times {s : Inh} {x : Ihb} (h : x ∈ s.list) : x.till ∈ timesL s := by
  unfold timesL
  rw [List.mem_append]
  exact .inl (List.mem_map.2 ⟨x, h, rfl⟩)
theorem asked_times {s : Inh} {r : Req} (h : r ∈ s.reqs) : r.asked + 600 ∈ timesL s := by
  unfold timesL
  rw [List.mem_append]
  exact .inr (List.mem_map.2 ⟨r, h, rfl⟩)
theorem later_mem {s : Inh} {now t : Int} (h : t ∈ timesL s) (h2 : now < t) : t ∈ laterL s now := List.mem_filter.2 ⟨h, by simpa using h2⟩
theorem due_same {s : Inh} {now th : Int} (h : now ≤ th) (hn : (nextB s now && decide (nextN s now ≤ th)) = false) : dueM s now = dueM s th := by
  have hno : ∀ t ∈ timesL s, now < t → th < t := by
    intro t ht h1
    rcases Int.lt_or_le th t with h2 | h2
    · exact h2
    exfalso
    have hl := later_mem ht h1
    cases hb : nextB s now with
    | false => rw [next_no hb] at hl; simp at hl
    | true =>
      have := (next_yes hb).2.2 t hl
      rw [hb, Bool.true_and, decide_eq_false_iff_not] at hn
      omega
  unfold dueM
  apply List.filter_congr
  intro r hr
  have : delL s.list r now = delL s.list r th := by
    unfold delL
    apply List.filter_congr
    intro x hx
    have h1 := hno _ (till_times hx)
    have h2 := hno _ (asked_times hr)
    unfold delQ
    rw [show decide (now < x.till) = decide (th < x.till) by rw [decide_eq_decide]; omega, show decide (now < r.asked + 600) = decide (th < r.asked + 600) by rw [decide_eq_decide]; omega]
  rw [this]
theorem due_free {n : Int} {rs : List Req} {now : Int} : dueM ⟨n, [], rs⟩ now = rs := by
  unfold dueM
  rw [List.filter_eq_self]
  intro r _
  simp [delL]
theorem rel_len {s : Inh} (hs : s.good) {i : Nat} (h : i < s.list.length) : (relL (s.list.getD i default).id s.list).length + 1 = s.list.length := by
  have key : ∀ (l : List Ihb), (l.map Ihb.id).Nodup → ∀ i, i < l.length → (relL (l.getD i default).id l).length + 1 = l.length := by
    intro l
    induction l with
    | nil => intro _ i h; simp at h
    | cons a l ih =>
      intro hn i h
      rw [List.map_cons, List.nodup_cons] at hn
      cases i with
      | zero =>
        rw [show (a :: l).getD 0 default = a from rfl]
        unfold relL
        rw [List.filter_cons_of_neg (by simp), List.filter_eq_self.2 (fun x hx => by
          simp only [decide_eq_true_eq]
          exact fun e => hn.1 (by rw [← e]; exact List.mem_map.2 ⟨x, hx, rfl⟩))]
        simp
      | succ i =>
        have h' : i < l.length := by simpa using h
        rw [show (a :: l).getD (i + 1) default = l.getD i default from rfl]
        have hm : l.getD i default ∈ l := by rw [getD_lt l h']; exact List.getElem_mem _
        have hne : a.id ≠ (l.getD i default).id := fun e => hn.1 (by rw [e]; exact List.mem_map.2 ⟨_, hm, rfl⟩)
        have := ih hn.2 i h'
        unfold relL at this ⊢
        rw [List.filter_cons_of_pos (by simpa using hne), List.length_cons, List.length_cons]
        omega
  exact key _ hs.ids i h
theorem rel_ok {s : Inh} (hs : s.good) {i : Nat} (h : i < s.list.length) : relE s (s.list.getD i default).id = 0 ∧ relM s (s.list.getD i default).id = ⟨s.next, relL (s.list.getD i default).id s.list, s.reqs⟩ := by
  have := rel_len hs h
  unfold relE relM
  rw [if_neg (by omega), if_neg (by omega)]
  exact ⟨rfl, rfl⟩
theorem due_rel {s : Inh} {id : Int} {now : Int} : (dueM ⟨s.next, relL id s.list, s.reqs⟩ now).filter (fun r => decide ((delL s.list r now).length = 0)) = dueM s now := by
  unfold dueM
  apply filter_filter_sub
  intro r _ hr
  simp only [decide_eq_true_eq, List.length_eq_zero_iff] at hr ⊢
  unfold delL relL at *
  rw [List.filter_eq_nil_iff] at hr ⊢
  intro x hx
  exact hr x (List.mem_filter.1 hx).1
theorem drop_drop (s : Inh) (p : ByteArray) : dropM (dropM s p) p = dropM s p := by
  unfold dropM dropR
  simp
end Go.Proofs.YtbonfcphabnlpaaGreatDoor
namespace Go.Proofs.YtbonfcphabnlpaaGreatDoor
attribute [local irreducible] PL QL PWPr PCalls Weak RetK Kontr PA
open Go.RowKit
open IntWalk renaming iteOmega → iO, toNatUp → tN
set_option linter.unusedVariables false
set_option linter.unusedSimpArgs false
set_option maxRecDepth 20000
set_option maxHeartbeats 4000000 in
theorem madeI_pure (L : List Int) (k : Nat) (t : List Dev) (n : Nat) (hk : k < 90000) (ht : TreeOk t n) (hn : n ≤ 100) (hL : ∀ x ∈ L, -9223372036854775808 ≤ x ∧ x ≤ 9223372036854775807) (hLl : L.length ≤ 9223372036854775807) :
    PCalls Tryz.prog 26 [.c (.ptr 0 0), .agg (trE t)] [tape L k] fun r os => ∃ (s : Inh) (now : Int) (k' : Nat), s.good ∧ (0 ≤ now ∧ now ≤ 2000) ∧ k' ≤ k + 200 ∧ r = .two (.agg s.e) (.c (.v (.int .i64 now))) ∧ os = [tape L k'] := by
  have nex := fun (j : Nat) (hj : j < 1000000) (m : Int) (hm : 0 < m) (hm2 : m ≤ 9223372036854775807) => next_ex L j m hj hm hm2 hL hLl
  refine pcalls_of Tryz.func26 rfl (by simp [Tryz.ntmps26]) ?_
  rw [Tryz.ntmps26, Tryz.results26]
  push_cast [iO, tN]
  have cB : CutB 9 [] := trivial
  repeat' (first |  ((refine plc [0] (nex k (by omega) 100 (by decide) (by decide)) ?_ ?_; push_cast [iO, tN]; rintro r os ⟨now0, ⟨na, nb⟩, rfl, rfl⟩; push_cast [iO, tN])) | ((refine plc [0] (nex (k + 1) (by omega) 12 (by decide) (by decide)) ?_ ?_; push_cast [iO, tN]; rintro r os ⟨c, ⟨ca, cb⟩, rfl, rfl⟩; push_cast [iO, tN]))  | ((first | refine pC ?_ | refine pQC ?_ | refine pU ?_); push_cast [iO, tN]) | (refine pif (fun h => ?_) (fun h => ?_) <;> first | exact pN h | push_cast [iO, tN]))
  (apply pwp_loop3 (α := Int × Inh × Int × Nat) 9 [] (fun x => [(7, .c (.v (.int .i64 x.1))), (8, .c (.v (.int .i64 x.2.2.1)))]) (fun x => [(0, tape L x.2.2.2), (3, .box 25 x.2.1.e)]) (fun x => x.2.1.good ∧ (0 ≤ x.2.2.1 ∧ x.2.2.1 ≤ 12) ∧ (0 ≤ x.1 ∧ x.1 ≤ 100 + (12 - x.2.2.1) * 100) ∧ (x.2.2.2 : Int) ≤ (k : Int) + 2 + (12 - x.2.2.1) * 11) (fun x => x.2.2.1.toNat) ((now0, ⟨1, [], []⟩, c, k + 2)); (focus ((try push_cast [iO, tN]); rfl)); (focus exact ⟨good_new (by decide) (by decide), by simp only; omega, by simp only; omega, by simp only; omega⟩); (focus ((refine weak_fg ?_; try push_cast [iO, tN]))))
  rintro ⟨now, s, c, q⟩ ⟨hg, ⟨hc0, hc1⟩, ⟨hn0, hn1⟩, hq⟩
  simp only at hg hc0 hc1 hn0 hn1 hq
  push_cast [iO, tN]
  by_cases hlt : 0 < c
  · have hcall := call_pure L q s t n now ⟨#[97]⟩ (by omega) hg ht hn (by omega) (by omega) (by decide) hL hLl
    repeat' (first |  (refine plc [0] (hcall) ?_ ?_; push_cast [iO, tN]; rintro r os ⟨s', q', hg', hq', rfl, rfl⟩; push_cast [iO, tN]) | ((refine plc [0] (nex q' (by omega) 100 (by decide) (by decide)) ?_ ?_; push_cast [iO, tN]; rintro r os ⟨v, ⟨va, vb⟩, rfl, rfl⟩; push_cast [iO, tN]))  | ((first | refine pC ?_ | refine pQC ?_ | refine pU ?_); push_cast [iO, tN]) | (refine pif (fun h => ?_) (fun h => ?_) <;> first | exact pN h | push_cast [iO, tN]))
    exact ⟨(now + v, s', c - 1, q' + 1), ⟨hg', by simp only; omega, by simp only; omega, by simp only; omega⟩, by (refine weak_fg ?_; push_cast [iO, tN]), by simp only; omega⟩
  · repeat' (first | ((first | refine pC ?_ | refine pQC ?_ | refine pU ?_); push_cast [iO, tN]) | (refine pif (fun h => ?_) (fun h => ?_) <;> first | exact pN h | push_cast [iO, tN]))
    (refine retK_of [0] ?_; push_cast [iO, tN])
    exact ⟨_, _, leP_refl _, leOs_refl _, s, now, q, hg, ⟨by omega, by omega⟩, by omega, rfl, rfl⟩
end Go.Proofs.YtbonfcphabnlpaaGreatDoor
namespace Go.Proofs.YtbonfcphabnlpaaGreatDoor
attribute [local irreducible] PL QL PWPr PCalls Weak RetK Kontr PA
open Go.RowKit
open IntWalk renaming iteOmega → iO, toNatUp → tN
set_option linter.unusedVariables false
set_option linter.unusedSimpArgs false
theorem req_ne' {a b : Req} (h : ¬ a = b) : (decide (a.path = b.path) && (decide (a.index = b.index) && decide (a.asked = b.asked))) = false := by
  rw [Bool.eq_false_iff]
  intro e
  simp only [Bool.and_eq_true, decide_eq_true_eq] at e
  exact h (by cases a; cases b; simp_all)
end Go.Proofs.YtbonfcphabnlpaaGreatDoor
namespace Go.Proofs.YtbonfcphabnlpaaGreatDoor
attribute [local irreducible] PL QL PWPr PCalls Weak RetK Kontr PA
open Go.RowKit
open IntWalk renaming iteOmega → iO, toNatUp → tN
set_option linter.unusedVariables false
set_option linter.unusedSimpArgs false
set_option maxRecDepth 20000
set_option maxHeartbeats 4000000 in
theorem passesI_pure (L : List Int) (v : Int) (hL : ∀ x ∈ L, -9223372036854775808 ≤ x ∧ x ≤ 9223372036854775807) (hLl : L.length ≤ 9223372036854775807) (hv1 : -9223372036854775808 ≤ v) (hv2 : v ≤ 9223372036854775807) :
    PCalls Tryz.prog 6 [.c (.sl 1 (L.map fun x => [D.v (.int .i64 x)])), .c (.v (.int .i64 v))] [] fun r os => r = .c (.v (.bool true)) ∧ os = [] := by
  have hT := made_pure L 0 6 (by omega) (by omega) hL hLl
  simp only [tape] at hT
  push_cast [iO, tN] at hT
  have hF := fold_pure v 900 hv1 hv2 (by decide)
  have hFb := fold_bds v 900 (by decide)
  obtain ⟨fv, hfv⟩ : ∃ fv, fold v 900 = fv := ⟨_, rfl⟩
  rw [hfv] at hF hFb
  refine pcalls_of Tryz.func6 rfl (by simp [Tryz.ntmps6]) ?_
  rw [Tryz.ntmps6, Tryz.results6]
  push_cast [iO, tN]
  have cB : CutB 15 [] := trivial
  repeat' (first |  (refine plc [0] (hT) ?_ ?_; push_cast [iO, tN]; rintro r os ⟨t, k1, ht, hk1, rfl, rfl⟩; push_cast [iO, tN]) | ((refine plc [0] (madeI_pure L k1 t 6 (by omega) ht (by decide) hL hLl) ?_ ?_; push_cast [iO, tN]; rintro r os ⟨s, now, k2, hg, ⟨hn0, hn1⟩, hk2, rfl, rfl⟩; push_cast [iO, tN])) | (refine plc [] (hF) ?_ ?_; push_cast [iO, tN]; rintro r os ⟨rfl, rfl⟩; push_cast [iO, tN]) | ((refine pwp_cut 15 [] ?_; apply pwp_drawn_to; (focus kernel_rfl); (focus (simp only [List.length_cons, List.length_nil, Nat.reduceAdd]; (repeat' first | ((refine plc [] (due_pure now s hg.ok) ?_ ?_; push_cast [iO, tN]; rintro r os ⟨rfl, rfl⟩; push_cast [iO, tN])) | ((refine plc [] (due_pure (now + fv) s hg.ok) ?_ ?_; push_cast [iO, tN]; rintro r os ⟨rfl, rfl⟩; push_cast [iO, tN])) | ((first | refine pah 1 ?_ | refine pah 4 ?_ | refine pah 6 ?_ | refine pah 7 ?_); push_cast [iO, tN]) | (refine pad ?_; first | with_reducible exact weak_cutS 15 [] _ | (refine weak_fg ?_; push_cast [iO, tN])) | ((first | refine pas [0] ?_ | refine pas [2] ?_ | refine pas [3] ?_ | refine pas [5] ?_); push_cast [iO, tN]) | ((first | refine pas [0, 3] ?_ | refine pas [2, 3] ?_); push_cast [iO, tN]; refine ⟨?_, ?_⟩)); done)); push_cast [iO, tN]))  | ((first | refine pC ?_ | refine pQC ?_ | refine pU ?_); push_cast [iO, tN]) | (refine pif (fun h => ?_) (fun h => ?_) <;> first | exact pN h | push_cast [iO, tN]))
  have hab := due_pass (s := s) (now := now) (th := now + fv) (by omega)
  have hal : (dueM s now).length ≤ s.reqs.length := List.length_filter_le _ _
  have hbl : (dueM s (now + fv)).length ≤ s.reqs.length := List.length_filter_le _ _
  have hrl := hg.ok.reqs
  have hN := next_pureI s now hg.ok
  have hsame := due_same (s := s) (now := now) (th := now + fv) (by omega)
  have hnx := next_yes (s := s) (now := now)
  obtain ⟨b, hb⟩ : ∃ b, dueM s (now + fv) = b := ⟨_, rfl⟩
  obtain ⟨a, ha⟩ : ∃ a, dueM s now = a := ⟨_, rfl⟩
  obtain ⟨nb, hnb⟩ : ∃ nb, nextB s now = nb := ⟨_, rfl⟩
  obtain ⟨nx, hnn⟩ : ∃ nx, nextN s now = nx := ⟨_, rfl⟩
  obtain ⟨qa, hqa⟩ : ∃ qa, (fun r => decide ((delL s.list r now).length = 0)) = qa := ⟨_, rfl⟩
  rw [hb, ha, hqa] at hab
  rw [ha] at hal hsame ⊢
  rw [hb] at hbl hsame ⊢
  rw [hnb, hnn] at hN hsame
  rw [hnb, hnn] at hnx
  have hS := samereqs_pure a b (by omega) (by omega)
  (apply pwp_loop3 (α := Nat) 15 [] (fun k => [(12, .c (.v (.int .i64 k))), (11, .c (.v (.int .i64 (((fltK qa b k).length : Int)))))]) (fun k => []) (fun k => k ≤ b.length) (fun k => b.length - k) (0); (focus ((try push_cast [iO, tN]); rfl)); (focus exact (Nat.zero_le _)); (focus ((refine weak_fg ?_; try push_cast [iO, tN]); (try (simp [fltK_zero])))))
  intro k hk
  push_cast [iO, tN]
  have hfl := fltK_len qa b k
  by_cases hlt : k < b.length
  · cases hq : qa (b.getD k default) with
    | true =>
      obtain ⟨h1, h2⟩ := fk_t hlt hq
      rw [hab] at h1 h2
      have hs := fltK_t hlt hq
      repeat' (first | ((first | refine pC ?_ | refine pQC ?_ | refine pU ?_); push_cast [iO, tN, h2]) | (refine pif (fun h => ?_) (fun h => ?_) <;> first | exact pN h | push_cast [iO, tN, h2]))
      exact ⟨k + 1, by omega, by (refine weak_fg ?_; push_cast [iO, tN, hs]), by omega⟩
    | false =>
      have hs := fltK_f hlt hq
      by_cases hi : (fltK qa b k).length < a.length
      · have h2 := fk_f hlt hq (by rw [hab]; exact hi)
        rw [hab] at h2
        have he2 := req_ne' h2
        repeat' (first | ((first | refine pC ?_ | refine pQC ?_ | refine pU ?_); push_cast [iO, tN, he2]) | (refine pif (fun h => ?_) (fun h => ?_) <;> first | exact pN h | push_cast [iO, tN, he2]))
        exact ⟨k + 1, by omega, by (refine weak_fg ?_; push_cast [iO, tN, hs]), by omega⟩
      · repeat' (first | ((first | refine pC ?_ | refine pQC ?_ | refine pU ?_); push_cast [iO, tN]) | (refine pif (fun h => ?_) (fun h => ?_) <;> first | exact pN h | push_cast [iO, tN]))
        exact ⟨k + 1, by omega, by (refine weak_fg ?_; push_cast [iO, tN, hs]), by omega⟩
  · have hkk : k = b.length := by omega
    have hfe : (fltK qa b k).length = a.length := by rw [hkk, fltK_all, hab]
    rw [hfe]
    cases nb with
    | false =>
      have he := hsame rfl
      rw [decide_eq_true he] at hS
      repeat' (first |  (refine plc [] (hN) ?_ ?_; push_cast [iO, tN]; rintro r os ⟨rfl, rfl⟩; push_cast [iO, tN]) | (refine plc [] (hS) ?_ ?_; push_cast [iO, tN]; rintro r os ⟨rfl, rfl⟩; push_cast [iO, tN]) | (refine plc [] (known_pure) ?_ ?_; push_cast [iO, tN]; rintro r os ⟨rfl, rfl⟩; push_cast [iO, tN])  | ((first | refine pC ?_ | refine pQC ?_ | refine pU ?_); push_cast [iO, tN]) | (refine pif (fun h => ?_) (fun h => ?_) <;> first | exact pN h | push_cast [iO, tN]))
      (refine retK_of [] ?_; push_cast [iO, tN])
    | true =>
      obtain ⟨_, n2, _⟩ := hnx rfl
      by_cases hth : nx ≤ now + fv
      · repeat' (first |  (refine plc [] (hN) ?_ ?_; push_cast [iO, tN]; rintro r os ⟨rfl, rfl⟩; push_cast [iO, tN]) | (refine plc [] (hS) ?_ ?_; push_cast [iO, tN]; rintro r os ⟨rfl, rfl⟩; push_cast [iO, tN]) | (refine plc [] (known_pure) ?_ ?_; push_cast [iO, tN]; rintro r os ⟨rfl, rfl⟩; push_cast [iO, tN])  | ((first | refine pC ?_ | refine pQC ?_ | refine pU ?_); push_cast [iO, tN]) | (refine pif (fun h => ?_) (fun h => ?_) <;> first | exact pN h | push_cast [iO, tN]))
        (refine retK_of [] ?_; push_cast [iO, tN])
      · have he := hsame (by simp [hth])
        rw [decide_eq_true he] at hS
        repeat' (first |  (refine plc [] (hN) ?_ ?_; push_cast [iO, tN]; rintro r os ⟨rfl, rfl⟩; push_cast [iO, tN]) | (refine plc [] (hS) ?_ ?_; push_cast [iO, tN]; rintro r os ⟨rfl, rfl⟩; push_cast [iO, tN]) | (refine plc [] (known_pure) ?_ ?_; push_cast [iO, tN]; rintro r os ⟨rfl, rfl⟩; push_cast [iO, tN])  | ((first | refine pC ?_ | refine pQC ?_ | refine pU ?_); push_cast [iO, tN]) | (refine pif (fun h => ?_) (fun h => ?_) <;> first | exact pN h | push_cast [iO, tN]))
        (refine retK_of [] ?_; push_cast [iO, tN])
end Go.Proofs.YtbonfcphabnlpaaGreatDoor
namespace Go.Proofs.YtbonfcphabnlpaaGreatDoor
open Go.ChangeShapes Go.WideShapes Go.ChangeAt Go.RowKit
open Go.ChangeMaps (open_string shut_string)
set_option linter.unusedVariables false
set_option linter.unusedSimpArgs false
theorem int_bd {n : Int} (h : (Lit.int .i64 n).wf = true) : -9223372036854775808 ≤ n ∧ n ≤ 9223372036854775807 := by
  simpa [Lit.wf, IntKind.min, IntKind.max, IntKind.signed, IntKind.bits] using h
theorem trod_rows {H : Type} {enc : TypeId × Value → H} {P : Program} {W : World} {t e : TypeId} {size fuel : Nat} {A : Option Addr} {n c : Nat} {x : DataW H × List MemPlace}
    (ht : P.underlying t = some (.slice e)) (hC : P.cellsOf e = size) (hp : 0 < size) (h : DataW.trod enc P W 0 (fun _ => true) true fuel t [.slice A n c] = some x) :
    ∃ F : Nat → List Value, n ≤ c ∧ c ≤ maxLen ∧ (∀ i, i < n → (F i).length = size ∧ ∃ m y, DataW.trod enc P W 0 (fun _ => true) true m e (F i) = some y) ∧
      Rd W (fun _ => True) size A n ((List.range n).flatMap F) := by
  rcases Go.Deep.open_slice ht h with ⟨hcs, _⟩ | ⟨a, len, cap, m, fu, D, Pl, hcs, _, hl, hm, hmm, _, hi⟩
  · simp at hcs
    obtain ⟨rfl, rfl, rfl⟩ := hcs
    exact ⟨fun _ => [], Nat.le_refl _, by simp [maxLen], fun i hi => absurd hi (by omega), by simpa using Rd.nil⟩
  · simp at hcs
    obtain ⟨rfl, rfl, rfl⟩ := hcs
    simp only [if_true] at hmm
    subst hmm
    obtain ⟨F, hF⟩ := Go.Deep.choose_lt (n := n) (p := fun i (cs' : List Value) => W.cells? 0 (a.add (i * P.cellsOf e)) (P.cellsOf e) = some cs' ∧ DataW.trod enc P W 0 (fun _ => true) true fu e cs' = some (D i, Pl i))
      (fun i h => hi i (by omega))
    have hlen : ∀ i, i < n → (F i).length = size := fun i h => by
      have := (World.cells?_some (hF i h).1).2.1
      rw [this, hC]
    have hflat : ∀ k, k ≤ n → ((List.range k).flatMap F).length = k * size := by
      intro k
      induction k with
      | zero => intro _; simp
      | succ k ih =>
        intro hk
        rw [List.range_succ, List.flatMap_append, List.length_append, ih (by omega)]
        simp [hlen k (by omega), Nat.add_mul]
    refine ⟨F, hl, hm, fun i h => ⟨hlen i h, fu, _, (hF i h).2⟩, hflat n (Nat.le_refl _), fun hn => ?_⟩
    have hcell : ∀ i, i < n → ∀ j, j < size → W.cell? ((a.add (i * size)).add j) = (F i)[j]? := fun i h j hj => by
      have h1 := (World.cells?_some (hF i h).1).2.2 j (by rw [hC]; exact hj)
      rw [hC] at h1
      exact h1
    have hget : ∀ k, k ≤ n → ∀ j, ((List.range k).flatMap F)[j]? = if j < k * size then (F (j / size))[j % size]? else none := by
      intro k
      induction k with
      | zero => intro _ j; simp
      | succ k ih =>
        intro hk j
        rw [List.range_succ, List.flatMap_append]
        by_cases hj : j < k * size
        · rw [List.getElem?_append_left (by rw [hflat k (by omega)]; exact hj), ih (by omega), if_pos hj, if_pos (by rw [Nat.add_mul]; omega)]
        · rw [List.getElem?_append_right (by rw [hflat k (by omega)]; omega), hflat k (by omega)]
          simp only [List.flatMap_cons, List.flatMap_nil, List.append_nil]
          by_cases hj2 : j < (k + 1) * size
          · have hj3 : j - k * size < size := by rw [Nat.add_mul] at hj2; omega
            have e1 : j / size = k := by
              rw [show j = (j - k * size) + k * size by omega, Nat.add_mul_div_right _ _ hp, Nat.div_eq_of_lt hj3]; omega
            have e2 : j % size = j - k * size := by
              conv => lhs; rw [show j = (j - k * size) + k * size by omega]
              rw [Nat.add_mul_mod_self_right, Nat.mod_eq_of_lt hj3]
            rw [if_pos hj2, e1, e2]
          · rw [if_neg hj2, List.getElem?_eq_none (by rw [hlen k (by omega)]; rw [Nat.add_mul] at hj2; omega)]
    obtain ⟨b, off, spot⟩ := a
    have h0 := hcell 0 (by omega) 0 hp
    have hs : spot = none := by
      have hx : (F 0)[0]? = some ((F 0)[0]'(by rw [hlen 0 (by omega)]; exact hp)) := List.getElem?_eq_getElem _
      rw [hx] at h0
      simpa [Addr.add] using World.cell?_spot h0
    subst hs
    have h0b : b < W.heap.size := by
      have hx : (F 0)[0]? = some ((F 0)[0]'(by rw [hlen 0 (by omega)]; exact hp)) := List.getElem?_eq_getElem _
      rw [hx] at h0
      have := World.block_lt_of_cell? _ _ h0
      simpa [Addr.add_lit] using this
    refine ⟨b, off, rfl, trivial, h0b, fun j u hu => ?_⟩
    rw [hget n (Nat.le_refl _)] at hu
    split at hu
    · rename_i hj
      have hq : j / size < n := Nat.div_lt_of_lt_mul (by rw [Nat.mul_comm]; exact hj)
      have h1 := hcell (j / size) hq (j % size) (Nat.mod_lt _ hp)
      rw [Addr.add_lit, Addr.add_lit, Nat.add_assoc, Nat.mul_comm, Nat.div_add_mod] at h1
      rw [h1, hu]
    · cases hu
end Go.Proofs.YtbonfcphabnlpaaGreatDoor
