/- What the program computes, and the plain laws of it, part 31. -/
import Derived.Test.YtcnoopjacilceaaGreatDoorQ30
namespace Go.Proofs.YtcnoopjacilceaaGreatDoor
open Go.RowKit
open IntWalk renaming iteOmega → iO, toNatUp → tN
set_option linter.unusedVariables false
set_option linter.unusedSimpArgs false
section
variable {P : Program} {N p : Nat} {ops : Array Oper} {rest : List Oper} {o : Oper} {s : S} {K : S → Prop}
theorem pl_run1 {q : PV} (hg : gd ops s o.guard = some true) (h : run1 P p s o.op = .val q) (hd : dstOk N o.dst) (hK : PL P N p ops rest (s.put o.dst q) K) : PL P N p ops (o :: rest) s K := pl_val hg (run1_val h) hd hK
theorem pl_cat {t t' : TypeId} {x z : Operand} {a b : ByteArray} (ho : o.op = .binOp .add t x z t') (hg : gd ops s o.guard = some true) (hx : s.ev x = some (.c (.v (.string a)))) (hz : s.ev z = some (.c (.v (.string b)))) (hf : (a.size : Int) + b.size ≤ 9223372036854775807) (hd : dstOk N o.dst)
    (hK : PL P N p ops rest (s.put o.dst (.c (.v (.string (a ++ b))))) K) : PL P N p ops (o :: rest) s K := by
  refine pl_val (q := .c (.v (.string (a ++ b)))) hg ?_ hd hK
  rw [ho]
  show binP P .add t (s.ev x) (s.ev z) = _
  rw [hx, hz]
  simp only [binP, binV, strOp, if_pos hf, Option.map_some]
end
section
variable {rd : Option Nat} {P : Program} {N p : Nat} {Q : Exit → S → Prop} {s : S}
theorem pwp_mid3 {x y : Code} {α : Type} (B : Nat) (ex : List Nat) (f : α → List (Nat × PV)) (g : α → List (Nat × Ob)) (Φ : α → Prop) (x0 : α) {t0 : List (Nat × PV)} (ht : cutT B ex ((f x0).map Prod.fst) s.t = t0)
    (h1 : PWPr rd P N p x (thenE (fun s' => ∃ a, Φ a ∧ Weak N p s' ⟨f a ++ t0, setM s.o (g a)⟩) Q) s)
    (h2 : ∀ a, Φ a → PWPr rd P N p y Q ⟨f a ++ t0, setM s.o (g a)⟩) : PWPr rd P N p (x.seq y) Q s := by
  refine pwp_seq fun K hK => pwp_mono h1 fun e s' h => ?_
  cases e with
  | normal =>
    obtain ⟨a, ha, hw⟩ := h
    exact hK s' (pwp_weak hw (h2 a ha))
  | _ => exact h
theorem pwp_mid4 {x y : Code} {α : Type} (B : Nat) (ex : List Nat) (f : α → List (Nat × PV)) (g : α → List (Nat × Ob)) (n : α → List Ob) (Φ : α → Prop) (x0 : α) {t0 : List (Nat × PV)} (ht : cutT B ex ((f x0).map Prod.fst) s.t = t0)
    (h1 : PWPr rd P N p x (thenE (fun s' => ∃ a, Φ a ∧ Weak N p s' ⟨f a ++ t0, setM s.o (g a) ++ n a⟩) Q) s)
    (h2 : ∀ a, Φ a → PWPr rd P N p y Q ⟨f a ++ t0, setM s.o (g a) ++ n a⟩) : PWPr rd P N p (x.seq y) Q s := by
  refine pwp_seq fun K hK => pwp_mono h1 fun e s' h => ?_
  cases e with
  | normal =>
    obtain ⟨a, ha, hw⟩ := h
    exact hK s' (pwp_weak hw (h2 a ha))
  | _ => exact h
end
end Go.Proofs.YtcnoopjacilceaaGreatDoor
namespace Go.Proofs.YtcnoopjacilceaaGreatDoor
attribute [local irreducible] PL QL PWPr PCalls Weak RetK Kontr PA
open Go.RowKit
open IntWalk renaming iteOmega → iO, toNatUp → tN
set_option linter.unusedVariables false
set_option linter.unusedSimpArgs false
set_option maxRecDepth 20000
def placeE (l : List Dev) (i : Nat) : List (MK × List D) := (List.range i).map fun j => (.i .i64 (l.getD j default).index, [.v (.int .i64 (j : Int))])
def origE (l : List Dev) (i : Nat) : List (MK × List D) := (l.take i).map fun d => (.i .i64 d.index, [.v (.string (placeM l d.index))])
theorem mget_orig (l : List Dev) (n : Int) : ∀ m : List Dev, mget (m.map fun d => (.i .i64 d.index, [.v (.string (placeM l d.index))])) (.i .i64 n) = (findD m n).map fun _ => [D.v (.string (placeM l n))]
  | [] => rfl
  | d :: m => by
    rw [List.map_cons, mget]
    unfold findD
    by_cases h : d.index = n
    · rw [List.find?_cons_of_pos (by simpa using h)]
      subst h
      simp
    · rw [List.find?_cons_of_neg (by simpa using h), if_neg (by simp [h])]
      exact mget_orig l n m
theorem mput_new : ∀ (es : List (MK × List D)) (k : MK) (r : List D), mget es k = none → mput es k r = es ++ [(k, r)]
  | [], k, r, _ => rfl
  | e :: es, k, r, h => by
    obtain ⟨k', r'⟩ := e
    rw [mget] at h
    split at h
    · cases h
    · rename_i hk
      rw [mput, if_neg hk, mput_new es k r h]; rfl
theorem mget_place (l : List Dev) (n : Int) : ∀ i, i ≤ l.length → (∀ j, j < i → (l.getD j default).index ≠ n) → mget (placeE l i) (.i .i64 n) = none := by
  intro i hi h
  unfold placeE
  have key : ∀ js : List Nat, (∀ j ∈ js, j < i) → mget (js.map fun j => ((MK.i .i64 (l.getD j default).index : MK), [D.v (.int .i64 (j : Int))])) (.i .i64 n) = none := by
    intro js
    induction js with
    | nil => intro _; rfl
    | cons j js ih =>
      intro hj
      rw [List.map_cons, mget, if_neg (fun e => h j (hj j (by simp)) (by injection e))]
      exact ih fun x hx => hj x (by simp [hx])
  exact key _ fun j hj => List.mem_range.1 hj
theorem mget_origE (l : List Dev) (i : Nat) (n : Int) : mget (origE l i) (.i .i64 n) = (findD (l.take i) n).map fun _ => [D.v (.string (placeM l n))] := mget_orig l n _
theorem above_eq {l : List Dev} (h : Okp l) {i : Nat} (hi : i < l.length) : (findD (l.take i) (l.getD i default).parent = none → placeM l (l.getD i default).parent = ⟨#[]⟩) := fun hn => by
  rcases h.par i hi with h0 | ⟨j, hj, hp⟩
  · rw [getD_lt l hi, h0]
    unfold placeM
    rw [orig_none (find0 h.pos (by omega))]
    rfl
  · exfalso
    have hm : l[j] ∈ l.take i := by rw [List.mem_take_iff_getElem]; exact ⟨j, by omega, rfl⟩
    exact findD_none.1 hn _ hm (by rw [getD_lt l hi]; exact hp)
theorem lk_above {l : List Dev} (h : Okp l) {i : Nat} (hi : i < l.length) : lkP false (.c (.v (.string ⟨#[]⟩))) false (mget (origE l i) (.i .i64 (l.getD i default).parent)) = some (.c (.v (.string (placeM l (l.getD i default).parent)))) := by
  rw [mget_origE]
  cases hf : findD (l.take i) (l.getD i default).parent with
  | none => rw [above_eq h hi hf]; rfl
  | some d => rfl
theorem place_step {l : List Dev} (h : Okp l) {i : Nat} (hi : i < l.length) : placeM l (l.getD i default).index = placeM l (l.getD i default).parent ++ ⟨#[47]⟩ ++ (l.getD i default).original := by
  have hm : l.getD i default ∈ l := by rw [getD_lt l hi]; exact List.getElem_mem _
  unfold placeM
  rw [orig_step h hm, joinP_snoc]
theorem new_index {l : List Dev} (h : Okp l) {i : Nat} (hi : i < l.length) : ∀ j, j < i → (l.getD j default).index ≠ (l.getD i default).index := fun j hj e => by
  have hp := List.pairwise_iff_getElem.1 h.nodup j i (by simp; omega) (by simp; omega) hj
  simp only [List.getElem_map] at hp
  rw [getD_lt l (by omega), getD_lt l hi] at e
  exact hp e
theorem put_place {l : List Dev} (h : Okp l) {i : Nat} (hi : i < l.length) : mput (placeE l i) (.i .i64 (l.getD i default).index) [.v (.int .i64 (i : Int))] = placeE l (i + 1) := by
  rw [mput_new _ _ _ (mget_place l _ i (by omega) (new_index h hi))]
  unfold placeE
  rw [List.range_succ, List.map_append]; rfl
theorem put_orig {l : List Dev} (h : Okp l) {i : Nat} (hi : i < l.length) : mput (origE l i) (.i .i64 (l.getD i default).index) [.v (.string (placeM l (l.getD i default).index))] = origE l (i + 1) := by
  rw [mput_new]
  · unfold origE
    rw [List.take_succ_eq_append_getElem hi, List.map_append, ← getD_lt l hi]; rfl
  · rw [mget_origE, findD_none.2 fun d hd e => ?_]
    · rfl
    · obtain ⟨j, hj, rfl⟩ := List.mem_take_iff_getElem.1 hd
      exact new_index h hi j (by omega) (by rw [getD_lt l (by omega)]; exact e)
theorem place_size {l : List Dev} (hl : l.length ≤ 1000) (hz : ∀ d ∈ l, d.original.size ≤ 1000) (n : Int) : (placeM l n).size ≤ 1001000 := by
  have h1 := orig_len l n
  have h2 := orig_size hz n
  have h3 := joinL_len (B := 1000) (ps := (origM l n).map (·.data.toList)) fun q hq => by obtain ⟨x, hx, rfl⟩ := List.mem_map.1 hq; exact h2 x hx
  have h4 : (placeM l n).size = (joinL ((origM l n).map (·.data.toList))).length := by unfold placeM; rw [← joinP_list]; rfl
  rw [h4]
  rw [List.length_map] at h3
  have h5 : (origM l n).length * 1001 ≤ 1000 * 1001 := Nat.mul_le_mul_right _ (by omega)
  omega
theorem emp_fit {n : Nat} (h : n ≤ 100000000) : (n : Int) + ((⟨#[47]⟩ : ByteArray).size : Int) ≤ 9223372036854775807 := slash_fit2 h
set_option maxHeartbeats 4000000 in
theorem look_pure (l : List Dev) (h : Okp l) (hl : l.length ≤ 1000) (hz : ∀ d ∈ l, d.original.size ≤ 1000) :
    PCalls Tryz.prog 56 [.agg (trE l)] [] fun r os => r = .agg [.sl 10 (l.map Dev.d), .mp 0, .mp 1] ∧ os = [.map (some .i64) false (placeE l l.length), .map (some .i64) false (origE l l.length)] := by
  refine pcalls_of Tryz.func56 rfl (by simp [Tryz.ntmps56]) ?_
  rw [Tryz.ntmps56, Tryz.results56]
  push_cast [iO, tN]
  have cB : CutB 7 [13, 14, 15] := trivial
  repeat' (first | ((first | refine pC ?_ | refine pQC ?_ | refine pU ?_); push_cast [iO, tN]) | (refine pif (fun h => ?_) (fun h => ?_) <;> first | exact pN h | push_cast [iO, tN]))
  (apply pwp_loop3 (α := Nat) 7 [13, 14, 15] (fun i => [(15, .c (.v (.int .i64 i)))]) (fun i => [(2, .map (some .i64) false (placeE l i)), (3, .map (some .i64) false (origE l i))]) (fun i => i ≤ l.length) (fun i => l.length - i) (0); (focus ((try push_cast [iO, tN]); rfl)); (focus exact (Nat.zero_le _)); (focus ((refine weak_fg ?_; try push_cast [iO, tN]); (try (exact ⟨rfl, rfl⟩)))))
  intro i hi
  push_cast [iO, tN]
  by_cases hlt : i < l.length
  case neg =>
    have hi2 : i = l.length := by omega
    subst hi2
    repeat' (first | ((first | refine pC ?_ | refine pQC ?_ | refine pU ?_); push_cast [iO, tN]) | (refine pif (fun h => ?_) (fun h => ?_) <;> first | exact pN h | push_cast [iO, tN]))
    (refine retK_of [2, 3] ?_; push_cast [iO, tN])
  refine pwp_seq fun K1 hK1 => ?_
  refine pwp_region ?_
  push_cast [iO, tN]
  refine Kont.use (by assumption) ?_
  refine pwp_seq fun K2 hK2 => ?_
  refine pwp_cond ?_
  push_cast [iO, tN]
  refine ⟨fun _ => ?_, fun h' => absurd (show (i : Int) < (l.length : Int) by omega) (of_decide_eq_false h')⟩
  refine pwp_skip ?_
  push_cast [iO, tN]
  refine Kont.use (by assumption) ?_
  refine pwp_seq fun K3 hK3 => ?_
  refine pwp_block ?_
  refine pwp_seq fun K4 hK4 => ?_
  refine pwp_region ?_
  push_cast [iO, tN]
  refine Kont.use (by assumption) ?_
  refine pwp_cut 7 [13, 14, 15] ?_
  push_cast [iO, tN]
  refine pwp_seq fun K5 hK5 => ?_
  refine pwp_regionL ?_
  have hlk := lk_above h hlt
  have hps := place_size hl hz (l.getD i default).parent
  have hoz : (l.getD i default).original.size ≤ 1000 := hz _ (by rw [getD_lt l hlt]; exact List.getElem_mem _)
  refine pl_run1 (q := .c (.ptr 4 2)) rfl (by push_cast [iO, tN]) (by push_cast [iO, tN]) ?_
  push_cast [iO, tN]
  refine pl_run1 (q := .c (.mp 3)) rfl (by push_cast [iO, tN]) (by push_cast [iO, tN]) ?_
  push_cast [iO, tN]
  refine pl_run1 (q := .c (.ptr 5 1)) rfl (by push_cast [iO, tN]) (by push_cast [iO, tN]) ?_
  push_cast [iO, tN]
  refine pl_run1 (q := .c (.v (.int .i64 (l.getD i default).parent))) rfl (by push_cast [iO, tN]) (by push_cast [iO, tN]) ?_
  push_cast [iO, tN]
  refine pl_run1 (q := .c (.v (.string (placeM l (l.getD i default).parent)))) rfl (by push_cast [iO, tN, hlk]) (by push_cast [iO, tN]) ?_
  push_cast [iO, tN]
  refine pl_cat rfl rfl rfl rfl (emp_fit (by omega)) (by push_cast [iO, tN]) ?_
  push_cast [iO, tN]
  refine pl_run1 (q := .c (.ptr 5 3)) rfl (by push_cast [iO, tN]) (by push_cast [iO, tN]) ?_
  push_cast [iO, tN]
  refine pl_run1 (q := .c (.v (.string (l.getD i default).original))) rfl (by push_cast [iO, tN]) (by push_cast [iO, tN]) ?_
  push_cast [iO, tN]
  refine pl_cat rfl rfl rfl rfl ?_ (by push_cast [iO, tN]) ?_
  · rw [ByteArray.size_append, show (⟨#[47]⟩ : ByteArray).size = 1 from rfl]; omega
  push_cast [iO, tN]
  refine pl_of_pops ?_
  push_cast [iO, tN]
  refine Kont.use (by assumption) ?_
  rw [← place_step h hlt]
  have hpp := put_place h hlt
  have hpo := put_orig h hlt
  refine pwp_cut 7 [13, 14, 15] ?_
  push_cast [iO, tN]
  repeat' (first | ((refine pwp_cut 7 [13, 14, 15] ?_; apply pwp_drawn_to; (focus kernel_rfl); (focus (simp only [List.length_cons, List.length_nil, Nat.reduceAdd]; (repeat' first | ((first | refine pah 0 ?_ | refine pah 2 ?_ | refine pah 4 ?_ | refine pah 6 ?_ | refine pah 8 ?_ | refine pah 9 ?_); push_cast [iO, tN, hpp, hpo]) | (refine pad ?_; first | with_reducible exact weak_cutS 7 [13, 14, 15] _ | (refine weak_fg ?_; push_cast [iO, tN, hpp, hpo])) | ((first | refine pas [1] ?_ | refine pas [3] ?_ | refine pas [5] ?_ | refine pas [7] ?_ | refine pas [10] ?_ | refine pas [11] ?_); push_cast [iO, tN, hpp, hpo]) | ((first | refine pas [1, 3] ?_ | refine pas [1, 5] ?_ | refine pas [1, 7] ?_ | refine pas [3, 5] ?_ | refine pas [3, 7] ?_ | refine pas [5, 7] ?_ | refine pas [5, 10] ?_ | refine pas [7, 10] ?_); push_cast [iO, tN, hpp, hpo]; refine ⟨?_, ?_⟩) | ((first | refine pas [1, 3, 5] ?_ | refine pas [1, 3, 7] ?_ | refine pas [1, 5, 7] ?_ | refine pas [3, 5, 7] ?_ | refine pas [5, 7, 10] ?_); push_cast [iO, tN, hpp, hpo]; refine ⟨?_, ?_, ?_⟩) | ((first | refine pas [1, 3, 5, 7] ?_); push_cast [iO, tN, hpp, hpo]; refine ⟨?_, ?_, ?_, ?_⟩)); done)); push_cast [iO, tN, hpp, hpo])) | ((first | refine pC ?_ | refine pQC ?_ | refine pU ?_); push_cast [iO, tN, hpp, hpo]) | (refine pif (fun h => ?_) (fun h => ?_) <;> first | exact pN h | push_cast [iO, tN, hpp, hpo]))
  exact ⟨i + 1, by omega, by (refine weak_fg ?_; push_cast [iO, tN]), by omega⟩
end Go.Proofs.YtcnoopjacilceaaGreatDoor
namespace Go.Proofs.YtcnoopjacilceaaGreatDoor
open Go.RowKit
open IntWalk renaming iteOmega → iO, toNatUp → tN
set_option linter.unusedVariables false
set_option linter.unusedSimpArgs false
theorem find_at {α : Type} [Inhabited α] {q : α → Bool} {l : List α} {i : Nat} (hi : i < l.length) (hq : q (l.getD i default) = true) (hp : ∀ x ∈ l.take i, q x = false) : l.find? q = some (l.getD i default) := by
  rw [List.find?_eq_some_iff_append]
  refine ⟨hq, l.take i, l.drop (i + 1), ?_, fun a ha => by simp [hp a ha]⟩
  rw [getD_lt l hi]
  conv => lhs; rw [← List.take_append_drop i l, List.drop_eq_getElem_cons hi]
theorem find_no {α : Type} {q : α → Bool} {l : List α} (h : ∀ x ∈ l, q x = false) : l.find? q = none := by
  rw [List.find?_eq_none]
  intro x hx
  simp [h x hx]
theorem take_next {α : Type} [Inhabited α] {q : α → Bool} {l : List α} {k : Nat} (hk : k < l.length) (h : ∀ x ∈ l.take k, q x = false) (hq : q (l.getD k default) = false) : ∀ x ∈ l.take (k + 1), q x = false := fun x hx => by
  rw [List.take_succ_eq_append_getElem hk] at hx
  rcases List.mem_append.1 hx with hx | hx
  · exact h x hx
  · simp at hx; subst hx; rw [← getD_lt l hk]; exact hq
theorem getP_at {l : List Atr} {s : ByteArray} {k : Nat} (hk : k < l.length) (h : ∀ x ∈ l.take k, (fun a : Atr => decide (a.name = s)) x = false) (hq : (l.getD k default).name = s) : getP l s = (l.getD k default).value := by
  unfold getP
  rw [find_at hk (by simpa using hq) h]
theorem getP_no {l : List Atr} {s : ByteArray} (h : ∀ x ∈ l, (fun a : Atr => decide (a.name = s)) x = false) : getP l s = ⟨#[]⟩ := by
  unfold getP
  rw [find_no h]
theorem chainGo_pos {l : List Dev} (h : Okp l) : ∀ (i : Nat) (hi : i < l.length) (k : Nat) (e : Dev), e ∈ chainGo l k l[i].index → ∃ (j : Nat) (hj : j < l.length), j ≤ i ∧ e = l[j] := by
  intro i
  induction i using Nat.strongRecOn with
  | ind i ih =>
    intro hi k e he
    cases k with
    | zero => simp [chainGo] at he
    | succ k =>
      rw [chainGo_some (findD_mem h.nodup (List.getElem_mem hi))] at he
      rcases List.mem_cons.1 he with rfl | he
      · exact ⟨i, hi, Nat.le_refl _, rfl⟩
      · rcases h.par i hi with h0 | ⟨j, hj, hp⟩
        · rw [h0, chainGo_none (find0 h.pos (by omega))] at he
          simp at he
        · rw [← hp] at he
          obtain ⟨m, hm, h1, h2⟩ := ih j hj (by omega) k e he
          exact ⟨m, hm, by omega, h2⟩
theorem chain_tail_ne {l : List Dev} (h : Okp l) {d : Dev} (hd : d ∈ l) : ∀ e ∈ chainM l d.parent, e.index ≠ d.index := by
  obtain ⟨i, hi, rfl⟩ := List.getElem_of_mem hd
  intro e he
  rcases h.par i hi with h0 | ⟨j, hj, hp⟩
  · rw [h0, chain_none (find0 h.pos (by omega))] at he
    simp at he
  · rw [← hp] at he
    obtain ⟨m, hm, h1, rfl⟩ := chainGo_pos h j (by omega) _ e he
    have hp := List.pairwise_iff_getElem.1 h.nodup m i (by simp; omega) (by simp; omega) (by omega)
    simpa using hp
def ancM (l : List Dev) (n : Int) : List Dev := (chainM l n).filter fun d => decide (d.index ≠ n)
theorem anc_chain {l : List Dev} (h : Okp l) {n : Int} {d : Dev} (hf : findD l n = some d) : d :: ancM l n = chainM l n := by
  obtain ⟨hd, rfl⟩ := findD_some hf
  unfold ancM
  rw [chain_step h hd, List.filter_cons_of_neg (by simp)]
  congr 1
  rw [List.filter_eq_self]
  intro e he
  simpa using chain_tail_ne h hd e he
theorem chainGo_next {l : List Dev} {k : Nat} {n : Int} {d : Dev} (h : findD l n = some d) : chainGo l (k + 1) n = d :: chainGo l k d.parent := chainGo_some h k
theorem mget_placeE {l : List Dev} (h : Okp l) (n : Int) : (mget (placeE l l.length) (.i .i64 n) = none ∧ findD l n = none) ∨ ∃ j, j < l.length ∧ mget (placeE l l.length) (.i .i64 n) = some [.v (.int .i64 (j : Int))] ∧ findD l n = some (l.getD j default) := by
  have key : ∀ i, i ≤ l.length → (mget (placeE l i) (.i .i64 n) = none ∧ findD (l.take i) n = none) ∨ ∃ j, j < i ∧ mget (placeE l i) (.i .i64 n) = some [.v (.int .i64 (j : Int))] ∧ findD (l.take i) n = some (l.getD j default) := by
    intro i
    induction i with
    | zero => intro _; exact .inl ⟨rfl, rfl⟩
    | succ i ih =>
      intro hi
      have hlt : i < l.length := by omega
      have hstep : placeE l (i + 1) = placeE l i ++ [((.i .i64 (l.getD i default).index : MK), [D.v (.int .i64 (i : Int))])] := by unfold placeE; rw [List.range_succ, List.map_append]; rfl
      have happ : ∀ (es : List (MK × List D)) (k : MK) (r : List D) (m : MK), mget (es ++ [(k, r)]) m = match mget es m with | some x => some x | none => if k = m then some r else none := by
        intro es k r m
        induction es with
        | nil => rfl
        | cons e es ihe =>
          obtain ⟨k', r'⟩ := e
          rw [List.cons_append, mget, mget, ihe]
          split <;> rfl
      have hfind : findD (l.take (i + 1)) n = match findD (l.take i) n with | some x => some x | none => if (l.getD i default).index = n then some (l.getD i default) else none := by
        unfold findD
        rw [List.take_succ_eq_append_getElem hlt, List.find?_append, getD_lt l hlt]
        cases hc : List.find? (fun d => decide (d.index = n)) (l.take i) with
        | some x => rfl
        | none =>
          simp only [Option.none_or]
          by_cases hx : l[i].index = n
          · rw [List.find?_cons_of_pos (by simpa using hx), if_pos hx]
          · rw [List.find?_cons_of_neg (by simpa using hx), if_neg hx]; rfl
      rw [hstep, happ, hfind]
      rcases ih (by omega) with ⟨h1, h2⟩ | ⟨j, hj, h1, h2⟩
      · rw [h1, h2]
        by_cases hx : (l.getD i default).index = n
        · refine .inr ⟨i, by omega, ?_, ?_⟩
          · simp only [hx, if_true]
          · simp only [hx, if_true]
        · refine .inl ⟨?_, ?_⟩
          · simp only
            rw [if_neg (fun e => hx (by injection e))]
          · simp only [if_neg hx]
      · exact .inr ⟨j, by omega, by rw [h1], by rw [h2]⟩
  have := key l.length (Nat.le_refl _)
  rw [List.take_length] at this
  rcases this with h | ⟨j, hj, h1, h2⟩
  · exact .inl h
  · exact .inr ⟨j, hj, h1, h2⟩
theorem seatL_at {l : List Dev} {rs : List Rec} : ∀ {ch : List Dev} {k : Nat}, k < ch.length → (∀ x ∈ ch.take k, (fun d : Dev => validS (seatV l rs d.index)) x = false) → validS (seatV l rs (ch.getD k default).index) = true → seatL l rs ch = seatV l rs (ch.getD k default).index
  | [], k, hk, _, _ => by simp at hk
  | d :: ch, 0, _, _, hq => by
    rw [seatL]
    simp only [List.getD_cons_zero] at hq ⊢
    rw [if_pos hq]
  | d :: ch, k + 1, hk, h, hq => by
    rw [seatL, if_neg (by have h0 : validS (seatV l rs d.index) = false := h d (by simp); rw [h0]; exact Bool.false_ne_true)]
    simp only [List.getD_cons_succ] at hq ⊢
    exact seatL_at (by simpa using hk) (fun x hx => h x (by rw [List.take_succ_cons]; exact List.mem_cons_of_mem _ hx)) hq
theorem seatL_no {l : List Dev} {rs : List Rec} : ∀ {ch : List Dev}, (∀ x ∈ ch, (fun d : Dev => validS (seatV l rs d.index)) x = false) → seatL l rs ch = ⟨#[115, 101, 97, 116, 48]⟩
  | [], _ => rfl
  | d :: ch, h => by
    rw [seatL, if_neg (by have h0 : validS (seatV l rs d.index) = false := h d (by simp); rw [h0]; exact Bool.false_ne_true)]
    exact seatL_no fun x hx => h x (List.mem_cons_of_mem _ hx)
theorem userM_of (s : List Ses) (seat : ByteArray) : userM s seat = match (s.filter fun x => decide (x.seat = seat)).find? fun x => x.active with
    | some x => x.user
    | none => ⟨#[]⟩ := by
  unfold userM
  rw [List.find?_filter]
  simp only [decide_eq_true_eq, Bool.decide_and, Bool.decide_eq_true]
  rfl
def wantK (l : List Dev) (rs : List Rec) (s : List Ses) (k : Nat) : List Acc := ((l.take k).filter (wantQ l rs s)).map (wantA l rs s)
theorem wantK_zero (l : List Dev) (rs : List Rec) (s : List Ses) : wantK l rs s 0 = [] := rfl
theorem wantK_all (l : List Dev) (rs : List Rec) (s : List Ses) {k : Nat} (h : l.length ≤ k) : wantK l rs s k = wantM l rs s := by unfold wantK; rw [List.take_of_length_le h]; rfl
theorem wantK_t {l : List Dev} {rs : List Rec} {s : List Ses} {k : Nat} (hk : k < l.length) (h : wantQ l rs s (l.getD k default) = true) : wantK l rs s (k + 1) = wantK l rs s k ++ [wantA l rs s (l.getD k default)] := by
  unfold wantK
  rw [List.take_succ_eq_append_getElem hk, List.filter_append, List.map_append, ← getD_lt l hk, List.filter_cons_of_pos h]
  rfl
theorem wantK_f {l : List Dev} {rs : List Rec} {s : List Ses} {k : Nat} (hk : k < l.length) (h : wantQ l rs s (l.getD k default) = false) : wantK l rs s (k + 1) = wantK l rs s k := by
  unfold wantK
  rw [List.take_succ_eq_append_getElem hk, List.filter_append, ← getD_lt l hk, List.filter_cons_of_neg (by rw [h]; exact Bool.false_ne_true), List.filter_nil, List.append_nil]
theorem wantK_len (l : List Dev) (rs : List Rec) (s : List Ses) (k : Nat) : (wantK l rs s k).length ≤ k := by unfold wantK; rw [List.length_map]; exact Nat.le_trans (List.length_filter_le _ _) (List.length_take_le _ _)
end Go.Proofs.YtcnoopjacilceaaGreatDoor
namespace Go.Proofs.YtcnoopjacilceaaGreatDoor
open Go.RowKit
open IntWalk renaming iteOmega → iO, toNatUp → tN
set_option linter.unusedVariables false
set_option linter.unusedSimpArgs false
theorem recT_none {l : List Dev} {rs : List Rec} {n : Int} (h : findD l n = none) : recT l rs n = none := by unfold recT; rw [h]; rfl
theorem recT_some {l : List Dev} {rs : List Rec} {n : Int} {d : Dev} (h : findD l n = some d) : recT l rs n = recF rs n (placeM l n) := by unfold recT; rw [h]; rfl
structure RecsOk (rs : List Rec) : Prop where
  len : rs.length ≤ 1000
  tags : ∀ r ∈ rs, r.tags.length ≤ 1000
  props : ∀ r ∈ rs, r.props.length ≤ 1000
  val : ∀ r ∈ rs, ∀ a ∈ r.props, a.value.size ≤ 1000
theorem recT_mem {l : List Dev} {rs : List Rec} {n : Int} {x : Rec} (h : recT l rs n = some x) : x ∈ rs := by
  unfold recT at h
  split at h
  · exact List.mem_of_find?_eq_some h
  · cases h
theorem getP_size {l : List Atr} {s : ByteArray} {B : Nat} (h : ∀ a ∈ l, a.value.size ≤ B) : (getP l s).size ≤ B := by
  unfold getP
  cases hf : l.find? fun a => decide (a.name = s) with
  | none => exact Nat.zero_le _
  | some a => exact h a (List.mem_of_find?_eq_some hf)
theorem recD_props {l : List Dev} {rs : List Rec} {n : Int} (h : RecsOk rs) : ((recT l rs n).getD default).props.length ≤ 1000 ∧ ∀ a ∈ ((recT l rs n).getD default).props, a.value.size ≤ 1000 := by
  cases hR : recT l rs n with
  | none => exact ⟨Nat.zero_le _, fun a ha => by cases ha⟩
  | some x => exact ⟨h.props x (recT_mem hR), h.val x (recT_mem hR)⟩
theorem seatV_size {l : List Dev} {rs : List Rec} {n : Int} (h : RecsOk rs) : (seatV l rs n).size ≤ 1000 := getP_size (recD_props h).2
theorem seatV_none {l : List Dev} {rs : List Rec} {n : Int} (h : recT l rs n = none) : validS (seatV l rs n) = false := by
  unfold seatV
  rw [h]
  decide +kernel
end Go.Proofs.YtcnoopjacilceaaGreatDoor
namespace Go.Proofs.YtcnoopjacilceaaGreatDoor
open Go.RowKit
open IntWalk renaming iteOmega → iO, toNatUp → tN
set_option linter.unusedVariables false
set_option linter.unusedSimpArgs false
def HidR (X : Prop) : Prop := X
theorem hidR (id : Nat) {rd : Option Nat} {P : Program} {N p : Nat} {Q : Exit → S → Prop} {s : S} {ops : Array Oper} (h : HidR (PWPr rd P N p (.region id ops true) Q s)) : PWPr rd P N p (.region id ops true) Q s := h
theorem unhid {X : Prop} (h : X) : HidR X := h
attribute [irreducible] HidR
theorem pwp_gen {rd : Option Nat} {P : Program} {N p : Nat} {c : Code} {Q : Exit → S → Prop} {s : S} (h : ∀ Q0 : Exit → S → Prop, (∀ e s', Q e s' → Q0 e s') → PWPr rd P N p c Q0 s) : PWPr rd P N p c Q s := h Q fun _ _ h => h
end Go.Proofs.YtcnoopjacilceaaGreatDoor
