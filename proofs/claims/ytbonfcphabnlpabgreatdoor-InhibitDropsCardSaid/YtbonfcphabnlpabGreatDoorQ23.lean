/- What the program computes, and the plain laws of it, part 23. -/
import Derived.Test.YtbonfcphabnlpabGreatDoorQ20
namespace Go.Proofs.YtbonfcphabnlpabGreatDoor
attribute [local irreducible] PL QL PWPr PCalls Weak RetK Kontr PA
open Go.RowKit
open IntWalk renaming iteOmega → iO, toNatUp → tN
set_option linter.unusedVariables false
set_option linter.unusedSimpArgs false
set_option maxRecDepth 20000
def PredR (P : Program) (g : FuncId) (ks : List Nat) (os : List Ob) (l : List Req) (q : Req → Bool) : Prop := bodyOk P g = true ∧ ∀ x ∈ l, PCalls P g (.agg (x.d.map D.e) :: ks.map fun k => .c (.ptr k 0)) os fun r os' => r = .c (.v (.bool (q x))) ∧ os' = os
def idxR (q : Req → Bool) (l : List Req) (k : Int) : Prop := (k = -1 ∧ ∀ x ∈ l, q x = false) ∨ ∃ i : Nat, k = i ∧ i < l.length ∧ q (l.getD i default) = true ∧ ∀ x ∈ l.take i, q x = false
theorem allSomeR : ∀ ks : List Nat, allSome (ks.map fun k => some (PV.c (.ptr k 0))) (ks.map fun k => PV.c (.ptr k 0))
  | [] => trivial
  | k :: ks => ⟨leP_refl _, allSomeR ks⟩
theorem indexFuncR_pure (l : List Req) (hl : l.length ≤ 1000000000) (g : FuncId) (ks : List Nat) (os : List Ob) (q : Req → Bool) (hp : PredR Tryz.prog g ks os l q) :
    PCalls Tryz.prog 69 [.c (.sl 3 (l.map Req.d)), .c (.fn (.func g) [] ks)] os fun r os' => ∃ k, idxR q l k ∧ r = .c (.v (.int .i64 k)) ∧ os' = os := by
  refine pcalls_of_all Tryz.func69 rfl (by simp [Tryz.ntmps69]) ?_
  rw [Tryz.ntmps69, Tryz.results69]
  push_cast [iO, tN]
  repeat' (first | ((first | refine pG ?_ | refine pQ ?_ | refine pU ?_); push_cast [iO, tN]) | (refine pif (fun h => ?_) (fun h => ?_) <;> first | exact pN h | push_cast [iO, tN]))
  refine pwp_loop2 (α := Nat) (fun k => k ≤ l.length ∧ ∀ x ∈ l.take k, q x = false) (fun k => ⟨[(8, .c (.v (.int .i64 k))), (7, .c (.v (.int .i64 l.length))), (6, .c (.sl 3 (l.map Req.d))), (0, .c (.sl 3 (l.map Req.d))), (1, .c (.fn (.func g) [] ks))], os⟩) (fun k => l.length - k) 0 ⟨by omega, by simp⟩ (weak_slots (by push_cast [iO, tN]) rfl) ?_
  rintro k ⟨hk, hpre⟩
  by_cases hlt : k < l.length
  · have hm : l.getD k default ∈ l := by rw [getD_lt l hlt]; exact List.getElem_mem _
    have hc := hp.2 _ hm
    have hpre2 : q (l.getD k default) = false → ∀ x ∈ l.take (k + 1), q x = false := fun h x hx => by
      rw [List.take_succ_eq_append_getElem hlt] at hx
      rcases List.mem_append.1 hx with hx | hx
      · exact hpre x hx
      · simp at hx; subst hx; rw [← getD_lt l hlt]; exact h
    cases hq : q (l.getD k default)
    all_goals rw [hq] at hc
    all_goals repeat' (first |  (refine pl_call_all rfl (by push_cast [iO, tN]) rfl hp.1 (by push_cast [iO, tN]) ?_ hc ?_; (focus (unfold callArgs; push_cast [iO, tN]; exact allSomeR ks)); rintro r os ⟨rfl, rfl⟩; refine pl_of_pops ?_; push_cast [iO, tN])  | ((first | refine pG ?_ | refine pQ ?_ | refine pU ?_); push_cast [iO, tN]) | (refine pif (fun h => ?_) (fun h => ?_) <;> first | exact pN h | push_cast [iO, tN]))
    · exact ⟨k + 1, ⟨by omega, hpre2 hq⟩, weak_slots (by push_cast [iO, tN]) rfl, by omega⟩
    · exact ⟨_, rfl, by push_cast [iO, tN], k, .inr ⟨k, rfl, hlt, hq, hpre⟩, rfl, rfl⟩
  · rw [List.take_of_length_le (by omega)] at hpre
    repeat' (first | ((first | refine pG ?_ | refine pQ ?_ | refine pU ?_); push_cast [iO, tN]) | (refine pif (fun h => ?_) (fun h => ?_) <;> first | exact pN h | push_cast [iO, tN]))
    exact ⟨_, rfl, by push_cast [iO, tN], -1, .inl ⟨rfl, hpre⟩, rfl, rfl⟩
theorem containsFuncR_pure (l : List Req) (hl : l.length ≤ 1000000000) (g : FuncId) (ks : List Nat) (os : List Ob) (q : Req → Bool) (hp : PredR Tryz.prog g ks os l q) :
    PCalls Tryz.prog 32 [.c (.sl 3 (l.map Req.d)), .c (.fn (.func g) [] ks)] os fun r os' => r = .c (.v (.bool (l.any q))) ∧ os' = os := by
  refine pcalls_of_all Tryz.func32 rfl (by simp [Tryz.ntmps32]) ?_
  rw [Tryz.ntmps32, Tryz.results32]
  push_cast [iO, tN]
  repeat' (first |  (refine pl_call_all rfl (by push_cast [iO, tN]) rfl (by kernel_rfl) (by push_cast [iO, tN]) ?_ (indexFuncR_pure l hl g ks os q hp) ?_; (focus (unfold callArgs; push_cast [iO, tN])); rintro r os ⟨k, hk, rfl, rfl⟩; refine pl_of_pops ?_; push_cast [iO, tN])  | ((first | refine pG ?_ | refine pQ ?_ | refine pU ?_); push_cast [iO, tN]) | (refine pif (fun h => ?_) (fun h => ?_) <;> first | exact pN h | push_cast [iO, tN]))
  refine ⟨_, rfl, by push_cast [iO, tN], ?_, rfl⟩
  rcases hk with ⟨rfl, h⟩ | ⟨i, rfl, hi, hq, _⟩
  · have : l.any q = false := by rw [List.any_eq_false]; intro x hx; simp [h x hx]
    rw [this]; rfl
  · have : l.any q = true := List.any_eq_true.2 ⟨l.getD i default, by rw [getD_lt l hi]; exact List.getElem_mem _, hq⟩
    rw [this]; simp
end Go.Proofs.YtbonfcphabnlpabGreatDoor
namespace Go.Proofs.YtbonfcphabnlpabGreatDoor
open Go.RowKit
open IntWalk renaming iteOmega → iO, toNatUp → tN
set_option linter.unusedVariables false
set_option linter.unusedSimpArgs false
theorem rp_vals {w : World} {Γ : G} : ∀ {vs xs : List Value}, All2 (RP w Γ) (vs.map fun v => .c (.v v)) xs → xs = vs
  | [], _, h => by rw [List.map_nil, All2.nil_l] at h; exact h
  | v :: vs, xs, h => by
    rw [List.map_cons, All2.cons_l] at h
    obtain ⟨y, m, rfl, h1, h2⟩ := h
    rw [rp_vals h2, h1.1]
theorem ext_of_below {w w' : World} (hB : Below w.heap.size w w') : Ext No w w' := ⟨hB.os, hB.tape, hB.output, hB.size, fun k hk _ => hB.block k hk⟩
theorem pcalls_plain {P : Program} {g : FuncId} (vs : List Value) (v : Value) (hv : v.oneCell' = true) (h : ∀ w, Pin w → Calls P g vs.toArray w fun e w' => e = .returned v ∧ Below w.heap.size w w') :
    PCalls P g (vs.map fun v => .c (.v v)) [] fun r os => r = .c (.v v) ∧ os = [] := fun Γ w xs hm hx => by
  rw [rp_vals hx]
  refine (h w hm.pin.1).mono ?_
  rintro e w' ⟨rfl, hB⟩
  have hE := ext_of_below hB
  exact ⟨_, [], Γ, _, rfl, ⟨rfl, rfl⟩, ⟨rfl, hv⟩, Nat.le_refl _, hm.same (Same.of_ext hE), ext_grow hE⟩
theorem pcalls_row {P : Program} {g : FuncId} (vs : List Value) (T : TypeId) (rows : List (List D)) (cells : List Value) (sz : Nat) (hsz : 0 < sz) (hr : ∀ r ∈ rows, r.length = sz) (hn : 0 < rows.length) (hc : ∀ w I, All2 (RD w I) rows.flatten cells)
    (h : ∀ w, Pin w → Calls P g vs.toArray w fun e w' => ∃ v, e = .returned v ∧ w'.ownsRow w.heap.size T sz v rows.length cells ∧ Below w.heap.size w w') :
    PCalls P g (vs.map fun v => .c (.v v)) [] fun r os => r = .c (.own 0 rows.length) ∧ os = [.arr T sz rows] := fun Γ w xs hm hx => by
  rw [rp_vals hx]
  refine (h w hm.pin.1).mono ?_
  rintro e w' ⟨v, rfl, hrow, hB⟩
  have hE := ext_of_below hB
  have hS := Same.of_ext hE
  have hn0 : Γ.n = 0 := hm.n
  obtain ⟨b, c, rfl, h4, h5, h6, h7, h8, h9⟩ := arr_of_own (k := Γ.n) (Γ := Γ) (rows := rows) hrow hn hsz hr rfl
  have hro := h9 (Γ.push b c) (by simp [G.push, upd_same]) (by simp [G.push, upd_same]) (hc _ _)
  refine ⟨_, _, Γ.push b c, _, rfl, ⟨rfl, rfl⟩, ?_, by simp, hm.push hS _ b c hro (fun _ => h6), grow_push hm hE b c (fun _ => h6) (Nat.zero_le _)⟩
  have hrep : OwnRep (Γ.push b c) Γ.n rows.length (.slice (some ⟨b, 0, none⟩) rows.length c) := .inr ⟨by simp [G.push, upd_same, h4], by simp [G.push, upd_same], by simp [G.push, upd_same]; exact h5⟩
  rw [hn0] at hrep
  exact ⟨by simp [G.push, hn0], hrep⟩
end Go.Proofs.YtbonfcphabnlpabGreatDoor
