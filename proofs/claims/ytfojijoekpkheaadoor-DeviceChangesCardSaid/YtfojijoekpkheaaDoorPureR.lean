/- PURE WALKS, eighteenth part: functions that are handed objects they only pass on (function values): calls that hand all objects, returns that hand out all. No program in sight. -/
import Derived.Test.YtfojijoekpkheaaDoorPureP
namespace Go.Proofs.YtfojijoekpkheaaDoor
open Go.RowKit
set_option linter.unusedVariables false
set_option linter.unusedSimpArgs false
def allSome : List (Option PV) → List PV → Prop
  | [], [] => True
  | some q :: l, r :: m => leP q r ∧ allSome l m
  | _, _ => False
theorem allSome_ok {w : World} {Γ : G} : ∀ {l : List (Option PV)} {m : List PV} {ys : List Value}, allSome l m → All2 (fun q y => ∀ r, q = some r → RP w Γ r y) l ys → All2 (RP w Γ) m ys
  | [], [], _, _, h => by rw [All2.nil_l] at h ⊢; exact h
  | some q :: l, r :: m, y :: ys, h, hr => ⟨leP_ok h.1 (hr.1 q rfl), allSome_ok h.2 hr.2⟩
  | some _ :: _, _ :: _, [], _, hr => hr.elim
  | [], _ :: _, _, h, _ => h.elim
  | none :: _, _, _, h, _ => h.elim
  | some _ :: _, [], _, h, _ => h.elim
section
variable {P : Program} {N p : Nat} {ops : Array Oper} {rest : List Oper} {o : Oper} {s : S} {K : S → Prop}
/-- a call that hands on all objects, in their order -/
theorem pl_call_all {f : Operand} {args : Array Operand} {tys : Array TypeId} {g : FuncId} {ds : List D} {cap : List Nat} {args' : List PV} {R : PV → List Ob → Prop}
    (ho : o.op = .call ⟨.value f, args, tys⟩) (hg : gd ops s o.guard = some true) (hf : s.ev f = some (.c (.fn (.func g) ds cap))) (hb : bodyOk P g = true) (hd : dstOk N o.dst)
    (ha : allSome (callArgs s ds args.toList cap) args') (hc : PCalls P g args' s.o R)
    (hK : ∀ r os'', R r os'' → PL P N p ops rest (S.put ⟨s.t, os''⟩ o.dst r) K) : PL P N p ops (o :: rest) s K := by
  intro Γ a w Q hA hQ
  obtain ⟨xs, ys, hfv, hargs⟩ := callArgs_ok hA.inv hf args
  have hseen := allSome_ok ha hargs
  unfold wpList
  rw [if_pos (gd_ok hg hA.inv)]
  refine .inl ?_
  unfold Oper.wp
  rw [run_enter ho hfv hb, Oper.upon_enter]
  have := hc _ w _ hA.inv.m hseen
  rw [Array.toArray_toList] at this
  refine this.mono ?_
  rintro e w' ⟨r, os'', Γ', y, rfl, hR, hr, hlen, hm', hgr⟩
  have hle : p ≤ s.o.length := by rw [← hA.inv.m.n]; exact hA.le
  have hag : ∀ j, j < Γ.n → Agree Γ Γ' j := fun j hj => by
    have hj' : j < s.o.length := by rw [← hA.inv.m.n]; exact hj
    exact ⟨by rw [hm'.n]; omega, (hgr.keep j hj').1, (hgr.keep j hj').2⟩
  have hI := hA.inv.heap hm' (hgr.stay hA.inv.m) hag
  refine hK r os'' hR Γ' _ w' Q ⟨hI.put (dst_lt hd) hr, by rw [hm'.n]; omega⟩ fun s' Γ2 a2 w2 hk hA2 hg2 => hQ s' Γ2 a2 w2 hk hA2 ?_
  have hgp : Grow p Γ w Γ' w' := ⟨hgr.ext, hgr.sub, hgr.new, hgr.imm, fun k hk => hgr.keep k (by omega)⟩
  exact hgp.trans hg2
/-- only slots are let go -/
theorem weak_slots {s' : S} (ht : subT s s'.t) (ho : s'.o = s.o) : Weak N p s s' := by
  intro Γ a w hA
  refine ⟨Γ, ⟨⟨hA.inv.size, hA.inv.defers, fun i q hq => ?_, by rw [ho]; exact hA.inv.m⟩, hA.le⟩, Grow.refl _ _ _⟩
  obtain ⟨r, hr, hle⟩ := subT_look ht hq
  obtain ⟨i1, i2⟩ := hA.inv.t i r hr
  exact ⟨i1, leP_ok hle i2⟩
end
/-- an array of one's own in a slot, seen as its rows from 0 on -/
theorem weak_seg {N p : Nat} {s : S} (i : Nat) {k n : Nat} (sz : Nat) (hi : s.get i = some (.c (.own k n))) : Weak N p s ⟨(i, .c (.seg k sz 0 n)) :: s.t, s.o⟩ := by
  intro Γ a w hA
  refine ⟨Γ, ⟨⟨hA.inv.size, hA.inv.defers, fun j q hq => ?_, hA.inv.m⟩, hA.le⟩, Grow.refl _ _ _⟩
  simp only [S.get, look] at hq
  split at hq
  · rename_i e
    subst e
    cases hq
    obtain ⟨h1, h2, h3⟩ := hA.inv.t j _ hi
    refine ⟨h1, h2, ?_⟩
    rcases h3 with ⟨_, ⟨A, h4⟩, rfl⟩ | ⟨h4, h5, h6⟩
    · exact ⟨A, 0, h4, Nat.le_refl _, fun h => absurd h (by omega)⟩
    · exact ⟨_, _, h5, h6, fun _ => ⟨h4, by omega, by simp⟩⟩
  · exact hA.inv.t j q hq
/-- .. returns that hand out all objects -/
def RetA (P : Program) (rs : List ResultVar) (p : Nat) (R : PV → List Ob → Prop) (s : S) : Prop := ∃ r, resP P s rs = some r ∧ p ≤ s.o.length ∧ R r s.o
def RetQA (P : Program) (rs : List ResultVar) (p : Nat) (R : PV → List Ob → Prop) : Exit → S → Prop
  | .normal, s => RetA P rs p R s
  | .ret, s => RetA P rs p R s
  | _, _ => False
theorem RetQA_normal (P : Program) (rs : List ResultVar) (p : Nat) (R : PV → List Ob → Prop) (s : S) : RetQA P rs p R .normal s = RetA P rs p R s := rfl
theorem RetQA_ret (P : Program) (rs : List ResultVar) (p : Nat) (R : PV → List Ob → Prop) (s : S) : RetQA P rs p R .ret s = RetA P rs p R s := rfl
attribute [push_cast] RetQA_normal RetQA_ret allSome
theorem pcalls_of_all {P : Program} {g : FuncId} {fn : Func} {c : Code} {args : List PV} {os : List Ob} {R : PV → List Ob → Prop} (hf : P.funcs[g]? = some fn) (hb : fn.body = some c) (hn : args.length ≤ fn.ntmps)
    (h : PWP P fn.ntmps os.length c (RetQA P fn.results.toList os.length R) ⟨parT 0 args, os⟩) : PCalls P g args os R := by
  intro Γ w xs hm hx
  refine calls_of_wp hf hb ?_
  have hl := hx.length
  have hA : Stands fn.ntmps os.length Γ ⟨parT 0 args, os⟩ { tmps := xs.toArray ++ Array.replicate (fn.ntmps - xs.toArray.size) Go.undef, defers := [] } w := by
    refine ⟨⟨?_, rfl, fun i q hq => ?_, hm⟩, by rw [hm.n]; exact Nat.le_refl _⟩
    · simp; omega
    · obtain ⟨_, h2⟩ := parT_look args 0 i q hq
      rw [Nat.sub_zero] at h2
      obtain ⟨y, h3, h4⟩ := hx.get i q h2
      have hi : i < xs.length := (List.getElem?_eq_some_iff.1 h3).1
      refine ⟨by omega, ?_⟩
      have : (xs.toArray ++ Array.replicate (fn.ntmps - xs.toArray.size) Go.undef).getD i Go.undef = y := by
        rw [Array.getD_eq_getD_getElem?, Array.getElem?_append_left (by simpa using hi), List.getElem?_toArray, h3]
        rfl
      rw [this]
      exact h4
  refine wp_mono (h Γ _ w hA) ?_
  rintro e a' w' ⟨s', Γ', hq, hA', hg⟩
  have fin : RetA P fn.results.toList os.length R s' → a'.defers = [] ∧ ∃ v, (results fn a'.tmps).run P w' = .ok v w' ∧ ∃ r os' Γ' y, Ending.returned v = .returned y ∧ R r os' ∧ RP w' Γ' r y ∧ os.length ≤ os'.length ∧ MemOk Γ' os' w' ∧ Grow os.length Γ w Γ' w' := by
    rintro ⟨r, h1, h2, h3⟩
    obtain ⟨y, h8, h9⟩ := resP_ok hA'.inv h1
    exact ⟨hA'.inv.defers, y, h8, r, s'.o, Γ', y, rfl, h3, h9, h2, hA'.inv.m, hg⟩
  cases e with
  | normal => exact fin hq
  | ret => exact fin hq
  | exit j => exact hq.elim
  | goto l => exact hq.elim
  | panic ch => exact hq.elim
  | outgrown => exact hq.elim
end Go.Proofs.YtfojijoekpkheaaDoor
