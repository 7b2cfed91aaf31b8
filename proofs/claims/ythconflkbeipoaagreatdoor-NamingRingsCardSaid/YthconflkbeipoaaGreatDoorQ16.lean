/- What the program computes, and the plain laws of it, part 16. -/
import Derived.Test.YthconflkbeipoaaGreatDoorQ15
namespace Go.Proofs.YthconflkbeipoaaGreatDoor
open Go.RowKit
open IntWalk renaming iteOmega → iO, toNatUp → tN
set_option linter.unusedVariables false
set_option linter.unusedSimpArgs false
theorem put_c (t : List (Nat × PV)) (o : List Ob) (d : Nat) (q : PV) : S.put ⟨t, o⟩ (some d) q = ⟨(d, q) :: t, o⟩ := rfl
theorem get_eq (t : List (Nat × PV)) (o : List Ob) (i : Nat) : S.get ⟨t, o⟩ i = look t i := rfl
theorem ev_tmp (s : S) (i : Nat) : s.ev (.tmp i) = s.get i := rfl
theorem pgo_val (P : Program) (N p : Nat) (ops : Array Oper) (rest : List Oper) (K : S → Prop) (o : Oper) (s : S) (q : PV) : pgo P N p ops rest K o s (some true) (.val q) = (dstOk N o.dst ∧ pops P N p ops rest (s.put o.dst q) K) := rfl
theorem pgo_heap (P : Program) (N p : Nat) (ops : Array Oper) (rest : List Oper) (K : S → Prop) (o : Oper) (s : S) (q : PV) (os : List Ob) : pgo P N p ops rest K o s (some true) (.heap q os) = (dstOk N o.dst ∧ pops P N p ops rest (S.put ⟨s.t, os⟩ o.dst q) K) := rfl
theorem pgo_app (P : Program) (N p : Nat) (ops : Array Oper) (rest : List Oper) (K : S → Prop) (o : Oper) (s : S) (q : PV) (os : List Ob) (kk : Option Nat) : pgo P N p ops rest K o s (some true) (.app q os kk) = (dstOk N o.dst ∧ pops P N p ops rest (S.put (killS kk ⟨s.t, os⟩) o.dst q) K) := rfl
theorem pgo_skip (P : Program) (N p : Nat) (ops : Array Oper) (rest : List Oper) (K : S → Prop) (o : Oper) (s : S) (r : Res) : pgo P N p ops rest K o s (some false) r = (dstOk N o.dst ∧ pops P N p ops rest (s.put o.dst .undef) K) := by cases r <;> rfl
theorem pgo_stop (P : Program) (N p : Nat) (ops : Array Oper) (rest : List Oper) (K : S → Prop) (o : Oper) (s : S) : pgo P N p ops rest K o s (some true) .stop = PL P N p ops (o :: rest) s K := rfl
theorem qgo_val (P : Program) (N p : Nat) (ops : Array Oper) (rest : List Oper) (K : S → Prop) (o : Oper) (s : S) (q : PV) : qgo P N p ops rest K o s (some true) (.val q) = (dstOk N o.dst ∧ qops P N p ops rest (s.put o.dst q) K) := rfl
theorem qgo_skip (P : Program) (N p : Nat) (ops : Array Oper) (rest : List Oper) (K : S → Prop) (o : Oper) (s : S) (r : Res) : qgo P N p ops rest K o s (some false) r = (dstOk N o.dst ∧ qops P N p ops rest (s.put o.dst .undef) K) := by cases r <;> rfl
theorem qgo_stop (P : Program) (N p : Nat) (ops : Array Oper) (rest : List Oper) (K : S → Prop) (o : Oper) (s : S) : qgo P N p ops rest K o s (some true) .stop = QL P N p ops (o :: rest) s K := rfl
theorem dst_some (N d : Nat) : dstOk N (some d) = (d < N) := rfl
theorem dst_none (N : Nat) : dstOk N none = True := rfl
theorem condK_b (t : Bool) (X Y : Prop) : condK (some (.c (.v (.bool t)))) X Y = ((t = true → X) ∧ (t = false → Y)) := rfl
attribute [push_cast] pops_nil pops_cons pgo_val pgo_heap pgo_app pgo_skip pgo_stop qops_nil qops_cons qgo_val qgo_skip qgo_stop dst_some dst_none put_c get_eq ev_tmp S.put_none look gd thenE_normal thenE_exit thenE_ret inE_normal inE_ret inE_exit noG_normal noG_ret noG_exit condK_b RetQ_normal RetQ_ret S.ev ofVal run1 appR inpP clearP delP mxP mxF mxI isBnd funQ callArgs2 segP isNilE nilQ isEmp lookupP mkmapP updP rowOf keyP MK.kind rowP okP toD toDs Option.isNone Res.ofV Res.ofH Res.ofA Res.lit buildP fillE loadP rdCells nilP binP binV intOp strOp eqEs eqE andO unP convP funP fnKeys fnD cutP loN faP fdP ixP byteP exP boxP cellsE storeP setO litP partRows toD toDs lenP lenE appP srcRows wr quoN remN killS killT killO E.kill PV.kill Ob.kill D.e S.frz frzT frzO E.frz PV.frz Ob.frz callArgs posK posKs seeE seeEs seeP seePs seeO seeOs rho putBack E.ren PV.ren Ob.ren parT res1 resL resP seeR firstOk keyOk pvOk obOk subT sub1 leE leEs leP lePs leO leOs E.keys PV.keys flatD flatE flatP flatO
attribute [push_cast] Option.map_some Option.map_none Option.bind_some Option.bind_none List.map_cons List.map_nil List.getElem?_cons_zero List.getElem?_cons_succ List.getElem?_nil List.length_cons List.length_nil List.take_succ_cons List.take_zero List.take_nil List.drop_succ_cons List.drop_zero List.drop_nil List.set_cons_zero List.set_cons_succ List.cons_append List.nil_append List.append_nil List.all_cons List.all_nil List.getD_cons_zero List.getD_cons_succ List.getD_nil List.flatMap_cons List.flatMap_nil Bool.and_true Bool.true_and Bool.and_false Bool.false_and Bool.not_true Bool.not_false Bool.or_true Bool.true_or Bool.or_false Bool.false_or Bool.and_self decide_true decide_false true_and and_true false_and and_false and_self true_implies false_implies implies_true not_true_eq_false not_false_eq_true forall_const exists_eq_left exists_eq_right exists_eq_left' exists_eq_right' exists_const exists_eq_right_right
def memB (k : Nat) : List Nat → Bool
  | [] => false
  | j :: r => if j = k then true else memB k r
def nodB : List Nat → Bool
  | [] => true
  | k :: r => !memB k r && nodB r
def ltB (n : Nat) : List Nat → Bool
  | [] => true
  | k :: r => decide (k < n) && ltB n r
def fstB (p i : Nat) : List Nat → Bool
  | [] => decide (p ≤ i)
  | k :: r => if i < p then decide (k = i) && fstB p (i + 1) r else true
theorem memB_ok {k : Nat} : ∀ {l : List Nat}, memB k l = false → k ∉ l
  | [], _ => by simp
  | j :: r, h => by
    simp only [memB] at h
    split at h
    · cases h
    · rename_i e
      simp only [List.mem_cons, not_or]
      exact ⟨fun h => e h.symm, memB_ok h⟩
theorem nodB_ok : ∀ {l : List Nat}, nodB l = true → l.Nodup
  | [], _ => List.nodup_nil
  | k :: r, h => by
    simp only [nodB, Bool.and_eq_true, Bool.not_eq_true'] at h
    exact List.nodup_cons.2 ⟨memB_ok h.1, nodB_ok h.2⟩
theorem ltB_ok {n : Nat} : ∀ {l : List Nat}, ltB n l = true → (l.all fun k => decide (k < n)) = true
  | [], _ => rfl
  | k :: r, h => by
    simp only [ltB, Bool.and_eq_true] at h
    simp only [List.all_cons, Bool.and_eq_true]
    exact ⟨h.1, ltB_ok h.2⟩
theorem fstB_ok {p : Nat} : ∀ {l : List Nat} {i : Nat}, fstB p i l = true → p ≤ i + l.length ∧ ∀ j, i + j < p → l.getD j 0 = i + j
  | [], i, h => by
    simp only [fstB, decide_eq_true_eq] at h
    exact ⟨by simpa using h, fun j hj => by omega⟩
  | k :: r, i, h => by
    simp only [fstB] at h
    split at h
    · simp only [Bool.and_eq_true, decide_eq_true_eq] at h
      obtain ⟨h1, h2⟩ := fstB_ok h.2
      refine ⟨by simp; omega, fun j hj => ?_⟩
      cases j with
      | zero => simpa using h.1
      | succ j => have := h2 j (by omega); simp only [List.getD_cons_succ]; omega
    · exact ⟨by simp; omega, fun j hj => by omega⟩
theorem firstOk_of {p : Nat} {l : List Nat} (h : fstB p 0 l = true) : firstOk p l = true := by
  obtain ⟨h1, h2⟩ := fstB_ok h
  simp only [firstOk, Bool.and_eq_true, decide_eq_true_eq, List.all_eq_true, List.mem_range, beq_iff_eq]
  exact ⟨by omega, fun j hj => by have := h2 j (by omega); omega⟩
def retI : Option PV → Option (List Ob) → Bool → (PV → List Ob → Prop) → Prop
  | some r, some os, true, R => ∃ r2 os2, leP r r2 ∧ leOs os os2 ∧ R r2 os2
  | _, _, _, _ => False
def retH : Option PV → List Ob → Nat → (PV → List Ob → Prop) → List Nat → Prop
  | some r, os, p, R, kk => retI (seeR os kk r) (seeOs true os kk kk) (nodB kk && ltB os.length kk && fstB p 0 kk) R
  | none, _, _, _, _ => False
def retG (P : Program) (rs : List ResultVar) (p : Nat) (R : PV → List Ob → Prop) (s : S) (kk : List Nat) : Prop := retH (resP P s rs) s.o p R kk
theorem retK_of {P : Program} {rs : List ResultVar} {p : Nat} {R : PV → List Ob → Prop} {s : S} (kk : List Nat) (h : retG P rs p R s kk) : RetK P rs p R s := by
  unfold retG at h
  cases hr : resP P s rs with
  | none => rw [hr] at h; exact h.elim
  | some r =>
    rw [hr] at h
    simp only [retH] at h
    cases h1 : seeR s.o kk r with
    | none => rw [h1] at h; exact h.elim
    | some r' =>
      cases h2 : seeOs true s.o kk kk with
      | none => rw [h1, h2] at h; exact h.elim
      | some os' =>
        cases h3 : (nodB kk && ltB s.o.length kk && fstB p 0 kk) with
        | false => rw [h1, h2, h3] at h; exact h.elim
        | true =>
          rw [h1, h2, h3] at h
          simp only [Bool.and_eq_true] at h3
          obtain ⟨r2, os2, h4, h5, h6⟩ := h
          exact ⟨kk, r, r', os', r2, os2, hr, h1, h2, nodB_ok h3.1.1, ltB_ok h3.1.2, firstOk_of h3.2, h4, h5, h6⟩
attribute [push_cast] memB nodB ltB fstB retG retH retI
section
variable {rd : Option Nat} {P : Program} {N p : Nat} {Q : Exit → S → Prop} {s : S}
theorem pwp_loop2 {c : Code} {α : Type} (Φ : α → Prop) (St : α → S) (μ : α → Nat) (x0 : α) (h0 : Φ x0) (hw : Weak N p s (St x0))
    (round : ∀ x, Φ x → PWPr rd P N p c (thenE (fun s' => ∃ x', Φ x' ∧ Weak N p s' (St x') ∧ μ x' < μ x) Q) (St x)) : PWPr rd P N p (.loop c) Q s := by
  refine pwp_weak hw (pwp_loop (fun s => ∃ x, Φ x ∧ s = St x) (fun s => leastOf fun n => ∃ x, Φ x ∧ s = St x ∧ μ x = n) ⟨x0, h0, rfl⟩ ?_)
  intro s1 hs1
  have hex : ∃ n, ∃ x, Φ x ∧ s1 = St x ∧ μ x = n := by obtain ⟨x, h1, h2⟩ := hs1; exact ⟨_, x, h1, h2, rfl⟩
  obtain ⟨⟨x, h1, h2, h3⟩, _⟩ := leastOf_spec hex
  subst h2
  refine pwp_mono (round x h1) ?_
  intro e s2 hq
  cases e with
  | normal =>
    obtain ⟨x', h4, h5, h6⟩ := hq
    refine ⟨St x', h5, ⟨x', h4, rfl⟩, ?_⟩
    have := (leastOf_spec (p := fun n => ∃ y, Φ y ∧ St x' = St y ∧ μ y = n) ⟨_, x', h4, rfl, rfl⟩).2 _ ⟨x', h4, rfl, rfl⟩
    show leastOf _ < leastOf _
    omega
  | exit j => exact hq
  | goto l => exact hq
  | ret => exact hq
  | panic ch => exact hq
  | outgrown => exact hq
def fgG (s s' : S) (p : Nat) : Prop := subT s s'.t ∧ leOs (s.o.take s'.o.length) s'.o ∧ p ≤ s'.o.length ∧ (s'.t.all fun x => pvOk s'.o.length x.2) = true ∧ s'.o.all (obOk s'.o.length) = true
theorem weak_fg {s' : S} (h : fgG s s' p) : Weak N p s s' := weak_forget h.1 h.2.1 h.2.2.1 h.2.2.2.1 h.2.2.2.2
end
attribute [push_cast] fgG Option.some.injEq PV.c.injEq PV.agg.injEq PV.two.injEq PV.three.injEq E.v.injEq E.own.injEq E.ptr.injEq E.row.injEq E.orow.injEq E.mp.injEq E.seg.injEq Ob.map.injEq MK.s.injEq MK.i.injEq E.sl.injEq E.full.injEq Value.int.injEq Value.bool.injEq Value.string.injEq Ob.arr.injEq Ob.box.injEq S.mk.injEq Prod.mk.injEq List.cons.injEq D.v.injEq D.sl.injEq
def seeLe : Option (List PV) → List PV → Prop
  | some a, b => lePs a b
  | none, _ => False
def seeOLe : Option (List Ob) → List Ob → Prop
  | some a, b => leOs a b
  | none, _ => False
def isT : Option Bool → Prop
  | some b => b = true
  | none => False
def callG (N : Nat) (ops : Array Oper) (s : S) (o : Oper) (v : Bool) (ks : List Nat) (xs : List (Option PV)) (args' : List PV) (os' : List Ob) : Prop :=
  isT (gd ops s o.guard) ∧ dstOk N o.dst ∧ seeLe (seePs v s.o ks xs) args' ∧ seeOLe (seeOs v s.o ks ks) os' ∧ (nodB ks && ltB s.o.length ks) = true
section
variable {P : Program} {N p : Nat} {ops : Array Oper} {rest : List Oper} {o : Oper} {s : S} {K : S → Prop}
theorem pl_call2 {f : Operand} {args : Array Operand} {tys : Array TypeId} {g : FuncId} {ds : List D} {cap : List Nat} (v : Bool) (ks : List Nat) {args' : List PV} {os' : List Ob} {R : PV → List Ob → Prop}
    (ho : o.op = .call ⟨.value f, args, tys⟩) (hf : s.ev f = some (.c (.fn (.func g) ds cap))) (hb : bodyOk P g = true) (hc : PCalls P g args' os' R)
    (hG : callG N ops s o v ks (callArgs s ds args.toList cap) args' os')
    (hfl : v = true → ∀ r os'', R r os'' → flatP r = true ∧ os''.all flatO = true)
    (hK : ∀ r os'', R r os'' → PL P N p ops rest (S.put ⟨s.t, putBack (rho ks s.o.length) s.o ks os''⟩ o.dst (r.ren (rho ks s.o.length))) K) : PL P N p ops (o :: rest) s K := by
  obtain ⟨h1, h2, h3, h4, h5⟩ := hG
  cases e1 : gd ops s o.guard with
  | none => rw [e1] at h1; exact h1.elim
  | some b =>
    rw [e1] at h1
    simp only [isT] at h1
    subst h1
    cases e2 : seePs v s.o ks (callArgs s ds args.toList cap) with
    | none => rw [e2] at h3; exact h3.elim
    | some a =>
      cases e3 : seeOs v s.o ks ks with
      | none => rw [e3] at h4; exact h4.elim
      | some q =>
        rw [e2] at h3
        rw [e3] at h4
        simp only [Bool.and_eq_true] at h5
        exact pl_call v ks ho e1 hf hb h2 e2 h3 e3 h4 hc (nodB_ok h5.1) (ltB_ok h5.2) hfl hK
theorem ql_call2 {f : Operand} {args : Array Operand} {tys : Array TypeId} {g : FuncId} {ds : List D} {cap : List Nat} {args' : List PV} (z : Bool) {R : PV → List Ob → Prop} {x : Value}
    (ho : o.op = .call ⟨.value f, args, tys⟩) (hf : s.ev f = some (.c (.fn (.func g) ds cap))) (hb : bodyOk P g = true) (hc : PCalls P g args' [] R) (hR : ∀ r os'', R r os'' → r = .c (.v x)) (hx : x.oneCell' = true)
    (hG : callG N ops s o true [] (callArgs s ds args.toList cap) args' [])
    (hK : QL P N p ops rest (s.put o.dst (.c (.v x))) K) : QL P N p ops (o :: rest) s K := by
  obtain ⟨h1, h2, h3, _, _⟩ := hG
  cases e1 : gd ops s o.guard with
  | none => rw [e1] at h1; exact h1.elim
  | some b =>
    rw [e1] at h1
    simp only [isT] at h1
    subst h1
    cases e2 : seePs true s.o [] (callArgs s ds args.toList cap) with
    | none => rw [e2] at h3; exact h3.elim
    | some a =>
      rw [e2] at h3
      exact ql_call ho e1 hf hb h2 e2 h3 hc hR hx hK
end
attribute [push_cast] callG seeLe seeOLe isT
def seeLe1 : Option PV → PV → Prop
  | some a, b => leP a b
  | none, _ => False
def subK (v : Bool) (ks : List Nat) (s : S) : List (Nat × PV) → Prop
  | [] => True
  | (i, q) :: t => seeLe1 (seeP v s.o ks (s.get i)) q ∧ subK v ks s t
theorem subK_look {v : Bool} {ks : List Nat} {s : S} : ∀ {t : List (Nat × PV)} {i : Nat} {q : PV}, subK v ks s t → look t i = some q → ∃ a, seeP v s.o ks (s.get i) = some a ∧ leP a q
  | [], i, q, _, h => by simp [look] at h
  | (j, r) :: t, i, q, hs, h => by
    simp only [look] at h
    split at h
    · rename_i e
      cases h
      have h1 := hs.1
      cases hg : seeP v s.o ks (s.get j) with
      | none => rw [hg] at h1; exact h1.elim
      | some a => rw [hg] at h1; subst e; exact ⟨a, hg, h1⟩
    · exact subK_look hs.2 h
def keepG (v : Bool) (ks : List Nat) (s s' : S) (p : Nat) : Prop := subK v ks s s'.t ∧ seeOLe (seeOs v s.o ks ks) s'.o ∧ (nodB ks && ltB s.o.length ks && fstB p 0 ks) = true
theorem weak_keep {N p : Nat} {s s' : S} (v : Bool) (ks : List Nat) (h : keepG v ks s s' p) : Weak N p s s' := by
  obtain ⟨h1, h2, h3⟩ := h
  simp only [Bool.and_eq_true] at h3
  have hnd := nodB_ok h3.1.1
  have hf := firstOk_of h3.2
  simp only [firstOk, Bool.and_eq_true, decide_eq_true_eq, List.all_eq_true, List.mem_range, beq_iff_eq] at hf
  intro Γ a w hA
  have hks : ∀ k ∈ ks, k < Γ.n := fun k hk => by rw [hA.inv.m.n]; simpa using List.all_eq_true.1 (ltB_ok h3.1.2) k hk
  have hget : ∀ j, j < ks.length → ks.getD j 0 ∈ ks := fun j hj => by simp [List.getD, hj]
  cases e3 : seeOs v s.o ks ks with
  | none => rw [e3] at h2; exact h2.elim
  | some os2 =>
    rw [e3] at h2
    have hm := leOs_mem h2 (see_mem (v := v) hA.inv.m hks hnd e3)
    refine ⟨seeG v ks Γ, ⟨⟨hA.inv.size, hA.inv.defers, fun i q hq => ?_, hm⟩, hf.1⟩, ⟨Ext.refl _ _, fun b hb => .inl hb, fun k hk hc => .inl ⟨ks.getD k 0, hks _ (hget k hk), hc, rfl⟩, fun b hb => ?_, fun k hk => ?_⟩⟩
    · obtain ⟨b, hb, hle⟩ := subK_look h1 hq
      cases hg : s.get i with
      | none => rw [hg] at hb; simp [seeP] at hb
      | some r =>
        obtain ⟨i1, i2⟩ := hA.inv.t i r hg
        refine ⟨i1, leP_ok hle (seeP_ok (v := v) hA.inv.m hks (q := some r) (by rw [← hg]; exact hb) fun r' hr' => by cases hr'; exact i2)⟩
    · rcases hb with hb | ⟨_, hb, _⟩
      · exact .inl hb
      · exact .inr (.inl hb)
    · have h4 := hf.2 k hk
      exact ⟨congrArg Γ.β h4, congrArg Γ.cap h4⟩
attribute [push_cast] seeLe1 subK keepG byteNum nums nums_map
theorem all_tt {α : Type} (l : List α) : (l.all fun _ => true) = true := by induction l <;> simp_all
attribute [push_cast] all_tt List.all_map Function.comp_def
theorem getD_rows {α : Type} [Inhabited α] (f : α → List D) (l : List α) (k : Nat) : (l.map f).getD k [] = if k < l.length then f (l.getD k default) else [] := by
  split
  · rename_i h; simp [List.getD, h]
  · rename_i h; simp [List.getD, h]
theorem getD_lt {α : Type} [Inhabited α] (l : List α) {k : Nat} (h : k < l.length) : l.getD k default = l[k] := by simp [List.getD, h]
theorem ret_elim {r : PV} {os : List Ob} {X : PV} {Y : List Ob} : (∃ r2 os2, leP r r2 ∧ leOs os os2 ∧ r2 = X ∧ os2 = Y) = (leP r X ∧ leOs os Y) :=
  propext ⟨fun ⟨_, _, h1, h2, h3, h4⟩ => by subst h3; subst h4; exact ⟨h1, h2⟩, fun ⟨h1, h2⟩ => ⟨_, _, h1, h2, rfl, rfl⟩⟩
theorem btt : (true == true) = true := rfl
theorem btf : (true == false) = false := rfl
theorem bft : (false == true) = false := rfl
theorem bff : (false == false) = true := rfl
theorem pick_t (x y : Option PV) : pickP (some (.c (.v (.bool true)))) x y = x := rfl
theorem pick_f (x y : Option PV) : pickP (some (.c (.v (.bool false)))) x y = y := rfl
theorem pick_dec (p : Prop) [Decidable p] (x y : Option PV) : pickP (some (.c (.v (.bool (decide p))))) x y = if p then x else y := by by_cases h : p <;> simp [h, pickP]
theorem pick_ndec (p : Prop) [Decidable p] (x y : Option PV) : pickP (some (.c (.v (.bool (!decide p))))) x y = if p then y else x := by by_cases h : p <;> simp [h, pickP]
attribute [push_cast] pick_t pick_f pick_dec pick_ndec
theorem dec_beq_t (p : Prop) [Decidable p] : (decide p == true) = if p then true else false := by by_cases h : p <;> simp [h]
theorem dec_beq_f (p : Prop) [Decidable p] : (decide p == false) = if p then false else true := by by_cases h : p <;> simp [h]
theorem ndec_beq_t (p : Prop) [Decidable p] : ((!decide p) == true) = if p then false else true := by by_cases h : p <;> simp [h]
theorem ndec_beq_f (p : Prop) [Decidable p] : ((!decide p) == false) = if p then true else false := by by_cases h : p <;> simp [h]
attribute [push_cast] dec_beq_t dec_beq_f ndec_beq_t ndec_beq_f
theorem lkP_some (ag : Bool) (z : PV) (ok : Bool) (row : List D) : lkP ag z ok (some row) = (rowP ag row).map (okP ok true) := rfl
theorem lkP_none (ag : Bool) (z : PV) (ok : Bool) : lkP ag z ok none = some (okP ok false z) := rfl
attribute [push_cast] lkP_some lkP_none
attribute [push_cast] btt btf bft bff true_or or_true or_false false_or Int.zero_add
theorem rdCells_dropmap {α : Type} [Inhabited α] (f : α → E) (l : List α) (k n : Nat) : rdCells false n ((l.map f).drop k) = if k < l.length then some (.c (f (l.getD k default))) else none := by
  split
  · rename_i h
    rw [List.drop_eq_getElem_cons (by simpa using h)]
    simp [rdCells, List.getD, h]
  · rename_i h
    rw [List.drop_of_length_le (by simp; omega)]
    rfl
theorem put_map {α : Type} (f : α → E) (l : List α) (k : Nat) (x : E) : (l.map f).take k ++ x :: (l.map f).drop (k + 1) = if k < l.length then (l.map f).set k x else l.map f ++ [x] := by
  split
  · rename_i h
    rw [List.set_eq_take_append_cons_drop, if_pos (by simpa using h)]
  · rename_i h
    rw [List.take_of_length_le (by simp; omega), List.drop_of_length_le (by simp; omega)]
theorem seeEs_mapv {α : Type} (v : Bool) (os : List Ob) (ks : List Nat) (g : α → Value) (l : List α) : seeEs v os ks (l.map fun b => E.v (g b)) = some (l.map fun b => E.v (g b)) := by
  induction l with
  | nil => rfl
  | cons a l ih => simp only [List.map_cons, seeEs, seeE, ih]
theorem leEs_same (l : List E) : leEs l l = True := by
  have h : leEs l l := leEs_refl l
  simp [h]
attribute [push_cast] List.length_take List.length_drop put_map rdCells_dropmap seeEs_mapv leEs_same List.map_set List.map_map List.length_set List.length_replicate List.map_replicate Nat.mul_one Nat.zero_add Int.toNat_natCast
attribute [push_cast] getD_rows List.length_map ret_elim List.length_append List.map_append List.take_of_length_le Nat.le_refl List.getElem?_toArray Int.add_sub_cancel List.append_eq BEq.rfl
end Go.Proofs.YthconflkbeipoaaGreatDoor
