/- What the program computes, and the plain laws of it, part 15. -/
import Derived.Test.YthconflkbeipoaaGreatDoorQ14
namespace Go.Proofs.YthconflkbeipoaaGreatDoor
open Go.RowKit
open IntWalk renaming iteOmega → iO, toNatUp → tN
set_option linter.unusedVariables false
set_option linter.unusedSimpArgs false
def PCalls (P : Program) (g : FuncId) (args : List PV) (os : List Ob) (R : PV → List Ob → Prop) : Prop :=
  ∀ Γ w (xs : List Value), MemOk Γ os w → All2 (RP w Γ) args xs → Calls P g xs.toArray w fun e w' =>
    ∃ r os' Γ' y, e = .returned y ∧ R r os' ∧ RP w' Γ' r y ∧ os.length ≤ os'.length ∧ MemOk Γ' os' w' ∧ Grow os.length Γ w Γ' w'
theorem PCalls.mono {P : Program} {g : FuncId} {args : List PV} {os : List Ob} {R R' : PV → List Ob → Prop} (h : PCalls P g args os R) (hR : ∀ r os', R r os' → R' r os') : PCalls P g args os R' := fun Γ w xs hm hx =>
  (h Γ w xs hm hx).mono fun e w' ⟨r, os', Γ', y, h1, h2, h3⟩ => ⟨r, os', Γ', y, h1, hR r os' h2, h3⟩
def bodyOk (P : Program) (g : FuncId) : Bool := match P.funcs[g]? with
  | some fn => fn.body.isSome && !(fn.name == "runtime.NumGoroutine")
  | none => false
theorem run_enter {P : Program} {a : Act} {w : World} {o : Oper} {f : Operand} {args : Array Operand} {tys : Array TypeId} {g : FuncId} {xs ys : Array Value} (ho : o.op = .call ⟨.value f, args, tys⟩) (hf : a.eval f = .func (.func g) xs ys) (hb : bodyOk P g = true) :
    (execOp a.eval o).run P w = .ok (.enter g (xs ++ args.map a.eval ++ ys)) w := by
  unfold bodyOk at hb
  split at hb
  · rename_i fn hfn
    simp only [Bool.and_eq_true, Bool.not_eq_true'] at hb
    have h1 : ¬ fn.body = none := by intro h; rw [h] at hb; simp at hb
    have h2 : ¬ fn.name = "runtime.NumGoroutine" := by simpa using hb.2
    simp [execOp, ho, resolve, hf, Deferred.ofValue, invoke, callFunc, hfn, h2, h1]
  · cases hb
def callArgs2 (s : S) (ds : List D) (args : List Operand) (cap : List Nat) : Bool → List (Option PV)
  | false => ds.map (fun d => some (.c d.e)) ++ (args.map s.ev ++ cap.map fun k => some (.c (.ptr k 0)))
  | true => (cap.map fun k => some (.c (.ptr k 0))) ++ args.map s.ev
def callArgs (s : S) (ds : List D) (args : List Operand) (cap : List Nat) : List (Option PV) := callArgs2 s ds args cap (isBnd ds)
theorem callArgs_ok {N : Nat} {Γ : G} {s : S} {a : Act} {w : World} {f : Operand} {g : FuncId} {ds : List D} {cap : List Nat} (hI : Inv N Γ s a w) (hf : s.ev f = some (.c (.fn (.func g) ds cap))) (args : Array Operand) :
    ∃ xs ys : Array Value, a.eval f = .func (.func g) xs ys ∧ All2 (fun q y => ∀ r, q = some r → RP w Γ r y) (callArgs s ds args.toList cap) (xs ++ args.map a.eval ++ ys).toList := by
  obtain ⟨xs, h1, h2, h3⟩ := S.ev_ok hf hI
  have a2 : ∀ l : List Operand, All2 (fun (q : Option PV) y => ∀ r, q = some r → RP w Γ r y) (l.map s.ev) (l.map a.eval) := by
    intro l
    induction l with
    | nil => trivial
    | cons x l ih => exact ⟨fun r hr => S.ev_ok hr hI, ih⟩
  have a3 : ∀ l : List Nat, (∀ k ∈ l, k < Γ.n) → All2 (fun (q : Option PV) y => ∀ r, q = some r → RP w Γ r y) (l.map fun k => some (.c (.ptr k 0))) (l.map (keyVal Γ)) := by
    intro l
    induction l with
    | nil => intro _; trivial
    | cons k l ih => intro hl; exact ⟨fun r hr => by cases hr; exact ⟨hl k (by simp), rfl⟩, ih fun k' hk' => hl k' (by simp [hk'])⟩
  unfold callArgs
  cases hb : isBnd ds with
  | false =>
    rw [hb] at h1
    have a1 : All2 (fun (q : Option PV) y => ∀ r, q = some r → RP w Γ r y) (ds.map fun d => some (.c d.e)) xs := All2.map_l.2 ((h2 hb).mono fun d y h r hr => by cases hr; exact RE.of_d h)
    refine ⟨xs.toArray, _, h1, ?_⟩
    simp only [Array.toList_append, Array.toList_map, List.append_assoc]
    exact a1.append ((a2 args.toList).append (a3 cap h3))
  | true =>
    rw [hb] at h1
    refine ⟨_, #[], h1, ?_⟩
    simp only [Array.toList_append, Array.toList_map, List.append_nil, Array.append_empty]
    exact (a3 cap h3).append (a2 args.toList)
section
variable {P : Program} {N p : Nat} {ops : Array Oper} {rest : List Oper} {o : Oper} {s : S} {K : S → Prop}
theorem pl_call {f : Operand} {args : Array Operand} {tys : Array TypeId} {g : FuncId} {ds : List D} {cap : List Nat} (v : Bool) (ks : List Nat) {args' args'' : List PV} {os' os2 : List Ob} {R : PV → List Ob → Prop}
    (ho : o.op = .call ⟨.value f, args, tys⟩) (hg : gd ops s o.guard = some true) (hf : s.ev f = some (.c (.fn (.func g) ds cap))) (hb : bodyOk P g = true) (hd : dstOk N o.dst)
    (ha : seePs v s.o ks (callArgs s ds args.toList cap) = some args'') (hle : lePs args'' args') (hos : seeOs v s.o ks ks = some os2) (hlo : leOs os2 os') (hc : PCalls P g args' os' R) (hnd : ks.Nodup) (hkl : (ks.all fun k => decide (k < s.o.length)) = true)
    (hfl : v = true → ∀ r os'', R r os'' → flatP r = true ∧ os''.all flatO = true)
    (hK : ∀ r os'', R r os'' → PL P N p ops rest (S.put ⟨s.t, putBack (rho ks s.o.length) s.o ks os''⟩ o.dst (r.ren (rho ks s.o.length))) K) : PL P N p ops (o :: rest) s K := by
  intro Γ a w Q hA hQ
  have hks : ∀ k ∈ ks, k < Γ.n := fun k hk => by rw [hA.inv.m.n]; simpa using List.all_eq_true.1 hkl k hk
  obtain ⟨xs, ys, hfv, hargs⟩ := callArgs_ok hA.inv hf args
  have hseen := lePs_ok hle (seePs_ok (v := v) (ks := ks) hA.inv.m hks hargs ha)
  have hmem := leOs_mem hlo (see_mem (v := v) hA.inv.m hks hnd hos)
  have hkl' : os'.length = ks.length := (leOs_length hlo).symm.trans (seeOs_get hos).1
  unfold wpListIn
  rw [if_pos (gd_ok hg hA.inv)]
  refine wpIn_enter (run_enter ho hfv hb) ?_
  have := hc _ w _ hmem hseen
  rw [Array.toArray_toList] at this
  refine this.mono ?_
  rintro e w' ⟨r, os'', Γ', y, rfl, hR, hr, hlen, hm', hgr⟩
  rw [hkl'] at hgr hlen
  obtain ⟨h1, h2, h3⟩ := absorb (v := v) hA hks hnd hlen hm' hgr hr (fun hv => hfl hv r os'' hR)
  exact ⟨y, rfl, hK r os'' hR _ _ w' Q ⟨h1.inv.put (dst_lt hd) h2, h1.le⟩ fun s' Γ2 a2 w2 hk hA2 hg2 hd2 => hQ s' Γ2 a2 w2 hk hA2 (h3.trans hg2) (hd2.trans (put_defers _ _ _))⟩
theorem ql_call {f : Operand} {args : Array Operand} {tys : Array TypeId} {g : FuncId} {ds : List D} {cap : List Nat} {args' args'' : List PV} {R : PV → List Ob → Prop} {x : Value}
    (ho : o.op = .call ⟨.value f, args, tys⟩) (hg : gd ops s o.guard = some true) (hf : s.ev f = some (.c (.fn (.func g) ds cap))) (hb : bodyOk P g = true) (hd : dstOk N o.dst)
    (ha : seePs true s.o [] (callArgs s ds args.toList cap) = some args'') (hle : lePs args'' args') (hc : PCalls P g args' [] R) (hR : ∀ r os'', R r os'' → r = .c (.v x)) (hx : x.oneCell' = true)
    (hK : QL P N p ops rest (s.put o.dst (.c (.v x))) K) : QL P N p ops (o :: rest) s K := by
  intro Γ a w hA
  unfold wpQuietIn
  rw [if_pos (gd_ok hg hA.inv)]
  refine ⟨fun _ _ _ _ => trivial, x, fun w1 hw1 => ?_, quiet_mono' (fun a' ⟨s', k1, k2, k3⟩ => ⟨s', k1, k2, k3.trans (put_defers _ _ _)⟩) (hK Γ _ w ⟨hA.inv.put (dst_lt hd) ⟨rfl, hx⟩, hA.le⟩)⟩
  have hI := hA.inv.same (Same.of_ext hw1)
  obtain ⟨xs, ys, hfv, hargs⟩ := callArgs_ok hI hf args
  have hseen := lePs_ok hle (seePs_ok (v := true) (ks := []) hI.m (by simp) hargs ha)
  have hmem := see_mem (v := true) (ks := []) hI.m (by simp) (by simp) (os' := []) rfl
  unfold Oper.quietAtIn
  rw [run_enter ho hfv hb]
  refine ⟨rfl, Fw_dep, calls_fw ?_⟩
  have := hc _ w1 _ hmem hseen
  rw [Array.toArray_toList] at this
  refine this.mono ?_
  rintro e w' ⟨r, os'', Γ', y, rfl, hR', hr, hlen, hm', hgr⟩
  have hrx := hR r os'' hR'
  subst hrx
  refine ⟨by rw [hr.1], hw1.trans (hgr.ext.mono ?_)⟩
  rintro b ⟨k, h1, _⟩
  exact absurd h1 (Nat.not_lt_zero _)
end
def parT : Nat → List PV → List (Nat × PV)
  | _, [] => []
  | i, q :: r => (i, q) :: parT (i + 1) r
def res1 (P : Program) (s : S) : ResultVar → Option PV
  | .tmp t => s.get t
  | .cell a t => loadP P s.o t (s.get a)
def resL (P : Program) (s : S) : List ResultVar → Option (List PV)
  | [] => some []
  | v :: r => match res1 P s v, resL P s r with
    | some q, some l => some (q :: l)
    | _, _ => none
def resP (P : Program) (s : S) (rs : List ResultVar) : Option PV := match resL P s rs with
  | some [] => some .undef
  | some [x] => some x
  | some [x, y] => some (.two x y)
  | some [x, y, z] => some (.three x y z)
  | _ => none
def resV (tmps : Array Value) : ResultVar → Sem Value
  | .tmp t => pure (tmps.getD t Go.undef)
  | .cell ad t => do loadVar t (← asAddr (tmps.getD ad Go.undef))
theorem results_eq (fn : Func) (tmps : Array Value) : results fn tmps = (do let vs ← fn.results.mapM (resV tmps); pure (if h : vs.size = 1 then vs[0] else .tuple vs)) := by
  unfold results
  congr 1
theorem resL_ok {P : Program} {N : Nat} {Γ : G} {s : S} {a : Act} {w : World} (hI : Inv N Γ s a w) : ∀ {rs : List ResultVar} {l : List PV}, resL P s rs = some l →
    ∃ ys, (rs.mapM (resV a.tmps)).run P w = .ok ys w ∧ All2 (RP w Γ) l ys
  | [], l, h => by simp [resL] at h; subst h; exact ⟨[], by simp, trivial⟩
  | v :: rs, l, h => by
    simp only [resL] at h
    split at h
    · rename_i q l' h1 h2
      cases h
      obtain ⟨ys, h3, h4⟩ := resL_ok hI h2
      cases v with
      | tmp t =>
        exact ⟨a.tmps.getD t Go.undef :: ys, by rw [List.mapM_cons]; simp only [resV, Sem.run_bind, Sem.run_pure, Result.andThen_ok, h3], (hI.t t q h1).2, h4⟩
      | cell ad t =>
        obtain ⟨y, h5, h6⟩ := loadP_ok (P := P) (x := .tmp ad) (o := ⟨none, .load t (.tmp ad), 0, "", #[], none⟩) rfl h1 hI
        have h7 := h6 w (Same.refl w)
        refine ⟨y :: ys, ?_, h5, h4⟩
        have h8 : ∃ p, a.tmps.getD ad Go.undef = .pointer (some p) := by
          simp only [res1] at h1
          cases hg : s.get ad with
          | none => rw [hg] at h1; simp [loadP] at h1
          | some u =>
            have hu := (hI.t ad u hg).2
            rw [hg] at h1
            unfold loadP at h1
            split at h1
            · rename_i e; injection e with e; subst e; exact ⟨_, hu.2⟩
            · rename_i e; injection e with e; subst e; obtain ⟨b, f, xs, he, _⟩ := hu; exact ⟨_, he⟩
            · rename_i e; injection e with e; subst e; exact ⟨_, hu.2⟩
            · cases h1
        obtain ⟨p, hp⟩ := h8
        have h9 : (loadVar t p).run P w = .ok y w := by
          simp only [execOp, Act.eval, hp, Instr.loadAt, Instr.sureAddr, Sem.run_bind, Sem.run_pure, Result.andThen_ok] at h7
          generalize (loadVar t p).run P w = z at h7
          cases z with
          | ok u w2 => simp at h7; obtain ⟨rfl, rfl⟩ := h7; rfl
          | halt u w2 => simp [Result.andThen] at h7
        have h10 : (asAddr (a.tmps.getD ad Go.undef)).run P w = .ok p w := by rw [hp]; rfl
        rw [List.mapM_cons]
        simp only [resV, Sem.run_bind, h10, Result.andThen_ok, h9, h3, Sem.run_pure]
    · cases h
theorem resP_ok {P : Program} {N : Nat} {Γ : G} {s : S} {a : Act} {w : World} {fn : Func} {r : PV} (hI : Inv N Γ s a w) (h : resP P s fn.results.toList = some r) : ∃ y, (results fn a.tmps).run P w = .ok y w ∧ RP w Γ r y := by
  unfold resP at h
  have key : ∀ l, resL P s fn.results.toList = some l → ∃ ys : List Value, All2 (RP w Γ) l ys ∧ (results fn a.tmps).run P w = .ok (if h : ys.toArray.size = 1 then ys.toArray[0] else .tuple ys.toArray) w := by
    intro l hl
    obtain ⟨ys, h1, h2⟩ := resL_ok hI hl
    refine ⟨ys, h2, ?_⟩
    rw [results_eq, Array.mapM_eq_mapM_toList]
    simp only [Sem.run_bind, Sem.run_map]
    rw [h1]
    simp only [Result.andThen_ok, Sem.run_pure]
  split at h
  · rename_i hl
    cases h
    obtain ⟨ys, h1, h2⟩ := key _ hl
    rw [All2.nil_l] at h1
    subst h1
    exact ⟨_, h2, rfl⟩
  · rename_i x hl
    cases h
    obtain ⟨ys, h1, h2⟩ := key _ hl
    obtain ⟨y, m, rfl, h3, h4⟩ := All2.cons_l.1 h1
    rw [All2.nil_l] at h4
    subst h4
    exact ⟨y, by simpa using h2, h3⟩
  · rename_i x z hl
    cases h
    obtain ⟨ys, h1, h2⟩ := key _ hl
    obtain ⟨y, m, rfl, h3, h4⟩ := All2.cons_l.1 h1
    obtain ⟨y2, m, rfl, h5, h6⟩ := All2.cons_l.1 h4
    rw [All2.nil_l] at h6
    subst h6
    exact ⟨_, by simpa using h2, y, y2, rfl, h3, h5⟩
  · rename_i x z t hl
    cases h
    obtain ⟨ys, h1, h2⟩ := key _ hl
    obtain ⟨y, m, rfl, h3, h4⟩ := All2.cons_l.1 h1
    obtain ⟨y2, m, rfl, h5, h6⟩ := All2.cons_l.1 h4
    obtain ⟨y3, m, rfl, h7, h8⟩ := All2.cons_l.1 h6
    rw [All2.nil_l] at h8
    subst h8
    exact ⟨_, by simpa using h2, y, y2, y3, rfl, h3, h5, h7⟩
  · cases h
def seeR (os : List Ob) (kk : List Nat) : PV → Option PV
  | .c e => (seeE true os kk e).map PV.c
  | .agg cs => (seeEs true os kk cs).map PV.agg
  | .undef => some .undef
  | .two x y => match seeR os kk x, seeR os kk y with
    | some x', some y' => some (.two x' y')
    | _, _ => none
  | .three x y z => match seeR os kk x, seeR os kk y, seeR os kk z with
    | some x', some y', some z' => some (.three x' y' z')
    | _, _, _ => none
theorem seeR_ok {kk : List Nat} {Γ : G} {os : List Ob} {w : World} (hm : MemOk Γ os w) (hks : ∀ k ∈ kk, k < Γ.n) : ∀ {r r' : PV} {y : Value}, seeR os kk r = some r' → RP w Γ r y → RP w (seeG true kk Γ) r' y
  | .c e, r', y, h, hr => by
    obtain ⟨e', h1, rfl⟩ := Option.map_eq_some_iff.1 h
    exact seeE_ok hm hks h1 hr
  | .agg cs, r', y, h, ⟨xs, h2, h3⟩ => by
    obtain ⟨cs', h1, rfl⟩ := Option.map_eq_some_iff.1 h
    exact ⟨xs, h2, seeEs_ok hm hks h1 h3⟩
  | .undef, r', y, h, hr => by simp only [seeR, Option.some.injEq] at h; subst h; exact hr
  | .two x z, r', y, h, ⟨u, v, h1, h2, h3⟩ => by
    simp only [seeR] at h
    split at h
    · rename_i x' z' e1 e2
      cases h
      exact ⟨u, v, h1, seeR_ok hm hks e1 h2, seeR_ok hm hks e2 h3⟩
    · cases h
  | .three x z t, r', y, h, ⟨u, v, p, h1, h2, h3, h4⟩ => by
    simp only [seeR] at h
    split at h
    · rename_i x' z' t' e1 e2 e3
      cases h
      exact ⟨u, v, p, h1, seeR_ok hm hks e1 h2, seeR_ok hm hks e2 h3, seeR_ok hm hks e3 h4⟩
    · cases h
def firstOk (p : Nat) (kk : List Nat) : Bool := decide (p ≤ kk.length) && (List.range p).all fun i => kk.getD i 0 == i
def RetK (P : Program) (rs : List ResultVar) (p : Nat) (R : PV → List Ob → Prop) (s : S) : Prop :=
  ∃ kk r r' os' r2 os2, resP P s rs = some r ∧ seeR s.o kk r = some r' ∧ seeOs true s.o kk kk = some os' ∧ kk.Nodup ∧ (kk.all fun k => decide (k < s.o.length)) = true ∧ firstOk p kk = true ∧ leP r' r2 ∧ leOs os' os2 ∧ R r2 os2
def RetQ (P : Program) (rs : List ResultVar) (p : Nat) (R : PV → List Ob → Prop) : Exit → S → Prop
  | .normal, s => RetK P rs p R s
  | .ret, s => RetK P rs p R s
  | _, _ => False
theorem RetQ_normal (P : Program) (rs : List ResultVar) (p : Nat) (R : PV → List Ob → Prop) (s : S) : RetQ P rs p R .normal s = RetK P rs p R s := rfl
theorem RetQ_ret (P : Program) (rs : List ResultVar) (p : Nat) (R : PV → List Ob → Prop) (s : S) : RetQ P rs p R .ret s = RetK P rs p R s := rfl
theorem parT_look : ∀ (l : List PV) (j i : Nat) (q : PV), look (parT j l) i = some q → j ≤ i ∧ l[i - j]? = some q
  | [], j, i, q, h => by simp [parT, look] at h
  | x :: l, j, i, q, h => by
    simp only [parT, look] at h
    split at h
    · rename_i e; subst e; cases h; simp
    · obtain ⟨h1, h2⟩ := parT_look l (j + 1) i q h
      refine ⟨by omega, ?_⟩
      rw [show i - j = (i - (j + 1)) + 1 by omega]
      simpa using h2
theorem Inv.offm {N : Nat} {Γ : G} {s : S} {a : Act} {w w' : World} (hI : Inv N Γ s a w) (h : Ext (OffM Γ) w w') : Inv N Γ s a w' := by
  have hs : Stay w Γ.I w' Γ.I := ⟨h.size, fun b hb hl => h.block b hl fun hx => hx.1 hb, fun _ h => h⟩
  refine hI.heap ⟨hI.m.n, fun k o ho => ?_, hI.m.sep, hI.m.off, fun b hb => Nat.lt_of_lt_of_le (hI.m.lt b hb) h.size, hI.m.pins hs⟩ hs fun j hj => ⟨hj, rfl, rfl⟩
  have hk : k < Γ.n := by rw [hI.m.n]; exact (List.getElem?_eq_some_iff.1 ho).1
  exact (hI.m.ob k o ho).stay hs (fun j hj => ⟨hj, rfl, rfl⟩) hk fun hc => h.block _ (mine_lt hI.m hk hc) fun hx => hx.2 k hk hc rfl
theorem leaves_marks {P : Program} {fn : Func} {tmps : Array Value} {R : Ending → World → Prop} {B : Nat → Prop} : ∀ (ds : List Deferred) (w : World), ds.Nodup → (∀ d ∈ ds, ∃ D, d = { target := .collected D, args := #[] } ∧ w.heap[D]? = some (.deferred (some [])) ∧ B D) →
    (∀ w', Ext B w w' → ∃ v, (results fn tmps).run P w' = .ok v w' ∧ R (.returned v) w') → LeavesInM (Fw none) 0 P fn tmps R ds .returning w
  | [], w, _, _, h => h w (Ext.refl _ w)
  | d :: ds, w, hn, hd, h => by
    obtain ⟨D, rfl, h2, h3⟩ := hd d (by simp)
    rw [List.nodup_cons] at hn
    refine ⟨by simp, .inl ⟨D, _, rfl, run_takeDeferred h2, ?_⟩⟩
    have hE : Ext B w (w.putObj D (.deferred none)) := ⟨rfl, rfl, rfl, by simp, fun k _ hk => World.putObj_heap_other (fun e => hk (e ▸ h3))⟩
    refine leaves_marks ds _ hn.2 (fun d' hd' => ?_) fun w' hw' => h w' (hE.trans_new hw' fun b hb => .inl hb)
    obtain ⟨D', rfl, h5, h6⟩ := hd d' (by simp [hd'])
    refine ⟨D', rfl, ?_, h6⟩
    rw [World.putObj_heap_other]
    · exact h5
    · rintro rfl; exact hn.1 hd'
theorem grow_offm {p : Nat} {Γ Γ' : G} {w w' w'' : World} {B : Nat → Prop} (h : Grow p Γ w Γ' w') (hE : Ext B w' w'') (hB : ∀ b, B b → w.heap.size ≤ b) : Grow p Γ w Γ' w'' :=
  ⟨⟨hE.os.trans h.ext.os, hE.tape.trans h.ext.tape, hE.output.trans h.ext.output, Nat.le_trans h.ext.size hE.size, fun k hk hm => (hE.block k (Nat.lt_of_lt_of_le hk h.ext.size) fun hb => by have := hB k hb; omega).trans (h.ext.block k hk hm)⟩, h.sub, h.new, h.imm, h.keep⟩
theorem calls_pwp {P : Program} {g : FuncId} {fn : Func} {c : Code} {args : List PV} {os : List Ob} {Q : Exit → S → Prop} {T : S → Prop} {R : PV → List Ob → Prop} (hf : P.funcs[g]? = some fn) (hb : fn.body = some c) (hn : args.length ≤ fn.ntmps)
    (hQ : ∀ e s, Q e s → (e = .normal ∨ e = .ret) ∧ T s)
    (hT : ∀ s Γ Γ' a w w', T s → Inv fn.ntmps Γ' s a w' → Grow os.length Γ w Γ' w' → ∃ v, (results fn a.tmps).run P w' = .ok v w' ∧ ∃ r os' Γ', R r os' ∧ RP w' Γ' r v ∧ os.length ≤ os'.length ∧ MemOk Γ' os' w' ∧ Grow os.length Γ w Γ' w')
    (h : PWP P fn.ntmps os.length c Q ⟨parT 0 args, os⟩) : PCalls P g args os R := by
  intro Γ w xs hm hx
  refine fw_calls (rd := none) (n := 0) (callsIn_of_wp_marks hf hb trivial ?_)
  have hl := hx.length
  have hA : Stands fn.ntmps os.length Γ ⟨parT 0 args, os⟩ { tmps := xs.toArray ++ Array.replicate (fn.ntmps - xs.toArray.size) Go.undef, defers := [] } w := by
    refine ⟨⟨?_, trivial, fun i q hq => ?_, hm⟩, by rw [hm.n]; exact Nat.le_refl _⟩
    · simp; omega
    · obtain ⟨_, h2⟩ := parT_look args 0 i q hq
      rw [Nat.sub_zero] at h2
      obtain ⟨y, h3, h4⟩ := hx.get i q h2
      have hi : i < xs.length := (List.getElem?_eq_some_iff.1 h3).1
      refine ⟨by omega, ?_⟩
      have : (xs.toArray ++ Array.replicate (fn.ntmps - xs.toArray.size) Go.undef).getD i Go.undef = y := by
        rw [Array.getD_eq_getD_getElem?, Array.getElem?_append_left (by simpa using hi), List.getElem?_toArray, h3]
        rfl
      rw [this]
      exact h4
  refine wpIn_mono (h w.heap.size Γ _ w hA (DefOk.nil (Nat.le_refl _))) ?_
  rintro e a' w' ⟨s', Γ', hq, hA', hg, hd⟩
  obtain ⟨he, ht⟩ := hQ e s' hq
  have fin : LeavesInM (Fw none) 0 P fn a'.tmps (fun e w' => ∃ r os' Γ' y, e = .returned y ∧ R r os' ∧ RP w' Γ' r y ∧ os.length ≤ os'.length ∧ MemOk Γ' os' w' ∧ Grow os.length Γ w Γ' w') a'.defers .returning w' := by
    refine leaves_marks (B := fun D => OffM Γ' D ∧ w.heap.size ≤ D) _ _ hd.2.1 (fun d hd' => ?_) fun w'' hw'' => ?_
    · obtain ⟨D, h1, h2, h3, h4⟩ := hd.2.2 d hd'
      exact ⟨D, h1, h2, h3, h4⟩
    · have hI := hA'.inv.offm (hw''.mono fun b hb => hb.1)
      obtain ⟨v, h1, r, os', Γ2, h2, h3, h4, h5, h6⟩ := hT s' Γ Γ' a' w w'' ht hI (grow_offm hg hw'' fun b hb => hb.2)
      exact ⟨v, h1, r, os', Γ2, v, rfl, h2, h3, h4, h5, h6⟩
  rcases he with rfl | rfl
  · exact fin
  · exact fin
theorem pcalls_of {P : Program} {g : FuncId} {fn : Func} {c : Code} {args : List PV} {os : List Ob} {R : PV → List Ob → Prop} (hf : P.funcs[g]? = some fn) (hb : fn.body = some c) (hn : args.length ≤ fn.ntmps)
    (h : PWP P fn.ntmps os.length c (RetQ P fn.results.toList os.length R) ⟨parT 0 args, os⟩) : PCalls P g args os R := by
  refine calls_pwp (T := RetK P fn.results.toList os.length R) hf hb hn (fun e s hq => ?_) (fun s' Γ Γ' a' w w' ht hI hg => ?_) h
  · cases e with
    | normal => exact ⟨.inl rfl, hq⟩
    | ret => exact ⟨.inr rfl, hq⟩
    | exit j => exact hq.elim
    | goto l => exact hq.elim
    | panic ch => exact hq.elim
    | outgrown => exact hq.elim
  · obtain ⟨kk, r, r', os', r2, os2, h1, h2, h3, h4, h5, h6, hl1, hl2, h7⟩ := ht
    obtain ⟨y, h8, h9⟩ := resP_ok hI h1
    have hks : ∀ k ∈ kk, k < Γ'.n := fun k hk => by rw [hI.m.n]; simpa using List.all_eq_true.1 h5 k hk
    have hmem := leOs_mem hl2 (see_mem (v := true) hI.m hks h4 h3)
    simp only [firstOk, Bool.and_eq_true, decide_eq_true_eq, List.all_eq_true, List.mem_range, beq_iff_eq] at h6
    have hlen : os2.length = kk.length := (leOs_length hl2).symm.trans (seeOs_get h3).1
    refine ⟨y, h8, r2, os2, seeG true kk Γ', h7, leP_ok hl1 (seeR_ok hI.m hks h2 h9), by omega, hmem, hg.trans ⟨Ext.refl _ _, fun b hb => .inl hb, fun k hk hc => .inl ⟨kk.getD k 0, hks _ ?_, hc, rfl⟩, fun b hb => ?_, fun k hk => ?_⟩⟩
    · have hk' : k < kk.length := hk
      simp only [List.getD, List.getElem?_eq_getElem hk', Option.getD_some]
      exact List.getElem_mem _
    · rcases hb with hb | ⟨_, hb, _⟩
      · exact .inl hb
      · exact .inr (.inl hb)
    · simp only [seeG, h6.2 k hk, and_self]
end Go.Proofs.YthconflkbeipoaaGreatDoor
