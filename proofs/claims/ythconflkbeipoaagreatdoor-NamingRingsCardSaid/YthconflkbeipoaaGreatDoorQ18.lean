/- What the program computes, and the plain laws of it, part 18. -/
import Derived.Test.YthconflkbeipoaaGreatDoorQ17
namespace Go.Proofs.YthconflkbeipoaaGreatDoor
open Go.RowKit
open IntWalk renaming iteOmega → iO, toNatUp → tN
set_option linter.unusedVariables false
set_option linter.unusedSimpArgs false
theorem run_append_out {P : Program} (w : World) (base : Nat) (t ty e : TypeId) (size bytes : Nat) (hT : SlT P t e size bytes)
    (ad : Addr) (n c0 : Nat) (xs : List Value) (hl : xs.length = n * size) (holds : ∀ j u, xs[j]? = some u → w.cell? (ad.add j) = some u) (R' : Nat → Prop) (A' : Option Addr) (m c : Nat) (news : List Value) (hr : Rd w R' size A' m news)
    (h0 : 0 < m) (hg : c0 < n + m) (h63 : n + m ≤ maxLen) (hbytes : (n + m) * bytes ≤ 140737488355328) (hbase : base ≤ w.heap.size) :
    ∃ v' w', (Builtin.append_ #[t, t] ty #[.slice (some ad) n c0, .slice A' m c]).run P w = .ok v' w' ∧ w'.ownsRow base e size v' (n + m) (xs ++ news) ∧ Ext No w w' := by
  obtain ⟨ht, ⟨i, z, hi, hz, hsize, hby, hzs⟩, hsz⟩ := hT
  subst hsize
  subst hby
  obtain ⟨b', o', rfl, hb', hlt', hc'⟩ := hr.2 h0
  have hsmall : n + m ≤ 9223372036854775807 := by simp only [maxLen] at h63; omega
  have hlen : (xs ++ news).length = (n + m) * i.size := by rw [List.length_append, hl, hr.1, Nat.add_mul]
  have hnews : ∀ j u, news[j]? = some u → w.cell? ((⟨b', o', none⟩ : Addr).add j) = some u := fun j u hu => by rw [Addr.add_lit]; exact hc' j u hu
  have grown : (w.drew.alloc (.cells (xs.toArray ++ news.toArray ++ Builtin.zeroCells z.cells (grownCap w (n + m) c0 e - (n + m))) e)).ownsRow base e i.size
        (.slice (some ⟨w.heap.size, 0, none⟩) (n + m) (grownCap w (n + m) c0 e)) (n + m) (xs ++ news) := by
    have hge := grownCap_ge w (n + m) c0 e
    have hcm : grownCap w (n + m) c0 e ≤ maxLen := grownCap_le_maxLen w (n + m) c0 e h63
    refine ⟨hlen, .inr ⟨w.heap.size, _, _, rfl, hbase, heap_alloc_new w.drew _, hge, hcm, ?_, ?_⟩⟩
    · simp only [Array.size_append, List.size_toArray, size_zeroCells, hzs, hl, hr.1, ← Nat.add_mul]
      congr 1
      omega
    · simp only [Array.toList_append, List.append_assoc]
      rw [← List.append_assoc, ← hlen]
      exact List.take_left
  have hrun := run_append_grow (P := P) w t ty e i z ht hi hz ad n c0 xs hl holds ⟨b', o', none⟩ m c news hr.1 hnews hg (by omega) (growslice_fits hg hbytes)
  exact ⟨_, _, hrun, grown, (Ext.refl No w).drew.alloc _⟩
theorem app_two {P : Program} {N p : Nat} {Γ : G} {s : S} {a : Act} {w : World} {o : Oper} {t e : TypeId} {sz by' : Nat} {x z : Operand} {k : Nat} {rows ys : List (List D)} (ho : o.op = .call { callee := .builtin .append, args := #[x, z], argTypes := #[t, t] })
    (hel : elOf P t = some (e, sz)) (hby : bytOf P e = some by') (hsz : 0 < sz) (hz : (zerOf P e).map List.length = some sz) (hx : s.ev x = some (.c (.own k rows.length))) (hk : s.o[k]? = some (.arr e sz rows))
    (hys : srcRows s.o sz (s.ev z) = some ys) (h0 : 0 < ys.length) (hb1 : ((rows.length : Int) + ys.length) * by' ≤ 140737488355328) (hb2 : (rows.length : Int) + ys.length ≤ 9223372036854775807) (hI : Inv N Γ s a w) (hp : p ≤ Γ.n) :
    AppOk P N p Γ s a w o (.c (.own k (rows.length + ys.length))) (s.o.set k (.arr e sz (rows ++ ys))) none ∨ AppOk P N p Γ s a w o (.c (.own s.o.length (rows.length + ys.length))) (s.o ++ [.arr e sz (rows ++ ys)]) none := by
  obtain ⟨hT, i, hu, hi⟩ := slT_of hel hby hsz hz
  obtain ⟨hyr, A, c, news, hzv, hrd, hnx⟩ := src_ok hI.m hys (fun q hq => S.ev_ok hq hI)
  have hone := rd_one hnx
  have hexec : ∀ (v v' : Value) (w' : World), a.eval x = v → (Builtin.append_ #[t, t] o.type #[v, .slice A ys.length c]).run P w = .ok v' w' → (execOp a.eval o).run P w = .ok (.value v') w' := by
    intro v v' w' hv hr
    simp only [execOp, ho, resolve, invoke, builtin, Sem.run_bind, Sem.run_pure, Result.andThen_ok, List.map_toArray, List.map_cons, List.map_nil, hv, hzv, hr]
  obtain ⟨hkn, hrep⟩ := S.ev_ok hx hI
  have hro := hI.m.ob k _ hk
  obtain ⟨g1, g2, g3, g4⟩ := hro
  have hrl : ∀ r ∈ rows ++ ys, r.length = sz := fun r hr => by
    rcases List.mem_append.1 hr with hr | hr
    · exact g1 r hr
    · exact hyr r hr
  have hbb : (rows.length + ys.length) * by' ≤ 140737488355328 := by have := hb1; rw [← Int.natCast_add, ← Int.natCast_mul] at this; omega
  have hmx : rows.length + ys.length ≤ maxLen := by simp only [maxLen]; omega
  rcases hrep with ⟨hc0, ⟨A0, hv⟩, hn0⟩ | ⟨hcp, hv, hnc⟩
  ·
    have hr0 : rows = [] := List.eq_nil_of_length_eq_zero hn0
    subst hr0
    right
    obtain ⟨v', w', hr, h2, h3⟩ := run_append_full (P := P) w w.heap.size t o.type e sz by' hT (fun _ => True) _ A0 0 [] ⟨by simp, fun h => absurd h (by omega)⟩ A ys.length c news hrd h0 (by simpa using hmx) (by simpa using hbb) (Nat.le_refl _)
    simp only [List.length_nil, Nat.zero_add, List.nil_append] at *
    exact app_new hI hp (hexec _ _ _ hv hr) h3 h2 (by omega) hsz hyr rfl (hnx.mono fun _ _ => RD.stay ((Same.of_ext h3).stay Γ.I) _ _)
  · obtain ⟨cur, q1, q2, q3, q4, q5⟩ := g4 hcp
    by_cases hroom : rows.length + ys.length ≤ Γ.cap k
    · left
      have hown : w.ownsRow 0 e sz (.slice (some ⟨Γ.β k, 0, none⟩) rows.length (Γ.cap k)) rows.length (cur.toList.take (rows.length * sz)) :=
        own_blk q1 (Nat.zero_le _) q2 hnc q4
      obtain ⟨v', w', hr, h2, h3, h5⟩ := run_append_rd (P := P) w 0 t o.type e sz by' hT _ _ _ hown _ A ys.length c news hrd hone hmx hbb (Nat.zero_le _)
      obtain ⟨b', o', hA, hb', hlt', hc'⟩ := hrd.2 h0
      obtain ⟨i2, hi2, hisz, hiby⟩ : ∃ i2, P.info? e = some i2 ∧ i2.size = sz ∧ i2.bytes = by' := by
        obtain ⟨_, ⟨i2, z2, h1, _, h3, h4, _⟩, _⟩ := hT
        exact ⟨i2, h1, h3, h4⟩
      have hfit : rows.length * i2.size + news.length ≤ cur.size := by rw [hisz, hrd.1, q2, ← Nat.add_mul]; exact Nat.mul_le_mul_right _ hroom
      have hrun2 := run_append_room (P := P) w t o.type e i2 hu hi2 (Γ.β k) rows.length (Γ.cap k) cur q1 ⟨b', o', none⟩ ys.length c news (by rw [hisz]; exact hrd.1) (fun j u hu => by rw [Addr.add_lit]; exact hc' j u hu) hone hroom hfit
      rw [hA] at hr
      rw [hrun2] at hr
      injection hr with hr1 hr2
      subst hr1
      have hE : Ext (fun i => i = Γ.β k) w w' := h3.mono fun j hj => by simp [Value.ownBlock] at hj; exact hj.symm
      have hs : Stay w Γ.I w' Γ.I := ⟨hE.size, fun i hi hl => hE.block i hl fun h2 => hI.m.off k hkn hcp (h2 ▸ hi), fun i hi => hi⟩
      obtain ⟨_, h2⟩ := h2
      have hblk : ∃ cur', Blk w' (Γ.β k) e cur' ∧ cur'.size = Γ.cap k * sz ∧ cur'.toList.take ((rows.length + ys.length) * sz) = cur.toList.take (rows.length * sz) ++ news := by
        rcases h2 with ⟨h2, _⟩ | ⟨g, cap, cur', h2, _, hg, _, _, hcs, htk⟩
        · cases h2
        · injection h2 with e1 e2 e3
          injection e1 with e1
          injection e1 with e1
          subst e1; subst e3
          exact ⟨cur', hg, hcs, htk⟩
      obtain ⟨cur', hb1', hcs, htk⟩ := hblk
      refine ⟨.slice (some ⟨Γ.β k, 0, none⟩) (rows.length + ys.length) (Γ.cap k), w', Γ, ?_, ⟨hkn, .inr ⟨hcp, rfl, hroom⟩⟩, ⟨hI.size, hI.defers, fun i q hq => ?_, ⟨by rw [hI.m.n, List.length_set], fun j o' ho' => ?_, hI.m.sep, hI.m.off, fun b hb => Nat.lt_of_lt_of_le (hI.m.lt b hb) hE.size, hI.m.pins hs⟩⟩, ⟨hE.mono fun i h1 => ⟨k, hkn, hcp, h1.symm⟩, fun _ h => h, fun j hj hc => .inl ⟨j, hj, hc, rfl⟩, fun _ h => .inl h, fun _ _ => ⟨rfl, rfl⟩⟩⟩
      · have := hexec _ _ _ hv (by rw [hA, hrun2])
        rw [this, hr2]
      · obtain ⟨i1, i2⟩ := hI.t i q hq
        exact ⟨i1, i2.stay hs fun j hj => ⟨i2.lt j hj, rfl, rfl⟩⟩
      · by_cases hjk : k = j
        · subst hjk
          have hkl : k < s.o.length := by rw [← hI.m.n]; exact hkn
          rw [List.getElem?_set_self hkl] at ho'
          cases ho'
          refine ⟨hrl, hsz, fun h => absurd h (by omega), fun _ => ⟨cur', hb1', hcs, by rw [List.length_append]; exact hroom, q4, ?_⟩⟩
          rw [List.length_append, htk, List.flatten_append]
          exact (q5.mono fun _ _ => RD.stay hs _ _).append (hnx.mono fun _ _ => RD.stay hs _ _)
        · rw [List.getElem?_set_ne hjk] at ho'
          have hj : j < Γ.n := by rw [hI.m.n]; exact (List.getElem?_eq_some_iff.1 ho').1
          exact (hI.m.ob j o' ho').stay hs (fun i hi => ⟨hi, rfl, rfl⟩) hj fun hcj => hE.block _ (mine_lt hI.m hj hcj) fun h => hjk (hI.m.sep k j hkn hj hcp hcj h.symm)
    · right
      have holds : ∀ j u, (cur.toList.take (rows.length * sz))[j]? = some u → w.cell? ((⟨Γ.β k, 0, none⟩ : Addr).add j) = some u := by
        intro j u hu
        rw [Addr.add_lit, Nat.zero_add, q1.cell]
        rw [List.getElem?_take] at hu
        split at hu
        · simpa using hu
        · cases hu
      have hxl : (cur.toList.take (rows.length * sz)).length = rows.length * sz := by
        rw [List.length_take]
        have hcz : cur.toList.length = cur.size := Array.length_toList
        rw [hcz, q2]
        exact Nat.min_eq_left (Nat.mul_le_mul_right _ hnc)
      obtain ⟨v', w', hr, h2, h3⟩ := run_append_out (P := P) w w.heap.size t o.type e sz by' hT ⟨Γ.β k, 0, none⟩ rows.length (Γ.cap k) _ hxl holds _ A ys.length c news hrd h0 (by omega) hmx hbb (Nat.le_refl _)
      refine app_new hI hp (hexec _ _ _ hv hr) h3 h2 (by omega) hsz hrl (by simp) ?_
      rw [List.flatten_append]
      exact (q5.append hnx).mono fun _ _ => RD.stay ((Same.of_ext h3).stay Γ.I) _ _
section
variable {P : Program} {N p : Nat} {ops : Array Oper} {rest : List Oper} {o : Oper} {s : S} {K : S → Prop}
theorem pl_app2 {t e : TypeId} {sz by' : Nat} {x z : Operand} (k : Nat) {rows ys : List (List D)} (ho : o.op = .call { callee := .builtin .append, args := #[x, z], argTypes := #[t, t] }) (hg : gd ops s o.guard = some true) (hd : dstOk N o.dst)
    (hel : elOf P t = some (e, sz)) (hby : bytOf P e = some by') (hsz : 0 < sz) (hz : (zerOf P e).map List.length = some sz) (hk : s.o[k]? = some (.arr e sz rows)) (hx : s.ev x = some (.c (.own k rows.length)))
    (hys : srcRows s.o sz (s.ev z) = some ys) (h0 : 0 < ys.length) (hb1 : ((rows.length : Int) + ys.length) * by' ≤ 140737488355328) (hb2 : (rows.length : Int) + ys.length ≤ 9223372036854775807)
    (hA : PL P N p ops rest (S.put ⟨s.t, s.o.set k (.arr e sz (rows ++ ys))⟩ o.dst (.c (.own k (rows.length + ys.length)))) K)
    (hB : PL P N p ops rest (S.put ⟨s.t, s.o ++ [.arr e sz (rows ++ ys)]⟩ o.dst (.c (.own s.o.length (rows.length + ys.length)))) K) : PL P N p ops (o :: rest) s K := by
  intro Γ a w Q hS hK
  rcases app_two (p := p) ho hel hby hsz hz hx hk hys h0 hb1 hb2 hS.inv hS.le with h | h
  · obtain ⟨y, w', Γ', h1, h2, h3, h4⟩ := h
    unfold wpListIn
    rw [if_pos (gd_ok hg hS.inv)]
    have hle : p ≤ Γ'.n := by have h5 := hS.le; rw [hS.inv.m.n] at h5; rw [h3.m.n, List.length_set]; exact h5
    exact wpIn_run h1 (hA Γ' _ w' Q ⟨Inv.put h3 (dst_lt hd) h2, hle⟩ fun s' Γ'' a' w'' hk ha hg' hd' => hK s' Γ'' a' w'' hk ha (h4.trans hg') (hd'.trans (put_defers _ _ _)))
  · obtain ⟨y, w', Γ', h1, h2, h3, h4⟩ := h
    unfold wpListIn
    rw [if_pos (gd_ok hg hS.inv)]
    have hle : p ≤ Γ'.n := by have h5 := hS.le; rw [hS.inv.m.n] at h5; rw [h3.m.n, List.length_append]; omega
    exact wpIn_run h1 (hB Γ' _ w' Q ⟨Inv.put h3 (dst_lt hd) h2, hle⟩ fun s' Γ'' a' w'' hk ha hg' hd' => hK s' Γ'' a' w'' hk ha (h4.trans hg') (hd'.trans (put_defers _ _ _)))
end
end Go.Proofs.YthconflkbeipoaaGreatDoor
namespace Go.Proofs.YthconflkbeipoaaGreatDoor
open Go.RowKit
open IntWalk renaming iteOmega → iO, toNatUp → tN
set_option linter.unusedVariables false
set_option linter.unusedSimpArgs false
theorem pcalls_split0 {P : Program} {g : FuncId} {l1 l2 : List PV} {sz : Nat} {os : List Ob} {R : PV → List Ob → Prop} (h : ∀ A c, PCalls P g (l1 ++ .c (.v (.slice A 0 c)) :: l2) os R) : PCalls P g (l1 ++ .c (.sl sz []) :: l2) os R := by
  intro Γ w xs hm hx
  obtain ⟨a, b, rfl, h1, h2⟩ := hx.split
  obtain ⟨y, m, rfl, h3, h4⟩ := All2.cons_l.1 h2
  obtain ⟨A, c, xs', hy, _⟩ := rd_sl.1 h3
  exact h A c Γ w _ hm (h1.append ⟨⟨hy, rfl⟩, h4⟩)
theorem pcalls_adopt {P : Program} {g : FuncId} {args : List PV} {os : List Ob} {R R' : PV → List Ob → Prop} (el : TypeId) (sz : Nat) (hsz : 0 < sz) (h : PCalls P g args os R)
    (hR : ∀ r os', R r os' → R' r os' ∨ (r = .c (.v (.slice none 0 0)) ∧ R' (.c (.own os'.length 0)) (os' ++ [.arr el sz []]))) : PCalls P g args os R' := by
  intro Γ w xs hm hx
  refine (h Γ w xs hm hx).mono ?_
  rintro e w' ⟨r, os', Γ', y, rfl, h2, h3, h4, h5, h6⟩
  rcases hR r os' h2 with h7 | ⟨rfl, h7⟩
  · exact ⟨r, os', Γ', y, rfl, h7, h3, h4, h5, h6⟩
  · have hS := Same.refl w'
    have hm2 : MemOk (Γ'.push 0 0) (os' ++ [.arr el sz []]) w' := h5.push hS _ 0 0 ⟨by simp, hsz, fun _ => rfl, fun h => absurd h (by simp [G.push, upd_same])⟩ (fun h => absurd h (by omega))
    have hn := h5.n
    refine ⟨_, _, Γ'.push 0 0, y, rfl, h7, ⟨by simp [G.push, hn], .inl ⟨by rw [← hn]; simp [G.push, upd_same], ⟨none, h3.1⟩, rfl⟩⟩, by simp; omega, hm2, ?_⟩
    exact h6.trans (grow_push h5 (Ext.refl No w') 0 0 (fun h => absurd h (by omega)) (by rw [hn]; exact h4))
theorem weak_trim {N p : Nat} {s : S} (k n : Nat) {el : TypeId} {sz : Nat} {rows : List (List D)} (hk : s.o[k]? = some (.arr el sz rows)) : Weak N p s ⟨s.t, setO s.o k (.arr el sz (rows.take n))⟩ := by
  intro Γ a w hA
  have hm := hA.inv.m
  have hkl : k < s.o.length := (List.getElem?_eq_some_iff.1 hk).1
  refine ⟨Γ, ⟨⟨hA.inv.size, hA.inv.defers, hA.inv.t, ⟨by simp [setO, hm.n], fun j o ho => ?_, hm.sep, hm.off, hm.lt, hm.pin⟩⟩, hA.le⟩, Grow.refl _ _ _⟩
  simp only [setO] at ho
  by_cases e : k = j
  · subst e
    rw [List.getElem?_set_self hkl] at ho
    cases ho
    obtain ⟨g1, g2, g3, g4⟩ := hm.ob k _ hk
    refine ⟨fun r hr => g1 r (List.mem_of_mem_take hr), g2, fun h => by rw [g3 h]; simp, fun hc => ?_⟩
    obtain ⟨cur, b1, b2, b3, b4, b5⟩ := g4 hc
    refine ⟨cur, b1, b2, by rw [List.length_take]; omega, b4, ?_⟩
    rcases Nat.lt_or_ge rows.length n with h | h
    · rw [List.take_of_length_le (by omega)]; exact b5
    · have := b5.take (n * sz)
      rw [take_rows g1 h, List.take_take, Nat.min_eq_left (Nat.mul_le_mul_right _ h)] at this
      rw [List.length_take, Nat.min_eq_left h]
      exact this
  · rw [List.getElem?_set_ne e] at ho
    exact hm.ob j o ho
def inM (s : ByteArray) (l : List ByteArray) : Bool := l.any fun x => decide (x = s)
theorem inM_iff {s : ByteArray} {l : List ByteArray} : inM s l = true ↔ s ∈ l := by
  simp only [inM, List.any_eq_true, decide_eq_true_eq]
  exact ⟨fun ⟨x, h, e⟩ => e ▸ h, fun h => ⟨s, h, rfl⟩⟩
theorem inM_false {s : ByteArray} {l : List ByteArray} : inM s l = false ↔ s ∉ l := by rw [← inM_iff]; simp
theorem inM_cons (s a : ByteArray) (l : List ByteArray) : inM s (a :: l) = (decide (a = s) || inM s l) := rfl
theorem inM_nil (s : ByteArray) : inM s [] = false := rfl
def setE (l : List ByteArray) : List (MK × List D) := l.map fun s => (.s s, [.v (.bool true)])
def addS (l : List ByteArray) (s : ByteArray) : List ByteArray := if inM s l = true then l else l ++ [s]
theorem mget_set (s : ByteArray) : ∀ l : List ByteArray, mget (setE l) (.s s) = if inM s l = true then some [.v (.bool true)] else none
  | [] => rfl
  | a :: l => by
    have ih := mget_set s l
    simp only [setE, List.map_cons, mget, MK.s.injEq, inM_cons] at ih ⊢
    by_cases h : a = s
    · simp [h]
    · rw [if_neg h, ih]
      simp [h]
theorem mput_set (s : ByteArray) : ∀ l : List ByteArray, mput (setE l) (.s s) [.v (.bool true)] = setE (addS l s)
  | [] => rfl
  | a :: l => by
    have ih := mput_set s l
    by_cases h : a = s
    · subst h; simp [setE, mput, addS, inM_cons]
    · cases hm : inM s l
      · simp only [setE, List.map_cons, mput, MK.s.injEq, h, if_false, addS, hm, inM_cons, decide_false, Bool.false_or, Bool.false_eq_true, List.map_append, List.map_nil, List.cons_append] at ih ⊢
        rw [ih]
      · simp only [setE, List.map_cons, mput, MK.s.injEq, h, if_false, addS, hm, inM_cons, decide_false, Bool.false_or, if_true] at ih ⊢
        rw [ih]
theorem lk_set (l : List ByteArray) (s : ByteArray) : lkP false (.c (.v (.bool false))) false (mget (setE l) (.s s)) = some (.c (.v (.bool (inM s l)))) := by
  rw [mget_set]
  cases h : inM s l <;> simp [lkP, rowP, okP, D.e]
theorem mem_addS {l : List ByteArray} {s x : ByteArray} : x ∈ addS l s ↔ x ∈ l ∨ x = s := by
  unfold addS
  split
  · rename_i h
    rw [inM_iff] at h
    constructor
    · exact .inl
    · rintro (h' | rfl)
      · exact h'
      · exact h
  · simp
theorem nodup_addS {l : List ByteArray} {s : ByteArray} (h : l.Nodup) : (addS l s).Nodup := by
  unfold addS
  split
  · exact h
  · rename_i h'
    rw [inM_iff] at h'
    rw [List.nodup_append]
    refine ⟨h, by simp, ?_⟩
    rintro a ha b hb rfl
    simp at hb
    subst hb
    exact h' ha
theorem setE_nil : setE [] = [] := rfl
theorem getD_snoc {α : Type} (l : List α) (a d : α) : (l ++ [a]).getD l.length d = a := by simp [List.getD]
attribute [push_cast] lk_set mput_set setE_nil
end Go.Proofs.YthconflkbeipoaaGreatDoor
namespace Go.Proofs.YthconflkbeipoaaGreatDoor
open Go.RowKit
open IntWalk renaming iteOmega → iO, toNatUp → tN
set_option linter.unusedVariables false
set_option linter.unusedSimpArgs false
def allSome : List (Option PV) → List PV → Prop
  | [], [] => True
  | some q :: l, r :: m => leP q r ∧ allSome l m
  | _, _ => False
theorem allSome_ok {w : World} {Γ : G} : ∀ {l : List (Option PV)} {m : List PV} {ys : List Value}, allSome l m → All2 (fun q y => ∀ r, q = some r → RP w Γ r y) l ys → All2 (RP w Γ) m ys
  | [], [], _, _, h => by rw [All2.nil_l] at h ⊢; exact h
  | some q :: l, r :: m, y :: ys, h, hr => ⟨leP_ok h.1 (hr.1 q rfl), allSome_ok h.2 hr.2⟩
  | some _ :: _, _ :: _, [], _, hr => hr.elim
  | [], _ :: _, _, h, _ => h.elim
  | none :: _, _, _, h, _ => h.elim
  | some _ :: _, [], _, h, _ => h.elim
section
variable {P : Program} {N p : Nat} {ops : Array Oper} {rest : List Oper} {o : Oper} {s : S} {K : S → Prop}
theorem pl_call_all {f : Operand} {args : Array Operand} {tys : Array TypeId} {g : FuncId} {ds : List D} {cap : List Nat} {args' : List PV} {R : PV → List Ob → Prop}
    (ho : o.op = .call ⟨.value f, args, tys⟩) (hg : gd ops s o.guard = some true) (hf : s.ev f = some (.c (.fn (.func g) ds cap))) (hb : bodyOk P g = true) (hd : dstOk N o.dst)
    (ha : allSome (callArgs s ds args.toList cap) args') (hc : PCalls P g args' s.o R)
    (hK : ∀ r os'', R r os'' → PL P N p ops rest (S.put ⟨s.t, os''⟩ o.dst r) K) : PL P N p ops (o :: rest) s K := by
  intro Γ a w Q hA hQ
  obtain ⟨xs, ys, hfv, hargs⟩ := callArgs_ok hA.inv hf args
  have hseen := allSome_ok ha hargs
  unfold wpListIn
  rw [if_pos (gd_ok hg hA.inv)]
  refine wpIn_enter (run_enter ho hfv hb) ?_
  have := hc _ w _ hA.inv.m hseen
  rw [Array.toArray_toList] at this
  refine this.mono ?_
  rintro e w' ⟨r, os'', Γ', y, rfl, hR, hr, hlen, hm', hgr⟩
  have hle : p ≤ s.o.length := by rw [← hA.inv.m.n]; exact hA.le
  have hag : ∀ j, j < Γ.n → Agree Γ Γ' j := fun j hj => by
    have hj' : j < s.o.length := by rw [← hA.inv.m.n]; exact hj
    exact ⟨by rw [hm'.n]; omega, (hgr.keep j hj').1, (hgr.keep j hj').2⟩
  have hI := hA.inv.heap hm' (hgr.stay hA.inv.m) hag
  refine ⟨y, rfl, hK r os'' hR Γ' _ w' Q ⟨hI.put (dst_lt hd) hr, by rw [hm'.n]; omega⟩ fun s' Γ2 a2 w2 hk hA2 hg2 hd2 => hQ s' Γ2 a2 w2 hk hA2 ?_ (hd2.trans (put_defers _ _ _))⟩
  have hgp : Grow p Γ w Γ' w' := ⟨hgr.ext, hgr.sub, hgr.new, hgr.imm, fun k hk => hgr.keep k (by omega)⟩
  exact hgp.trans hg2
theorem weak_slots {s' : S} (ht : subT s s'.t) (ho : s'.o = s.o) : Weak N p s s' := by
  intro Γ a w hA
  refine ⟨Γ, ⟨⟨hA.inv.size, hA.inv.defers, fun i q hq => ?_, by rw [ho]; exact hA.inv.m⟩, hA.le⟩, Grow.refl _ _ _⟩
  obtain ⟨r, hr, hle⟩ := subT_look ht hq
  obtain ⟨i1, i2⟩ := hA.inv.t i r hr
  exact ⟨i1, leP_ok hle i2⟩
end
theorem weak_seg {N p : Nat} {s : S} (i : Nat) {k n : Nat} (sz : Nat) (hi : s.get i = some (.c (.own k n))) : Weak N p s ⟨(i, .c (.seg k sz 0 n)) :: s.t, s.o⟩ := by
  intro Γ a w hA
  refine ⟨Γ, ⟨⟨hA.inv.size, hA.inv.defers, fun j q hq => ?_, hA.inv.m⟩, hA.le⟩, Grow.refl _ _ _⟩
  simp only [S.get, look] at hq
  split at hq
  · rename_i e
    subst e
    cases hq
    obtain ⟨h1, h2, h3⟩ := hA.inv.t j _ hi
    refine ⟨h1, h2, ?_⟩
    rcases h3 with ⟨_, ⟨A, h4⟩, rfl⟩ | ⟨h4, h5, h6⟩
    · exact ⟨A, 0, h4, Nat.le_refl _, fun h => absurd h (by omega)⟩
    · exact ⟨_, _, h5, h6, fun _ => ⟨h4, by omega, by simp⟩⟩
  · exact hA.inv.t j q hq
def RetA (P : Program) (rs : List ResultVar) (p : Nat) (R : PV → List Ob → Prop) (s : S) : Prop := ∃ r, resP P s rs = some r ∧ p ≤ s.o.length ∧ R r s.o
def RetQA (P : Program) (rs : List ResultVar) (p : Nat) (R : PV → List Ob → Prop) : Exit → S → Prop
  | .normal, s => RetA P rs p R s
  | .ret, s => RetA P rs p R s
  | _, _ => False
theorem RetQA_normal (P : Program) (rs : List ResultVar) (p : Nat) (R : PV → List Ob → Prop) (s : S) : RetQA P rs p R .normal s = RetA P rs p R s := rfl
theorem RetQA_ret (P : Program) (rs : List ResultVar) (p : Nat) (R : PV → List Ob → Prop) (s : S) : RetQA P rs p R .ret s = RetA P rs p R s := rfl
attribute [push_cast] RetQA_normal RetQA_ret allSome
theorem pcalls_of_all {P : Program} {g : FuncId} {fn : Func} {c : Code} {args : List PV} {os : List Ob} {R : PV → List Ob → Prop} (hf : P.funcs[g]? = some fn) (hb : fn.body = some c) (hn : args.length ≤ fn.ntmps)
    (h : PWP P fn.ntmps os.length c (RetQA P fn.results.toList os.length R) ⟨parT 0 args, os⟩) : PCalls P g args os R := by
  refine calls_pwp (T := RetA P fn.results.toList os.length R) hf hb hn (fun e s hq => ?_) (fun s' Γ Γ' a' w w' ht hI hg => ?_) h
  · cases e with
    | normal => exact ⟨.inl rfl, hq⟩
    | ret => exact ⟨.inr rfl, hq⟩
    | exit j => exact hq.elim
    | goto l => exact hq.elim
    | panic ch => exact hq.elim
    | outgrown => exact hq.elim
  · obtain ⟨r, h1, h2, h3⟩ := ht
    obtain ⟨y, h8, h9⟩ := resP_ok hI h1
    exact ⟨y, h8, r, s'.o, Γ', h3, h9, h2, hI.m, hg⟩
end Go.Proofs.YthconflkbeipoaaGreatDoor
