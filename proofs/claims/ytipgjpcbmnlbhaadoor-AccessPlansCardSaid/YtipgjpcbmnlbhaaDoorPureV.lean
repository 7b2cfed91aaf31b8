/- PURE WALKS, twenty-second part: append onto an array that was handed in: in place, or into a new one. No program in sight. -/
import Derived.Test.YtipgjpcbmnlbhaaDoorPureU
namespace Go.Proofs.YtipgjpcbmnlbhaaDoor
open Go.RowKit
set_option linter.unusedVariables false
set_option linter.unusedSimpArgs false
/-- append where there is no room: a new row -/
theorem run_append_out {P : Program} (w : World) (base : Nat) (t ty e : TypeId) (size bytes : Nat) (hT : SlT P t e size bytes)
    (ad : Addr) (n c0 : Nat) (xs : List Value) (hl : xs.length = n * size) (holds : ∀ j u, xs[j]? = some u → w.cell? (ad.add j) = some u) (R' : Nat → Prop) (A' : Option Addr) (m c : Nat) (news : List Value) (hr : Rd w R' size A' m news)
    (h0 : 0 < m) (hg : c0 < n + m) (h63 : n + m ≤ maxLen) (hbytes : (n + m) * bytes ≤ 140737488355328) (hbase : base ≤ w.heap.size) :
    ∃ v' w', (Builtin.append_ #[t, t] ty #[.slice (some ad) n c0, .slice A' m c]).run P w = .ok v' w' ∧ w'.ownsRow base e size v' (n + m) (xs ++ news) ∧ Ext No w w' := by
  obtain ⟨ht, ⟨i, z, hi, hz, hsize, hby, hzs⟩, hsz⟩ := hT
  subst hsize
  subst hby
  obtain ⟨b', o', rfl, hb', hlt', hc'⟩ := hr.2 h0
  have hsmall : n + m ≤ 9223372036854775807 := by simp only [maxLen] at h63; omega
  have hlen : (xs ++ news).length = (n + m) * i.size := by rw [List.length_append, hl, hr.1, Nat.add_mul]
  have hnews : ∀ j u, news[j]? = some u → w.cell? ((⟨b', o', none⟩ : Addr).add j) = some u := fun j u hu => by rw [Addr.add_lit]; exact hc' j u hu
  have grown : (w.drew.alloc (.cells (xs.toArray ++ news.toArray ++ Builtin.zeroCells z.cells (grownCap w (n + m) c0 e - (n + m))) e)).ownsRow base e i.size
        (.slice (some ⟨w.heap.size, 0, none⟩) (n + m) (grownCap w (n + m) c0 e)) (n + m) (xs ++ news) := by
    have hge := grownCap_ge w (n + m) c0 e
    have hcm : grownCap w (n + m) c0 e ≤ maxLen := grownCap_le_maxLen w (n + m) c0 e h63
    refine ⟨hlen, .inr ⟨w.heap.size, _, _, rfl, hbase, heap_alloc_new w.drew _, hge, hcm, ?_, ?_⟩⟩
    · simp only [Array.size_append, List.size_toArray, size_zeroCells, hzs, hl, hr.1, ← Nat.add_mul]
      congr 1
      omega
    · simp only [Array.toList_append, List.append_assoc]
      rw [← List.append_assoc, ← hlen]
      exact List.take_left
  have hrun := run_append_grow (P := P) w t ty e i z ht hi hz ad n c0 xs hl holds ⟨b', o', none⟩ m c news hr.1 hnews hg (by omega) (growslice_fits hg hbytes)
  exact ⟨_, _, hrun, grown, (Ext.refl No w).drew.alloc _⟩
theorem app_two {P : Program} {N p : Nat} {Γ : G} {s : S} {a : Act} {w : World} {o : Oper} {t e : TypeId} {sz by' : Nat} {x z : Operand} {k : Nat} {rows ys : List (List D)} (ho : o.op = .call { callee := .builtin .append, args := #[x, z], argTypes := #[t, t] })
    (hel : elOf P t = some (e, sz)) (hby : bytOf P e = some by') (hsz : 0 < sz) (hz : (zerOf P e).map List.length = some sz) (hx : s.ev x = some (.c (.own k rows.length))) (hk : s.o[k]? = some (.arr e sz rows))
    (hys : srcRows s.o sz (s.ev z) = some ys) (h0 : 0 < ys.length) (hb1 : ((rows.length : Int) + ys.length) * by' ≤ 140737488355328) (hb2 : (rows.length : Int) + ys.length ≤ 9223372036854775807) (hI : Inv N Γ s a w) (hp : p ≤ Γ.n) :
    AppOk P N p Γ s a w o (.c (.own k (rows.length + ys.length))) (s.o.set k (.arr e sz (rows ++ ys))) none ∨ AppOk P N p Γ s a w o (.c (.own s.o.length (rows.length + ys.length))) (s.o ++ [.arr e sz (rows ++ ys)]) none := by
  obtain ⟨hT, i, hu, hi⟩ := slT_of hel hby hsz hz
  obtain ⟨hyr, A, c, news, hzv, hrd, hnx⟩ := src_ok hI.m hys (fun q hq => S.ev_ok hq hI)
  have hone := rd_one hnx
  have hexec : ∀ (v v' : Value) (w' : World), a.eval x = v → (Builtin.append_ #[t, t] o.type #[v, .slice A ys.length c]).run P w = .ok v' w' → (execOp a.eval o).run P w = .ok (.value v') w' := by
    intro v v' w' hv hr
    simp only [execOp, ho, resolve, invoke, builtin, Sem.run_bind, Sem.run_pure, Result.andThen_ok, List.map_toArray, List.map_cons, List.map_nil, hv, hzv, hr]
  obtain ⟨hkn, hrep⟩ := S.ev_ok hx hI
  have hro := hI.m.ob k _ hk
  obtain ⟨g1, g2, g3, g4⟩ := hro
  have hrl : ∀ r ∈ rows ++ ys, r.length = sz := fun r hr => by
    rcases List.mem_append.1 hr with hr | hr
    · exact g1 r hr
    · exact hyr r hr
  have hbb : (rows.length + ys.length) * by' ≤ 140737488355328 := by have := hb1; rw [← Int.natCast_add, ← Int.natCast_mul] at this; omega
  have hmx : rows.length + ys.length ≤ maxLen := by simp only [maxLen]; omega
  rcases hrep with ⟨hc0, ⟨A0, hv⟩, hn0⟩ | ⟨hcp, hv, hnc⟩
  · -- no block yet
    have hr0 : rows = [] := List.eq_nil_of_length_eq_zero hn0
    subst hr0
    right
    obtain ⟨v', w', hr, h2, h3⟩ := run_append_full (P := P) w w.heap.size t o.type e sz by' hT (fun _ => True) _ A0 0 [] ⟨by simp, fun h => absurd h (by omega)⟩ A ys.length c news hrd h0 (by simpa using hmx) (by simpa using hbb) (Nat.le_refl _)
    simp only [List.length_nil, Nat.zero_add, List.nil_append] at *
    exact app_new hI hp (hexec _ _ _ hv hr) h3 h2 (by omega) hsz hyr rfl (hnx.mono fun _ _ => RD.stay ((Same.of_ext h3).stay Γ.I) _ _)
  · obtain ⟨cur, q1, q2, q3, q4, q5⟩ := g4 hcp
    by_cases hroom : rows.length + ys.length ≤ Γ.cap k
    · left
      have hown : w.ownsRow 0 e sz (.slice (some ⟨Γ.β k, 0, none⟩) rows.length (Γ.cap k)) rows.length (cur.toList.take (rows.length * sz)) :=
        own_blk q1 (Nat.zero_le _) q2 hnc q4
      obtain ⟨v', w', hr, h2, h3, h5⟩ := run_append_rd (P := P) w 0 t o.type e sz by' hT _ _ _ hown _ A ys.length c news hrd hone hmx hbb (Nat.zero_le _)
      obtain ⟨b', o', hA, hb', hlt', hc'⟩ := hrd.2 h0
      obtain ⟨i2, hi2, hisz, hiby⟩ : ∃ i2, P.info? e = some i2 ∧ i2.size = sz ∧ i2.bytes = by' := by
        obtain ⟨_, ⟨i2, z2, h1, _, h3, h4, _⟩, _⟩ := hT
        exact ⟨i2, h1, h3, h4⟩
      have hfit : rows.length * i2.size + news.length ≤ cur.size := by rw [hisz, hrd.1, q2, ← Nat.add_mul]; exact Nat.mul_le_mul_right _ hroom
      have hrun2 := run_append_room (P := P) w t o.type e i2 hu hi2 (Γ.β k) rows.length (Γ.cap k) cur q1 ⟨b', o', none⟩ ys.length c news (by rw [hisz]; exact hrd.1) (fun j u hu => by rw [Addr.add_lit]; exact hc' j u hu) hone hroom hfit
      rw [hA] at hr
      rw [hrun2] at hr
      injection hr with hr1 hr2
      subst hr1
      have hE : Ext (fun i => i = Γ.β k) w w' := h3.mono fun j hj => by simp [Value.ownBlock] at hj; exact hj.symm
      have hs : Stay w Γ.I w' Γ.I := ⟨hE.size, fun i hi hl => hE.block i hl fun h2 => hI.m.off k hkn hcp (h2 ▸ hi), fun i hi => hi⟩
      obtain ⟨_, h2⟩ := h2
      have hblk : ∃ cur', Blk w' (Γ.β k) e cur' ∧ cur'.size = Γ.cap k * sz ∧ cur'.toList.take ((rows.length + ys.length) * sz) = cur.toList.take (rows.length * sz) ++ news := by
        rcases h2 with ⟨h2, _⟩ | ⟨g, cap, cur', h2, _, hg, _, _, hcs, htk⟩
        · cases h2
        · injection h2 with e1 e2 e3
          injection e1 with e1
          injection e1 with e1
          subst e1; subst e3
          exact ⟨cur', hg, hcs, htk⟩
      obtain ⟨cur', hb1', hcs, htk⟩ := hblk
      refine ⟨.slice (some ⟨Γ.β k, 0, none⟩) (rows.length + ys.length) (Γ.cap k), w', Γ, ?_, ⟨hkn, .inr ⟨hcp, rfl, hroom⟩⟩, ⟨hI.size, hI.defers, fun i q hq => ?_, ⟨by rw [hI.m.n, List.length_set], fun j o' ho' => ?_, hI.m.sep, hI.m.off, fun b hb => Nat.lt_of_lt_of_le (hI.m.lt b hb) hE.size, hI.m.pins hs⟩⟩, ⟨hE.mono fun i h1 => ⟨k, hkn, hcp, h1.symm⟩, fun _ h => h, fun j hj hc => .inl ⟨j, hj, hc, rfl⟩, fun _ h => .inl h, fun _ _ => ⟨rfl, rfl⟩⟩⟩
      · have := hexec _ _ _ hv (by rw [hA, hrun2])
        rw [this, hr2]
      · obtain ⟨i1, i2⟩ := hI.t i q hq
        exact ⟨i1, i2.stay hs fun j hj => ⟨i2.lt j hj, rfl, rfl⟩⟩
      · by_cases hjk : k = j
        · subst hjk
          have hkl : k < s.o.length := by rw [← hI.m.n]; exact hkn
          rw [List.getElem?_set_self hkl] at ho'
          cases ho'
          refine ⟨hrl, hsz, fun h => absurd h (by omega), fun _ => ⟨cur', hb1', hcs, by rw [List.length_append]; exact hroom, q4, ?_⟩⟩
          rw [List.length_append, htk, List.flatten_append]
          exact (q5.mono fun _ _ => RD.stay hs _ _).append (hnx.mono fun _ _ => RD.stay hs _ _)
        · rw [List.getElem?_set_ne hjk] at ho'
          have hj : j < Γ.n := by rw [hI.m.n]; exact (List.getElem?_eq_some_iff.1 ho').1
          exact (hI.m.ob j o' ho').stay hs (fun i hi => ⟨hi, rfl, rfl⟩) hj fun hcj => hE.block _ (mine_lt hI.m hj hcj) fun h => hjk (hI.m.sep k j hkn hj hcp hcj h.symm)
    · right
      have holds : ∀ j u, (cur.toList.take (rows.length * sz))[j]? = some u → w.cell? ((⟨Γ.β k, 0, none⟩ : Addr).add j) = some u := by
        intro j u hu
        rw [Addr.add_lit, Nat.zero_add, q1.cell]
        rw [List.getElem?_take] at hu
        split at hu
        · simpa using hu
        · cases hu
      have hxl : (cur.toList.take (rows.length * sz)).length = rows.length * sz := by
        rw [List.length_take]
        have hcz : cur.toList.length = cur.size := Array.length_toList
        rw [hcz, q2]
        exact Nat.min_eq_left (Nat.mul_le_mul_right _ hnc)
      obtain ⟨v', w', hr, h2, h3⟩ := run_append_out (P := P) w w.heap.size t o.type e sz by' hT ⟨Γ.β k, 0, none⟩ rows.length (Γ.cap k) _ hxl holds _ A ys.length c news hrd h0 (by omega) hmx hbb (Nat.le_refl _)
      refine app_new hI hp (hexec _ _ _ hv hr) h3 h2 (by omega) hsz hrl (by simp) ?_
      rw [List.flatten_append]
      exact (q5.append hnx).mono fun _ _ => RD.stay ((Same.of_ext h3).stay Γ.I) _ _
section
variable {P : Program} {N p : Nat} {ops : Array Oper} {rest : List Oper} {o : Oper} {s : S} {K : S → Prop}
theorem pl_app2 {t e : TypeId} {sz by' : Nat} {x z : Operand} (k : Nat) {rows ys : List (List D)} (ho : o.op = .call { callee := .builtin .append, args := #[x, z], argTypes := #[t, t] }) (hg : gd ops s o.guard = some true) (hd : dstOk N o.dst)
    (hel : elOf P t = some (e, sz)) (hby : bytOf P e = some by') (hsz : 0 < sz) (hz : (zerOf P e).map List.length = some sz) (hk : s.o[k]? = some (.arr e sz rows)) (hx : s.ev x = some (.c (.own k rows.length)))
    (hys : srcRows s.o sz (s.ev z) = some ys) (h0 : 0 < ys.length) (hb1 : ((rows.length : Int) + ys.length) * by' ≤ 140737488355328) (hb2 : (rows.length : Int) + ys.length ≤ 9223372036854775807)
    (hA : PL P N p ops rest (S.put ⟨s.t, s.o.set k (.arr e sz (rows ++ ys))⟩ o.dst (.c (.own k (rows.length + ys.length)))) K)
    (hB : PL P N p ops rest (S.put ⟨s.t, s.o ++ [.arr e sz (rows ++ ys)]⟩ o.dst (.c (.own s.o.length (rows.length + ys.length)))) K) : PL P N p ops (o :: rest) s K := by
  intro Γ a w Q hS hK
  rcases app_two (p := p) ho hel hby hsz hz hx hk hys h0 hb1 hb2 hS.inv hS.le with h | h
  · obtain ⟨y, w', Γ', h1, h2, h3, h4⟩ := h
    unfold wpList
    rw [if_pos (gd_ok hg hS.inv)]
    refine .inl ?_
    have hle : p ≤ Γ'.n := by have h5 := hS.le; rw [hS.inv.m.n] at h5; rw [h3.m.n, List.length_set]; exact h5
    unfold Oper.wp
    rw [h1]
    exact hA Γ' _ w' Q ⟨Inv.put h3 (dst_lt hd) h2, hle⟩ fun s' Γ'' a' w'' hk ha hg' => hK s' Γ'' a' w'' hk ha (h4.trans hg')
  · obtain ⟨y, w', Γ', h1, h2, h3, h4⟩ := h
    unfold wpList
    rw [if_pos (gd_ok hg hS.inv)]
    refine .inl ?_
    have hle : p ≤ Γ'.n := by have h5 := hS.le; rw [hS.inv.m.n] at h5; rw [h3.m.n, List.length_append]; omega
    unfold Oper.wp
    rw [h1]
    exact hB Γ' _ w' Q ⟨Inv.put h3 (dst_lt hd) h2, hle⟩ fun s' Γ'' a' w'' hk ha hg' => hK s' Γ'' a' w'' hk ha (h4.trans hg')
end
end Go.Proofs.YtipgjpcbmnlbhaaDoor
