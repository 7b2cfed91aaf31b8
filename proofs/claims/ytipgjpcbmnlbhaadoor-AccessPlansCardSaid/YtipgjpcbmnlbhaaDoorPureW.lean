/- PURE WALKS: a literal of a slice as an array of one's own. No program in sight. -/
import Derived.Test.YtipgjpcbmnlbhaaDoorPureV
import Derived.Test.YtipgjpcbmnlbhaaDoorPureS
namespace Go.Proofs.YtipgjpcbmnlbhaaDoor
open Go.RowKit
set_option linter.unusedVariables false
set_option linter.unusedSimpArgs false
section
variable {P : Program} {N p : Nat} {ops : Array Oper} {rest : List Oper} {o : Oper} {s : S} {K : S → Prop}
theorem litP_inv {t : TypeId} {len sz : Nat} {e : TypeId} {parts : List (Nat × Option PV)} {l : List (List D)} (hel : elOf P t = some (e, sz)) (h : litP P t len parts = some (.c (.full sz l))) : len = parts.length ∧ 0 < sz ∧ len * sz ≤ 16777216 ∧ (zerOf P e).map List.length = some sz ∧ partRows sz 0 parts = some l := by
  unfold litP at h
  rw [hel] at h
  simp only at h
  split at h
  · rename_i hc
    obtain ⟨l', hl, e'⟩ := Option.map_eq_some_iff.1 h
    injection e' with e'
    injection e' with _ e'
    subst e'
    exact ⟨hc.1, hc.2.1, hc.2.2.1, hc.2.2.2, hl⟩
  · cases h
/-- []T{..}, seen as an array of one's own -/
theorem pl_litown {t e : TypeId} {len sz : Nat} {parts : Array (Nat × Operand)} {l : List (List D)} (ho : o.op = .buildSlice t len parts) (hg : gd ops s o.guard = some true) (hel : elOf P t = some (e, sz)) (h0 : 0 < len)
    (h : litP P t len (parts.toList.map fun x => (x.1, s.ev x.2)) = some (.c (.full sz l))) (hd : dstOk N o.dst) (hK : PL P N p ops rest (S.put ⟨s.t, s.o ++ [.arr e sz l]⟩ o.dst (.c (.own s.o.length l.length))) K) : PL P N p ops (o :: rest) s K := by
  refine pl_heap (q := .c (.own s.o.length l.length)) (os := s.o ++ [.arr e sz l]) hg (fun Γ a w hA => ?_) (by simp) hd hK
  have hI := hA.inv
  have hn := hI.m.n
  obtain ⟨hlen, hsz, hsm, hz, hl⟩ := litP_inv hel h
  obtain ⟨hu, hsz'⟩ := el_run hel
  obtain ⟨zs, hzs, hzl⟩ := Option.map_eq_some_iff.1 hz
  obtain ⟨ie, z, hie, hzz, hzr⟩ := zer_ok hzs
  have hies : ie.size = sz := by obtain ⟨i', hi', e'⟩ := Option.map_eq_some_iff.1 hsz'; rw [hie] at hi'; cases hi'; exact e'
  have hlm : parts.toList.length = len := by rw [hlen, List.length_map]
  obtain ⟨ys, g1, g2, g3, g4, m, g5, g6⟩ := partRows_ok (sz := sz) _ _ 0 l ((Array.range (len * sz)).map (z.cells[· % z.cells.size]!)) (parts_ok hI parts.toList) hl (by simp [hlm])
  simp only [List.length_map, hlm] at g2
  simp only [Nat.zero_mul, List.take_zero, List.nil_append, Nat.zero_add, List.length_map, hlm] at g6
  rw [List.drop_eq_nil_of_le (by simp), List.append_nil] at g6
  have hrun : (execOp a.eval o).run P w = .ok (.value (.slice (some ⟨w.heap.size, 0, none⟩) len len)) (w.alloc (.cells ys e)) := by
    have hb := run_buildSlice (P := P) w t e len (parts.map fun (i, x) => (i, a.eval x)) ys ie z hu hie hzz (by rw [hies]; simp; omega) (by rw [hies]; have := Nat.mul_pos h0 hsz; omega) (by rw [hies, Array.toList_map]; exact g1)
    simp only [execOp, ho, Sem.run_bind, hb, Result.andThen_ok, Sem.run_pure]
  have hE : Ext No w (w.alloc (.cells ys e)) := (Ext.refl No w).alloc _
  have hS := Same.of_ext hE
  have hag := push_agree Γ w.heap.size len
  have hlc : len ≤ maxLen := Nat.le_trans (Nat.le_trans (Nat.le_mul_of_pos_right len hsz) hsm) (by decide)
  have hm : MemOk (Γ.push w.heap.size len) (s.o ++ [.arr e sz l]) (w.alloc (.cells ys e)) := by
    refine hI.m.push hS _ _ _ ⟨g3, hsz, fun h => ?_, fun _ => ⟨ys, ?_, ?_, ?_, ?_, ?_⟩⟩ (fun _ => Nat.le_refl _)
    · simp only [G.push, upd_same] at h; omega
    · simp only [G.push, upd_same]; exact Blk.new w e ys
    · simp only [G.push, upd_same]; rw [g4]; simp
    · simp only [G.push, upd_same]; omega
    · simp only [G.push, upd_same]; exact hlc
    · rw [g2, g6, List.take_of_length_le (by rw [← g6, Array.length_toList, g4]; simp)]
      exact g5.mono fun _ _ => RD.stay (hS.stay Γ.I) _ _
  refine ⟨_, _, Γ.push w.heap.size len, .inl hrun, ⟨by simp [G.push, hn], .inr ⟨?_, ?_, ?_⟩⟩, hI.heap hm (hS.stay Γ.I) hag, grow_push hI.m hE _ _ (fun _ => Nat.le_refl _) hA.le⟩
  · simp only [G.push, ← hn, upd_same]; exact h0
  · simp only [G.push, ← hn, upd_same, g2]
  · simp only [G.push, ← hn, upd_same]; omega
end
section
variable {P : Program} {N p : Nat} {ops : Array Oper} {s : S} {K : S → Prop} {fuel : Nat} {listed : Array Bool}
/-- the one operation that may be the next -/
theorem pa_stepL (i : Nat) {o : Oper} (hr : Region.ready .any ops listed = [i]) (ho : ops[i]? = some o) (h : PL P N p ops [o] s (fun s' => PA P N p ops fuel (listed.setIfInBounds i true) s' K)) : PA P N p ops (fuel + 1) listed s K := fun Γ a w Q hA hK => by
  refine ⟨fun h0 => ?_, fun j hj => ?_⟩
  · rw [hr] at h0; cases h0
  · rw [hr] at hj
    have hj : j = i := by simpa using hj
    subst hj
    unfold wpOp
    have h2 := h Γ a w (fun e a' w' => e = .normal ∧ wpAny P .any ops Q fuel (listed.setIfInBounds j true) a' w') hA (fun s' Γ' a' w' hk hA' hg => ⟨rfl, hk Γ' a' w' Q hA' fun s'' Γ'' a'' w'' hk' hA'' hg' => hK s'' Γ'' a'' w'' hk' hA'' (hg.trans hg')⟩)
    unfold wpList at h2
    rw [ho]
    simp only []
    split
    · rename_i hw
      rw [if_pos hw] at h2
      refine .inl ?_
      rcases h2 with h2 | ⟨_, a', w', h3, _⟩
      · exact oper_wp_to (fun a' w' h => h.2) (fun e a' w' hne h => hne h.1) h2
      · cases h3
    · rename_i hw
      rw [if_neg hw] at h2
      exact h2.2
end
end Go.Proofs.YtipgjpcbmnlbhaaDoor
