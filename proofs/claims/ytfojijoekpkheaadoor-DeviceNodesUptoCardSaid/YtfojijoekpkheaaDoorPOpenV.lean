/- Arguments that are devices: with the sizes of their texts, by the form's own reach or by the second form's bound. (pure walks) -/
import Derived.Test.YtfojijoekpkheaaDoorPOpenM
import Derived.Test.YtfojijoekpkheaaDoorPDevT
import Derived.Test.YtfojijoekpkheaaDoorDevK
import Derived.SizedLaws
namespace Go.Proofs.YtfojijoekpkheaaDoor
open Go.ChangeShapes Go.WideShapes Go.ChangeAt Go.RowKit
set_option linter.unusedVariables false
set_option linter.unusedSimpArgs false
/-- a part's bulk is at most the whole's -/
theorem bulk_mem {H : Type} {d : DataW H} {l : List (DataW H)} (h : d ∈ l) : Rows.uptoBulk d ≤ Rows.uptoBulkAll l := by
  induction l with
  | nil => cases h
  | cons x r ih =>
    simp only [Rows.uptoBulkAll]
    rcases List.mem_cons.1 h with e | e
    · subst e; omega
    · have := ih e; omega
theorem bulk_part {H : Type} {d : DataW H} {l : List (DataW H)} (h : d ∈ l) : Rows.uptoBulk d ≤ Rows.uptoBulk (.agg l) := by
  have := bulk_mem h
  simp only [Rows.uptoBulk]
  omega
theorem bulk_bound {H : Type} {l : List (DataW H)} (hk : Rows.uptoSmall H l = true) : Rows.uptoBulkAll l ≤ 1048576 := by
  simpa [Rows.uptoSmall] using hk
section
variable {H : Type} {enc : TypeId × Value → H} {P : Program} {W : World} {b : Nat}
mutual
theorem sz_ok : ∀ (n : Nat) (t : TypeId) (ss : List Sh) (cs : List Value) (fuel : Nat) (y : DataW H × List MemPlace), shOf P n t = some ss → DataW.trod enc P W 0 (fun _ => true) true fuel t cs = some y → (∀ k ∈ y.1.weights P t, k ≤ b) →
    ∀ s, Value.string s ∈ cs → s.size ≤ b
  | 0, t, ss, cs, fuel, y, h, _, _ => by simp [shOf] at h
  | n + 1, t, ss, cs, fuel, y, h, ht, hw => by
    rw [shOf] at h
    split at h
    · rename_i k hu
      obtain ⟨m, rfl, _, _⟩ := DataW.trod_int hu ht
      intro s hs
      simp at hs
    · rename_i hu
      obtain ⟨s0, rfl, rfl, _⟩ := DataW.trod_string hu ht
      intro s hs
      simp only [List.mem_singleton, Value.string.injEq] at hs
      subst hs
      exact hw s.data.toList.length (by simp [DataW.weights])
    · rename_i hu
      obtain ⟨b, rfl, _⟩ := DataW.trod_bool hu ht
      intro s hs
      simp at hs
    · rename_i e hu
      have hcs : ∃ A len c, cs = [.slice A len c] := by
        rcases Go.Deep.open_slice hu ht with ⟨h1, _⟩ | ⟨a, len, cap, m, fu, D, Pl, h1, _⟩
        · exact ⟨_, _, _, h1⟩
        · exact ⟨_, _, _, h1⟩
      obtain ⟨A, len, c, rfl⟩ := hcs
      intro s hs
      simp at hs
    · rename_i fs hu
      split at h
      · rename_i ss' hfs
        split at h
        · rename_i hc
          obtain ⟨xs, m, _, rfl, hl, hlen, hf⟩ := DataW.trod_struct hu ht
          have h1 := szFs_ok n fs.toList 0 ss' cs hfs (by omega) (fun i f hi => by
            have h1 := hf i f (by simpa using hi)
            have hi2 : i < xs.length := by
              have := (List.getElem?_eq_some_iff.1 hi).1
              simp at this
              omega
            rw [List.getElem?_eq_getElem hi2] at h1
            refine ⟨_, _, h1, fun k hk => hw k ?_⟩
            simp only [DataW.weights, hu]
            exact DataW.weights_mem_each (j := i) (t := f.type) (d := xs[i].1) (by rw [List.getElem?_map, hi]; rfl) (by rw [List.getElem?_map, List.getElem?_eq_getElem hi2]; rfl) k hk)
          rw [List.drop_zero, List.take_of_length_le (by omega)] at h1
          exact h1
        · cases h
      · cases h
    · cases h
theorem szFs_ok : ∀ (n : Nat) (fs : List Field) (o : Nat) (ss : List Sh) (cs : List Value), shFs P n fs o = some ss → o + ss.length ≤ cs.length →
    (∀ (i : Nat) (f : Field), fs[i]? = some f → ∃ m y, DataW.trod enc P W 0 (fun _ => true) true m f.type ((cs.drop f.offset).take (P.cellsOf f.type)) = some y ∧ ∀ k ∈ y.1.weights P f.type, k ≤ b) →
    ∀ s, Value.string s ∈ (cs.drop o).take ss.length → s.size ≤ b
  | 0, fs, o, ss, cs, h, _, _ => by simp [shFs] at h
  | n + 1, [], o, ss, cs, h, _, _ => by
    rw [shFs] at h
    cases h
    simp
  | n + 1, f :: fs, o, ss, cs, h, hle, hf => by
    rw [shFs] at h
    split at h
    · rename_i s1 s2 h1 h2
      split at h
      · rename_i hc
        cases h
        rw [List.length_append] at hle
        obtain ⟨m, y, hy, hyw⟩ := hf 0 f rfl
        rw [hc.1, hc.2] at hy
        have a1 := sz_ok n f.type s1 _ m y h1 hy hyw
        have a2 := szFs_ok n fs (o + P.cellsOf f.type) s2 cs h2 (by omega) (fun i g hi => hf (i + 1) g (by simpa using hi))
        intro s hs
        rw [List.length_append, List.take_add, List.drop_drop, List.mem_append] at hs
        rcases hs with hs | hs
        · exact a1 s hs
        · rw [← hc.2] at hs
          exact a2 s hs
      · cases h
    · cases h
end
mutual
theorem bz_ok : ∀ (n : Nat) (t : TypeId) (ss : List Sh) (cs : List Value) (fuel : Nat) (y : DataW H × List MemPlace), shOf P n t = some ss → DataW.trod enc P W 0 (fun _ => true) true fuel t cs = some y → Rows.uptoBulk y.1 ≤ b →
    ∀ s, Value.string s ∈ cs → s.size ≤ b
  | 0, t, ss, cs, fuel, y, h, _, _ => by simp [shOf] at h
  | n + 1, t, ss, cs, fuel, y, h, ht, hw => by
    rw [shOf] at h
    split at h
    · rename_i k hu
      obtain ⟨m, rfl, _, _⟩ := DataW.trod_int hu ht
      intro s hs
      simp at hs
    · rename_i hu
      obtain ⟨s0, rfl, rfl, _⟩ := DataW.trod_string hu ht
      intro s hs
      simp only [List.mem_singleton, Value.string.injEq] at hs
      subst hs
      have h1 : Rows.uptoBulk (DataW.lit (H := H) (.string s.data.toList)) = s.data.toList.length + 1 := by simp [Rows.uptoBulk]
      have h2 : s.size = s.data.toList.length := rfl
      have hw' : Rows.uptoBulk (DataW.lit (H := H) (.string s.data.toList)) ≤ b := hw
      rw [h1] at hw'
      omega
    · rename_i hu
      obtain ⟨b, rfl, _⟩ := DataW.trod_bool hu ht
      intro s hs
      simp at hs
    · rename_i e hu
      have hcs : ∃ A len c, cs = [.slice A len c] := by
        rcases Go.Deep.open_slice hu ht with ⟨h1, _⟩ | ⟨a, len, cap, m, fu, D, Pl, h1, _⟩
        · exact ⟨_, _, _, h1⟩
        · exact ⟨_, _, _, h1⟩
      obtain ⟨A, len, c, rfl⟩ := hcs
      intro s hs
      simp at hs
    · rename_i fs hu
      split at h
      · rename_i ss' hfs
        split at h
        · rename_i hc
          obtain ⟨xs, m, _, rfl, hl, hlen, hf⟩ := DataW.trod_struct hu ht
          have h1 := bzFs_ok n fs.toList 0 ss' cs hfs (by omega) (fun i f hi => by
            have h1 := hf i f (by simpa using hi)
            have hi2 : i < xs.length := by
              have := (List.getElem?_eq_some_iff.1 hi).1
              simp at this
              omega
            rw [List.getElem?_eq_getElem hi2] at h1
            refine ⟨_, _, h1, Nat.le_trans (bulk_part ?_) hw⟩
            exact List.mem_map.2 ⟨xs[i], List.getElem_mem _, rfl⟩)
          rw [List.drop_zero, List.take_of_length_le (by omega)] at h1
          exact h1
        · cases h
      · cases h
    · cases h
theorem bzFs_ok : ∀ (n : Nat) (fs : List Field) (o : Nat) (ss : List Sh) (cs : List Value), shFs P n fs o = some ss → o + ss.length ≤ cs.length →
    (∀ (i : Nat) (f : Field), fs[i]? = some f → ∃ m y, DataW.trod enc P W 0 (fun _ => true) true m f.type ((cs.drop f.offset).take (P.cellsOf f.type)) = some y ∧ Rows.uptoBulk y.1 ≤ b) →
    ∀ s, Value.string s ∈ (cs.drop o).take ss.length → s.size ≤ b
  | 0, fs, o, ss, cs, h, _, _ => by simp [shFs] at h
  | n + 1, [], o, ss, cs, h, _, _ => by
    rw [shFs] at h
    cases h
    simp
  | n + 1, f :: fs, o, ss, cs, h, hle, hf => by
    rw [shFs] at h
    split at h
    · rename_i s1 s2 h1 h2
      split at h
      · rename_i hc
        cases h
        rw [List.length_append] at hle
        obtain ⟨m, y, hy, hyw⟩ := hf 0 f rfl
        rw [hc.1, hc.2] at hy
        have a1 := bz_ok n f.type s1 _ m y h1 hy hyw
        have a2 := bzFs_ok n fs (o + P.cellsOf f.type) s2 cs h2 (by omega) (fun i g hi => hf (i + 1) g (by simpa using hi))
        intro s hs
        rw [List.length_append, List.take_add, List.drop_drop, List.mem_append] at hs
        rcases hs with hs | hs
        · exact a1 s hs
        · rw [← hc.2] at hs
          exact a2 s hs
      · cases h
    · cases h
end
theorem rd_str_mem {I : Nat → Prop} {s : ByteArray} : ∀ {ds : List D} {cs : List Value}, All2 (RD W I) ds cs → D.v (.string s) ∈ ds → Value.string s ∈ cs
  | [], cs, h, hs => by simp at hs
  | d :: ds, cs, h, hs => by
    obtain ⟨v, vs, rfl, h1, h2⟩ := All2.cons_l.1 h
    rcases List.mem_cons.1 hs with rfl | hs
    · rw [RD] at h1
      have : v = .string s := by first | exact h1.1 | exact h1.1.symm | exact h1
      rw [this]; exact List.mem_cons_self
    · exact List.mem_cons_of_mem _ (rd_str_mem h2 hs)
theorem open_st_sized {base : Nat} {t : TypeId} {fs : Array Field} {v : Value} {d : DataW H} {ps : List MemPlace} (n : Nat) (ss : List Sh) (ht : P.underlying t = some (.struct fs)) (hs : shOf P n t = some ss) (hv : Value.okWide P W .any base t v) (h : DataW.Trod enc P W 0 (fun _ => true) true t v d ps) (hw : ∀ k ∈ d.weights P t, k ≤ b) :
    ∃ ds, TR ss ds ∧ RP W (G0 W) (.agg (ds.map D.e)) v ∧ ∀ s, D.v (.string s) ∈ ds → s.size ≤ b := by
  obtain ⟨cs, rfl, _⟩ := okWide_struct ht hv
  obtain ⟨fuel, hf⟩ := h
  have hf' : DataW.trod enc P W 0 (fun _ => true) true fuel t cs.toList = some (d, ps) := by simpa [Value.cells] using hf
  obtain ⟨ds, h1, h2⟩ := sh_ok n t ss cs.toList fuel _ hs hf'
  exact ⟨ds, h1, ⟨cs.toList, by simp, re_of_d (Γ := G0 W) h2⟩, fun s hm => sz_ok n t ss cs.toList fuel _ hs hf' hw s (rd_str_mem h2 hm)⟩
theorem open_st_bulk {base : Nat} {t : TypeId} {fs : Array Field} {v : Value} {d : DataW H} {ps : List MemPlace} (n : Nat) (ss : List Sh) (ht : P.underlying t = some (.struct fs)) (hs : shOf P n t = some ss) (hv : Value.okWide P W .any base t v) (h : DataW.Trod enc P W 0 (fun _ => true) true t v d ps) (hw : Rows.uptoBulk d ≤ b) :
    ∃ ds, TR ss ds ∧ RP W (G0 W) (.agg (ds.map D.e)) v ∧ ∀ s, D.v (.string s) ∈ ds → s.size ≤ b := by
  obtain ⟨cs, rfl, _⟩ := okWide_struct ht hv
  obtain ⟨fuel, hf⟩ := h
  have hf' : DataW.trod enc P W 0 (fun _ => true) true fuel t cs.toList = some (d, ps) := by simpa [Value.cells] using hf
  obtain ⟨ds, h1, h2⟩ := sh_ok n t ss cs.toList fuel _ hs hf'
  exact ⟨ds, h1, ⟨cs.toList, by simp, re_of_d (Γ := G0 W) h2⟩, fun s hm => bz_ok n t ss cs.toList fuel _ hs hf' hw s (rd_str_mem h2 hm)⟩
end
def shAt : List Sh := [.str, .str]
def shDev : List Sh := [.int .i64, .int .i64, .str, .str, .str, .str, .str, .int .i64, .int .i64, .sl shAt]
theorem rows_at : ∀ (rows : List (List D)), (∀ r ∈ rows, TR shAt r) → ∃ l : List Atr, rows = l.map Atr.d ∧ okA l
  | [], _ => ⟨[], rfl, fun a ha => by simp at ha⟩
  | r :: rows, h => by
    obtain ⟨l, rfl, hl⟩ := rows_at rows fun r' hr => h r' (by simp [hr])
    have h1 := h r (by simp)
    simp only [shAt, TR, TD] at h1
    obtain ⟨_, _, rfl, ⟨a, rfl, ha⟩, _, _, rfl, ⟨b, rfl, hb⟩, rfl⟩ := h1
    refine ⟨⟨a, b⟩ :: l, rfl, fun x hx => ?_⟩
    rcases List.mem_cons.1 hx with rfl | hx
    · exact ⟨by simpa [maxLen] using ha, by simpa [maxLen] using hb⟩
    · exact hl x hx
theorem dev_dec (b : Nat) (ds : List D) (h : TR shDev ds) (hb : ∀ s, D.v (.string s) ∈ ds → s.size ≤ b) (h2 : b ≤ 140737488351232) : ∃ d : Dev, ds.map D.e = d.e ∧ d.big ∧ d.original.size ≤ b := by
  simp only [shDev, TR, TD] at h
  obtain ⟨_, _, rfl, ⟨a1, rfl, _⟩, _, _, rfl, ⟨a2, rfl, _⟩, _, _, rfl, ⟨a3, rfl, _⟩, _, _, rfl, ⟨a4, rfl, _⟩, _, _, rfl, ⟨a5, rfl, _⟩, _, _, rfl, ⟨a6, rfl, _⟩, _, _, rfl, ⟨a7, rfl, _⟩, _, _, rfl, ⟨a8, rfl, _⟩, _, _, rfl, ⟨a9, rfl, _⟩, _, _, rfl, ⟨rows, rfl, hl, hr⟩, rfl⟩ := h
  obtain ⟨l, rfl, hok⟩ := rows_at rows hr
  refine ⟨⟨a1, a2, a3, a4, a5, a6, a7, a8, a9, l⟩, rfl, ⟨Nat.le_trans (hb a3 (by simp)) h2, Nat.le_trans (hb a4 (by simp)) h2, Nat.le_trans (hb a5 (by simp)) h2, Nat.le_trans (hb a6 (by simp)) h2, Nat.le_trans (hb a7 (by simp)) h2, hok, ?_⟩, hb a4 (by simp)⟩
  simpa [maxLen] using hl
theorem reach_le : reachBytes ≤ 140737488351232 := by decide
theorem sh_dev : shOf Tryd.prog 30 38 = some shDev := by kernel_rfl
end Go.Proofs.YtfojijoekpkheaaDoor
