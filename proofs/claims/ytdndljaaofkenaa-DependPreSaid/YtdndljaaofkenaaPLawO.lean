/- Configurations as the law makes them. -/
import Derived.Test.YtdndljaaofkenaaPLawA
import Derived.Test.YtdndljaaofkenaaPureQ
import Derived.Test.YtdndljaaofkenaaPDepE
namespace Go.Proofs.Ytdndljaaofkenaa
open Go.RowKit
set_option linter.unusedVariables false
set_option linter.unusedSimpArgs false
/-- a module that the law makes -/
structure OkMod (m : Mod) : Prop where
  needs : m.needs.length ≤ 10
  pre : m.pre.length ≤ 10
  post : m.post.length ≤ 10
  needsz : ∀ x ∈ m.needs, x.size ≤ 10
  prez : ∀ x ∈ m.pre, x.size ≤ 10
  postz : ∀ x ∈ m.post, x.size ≤ 10
  name : m.name ≠ ⟨#[]⟩
  namez : m.name.size ≤ 10
structure OkCfg (c : Cfg) : Prop where
  mods : ∀ m ∈ c.modules, OkMod m
  len : c.modules.length ≤ 10
  nodup : (c.modules.map Mod.name).Nodup
  off : c.off.length ≤ 10
theorem pick_size {L : List Int} {k : Nat} {l : List ByteArray} (h0 : 0 < l.length) (h : ∀ x ∈ l, x.size ≤ 10) : (pick L k l).size ≤ 10 := by
  have := fold_bds (tapeAt L k) l.length (by omega)
  unfold pick
  rw [getD_lt _ (by omega)]
  exact h _ (List.getElem_mem _)
theorem OkCfg.soft {c : Cfg} (h : OkCfg c) (n : ByteArray) : (softOf c.modules n).length ≤ 20 ∧ ∀ x ∈ softOf c.modules n, x.size ≤ 10 := by
  unfold softOf
  cases hm : modOf c.modules n with
  | none => simp [noMod]
  | some m =>
    have hk := h.mods m (mod_mem hm).1
    refine ⟨by have := hk.pre; have := hk.post; simp only [Option.getD_some, List.length_append]; omega, fun x hx => ?_⟩
    rcases List.mem_append.1 hx with hx | hx
    · exact hk.prez x hx
    · exact hk.postz x hx
theorem OkCfg.ok {c : Cfg} (h : OkCfg c) : CfgOk2 c := by
  have hz : (10 : Nat) ≤ maxLen := by unfold maxLen; omega
  refine ⟨⟨⟨by have := h.len; omega, fun m hm => by have := (h.mods m hm).needs; omega, fun m hm => by have := (h.mods m hm).pre; omega, fun m hm => by have := (h.mods m hm).post; omega, h.nodup, fun m hm => (h.mods m hm).name⟩, ⟨fun x hx => ?_⟩, by have := h.off; omega⟩, fun n x hx => Nat.le_trans ((h.soft n).2 x hx) hz, fun n => by have := (h.soft n).1; omega⟩
  obtain ⟨m, hm, hx⟩ := List.mem_flatMap.1 hx
  exact Nat.le_trans ((h.mods m hm).needsz x hx) hz
theorem OkCfg.hnz {c : Cfg} (h : OkCfg c) : ∀ x ∈ c.modules.map Mod.name, x.size ≤ maxLen := by
  have hz : (10 : Nat) ≤ maxLen := by unfold maxLen; omega
  intro x hx
  obtain ⟨m, hm, rfl⟩ := List.mem_map.1 hx
  exact Nat.le_trans (h.mods m hm).namez hz
end Go.Proofs.Ytdndljaaofkenaa
