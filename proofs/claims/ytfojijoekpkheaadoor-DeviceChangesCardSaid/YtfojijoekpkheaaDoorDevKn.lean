/- The law's own check known. (pure walks) -/
import Derived.Test.YtfojijoekpkheaaDoorPDevC
import Derived.Test.YtfojijoekpkheaaDoorPDGet
namespace Go.Proofs.YtfojijoekpkheaaDoor
attribute [local irreducible] PL QL PWP PCalls Weak RetK Kont PA
open Go.RowKit
set_option linter.unusedVariables false
set_option linter.unusedSimpArgs false
attribute [push_cast] BEq.rfl
set_option maxRecDepth 10000 in
set_option maxHeartbeats 2000000 in
theorem known_pure : PCalls Tryd.prog 13 [] [] fun r os => r = .c (.v (.bool true)) ∧ os = [] := by
  have hu : ([⟨⟨#[97]⟩, ⟨#[49]⟩⟩, ⟨⟨#[99]⟩, ⟨#[51]⟩⟩] : List Atr).Pairwise Up := by decide +kernel
  have h1 := set_pure [⟨⟨#[97]⟩, ⟨#[49]⟩⟩, ⟨⟨#[99]⟩, ⟨#[51]⟩⟩] ⟨#[98]⟩ ⟨#[50]⟩ (by decide) hu
  have hi : insM ⟨#[98]⟩ ⟨#[50]⟩ [⟨⟨#[97]⟩, ⟨#[49]⟩⟩, ⟨⟨#[99]⟩, ⟨#[51]⟩⟩] = [⟨⟨#[97]⟩, ⟨#[49]⟩⟩, ⟨⟨#[98]⟩, ⟨#[50]⟩⟩, ⟨⟨#[99]⟩, ⟨#[51]⟩⟩] := by decide +kernel
  rw [hi] at h1
  have h2 := node_pure ⟨0, 0, ⟨#[]⟩, ⟨#[99, 99, 105, 115, 115, 33, 99, 48, 100, 48]⟩, ⟨#[]⟩, ⟨#[]⟩, ⟨#[]⟩, 2, 0, []⟩ (by decide)
  have hn : nodeM ⟨0, 0, ⟨#[]⟩, ⟨#[99, 99, 105, 115, 115, 33, 99, 48, 100, 48]⟩, ⟨#[]⟩, ⟨#[]⟩, ⟨#[]⟩, 2, 0, []⟩ = ⟨#[99, 99, 105, 115, 115, 47, 99, 48, 100, 48]⟩ := by decide +kernel
  have hh : hasN ⟨0, 0, ⟨#[]⟩, ⟨#[99, 99, 105, 115, 115, 33, 99, 48, 100, 48]⟩, ⟨#[]⟩, ⟨#[]⟩, ⟨#[]⟩, 2, 0, []⟩ = true := by decide +kernel
  rw [hn, hh] at h2
  have h3 := sorted_pure [⟨⟨#[97]⟩, ⟨#[49]⟩⟩, ⟨⟨#[98]⟩, ⟨#[50]⟩⟩, ⟨⟨#[99]⟩, ⟨#[51]⟩⟩] (by decide)
  have hs : sortedM [⟨⟨#[97]⟩, ⟨#[49]⟩⟩, ⟨⟨#[98]⟩, ⟨#[50]⟩⟩, ⟨⟨#[99]⟩, ⟨#[51]⟩⟩] = true := by decide +kernel
  rw [hs] at h3
  refine pcalls_of Tryd.func13 rfl (by simp [Tryd.ntmps13]) ?_
  rw [Tryd.ntmps13, Tryd.results13]
  push_cast [eq_self, iff_self, IntWalk.iteOmega, IntWalk.toNatUp]
  repeat' (first |  (refine pl_call2 false [] rfl rfl (by kernel_rfl) (h1) ?_ nofun ?_; push_cast [eq_self, iff_self, IntWalk.iteOmega, IntWalk.toNatUp]; rintro r os ⟨rfl, rfl⟩; refine pl_of_pops ?_; push_cast [eq_self, iff_self, IntWalk.iteOmega, IntWalk.toNatUp]) | (refine pl_call2 false [] rfl rfl (by kernel_rfl) (h2) ?_ nofun ?_; push_cast [eq_self, iff_self, IntWalk.iteOmega, IntWalk.toNatUp]; rintro r os ⟨rfl, rfl⟩; refine pl_of_pops ?_; push_cast [eq_self, iff_self, IntWalk.iteOmega, IntWalk.toNatUp]) | (refine pl_call2 false [] rfl rfl (by kernel_rfl) (h3) ?_ nofun ?_; push_cast [eq_self, iff_self, IntWalk.iteOmega, IntWalk.toNatUp]; rintro r os ⟨rfl, rfl⟩; refine pl_of_pops ?_; push_cast [eq_self, iff_self, IntWalk.iteOmega, IntWalk.toNatUp])  | (refine Kont.use (by assumption) ?_) | (refine pwp_seq fun K hK => ?_) | (refine pwp_block ?_) | (refine pwp_scope ?_) | ((first | refine pwp_region ?_ | refine pwp_quiet (by kernel_rfl) (by kernel_rfl) ?_ | refine pwp_exit ?_ | refine pwp_ret ?_ | refine pwp_skip ?_); push_cast [eq_self, iff_self, IntWalk.iteOmega, IntWalk.toNatUp]) | (refine pwp_cond ?_; push_cast [eq_self, iff_self, IntWalk.iteOmega, IntWalk.toNatUp]; try (refine ⟨fun h => ?_, fun h => ?_⟩ <;> (try simp only [decide_eq_true_eq, decide_eq_false_iff_not, Bool.not_eq_true', Bool.not_eq_false', Int.not_lt, Int.not_le, Nat.not_lt, Nat.not_le] at h) <;> (try (first | contradiction | (exfalso; omega) | exact nomatch (Eq.trans (Eq.symm h) (by assumption) : true = false) | exact nomatch (Eq.trans (Eq.symm h) (by assumption) : false = true))))))
  (refine retK_of [] ?_; push_cast [eq_self, iff_self, IntWalk.iteOmega, IntWalk.toNatUp])
end Go.Proofs.YtfojijoekpkheaaDoor
