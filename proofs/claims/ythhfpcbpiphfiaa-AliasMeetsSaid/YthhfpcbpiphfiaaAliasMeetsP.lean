/-
  Proof of Rows.AliasMeetsSaid: for every input that can be read the law's call returns true, and each argument reads behind the call as it read before.
-/
import Derived.Test.YthhfpcbpiphfiaaRows
import Derived.Test.YthhfpcbpiphfiaaKmX
namespace Go.Proofs.Ythhfpcbpiphfiaa.aliasMeets
open Go.ChangeShapes Go.WideShapes Go.ChangeAt Go.RowKit
open Go.ChangeMaps (open_string shut_string)
set_option linter.unusedVariables false
set_option linter.unusedSimpArgs false

theorem own : ownKnob Try.prog.godebug = none := by kernel_rfl
theorem laidOut : laidOutB Try.prog = true := by kernel_rfl

set_option maxRecDepth 100000 in
theorem lifted (os : Os) (started : os.Started) (H : Type) (enc : TypeId × Value → H) :
    ReturnsInHanded {} Try.checked os 6 .any (Rows.aliasMeetsSpec.pre6 enc Try.prog Try.f6 Rows.aliasMeetsRow.domain false) (Rows.aliasMeetsSpec.post enc Try.prog Try.f6 false true false false) := by
  refine returnsInHanded_of_change (C := Try.checked) own started (by kernel_rfl) Try.func6
    (ChangeSpec.witness6 (enc := enc) (C := Try.checked) false ⟨#[], #[.slice none 0 0], []⟩ 8 (by kernel_rfl) (by kernel_rfl) (by kernel_rfl) (by kernel_rfl)) ?_
  intro W base args ds gs before hval0 hW hcnd _
  have hval : ∀ (j : Nat) t v, Try.f6.params[j]? = some t → args[j]? = some v → Value.okWide Try.prog W .any base t v := hval0
  have hW' := hW
  obtain ⟨p, q, hA0, hV, rfl, hfz, hnd⟩ := hW
  have hA : DataW.TrodAll enc Try.prog W 0 (fun _ => true) true Try.f6.params.toList args.toList ds p := hA0
  rw [Try.params6] at hA hval
  obtain ⟨v0, vs0, d0, ds0, p0, q0, hargs, rfl, rfl, h0, r0⟩ := trodAll_cons hA
  obtain ⟨rfl, rfl, rfl⟩ := trodAll_nil r0
  obtain rfl : args = #[v0] := by cases args; simp_all
  obtain ⟨rfl, rfl⟩ := trodVars_none hV
  have k0 := h0
  have lt0 : ∀ x ∈ p0, x.block < W.heap.size := by obtain ⟨m, hm⟩ := k0; exact DataW.trod_lt m _ _ _ hm
  have ok0 := hval 0 22 v0 rfl rfl
  obtain ⟨zz0, n0, tt0, xx0⟩ := open_sl 30 [.int .i64] Try.underlying22 sh_ints ok0 h0
  obtain ⟨L0, rfl, hL0⟩ := ints_of tt0
  have hl0 : L0.length ≤ 9223372036854775807 := by simpa [maxLen] using n0
  clear hA0 hval0
  refine (calls_of_pure (vs := #[v0]) (meets18_pure L0 hL0 hl0) (pin_start W).1 (pin_start W).2 ⟨xx0, trivial⟩).mono fun e W' ⟨he, hE⟩ => ?_
  have bel := hE.below
  subst he
  exact ⟨_, rfl, _, _, _, [], _, [], hW', trodAll_mk1 (shut_bool Try.underlying4 _), (trodAll_cons_mk (Below.trod laidOut (by kernel_rfl) (of_decide_eq_true (by kernel_rfl)) k0 bel lt0) trodAll_mk0), rfl, bel.frame _, fun h => by cases h⟩

theorem over : Rows.aliasMeetsRow.holds Try.pinned (OpenSpec.ofChange Rows.aliasMeetsSpec) :=
  OpenClaim.holds_of_wide 6 Try.f6 rfl rfl rfl rfl rfl rfl rfl ⟨rfl, rfl, rfl, rfl, rfl⟩ rfl rfl rfl rfl rfl (by kernel_rfl) Try.func6 (by kernel_rfl)
    (of_decide_eq_true (by kernel_rfl)) (by unfold Func.isWrapper; first | (rw [if_pos (by decide +kernel)]; kernel_rfl) | (rw [if_neg (by decide +kernel)]; exact ⟨rfl, rfl⟩))
    (fun os started H enc _ => lifted os started H enc)

theorem proved : Rows.AliasMeetsSaid := over
#print axioms proved
end Go.Proofs.Ythhfpcbpiphfiaa.aliasMeets
