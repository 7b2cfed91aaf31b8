/-
  Proof of Rows.ModulePlansSaid: for every input that can be read the law's call returns true, and each argument reads behind the call as it read before.
-/
import Derived.Test.YtmjffgienmcabaaRows
import Derived.Test.YtmjffgienmcabaaR34
import Derived.Test.YtmjffgienmcabaaR35
import Derived.SizedLaws
namespace Go.Proofs.Ytmjffgienmcabaa.modulePlans
open Go.ChangeShapes Go.WideShapes Go.ChangeAt Go.RowKit
open Go.ChangeMaps (open_string shut_string)
set_option linter.unusedVariables false
set_option linter.unusedSimpArgs false

theorem own : ownKnob Try.prog.godebug = none := by kernel_rfl
theorem laidOut : laidOutB Try.prog = true := by kernel_rfl

set_option maxRecDepth 100000 in
theorem lifted (os : Os) (started : os.Started) (H : Type) (enc : TypeId × Value → H) :
    ReturnsInHanded {} Try.checked os 3 .any (Rows.modulePlansSpec.pre6 enc Try.prog Try.f3 Rows.modulePlansRow.domain false) (Rows.modulePlansSpec.post enc Try.prog Try.f3 false true false false) := by
  refine returnsInHanded_of_change_sized (C := Try.checked) own started (by kernel_rfl) Try.func3
    (ChangeSpec.witness6 (enc := enc) (C := Try.checked) false ⟨#[], #[.slice none 0 0, .slice none 0 0, .slice none 0 0], []⟩ 8 (by kernel_rfl) (by kernel_rfl) (by kernel_rfl) (by kernel_rfl)) ?_
  intro W base args ds gs before hval0 hW hcnd hwt _
  have hval : ∀ (j : Nat) t v, Try.f3.params[j]? = some t → args[j]? = some v → Value.okWide Try.prog W .any base t v := hval0
  have hW' := hW
  obtain ⟨p, q, hA0, hV, rfl, hfz, hnd⟩ := hW
  have hA : DataW.TrodAll enc Try.prog W 0 (fun _ => true) true Try.f3.params.toList args.toList ds p := hA0
  rw [Try.params3] at hA hval
  obtain ⟨v0, vs0, d0, ds0, p0, q0, hargs, rfl, rfl, h0, r0⟩ := trodAll_cons hA
  obtain ⟨v1, vs1, d1, ds1, p1, q1, rfl, rfl, rfl, h1, r1⟩ := trodAll_cons r0
  obtain ⟨v2, vs2, d2, ds2, p2, q2, rfl, rfl, rfl, h2, r2⟩ := trodAll_cons r1
  obtain ⟨rfl, rfl, rfl⟩ := trodAll_nil r2
  obtain rfl : args = #[v0, v1, v2] := by cases args; simp_all
  obtain ⟨rfl, rfl⟩ := trodVars_none hV
  have k0 := h0
  have lt0 : ∀ x ∈ p0, x.block < W.heap.size := by obtain ⟨m, hm⟩ := k0; exact DataW.trod_lt m _ _ _ hm
  have ok0 := hval 0 22 v0 rfl rfl
  have hw0 : ∀ k ∈ d0.weights Try.prog 22, k ≤ reachBytes := fun k hk => by simpa using List.all_eq_true.1 hwt _ (DataW.weights_mem_each (j := 0) (t := 22) (d := d0) (by rw [Try.params3]; rfl) rfl k hk)
  obtain ⟨zz0, n0, tt0, xx0⟩ := open_sl 30 [.int .i64] Try.underlying22 sh_ints ok0 h0
  obtain ⟨L0, rfl, hL0⟩ := ints_of tt0
  have hl0 : L0.length ≤ 9223372036854775807 := by simpa [maxLen] using n0
  have k1 := h1
  have lt1 : ∀ x ∈ p1, x.block < W.heap.size := by obtain ⟨m, hm⟩ := k1; exact DataW.trod_lt m _ _ _ hm
  have ok1 := hval 1 23 v1 rfl rfl
  have hw1 : ∀ k ∈ d1.weights Try.prog 23, k ≤ reachBytes := fun k hk => by simpa using List.all_eq_true.1 hwt _ (DataW.weights_mem_each (j := 1) (t := 23) (d := d1) (by rw [Try.params3]; rfl) rfl k hk)
  obtain ⟨zz1, n1, tt1, xx1, sz1⟩ := open_sl_sized 30 [.str] Try.underlying23 sh_strs ok1 h1 hw1
  obtain ⟨L1, rfl, hL1⟩ := strs_of tt1
  have hl1 : L1.length ≤ 140737488355328 := by rw [List.length_map, bytes_str] at sz1; have hrb := reachBytes_lt; omega
  have k2 := h2
  have lt2 : ∀ x ∈ p2, x.block < W.heap.size := by obtain ⟨m, hm⟩ := k2; exact DataW.trod_lt m _ _ _ hm
  have ok2 := hval 2 23 v2 rfl rfl
  have hw2 : ∀ k ∈ d2.weights Try.prog 23, k ≤ reachBytes := fun k hk => by simpa using List.all_eq_true.1 hwt _ (DataW.weights_mem_each (j := 2) (t := 23) (d := d2) (by rw [Try.params3]; rfl) rfl k hk)
  obtain ⟨zz2, n2, tt2, xx2, sz2⟩ := open_sl_sized 30 [.str] Try.underlying23 sh_strs ok2 h2 hw2
  obtain ⟨L2, rfl, hL2⟩ := strs_of tt2
  have hl2 : L2.length ≤ 140737488355328 := by rw [List.length_map, bytes_str] at sz2; have hrb := reachBytes_lt; omega
  clear hA0 hval0
  refine (calls_of_pure (vs := #[v0, v1, v2]) (plans20_pure L0 L1 L2 hL0 hl0 hl1 hl2) (pin_start W).1 (pin_start W).2 ⟨xx0, xx1, xx2, trivial⟩).mono fun e W' ⟨he, hE⟩ => ?_
  have bel := hE.below
  subst he
  exact ⟨_, rfl, _, _, _, [], _, [], hW', trodAll_mk1 (shut_bool Try.underlying4 _), (trodAll_cons_mk (Below.trod laidOut (by kernel_rfl) (of_decide_eq_true (by kernel_rfl)) k0 bel lt0) (trodAll_cons_mk (Below.trod laidOut (by kernel_rfl) (of_decide_eq_true (by kernel_rfl)) k1 bel lt1) (trodAll_cons_mk (Below.trod laidOut (by kernel_rfl) (of_decide_eq_true (by kernel_rfl)) k2 bel lt2) trodAll_mk0))), rfl, bel.frame _, fun h => by cases h⟩

theorem over : Rows.modulePlansRow.holds Try.pinned (OpenSpec.ofChange Rows.modulePlansSpec) :=
  OpenClaim.holds_of_wide 3 Try.f3 rfl rfl rfl rfl rfl rfl rfl ⟨rfl, rfl, rfl, rfl, rfl⟩ rfl rfl rfl rfl rfl (by kernel_rfl) Try.func3 (by kernel_rfl)
    (of_decide_eq_true (by kernel_rfl)) (by unfold Func.isWrapper; first | (rw [if_pos (by decide +kernel)]; kernel_rfl) | (rw [if_neg (by decide +kernel)]; exact ⟨rfl, rfl⟩))
    (fun os started H enc _ => lifted os started H enc)

theorem proved : Rows.ModulePlansSaid := over
#print axioms proved
end Go.Proofs.Ytmjffgienmcabaa.modulePlans
