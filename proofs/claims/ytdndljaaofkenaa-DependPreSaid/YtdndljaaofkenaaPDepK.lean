/- The example of the chapter, without the program. -/
import Derived.Test.YtdndljaaofkenaaPDepG
namespace Go.Proofs.Ytdndljaaofkenaa
open Go.RowKit
set_option linter.unusedVariables false
set_option linter.unusedSimpArgs false
instance decMem (x : ByteArray) (l : List ByteArray) : Decidable (x ∈ l) := decidable_of_iff (inM x l = true) inM_iff
def kNic : ByteArray := ⟨#[110, 105, 99]⟩
def kCore : ByteArray := ⟨#[99, 111, 114, 101]⟩
def kExtra : ByteArray := ⟨#[101, 120, 116, 114, 97]⟩
def kHid : ByteArray := ⟨#[104, 105, 100]⟩
def kRing : ByteArray := ⟨#[114, 105, 110, 103]⟩
def kM : List Mod := [⟨kNic, [], [kCore], [], [], false⟩, ⟨kCore, [], [], [], [kExtra], false⟩, ⟨kExtra, [], [], [kHid], [], false⟩, ⟨kHid, [], [], [], [], false⟩, ⟨kRing, [], [kRing], [], [], false⟩]
theorem reach_sub {M : List Mod} {n : ByteArray} (S : List ByteArray) (h0 : ∀ x ∈ needsOf M n, x ∈ S) (h1 : ∀ y ∈ S, ∀ x ∈ needsOf M y, x ∈ S) : ∀ {x : ByteArray}, Reach M n x → x ∈ S := by
  intro x h
  induction h with
  | one h => exact h0 _ h
  | more _ h ih => exact h1 _ ih _ h
theorem k_nic (x : ByteArray) : Reach kM kNic x ↔ x = kCore := by
  refine ⟨fun h => by simpa using reach_sub [kCore] (by decide +kernel) (by decide +kernel) h, ?_⟩
  rintro rfl
  exact .one (by decide +kernel)
theorem k_none {n : ByteArray} (hn : needsOf kM n = []) (x : ByteArray) : ¬ Reach kM n x := fun h => by simpa using reach_sub [] (by rw [hn]; simp) (by simp) h
theorem k_h {n : ByteArray} (hn : needsOf kM n = []) (x : ByteArray) : x ∈ hardL kM n ↔ x = n := by
  rw [(hard_spec kM n).2.1]
  exact ⟨fun h => h.resolve_right (k_none hn x), .inl⟩
theorem k_hn (x : ByteArray) : x ∈ hardL kM kNic ↔ x = kNic ∨ x = kCore := by rw [(hard_spec kM kNic).2.1, k_nic]
theorem k_why0 {n : ByteArray} (hn : needsOf kM n = []) (hm : ¬ modOf kM n = none) (hf : ((modOf kM n).getD noMod).fails = false) : whyV kM [] n = 0 := by
  unfold whyV
  rw [if_neg, if_neg, if_neg]
  · rintro ⟨x, hx, h⟩; rw [k_h hn] at hx; subst hx; rw [hf] at h; simp at h
  · rintro ⟨x, hx, h⟩; rw [k_h hn] at hx; subst hx; exact k_none hn _ h
  · rintro ⟨x, hx, h⟩; rw [k_h hn] at hx; subst hx; exact hm h
theorem k_whyNic : whyV kM [] kNic = 0 := by
  unfold whyV
  rw [if_neg, if_neg, if_neg]
  · rintro ⟨x, hx, h⟩; rw [k_hn] at hx; rcases hx with rfl | rfl <;> (refine absurd h ?_; decide +kernel)
  · rintro ⟨x, hx, h⟩
    rw [k_hn] at hx
    rcases hx with rfl | rfl
    · rw [k_nic] at h; revert h; decide +kernel
    · exact k_none (by decide +kernel) _ h
  · rintro ⟨x, hx, h⟩; rw [k_hn] at hx; rcases hx with rfl | rfl <;> revert h <;> decide +kernel
theorem k_ring (x : ByteArray) : Reach kM kRing x ↔ x = kRing := by
  refine ⟨fun h => by simpa using reach_sub [kRing] (by decide +kernel) (by decide +kernel) h, ?_⟩
  rintro rfl
  exact .one (by decide +kernel)
theorem k_whyRing : whyV kM [] kRing = 191 := by
  have hh : ∀ x, x ∈ hardL kM kRing ↔ x = kRing := fun x => by rw [(hard_spec kM kRing).2.1, k_ring]; simp
  unfold whyV
  rw [if_neg, if_pos]
  · exact ⟨kRing, (hh _).2 rfl, (k_ring _).2 rfl⟩
  · rintro ⟨x, hx, h⟩; rw [hh] at hx; subst hx; revert h; decide +kernel
def kAll : List ByteArray := [kCore, kExtra, kHid, kNic]
theorem k_clos : closL kM [] [kNic] = kAll := by
  refine listOf_eq (by simp only [asc, kAll]; decide +kernel) fun x => ⟨fun h => ?_, fun h => ?_⟩
  · have c0 : whyV kM [] kNic = 0 := k_whyNic
    have hc : Cl kM [] [kNic] kCore := .base (by simp) c0 ((k_hn _).2 (.inr rfl))
    have he : Cl kM [] [kNic] kExtra := .step hc (s := kExtra) (by decide +kernel) (k_why0 (by decide +kernel) (by decide +kernel) (by decide +kernel)) ((k_h (by decide +kernel) _).2 rfl)
    have hh : Cl kM [] [kNic] kHid := .step he (s := kHid) (by decide +kernel) (k_why0 (by decide +kernel) (by decide +kernel) (by decide +kernel)) ((k_h (by decide +kernel) _).2 rfl)
    simp only [kAll, List.mem_cons, List.not_mem_nil, or_false] at h
    rcases h with rfl | rfl | rfl | rfl
    · exact hc
    · exact he
    · exact hh
    · exact .base (by simp) c0 ((k_hn _).2 (.inl rfl))
  · induction h with
    | base h1 _ h3 =>
      simp only [List.mem_singleton] at h1
      subst h1
      rw [k_hn] at h3
      rcases h3 with rfl | rfl <;> decide +kernel
    | @step m s x _ h1 _ h3 ih =>
      have hs : ∀ m ∈ kAll, ∀ s ∈ softOf kM m, s = kExtra ∨ s = kHid := by decide +kernel
      rcases hs _ ih _ h1 with rfl | rfl
      · rw [k_h (by decide +kernel)] at h3; subst h3; decide +kernel
      · rw [k_h (by decide +kernel)] at h3; subst h3; decide +kernel
theorem rest_asc {l : List ByteArray} (h : asc l) : restM [] l = l := asc_ext (restM_spec [] l).1 h fun x => by rw [(restM_spec [] l).2.1]; simp
theorem k_ord : ordM kM [] kAll = [kCore, kHid, kExtra, kNic] := by decide +kernel
theorem k_asc : asc kAll := by simp only [asc, kAll]; decide +kernel
end Go.Proofs.Ytdndljaaofkenaa
