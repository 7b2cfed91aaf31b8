/- What the program computes, and the plain laws of it, part 52. -/
import Derived.Test.YtcnoopjacilceaaGreatDoorQ51
namespace Go.Proofs.YtcnoopjacilceaaGreatDoor
attribute [local irreducible] PL QL PWPr PCalls Weak RetK Kontr PA
open Go.RowKit
open IntWalk renaming iteOmega → iO, toNatUp → tN
set_option linter.unusedVariables false
set_option linter.unusedSimpArgs false
set_option maxRecDepth 20000
set_option maxHeartbeats 8000000 in
theorem rightA_pure (L : List Int) (hL : ∀ x ∈ L, -9223372036854775808 ≤ x ∧ x ≤ 9223372036854775807) (hLl : L.length ≤ 9223372036854775807) :
    PCalls Tryz.prog 4 [.c (.sl 1 (L.map fun x => [D.v (.int .i64 x)]))] [] fun r os => r = .c (.v (.bool true)) ∧ os = [] := by
  have hs := site_pure L hL hLl
  refine pcalls_of Tryz.func4 rfl (by simp [Tryz.ntmps4]) ?_
  rw [Tryz.ntmps4, Tryz.results4]
  push_cast [iO, tN]
  have cB : CutB 10 [] := trivial
  repeat' (first | ((first | refine pC ?_ | refine pQC ?_ | refine pU ?_); push_cast [iO, tN]) | (refine pif (fun h => ?_) (fun h => ?_) <;> first | exact pN h | push_cast [iO, tN]))
  (refine plc [] (hs) ?_ ?_; push_cast [iO, tN]; rintro r os ⟨t, rs, nx, s, ht, hr, hso, rfl, rfl⟩; push_cast [iO, tN])
  have hlen := ht.len
  have hz : ∀ d ∈ t, d.original.size ≤ 1000 := fun d hd => by have := (ht.dev d hd).2.1; omega
  have ha : ∀ d ∈ t, d.attrs.length ≤ 1000000000 := fun d hd => by have := ht.att d hd; omega
  have hsl := hso.len
  have hrl := hr.len
  have hW := want_pure t rs nx s ht.okt.p (by omega) hz ha hr (by omega)
  have hwl := wantC_len t rs s
  have hR := want_right ht.okt ht.ord ht.nod rs s
  have hpz := want_path rs s (t := t) (by omega) hz
  have hget : ∀ k, k < (wantM t rs s).length → ∃ d ∈ t, wantQ t rs s d = true ∧ (wantM t rs s).getD k default = wantA t rs s d := fun k hk => by
    obtain ⟨d, h1, h2, h3, _⟩ := want_get hk
    exact ⟨d, h1, h2, h3⟩
  obtain ⟨wl, hwe⟩ : ∃ wl, wantM t rs s = wl := ⟨_, rfl⟩
  rw [hwe] at hW hwl hR hpz hget
  have hRi := rright_pure wl (by omega) hR hpz
  simp only [sesE] at hW
  repeat' (first |  ((refine plc [] (hW) ?_ ?_; push_cast [iO, tN]; rintro r os ⟨rfl, rfl⟩; push_cast [iO, tN]))  | ((first | refine pC ?_ | refine pQC ?_ | refine pU ?_); push_cast [iO, tN]) | (refine pif (fun h => ?_) (fun h => ?_) <;> first | exact pN h | push_cast [iO, tN]))
  (apply pwp_loop3 (α := Nat) 10 [] (fun k => [(7, .c (.v (.int .i64 k)))]) (fun k => []) (fun k => k ≤ wl.length) (fun k => wl.length - k) (0); (focus ((try push_cast [iO, tN]); rfl)); (focus exact (Nat.zero_le _)); (focus ((refine weak_fg ?_; try push_cast [iO, tN]); (try (skip)))))
  intro k hk
  push_cast [iO, tN]
  by_cases hlt : k < wl.length
  · obtain ⟨d, hd, hq, hwg⟩ := hget k hlt
    obtain ⟨hq1, hq2, hq3⟩ := wantQ_has hq
    have hAt := rat_pure t (placeM t d.index) (by omega) hz
    rw [at_place ht.okt hd] at hAt
    have hTg := rtag36_pure t rs d.index ⟨#[117, 97, 99, 99, 101, 115, 115]⟩ (by omega) hz (by omega) (fun r hr' => by have := hr.tags r hr'; omega)
    rw [hq2] at hTg
    have hOf := seatOf_pure t rs d.index ht.okt.p (by omega) hz ha hr
    have hUs := user_pure nx s (seatM t rs d.index) (by omega)
    unfold wantA at hwg
    obtain ⟨us, hus⟩ : ∃ us, userM s (seatM t rs d.index) = us := ⟨_, rfl⟩
    rw [hus] at hUs hq3 hwg
    obtain ⟨st, hst⟩ : ∃ st, seatM t rs d.index = st := ⟨_, rfl⟩
    rw [hst] at hOf hUs
    obtain ⟨pl, hpl⟩ : ∃ pl, placeM t d.index = pl := ⟨_, rfl⟩
    rw [hpl] at hAt hwg
    obtain ⟨nd, hnd⟩ : ∃ nd, nodeM d = nd := ⟨_, rfl⟩
    rw [hnd] at hwg
    simp only [Option.getD_some, Option.isSome_some] at hAt
    simp only [sesE] at hUs
    repeat' (first | (refine hidR 6 ?_) | ((first | refine pC ?_ | refine pQC ?_ | refine pU ?_); push_cast [iO, tN, hwg]) | (refine pif (fun h => ?_) (fun h => ?_) <;> first | exact pN h | push_cast [iO, tN, hwg]))
    refine unhid ?_
    (refine pwp_cut 10 [] ?_; refine pwp_drawn (by kernel_rfl) ?_; simp only [List.length_cons, List.length_nil, Nat.reduceAdd]; refine pah 1 ?_; push_cast [iO, tN,  hwg]; refine pah 2 ?_; push_cast [iO, tN,  hwg]; refine pah 3 ?_; push_cast [iO, tN,  hwg]; refine pah 4 ?_; push_cast [iO, tN,  hwg]; apply pa_hav; intro z10; apply pa_hav; intro z9; apply pa_hav; intro z7; apply pa_hav; intro z8; apply pa_hav; intro z4; apply pa_hav; intro z5; apply pa_hav; intro z6; apply pa_hav; intro z1; apply pa_hav; intro z2; apply pa_hav; intro z3; refine pas [0, 5, 10] ?_; push_cast [iO, tN,  hwg]; refine ⟨z1, z2, z3⟩; refine pas [0, 5] ?_; push_cast [iO, tN,  hwg]; refine ⟨z5, z6⟩; refine pas [0, 10] ?_; push_cast [iO, tN,  hwg]; refine ⟨z4, paw z6 ?_⟩ <;> (refine weak_fg ?_; push_cast [iO, tN,  hwg]); refine pas [5, 10] ?_; push_cast [iO, tN,  hwg]; refine ⟨paw z4 ?_, paw z5 ?_⟩ <;> (refine weak_fg ?_; push_cast [iO, tN,  hwg]); refine pas [0] ?_; push_cast [iO, tN,  hwg]; refine z8; refine pas [5] ?_; push_cast [iO, tN,  hwg]; refine paw z8 ?_ <;> (refine weak_fg ?_; push_cast [iO, tN,  hwg]); refine pas [6, 10] ?_; push_cast [iO, tN,  hwg]; refine ⟨?_, ?_⟩; (focus ((first | ((refine plc [] (hAt) ?_ ?_; push_cast [iO, tN,  hwg]; rintro r os ⟨rfl, rfl⟩; push_cast [iO, tN,  hwg]))); refine pah 7 ?_; push_cast [iO, tN,  hwg]; refine pah 8 ?_; push_cast [iO, tN,  hwg]; refine pah 9 ?_; push_cast [iO, tN,  hwg]; exact z7)); (focus (refine paw z8 ?_; refine weak_fg ?_; push_cast [iO, tN,  hwg])); refine pas [6] ?_; push_cast [iO, tN,  hwg]; (focus ((first | ((refine plc [] (hAt) ?_ ?_; push_cast [iO, tN,  hwg]; rintro r os ⟨rfl, rfl⟩; push_cast [iO, tN,  hwg]))); refine pah 7 ?_; push_cast [iO, tN,  hwg]; refine pah 8 ?_; push_cast [iO, tN,  hwg]; refine pah 9 ?_; push_cast [iO, tN,  hwg]; exact z9)); refine pas [10] ?_; push_cast [iO, tN,  hwg]; refine paw z9 ?_ <;> (refine weak_fg ?_; push_cast [iO, tN,  hwg]); refine pas [11] ?_; push_cast [iO, tN,  hwg]; (focus (refine pah 12 ?_; push_cast [iO, tN,  hwg]; exact paw z10 (weak_cutS 10 [] _))); push_cast [iO, tN,  hwg]; refine pad ?_; push_cast [iO, tN,  hwg])
    repeat' (first | ((refine ql_call2 false rfl rfl (by kernel_rfl) (hTg) (fun r os h => h.1) rfl ?_ ?_; push_cast [iO, tN, hwg, hq3]; refine ql_of_qops ?_; push_cast [iO, tN, hwg, hq3])) | ((refine ql_call2 false rfl rfl (by kernel_rfl) (hOf) (fun r os h => h.1) rfl ?_ ?_; push_cast [iO, tN, hwg, hq3]; refine ql_of_qops ?_; push_cast [iO, tN, hwg, hq3])) | ((refine ql_call2 false rfl rfl (by kernel_rfl) (hUs) (fun r os h => h.1) rfl ?_ ?_; push_cast [iO, tN, hwg, hq3]; refine ql_of_qops ?_; push_cast [iO, tN, hwg, hq3])) | ((first | refine pC ?_ | refine pQC ?_ | refine pU ?_); push_cast [iO, tN, hwg, hq3]) | (refine pif (fun h => ?_) (fun h => ?_) <;> first | exact pN h | push_cast [iO, tN, hwg, hq3]))
    exact ⟨k + 1, by omega, by (refine weak_fg ?_; push_cast [iO, tN]), by omega⟩
  · repeat' (first |  ((refine plc [] (hRi) ?_ ?_; push_cast [iO, tN]; rintro r os ⟨rfl, rfl⟩; push_cast [iO, tN])) | ((refine plc [] (known_pure) ?_ ?_; push_cast [iO, tN]; rintro r os ⟨rfl, rfl⟩; push_cast [iO, tN]))  | ((first | refine pC ?_ | refine pQC ?_ | refine pU ?_); push_cast [iO, tN]) | (refine pif (fun h => ?_) (fun h => ?_) <;> first | exact pN h | push_cast [iO, tN]))
    (refine retK_of [] ?_; push_cast [iO, tN])
end Go.Proofs.YtcnoopjacilceaaGreatDoor
