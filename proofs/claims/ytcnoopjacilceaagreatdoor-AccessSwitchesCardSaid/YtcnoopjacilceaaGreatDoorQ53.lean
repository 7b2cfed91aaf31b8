/- What the program computes, and the plain laws of it, part 53. -/
import Derived.Test.YtcnoopjacilceaaGreatDoorQ51
namespace Go.Proofs.YtcnoopjacilceaaGreatDoor
attribute [local irreducible] PL QL PWPr PCalls Weak RetK Kontr PA
open Go.RowKit
open IntWalk renaming iteOmega → iO, toNatUp → tN
set_option linter.unusedVariables false
set_option linter.unusedSimpArgs false
set_option maxRecDepth 20000
theorem turnM_len (s : List Ses) (p : ByteArray) (n : Int) : (turnM s p n).length = s.length := by unfold turnM; rw [List.length_map]
set_option maxHeartbeats 8000000 in
theorem switchA_pure (L : List Int) (b : Bool) (hL : ∀ x ∈ L, -9223372036854775808 ≤ x ∧ x ≤ 9223372036854775807) (hLl : L.length ≤ 9223372036854775807) :
    PCalls Tryz.prog 6 [.c (.sl 1 (L.map fun x => [D.v (.int .i64 x)])), .c (.v (.bool b))] [] fun r os => r = .c (.v (.bool true)) ∧ os = [] := by
  have hs := site_pure L hL hLl
  refine pcalls_of Tryz.func6 rfl (by simp [Tryz.ntmps6]) ?_
  rw [Tryz.ntmps6, Tryz.results6]
  push_cast [iO, tN]
  have cB : CutB 18 [] := trivial
  repeat' (first | ((first | refine pC ?_ | refine pQC ?_ | refine pU ?_); push_cast [iO, tN]) | (refine pif (fun h => ?_) (fun h => ?_) <;> first | exact pN h | push_cast [iO, tN]))
  (refine plc [] (hs) ?_ ?_; push_cast [iO, tN]; rintro r os ⟨t, rs, nx, s, ht, hr, hso, rfl, rfl⟩; push_cast [iO, tN])
  have hlen := ht.len
  have hz : ∀ d ∈ t, d.original.size ≤ 1000 := fun d hd => by have := (ht.dev d hd).2.1; omega
  have ha : ∀ d ∈ t, d.attrs.length ≤ 1000000000 := fun d hd => by have := ht.att d hd; omega
  have hsl := hso.len
  have hrl := hr.len
  have hW := want_pure t rs nx s ht.okt.p (by omega) hz ha hr (by omega)
  have hwl := wantC_len t rs s
  simp only [sesE] at hW
  repeat' (first | ((first | refine pC ?_ | refine pQC ?_ | refine pU ?_); push_cast [iO, tN]) | (refine pif (fun h => ?_) (fun h => ?_) <;> first | exact pN h | push_cast [iO, tN]))
  · obtain ⟨p, hp⟩ : ∃ p : ByteArray, ⟨#[115, 101, 97, 116, 48]⟩ = p := ⟨_, rfl⟩
    rw [hp]
    clear hp
    have hSw := switch_pure nx s p (by omega)
    simp only [sesE] at hSw
    refine plc [] (hSw) ?_ ?_
    · push_cast [iO, tN]
    rintro r os (⟨rfl, rfl⟩ | ⟨n, hn, rfl, rfl⟩)
    · push_cast [iO, tN]
      repeat' (first |  ((refine plc [] (known_pure) ?_ ?_; push_cast [iO, tN]; rintro r os ⟨rfl, rfl⟩; push_cast [iO, tN]))  | ((first | refine pC ?_ | refine pQC ?_ | refine pU ?_); push_cast [iO, tN]) | (refine pif (fun h => ?_) (fun h => ?_) <;> first | exact pN h | push_cast [iO, tN]))
      (refine retK_of [] ?_; push_cast [iO, tN])
    push_cast [iO, tN]
    have hup := user_some (p := p) hso.usr (by obtain ⟨x, hx, h1, _⟩ := hn; obtain ⟨y, hy, h2, h3⟩ := hso.act x hx; exact ⟨y, hy, h2.trans h1, h3⟩)
    have hWn := want_pure t rs nx (turnM s p n) ht.okt.p (by omega) hz ha hr (by rw [turnM_len]; omega)
    have hln := turn_len (l := t) (rs := rs) hso.usr hn hup
    have hget : ∀ k, k < (wantM t rs s).length → ∃ d ∈ t, (wantM t rs s).getD k default = wantA t rs s d ∧ (wantM t rs (turnM s p n)).getD k default = wantA t rs (turnM s p n) d := fun k hk => turn_get hso.usr hn hup hk
    have hUn := user_pure nx (turnM s p n) p (by rw [turnM_len]; omega)
    have hoth : ∀ q, q ≠ p → userM (turnM s p n) q = userM s q := fun q hq => turn_other n hq
    obtain ⟨wl, hwe⟩ : ∃ wl, wantM t rs s = wl := ⟨_, rfl⟩
    rw [hwe] at hW hwl hln hget
    obtain ⟨wn, hwne⟩ : ∃ wn, wantM t rs (turnM s p n) = wn := ⟨_, rfl⟩
    rw [hwne] at hWn hln hget
    obtain ⟨sn, hsn⟩ : ∃ sn, turnM s p n = sn := ⟨_, rfl⟩
    rw [hsn] at hWn hget hUn hoth ⊢
    obtain ⟨up, hupe⟩ : ∃ up, userM sn p = up := ⟨_, rfl⟩
    rw [hupe] at hUn
    simp only [sesE] at hWn hUn
    repeat' (first |  (refine hidR 8 ?_)  | ((first | refine pC ?_ | refine pQC ?_ | refine pU ?_); push_cast [iO, tN]) | (refine pif (fun h => ?_) (fun h => ?_) <;> first | exact pN h | push_cast [iO, tN]))
    refine unhid ?_
    (refine pwp_cut 18 [] ?_; refine pwp_drawn (by kernel_rfl) ?_; simp only [List.length_cons, List.length_nil, Nat.reduceAdd]; refine pah 1 ?_; push_cast [iO, tN]; refine pah 5 ?_; push_cast [iO, tN]; apply pa_hav; intro z20; apply pa_hav; intro z19; apply pa_hav; intro z16; apply pa_hav; intro z17; apply pa_hav; intro z18; apply pa_hav; intro z11; apply pa_hav; intro z12; apply pa_hav; intro z13; apply pa_hav; intro z14; apply pa_hav; intro z15; apply pa_hav; intro z5; apply pa_hav; intro z6; apply pa_hav; intro z7; apply pa_hav; intro z8; apply pa_hav; intro z9; apply pa_hav; intro z10; apply pa_hav; intro z1; apply pa_hav; intro z2; apply pa_hav; intro z3; apply pa_hav; intro z4; refine pas [0, 2, 4, 6] ?_; push_cast [iO, tN]; refine ⟨z1, z2, z3, z4⟩; refine pas [0, 2, 4] ?_; push_cast [iO, tN]; refine ⟨z7, z9, z10⟩; refine pas [0, 2, 6] ?_; push_cast [iO, tN]; refine ⟨z6, z8, paw z10 ?_⟩ <;> (refine weak_fg ?_; push_cast [iO, tN]); refine pas [0, 4, 6] ?_; push_cast [iO, tN]; refine ⟨z5, paw z8 ?_, paw z9 ?_⟩ <;> (refine weak_fg ?_; push_cast [iO, tN]); refine pas [2, 4, 6] ?_; push_cast [iO, tN]; refine ⟨paw z5 ?_, paw z6 ?_, paw z7 ?_⟩ <;> (refine weak_fg ?_; push_cast [iO, tN]); refine pas [0, 2] ?_; push_cast [iO, tN]; refine ⟨z14, z15⟩; refine pas [0, 4] ?_; push_cast [iO, tN]; refine ⟨z13, paw z15 ?_⟩ <;> (refine weak_fg ?_; push_cast [iO, tN]); refine pas [0, 6] ?_; push_cast [iO, tN]; refine ⟨z12, paw z15 ?_⟩ <;> (refine weak_fg ?_; push_cast [iO, tN]); refine pas [2, 4] ?_; push_cast [iO, tN]; refine ⟨paw z13 ?_, paw z14 ?_⟩ <;> (refine weak_fg ?_; push_cast [iO, tN]); refine pas [2, 6] ?_; push_cast [iO, tN]; refine ⟨paw z12 ?_, paw z14 ?_⟩ <;> (refine weak_fg ?_; push_cast [iO, tN]); refine pas [3, 4, 6] ?_; push_cast [iO, tN]; refine ⟨?_, ?_, ?_⟩; (focus ((first | ((refine plc [] (hW) ?_ ?_; push_cast [iO, tN]; rintro r os ⟨rfl, rfl⟩; push_cast [iO, tN])) | ((refine plc [] (hWn) ?_ ?_; push_cast [iO, tN]; rintro r os ⟨rfl, rfl⟩; push_cast [iO, tN]))); exact z11)); (focus (refine paw z12 ?_; refine weak_fg ?_; push_cast [iO, tN])); (focus (refine paw z13 ?_; refine weak_fg ?_; push_cast [iO, tN])); refine pas [0] ?_; push_cast [iO, tN]; refine z18; refine pas [2] ?_; push_cast [iO, tN]; refine paw z18 ?_ <;> (refine weak_fg ?_; push_cast [iO, tN]); refine pas [3, 4] ?_; push_cast [iO, tN]; refine ⟨?_, ?_⟩; (focus ((first | ((refine plc [] (hW) ?_ ?_; push_cast [iO, tN]; rintro r os ⟨rfl, rfl⟩; push_cast [iO, tN])) | ((refine plc [] (hWn) ?_ ?_; push_cast [iO, tN]; rintro r os ⟨rfl, rfl⟩; push_cast [iO, tN]))); exact z17)); (focus (refine paw z18 ?_; refine weak_fg ?_; push_cast [iO, tN])); refine pas [3, 6] ?_; push_cast [iO, tN]; refine ⟨?_, ?_⟩; (focus ((first | ((refine plc [] (hW) ?_ ?_; push_cast [iO, tN]; rintro r os ⟨rfl, rfl⟩; push_cast [iO, tN])) | ((refine plc [] (hWn) ?_ ?_; push_cast [iO, tN]; rintro r os ⟨rfl, rfl⟩; push_cast [iO, tN]))); exact z16)); (focus (refine paw z18 ?_; refine weak_fg ?_; push_cast [iO, tN])); refine pas [4, 6] ?_; push_cast [iO, tN]; refine ⟨paw z16 ?_, paw z17 ?_⟩ <;> (refine weak_fg ?_; push_cast [iO, tN]); refine pas [3] ?_; push_cast [iO, tN]; (focus ((first | ((refine plc [] (hW) ?_ ?_; push_cast [iO, tN]; rintro r os ⟨rfl, rfl⟩; push_cast [iO, tN])) | ((refine plc [] (hWn) ?_ ?_; push_cast [iO, tN]; rintro r os ⟨rfl, rfl⟩; push_cast [iO, tN]))); exact z19)); refine pas [4] ?_; push_cast [iO, tN]; refine paw z19 ?_ <;> (refine weak_fg ?_; push_cast [iO, tN]); refine pas [6] ?_; push_cast [iO, tN]; refine paw z19 ?_ <;> (refine weak_fg ?_; push_cast [iO, tN]); refine pas [7] ?_; push_cast [iO, tN]; (focus ((first | ((refine plc [] (hW) ?_ ?_; push_cast [iO, tN]; rintro r os ⟨rfl, rfl⟩; push_cast [iO, tN])) | ((refine plc [] (hWn) ?_ ?_; push_cast [iO, tN]; rintro r os ⟨rfl, rfl⟩; push_cast [iO, tN]))); refine pah 8 ?_; push_cast [iO, tN]; refine pah 9 ?_; push_cast [iO, tN]; exact paw z20 (weak_cutS 18 [] _))); push_cast [iO, tN]; refine pad ?_; push_cast [iO, tN])
    repeat' (first | ((first | refine pC ?_ | refine pQC ?_ | refine pU ?_); push_cast [iO, tN, hln]) | (refine pif (fun h => ?_) (fun h => ?_) <;> first | exact pN h | push_cast [iO, tN, hln]))
    (apply pwp_loop3 (α := Nat) 18 [] (fun k => [(14, .c (.v (.int .i64 k)))]) (fun k => []) (fun k => k ≤ wl.length) (fun k => wl.length - k) (0); (focus ((try push_cast [iO, tN]); rfl)); (focus exact (Nat.zero_le _)); (focus ((refine weak_fg ?_; try push_cast [iO, tN]); (try (skip)))))
    intro k hk
    push_cast [iO, tN]
    by_cases hlt : k < wl.length
    · obtain ⟨d, hd, hwg, hwgn⟩ := hget k hlt
      have hAt := rat_pure t (placeM t d.index) (by omega) hz
      rw [at_place ht.okt hd] at hAt
      have hOf := seatOf_pure t rs d.index ht.okt.p (by omega) hz ha hr
      unfold wantA at hwg hwgn
      obtain ⟨st, hst⟩ : ∃ st, seatM t rs d.index = st := ⟨_, rfl⟩
      rw [hst] at hOf hwg hwgn
      obtain ⟨us, hus⟩ : ∃ us, userM s st = us := ⟨_, rfl⟩
      rw [hus] at hwg
      obtain ⟨pl, hpl⟩ : ∃ pl, placeM t d.index = pl := ⟨_, rfl⟩
      rw [hpl] at hAt hwg hwgn
      obtain ⟨nd, hnd⟩ : ∃ nd, nodeM d = nd := ⟨_, rfl⟩
      rw [hnd] at hwg hwgn
      simp only [Option.getD_some, Option.isSome_some] at hAt
      have hkn : k < wn.length := by omega
      have hne : ∀ x : ByteArray, (x ≠ x) = False := fun x => by simp
      have npl := hne pl
      have nnd := hne nd
      have nus := hne us
      have nup := hne up
      by_cases hown : st = p
      · rw [hown, hupe] at hwgn
        repeat' (first | (refine hidR 14 ?_) | ((first | refine pC ?_ | refine pQC ?_ | refine pU ?_); push_cast [iO, tN, hwg, hwgn, hln]) | (refine pif (fun h => ?_) (fun h => ?_) <;> first | exact pN h | push_cast [iO, tN, hwg, hwgn, hln]))
        refine unhid ?_
        (refine pwp_cut 18 [] ?_; refine pwp_drawn (by kernel_rfl) ?_; simp only [List.length_cons, List.length_nil, Nat.reduceAdd]; refine pah 1 ?_; push_cast [iO, tN,  hwg, hwgn, hln]; refine pah 2 ?_; push_cast [iO, tN,  hwg, hwgn, hln]; refine pah 3 ?_; push_cast [iO, tN,  hwg, hwgn, hln]; refine pah 4 ?_; push_cast [iO, tN,  hwg, hwgn, hln]; apply pa_hav; intro z10; apply pa_hav; intro z9; apply pa_hav; intro z7; apply pa_hav; intro z8; apply pa_hav; intro z4; apply pa_hav; intro z5; apply pa_hav; intro z6; apply pa_hav; intro z1; apply pa_hav; intro z2; apply pa_hav; intro z3; refine pas [0, 5, 10] ?_; push_cast [iO, tN,  hwg, hwgn, hln]; refine ⟨z1, z2, z3⟩; refine pas [0, 5] ?_; push_cast [iO, tN,  hwg, hwgn, hln]; refine ⟨z5, z6⟩; refine pas [0, 10] ?_; push_cast [iO, tN,  hwg, hwgn, hln]; refine ⟨z4, paw z6 ?_⟩ <;> (refine weak_fg ?_; push_cast [iO, tN,  hwg, hwgn, hln]); refine pas [5, 10] ?_; push_cast [iO, tN,  hwg, hwgn, hln]; refine ⟨paw z4 ?_, paw z5 ?_⟩ <;> (refine weak_fg ?_; push_cast [iO, tN,  hwg, hwgn, hln]); refine pas [0] ?_; push_cast [iO, tN,  hwg, hwgn, hln]; refine z8; refine pas [5] ?_; push_cast [iO, tN,  hwg, hwgn, hln]; refine paw z8 ?_ <;> (refine weak_fg ?_; push_cast [iO, tN,  hwg, hwgn, hln]); refine pas [6, 10] ?_; push_cast [iO, tN,  hwg, hwgn, hln]; refine ⟨?_, ?_⟩; (focus ((first | ((refine plc [] (hAt) ?_ ?_; push_cast [iO, tN,  hwg, hwgn, hln]; rintro r os ⟨rfl, rfl⟩; push_cast [iO, tN,  hwg, hwgn, hln]))); refine pah 7 ?_; push_cast [iO, tN,  hwg, hwgn, hln]; refine pah 8 ?_; push_cast [iO, tN,  hwg, hwgn, hln]; refine pah 9 ?_; push_cast [iO, tN,  hwg, hwgn, hln]; exact z7)); (focus (refine paw z8 ?_; refine weak_fg ?_; push_cast [iO, tN,  hwg, hwgn, hln])); refine pas [6] ?_; push_cast [iO, tN,  hwg, hwgn, hln]; (focus ((first | ((refine plc [] (hAt) ?_ ?_; push_cast [iO, tN,  hwg, hwgn, hln]; rintro r os ⟨rfl, rfl⟩; push_cast [iO, tN,  hwg, hwgn, hln]))); refine pah 7 ?_; push_cast [iO, tN,  hwg, hwgn, hln]; refine pah 8 ?_; push_cast [iO, tN,  hwg, hwgn, hln]; refine pah 9 ?_; push_cast [iO, tN,  hwg, hwgn, hln]; exact z9)); refine pas [10] ?_; push_cast [iO, tN,  hwg, hwgn, hln]; refine paw z9 ?_ <;> (refine weak_fg ?_; push_cast [iO, tN,  hwg, hwgn, hln]); refine pas [11] ?_; push_cast [iO, tN,  hwg, hwgn, hln]; (focus (refine pah 12 ?_; push_cast [iO, tN,  hwg, hwgn, hln]; exact paw z10 (weak_cutS 18 [] _))); push_cast [iO, tN,  hwg, hwgn, hln]; refine pad ?_; push_cast [iO, tN,  hwg, hwgn, hln])
        repeat' (first | ((refine plc [] (hOf) ?_ ?_; push_cast [iO, tN, hwg, hwgn, hln, hown, npl, nnd, nus, nup]; rintro r os ⟨rfl, rfl⟩; push_cast [iO, tN, hwg, hwgn, hln, hown, npl, nnd, nus, nup])) | ((refine ql_call2 false rfl rfl (by kernel_rfl) (hUn) (fun r os h => h.1) rfl ?_ ?_; push_cast [iO, tN, hwg, hwgn, hln, hown, npl, nnd, nus, nup]; refine ql_of_qops ?_; push_cast [iO, tN, hwg, hwgn, hln, hown, npl, nnd, nus, nup])) | ((first | refine pC ?_ | refine pQC ?_ | refine pU ?_); push_cast [iO, tN, hwg, hwgn, hln, hown, npl, nnd, nus, nup]) | (refine pif (fun h => ?_) (fun h => ?_) <;> first | exact pN h | push_cast [iO, tN, hwg, hwgn, hln, hown, npl, nnd, nus, nup]))
        exact ⟨k + 1, by omega, by (refine weak_fg ?_; push_cast [iO, tN]), by omega⟩
      · rw [hoth st hown, hus] at hwgn
        repeat' (first | (refine hidR 14 ?_) | ((first | refine pC ?_ | refine pQC ?_ | refine pU ?_); push_cast [iO, tN, hwg, hwgn, hln]) | (refine pif (fun h => ?_) (fun h => ?_) <;> first | exact pN h | push_cast [iO, tN, hwg, hwgn, hln]))
        refine unhid ?_
        (refine pwp_cut 18 [] ?_; refine pwp_drawn (by kernel_rfl) ?_; simp only [List.length_cons, List.length_nil, Nat.reduceAdd]; refine pah 1 ?_; push_cast [iO, tN,  hwg, hwgn, hln]; refine pah 2 ?_; push_cast [iO, tN,  hwg, hwgn, hln]; refine pah 3 ?_; push_cast [iO, tN,  hwg, hwgn, hln]; refine pah 4 ?_; push_cast [iO, tN,  hwg, hwgn, hln]; apply pa_hav; intro z10; apply pa_hav; intro z9; apply pa_hav; intro z7; apply pa_hav; intro z8; apply pa_hav; intro z4; apply pa_hav; intro z5; apply pa_hav; intro z6; apply pa_hav; intro z1; apply pa_hav; intro z2; apply pa_hav; intro z3; refine pas [0, 5, 10] ?_; push_cast [iO, tN,  hwg, hwgn, hln]; refine ⟨z1, z2, z3⟩; refine pas [0, 5] ?_; push_cast [iO, tN,  hwg, hwgn, hln]; refine ⟨z5, z6⟩; refine pas [0, 10] ?_; push_cast [iO, tN,  hwg, hwgn, hln]; refine ⟨z4, paw z6 ?_⟩ <;> (refine weak_fg ?_; push_cast [iO, tN,  hwg, hwgn, hln]); refine pas [5, 10] ?_; push_cast [iO, tN,  hwg, hwgn, hln]; refine ⟨paw z4 ?_, paw z5 ?_⟩ <;> (refine weak_fg ?_; push_cast [iO, tN,  hwg, hwgn, hln]); refine pas [0] ?_; push_cast [iO, tN,  hwg, hwgn, hln]; refine z8; refine pas [5] ?_; push_cast [iO, tN,  hwg, hwgn, hln]; refine paw z8 ?_ <;> (refine weak_fg ?_; push_cast [iO, tN,  hwg, hwgn, hln]); refine pas [6, 10] ?_; push_cast [iO, tN,  hwg, hwgn, hln]; refine ⟨?_, ?_⟩; (focus ((first | ((refine plc [] (hAt) ?_ ?_; push_cast [iO, tN,  hwg, hwgn, hln]; rintro r os ⟨rfl, rfl⟩; push_cast [iO, tN,  hwg, hwgn, hln]))); refine pah 7 ?_; push_cast [iO, tN,  hwg, hwgn, hln]; refine pah 8 ?_; push_cast [iO, tN,  hwg, hwgn, hln]; refine pah 9 ?_; push_cast [iO, tN,  hwg, hwgn, hln]; exact z7)); (focus (refine paw z8 ?_; refine weak_fg ?_; push_cast [iO, tN,  hwg, hwgn, hln])); refine pas [6] ?_; push_cast [iO, tN,  hwg, hwgn, hln]; (focus ((first | ((refine plc [] (hAt) ?_ ?_; push_cast [iO, tN,  hwg, hwgn, hln]; rintro r os ⟨rfl, rfl⟩; push_cast [iO, tN,  hwg, hwgn, hln]))); refine pah 7 ?_; push_cast [iO, tN,  hwg, hwgn, hln]; refine pah 8 ?_; push_cast [iO, tN,  hwg, hwgn, hln]; refine pah 9 ?_; push_cast [iO, tN,  hwg, hwgn, hln]; exact z9)); refine pas [10] ?_; push_cast [iO, tN,  hwg, hwgn, hln]; refine paw z9 ?_ <;> (refine weak_fg ?_; push_cast [iO, tN,  hwg, hwgn, hln]); refine pas [11] ?_; push_cast [iO, tN,  hwg, hwgn, hln]; (focus (refine pah 12 ?_; push_cast [iO, tN,  hwg, hwgn, hln]; exact paw z10 (weak_cutS 18 [] _))); push_cast [iO, tN,  hwg, hwgn, hln]; refine pad ?_; push_cast [iO, tN,  hwg, hwgn, hln])
        repeat' (first | ((refine plc [] (hOf) ?_ ?_; push_cast [iO, tN, hwg, hwgn, hln, hown, npl, nnd, nus, nup]; rintro r os ⟨rfl, rfl⟩; push_cast [iO, tN, hwg, hwgn, hln, hown, npl, nnd, nus, nup])) | ((refine ql_call2 false rfl rfl (by kernel_rfl) (hUn) (fun r os h => h.1) rfl ?_ ?_; push_cast [iO, tN, hwg, hwgn, hln, hown, npl, nnd, nus, nup]; refine ql_of_qops ?_; push_cast [iO, tN, hwg, hwgn, hln, hown, npl, nnd, nus, nup])) | ((first | refine pC ?_ | refine pQC ?_ | refine pU ?_); push_cast [iO, tN, hwg, hwgn, hln, hown, npl, nnd, nus, nup]) | (refine pif (fun h => ?_) (fun h => ?_) <;> first | exact pN h | push_cast [iO, tN, hwg, hwgn, hln, hown, npl, nnd, nus, nup]))
        exact ⟨k + 1, by omega, by (refine weak_fg ?_; push_cast [iO, tN]), by omega⟩
    · repeat' (first |  ((refine plc [] (known_pure) ?_ ?_; push_cast [iO, tN]; rintro r os ⟨rfl, rfl⟩; push_cast [iO, tN]))  | ((first | refine pC ?_ | refine pQC ?_ | refine pU ?_); push_cast [iO, tN]) | (refine pif (fun h => ?_) (fun h => ?_) <;> first | exact pN h | push_cast [iO, tN]))
      (refine retK_of [] ?_; push_cast [iO, tN])
  · obtain ⟨p, hp⟩ : ∃ p : ByteArray, ⟨#[115, 101, 97, 116, 49]⟩ = p := ⟨_, rfl⟩
    rw [hp]
    clear hp
    have hSw := switch_pure nx s p (by omega)
    simp only [sesE] at hSw
    refine plc [] (hSw) ?_ ?_
    · push_cast [iO, tN]
    rintro r os (⟨rfl, rfl⟩ | ⟨n, hn, rfl, rfl⟩)
    · push_cast [iO, tN]
      repeat' (first |  ((refine plc [] (known_pure) ?_ ?_; push_cast [iO, tN]; rintro r os ⟨rfl, rfl⟩; push_cast [iO, tN]))  | ((first | refine pC ?_ | refine pQC ?_ | refine pU ?_); push_cast [iO, tN]) | (refine pif (fun h => ?_) (fun h => ?_) <;> first | exact pN h | push_cast [iO, tN]))
      (refine retK_of [] ?_; push_cast [iO, tN])
    push_cast [iO, tN]
    have hup := user_some (p := p) hso.usr (by obtain ⟨x, hx, h1, _⟩ := hn; obtain ⟨y, hy, h2, h3⟩ := hso.act x hx; exact ⟨y, hy, h2.trans h1, h3⟩)
    have hWn := want_pure t rs nx (turnM s p n) ht.okt.p (by omega) hz ha hr (by rw [turnM_len]; omega)
    have hln := turn_len (l := t) (rs := rs) hso.usr hn hup
    have hget : ∀ k, k < (wantM t rs s).length → ∃ d ∈ t, (wantM t rs s).getD k default = wantA t rs s d ∧ (wantM t rs (turnM s p n)).getD k default = wantA t rs (turnM s p n) d := fun k hk => turn_get hso.usr hn hup hk
    have hUn := user_pure nx (turnM s p n) p (by rw [turnM_len]; omega)
    have hoth : ∀ q, q ≠ p → userM (turnM s p n) q = userM s q := fun q hq => turn_other n hq
    obtain ⟨wl, hwe⟩ : ∃ wl, wantM t rs s = wl := ⟨_, rfl⟩
    rw [hwe] at hW hwl hln hget
    obtain ⟨wn, hwne⟩ : ∃ wn, wantM t rs (turnM s p n) = wn := ⟨_, rfl⟩
    rw [hwne] at hWn hln hget
    obtain ⟨sn, hsn⟩ : ∃ sn, turnM s p n = sn := ⟨_, rfl⟩
    rw [hsn] at hWn hget hUn hoth ⊢
    obtain ⟨up, hupe⟩ : ∃ up, userM sn p = up := ⟨_, rfl⟩
    rw [hupe] at hUn
    simp only [sesE] at hWn hUn
    repeat' (first |  (refine hidR 8 ?_)  | ((first | refine pC ?_ | refine pQC ?_ | refine pU ?_); push_cast [iO, tN]) | (refine pif (fun h => ?_) (fun h => ?_) <;> first | exact pN h | push_cast [iO, tN]))
    refine unhid ?_
    (refine pwp_cut 18 [] ?_; refine pwp_drawn (by kernel_rfl) ?_; simp only [List.length_cons, List.length_nil, Nat.reduceAdd]; refine pah 1 ?_; push_cast [iO, tN]; refine pah 5 ?_; push_cast [iO, tN]; apply pa_hav; intro z20; apply pa_hav; intro z19; apply pa_hav; intro z16; apply pa_hav; intro z17; apply pa_hav; intro z18; apply pa_hav; intro z11; apply pa_hav; intro z12; apply pa_hav; intro z13; apply pa_hav; intro z14; apply pa_hav; intro z15; apply pa_hav; intro z5; apply pa_hav; intro z6; apply pa_hav; intro z7; apply pa_hav; intro z8; apply pa_hav; intro z9; apply pa_hav; intro z10; apply pa_hav; intro z1; apply pa_hav; intro z2; apply pa_hav; intro z3; apply pa_hav; intro z4; refine pas [0, 2, 4, 6] ?_; push_cast [iO, tN]; refine ⟨z1, z2, z3, z4⟩; refine pas [0, 2, 4] ?_; push_cast [iO, tN]; refine ⟨z7, z9, z10⟩; refine pas [0, 2, 6] ?_; push_cast [iO, tN]; refine ⟨z6, z8, paw z10 ?_⟩ <;> (refine weak_fg ?_; push_cast [iO, tN]); refine pas [0, 4, 6] ?_; push_cast [iO, tN]; refine ⟨z5, paw z8 ?_, paw z9 ?_⟩ <;> (refine weak_fg ?_; push_cast [iO, tN]); refine pas [2, 4, 6] ?_; push_cast [iO, tN]; refine ⟨paw z5 ?_, paw z6 ?_, paw z7 ?_⟩ <;> (refine weak_fg ?_; push_cast [iO, tN]); refine pas [0, 2] ?_; push_cast [iO, tN]; refine ⟨z14, z15⟩; refine pas [0, 4] ?_; push_cast [iO, tN]; refine ⟨z13, paw z15 ?_⟩ <;> (refine weak_fg ?_; push_cast [iO, tN]); refine pas [0, 6] ?_; push_cast [iO, tN]; refine ⟨z12, paw z15 ?_⟩ <;> (refine weak_fg ?_; push_cast [iO, tN]); refine pas [2, 4] ?_; push_cast [iO, tN]; refine ⟨paw z13 ?_, paw z14 ?_⟩ <;> (refine weak_fg ?_; push_cast [iO, tN]); refine pas [2, 6] ?_; push_cast [iO, tN]; refine ⟨paw z12 ?_, paw z14 ?_⟩ <;> (refine weak_fg ?_; push_cast [iO, tN]); refine pas [3, 4, 6] ?_; push_cast [iO, tN]; refine ⟨?_, ?_, ?_⟩; (focus ((first | ((refine plc [] (hW) ?_ ?_; push_cast [iO, tN]; rintro r os ⟨rfl, rfl⟩; push_cast [iO, tN])) | ((refine plc [] (hWn) ?_ ?_; push_cast [iO, tN]; rintro r os ⟨rfl, rfl⟩; push_cast [iO, tN]))); exact z11)); (focus (refine paw z12 ?_; refine weak_fg ?_; push_cast [iO, tN])); (focus (refine paw z13 ?_; refine weak_fg ?_; push_cast [iO, tN])); refine pas [0] ?_; push_cast [iO, tN]; refine z18; refine pas [2] ?_; push_cast [iO, tN]; refine paw z18 ?_ <;> (refine weak_fg ?_; push_cast [iO, tN]); refine pas [3, 4] ?_; push_cast [iO, tN]; refine ⟨?_, ?_⟩; (focus ((first | ((refine plc [] (hW) ?_ ?_; push_cast [iO, tN]; rintro r os ⟨rfl, rfl⟩; push_cast [iO, tN])) | ((refine plc [] (hWn) ?_ ?_; push_cast [iO, tN]; rintro r os ⟨rfl, rfl⟩; push_cast [iO, tN]))); exact z17)); (focus (refine paw z18 ?_; refine weak_fg ?_; push_cast [iO, tN])); refine pas [3, 6] ?_; push_cast [iO, tN]; refine ⟨?_, ?_⟩; (focus ((first | ((refine plc [] (hW) ?_ ?_; push_cast [iO, tN]; rintro r os ⟨rfl, rfl⟩; push_cast [iO, tN])) | ((refine plc [] (hWn) ?_ ?_; push_cast [iO, tN]; rintro r os ⟨rfl, rfl⟩; push_cast [iO, tN]))); exact z16)); (focus (refine paw z18 ?_; refine weak_fg ?_; push_cast [iO, tN])); refine pas [4, 6] ?_; push_cast [iO, tN]; refine ⟨paw z16 ?_, paw z17 ?_⟩ <;> (refine weak_fg ?_; push_cast [iO, tN]); refine pas [3] ?_; push_cast [iO, tN]; (focus ((first | ((refine plc [] (hW) ?_ ?_; push_cast [iO, tN]; rintro r os ⟨rfl, rfl⟩; push_cast [iO, tN])) | ((refine plc [] (hWn) ?_ ?_; push_cast [iO, tN]; rintro r os ⟨rfl, rfl⟩; push_cast [iO, tN]))); exact z19)); refine pas [4] ?_; push_cast [iO, tN]; refine paw z19 ?_ <;> (refine weak_fg ?_; push_cast [iO, tN]); refine pas [6] ?_; push_cast [iO, tN]; refine paw z19 ?_ <;> (refine weak_fg ?_; push_cast [iO, tN]); refine pas [7] ?_; push_cast [iO, tN]; (focus ((first | ((refine plc [] (hW) ?_ ?_; push_cast [iO, tN]; rintro r os ⟨rfl, rfl⟩; push_cast [iO, tN])) | ((refine plc [] (hWn) ?_ ?_; push_cast [iO, tN]; rintro r os ⟨rfl, rfl⟩; push_cast [iO, tN]))); refine pah 8 ?_; push_cast [iO, tN]; refine pah 9 ?_; push_cast [iO, tN]; exact paw z20 (weak_cutS 18 [] _))); push_cast [iO, tN]; refine pad ?_; push_cast [iO, tN])
    repeat' (first | ((first | refine pC ?_ | refine pQC ?_ | refine pU ?_); push_cast [iO, tN, hln]) | (refine pif (fun h => ?_) (fun h => ?_) <;> first | exact pN h | push_cast [iO, tN, hln]))
    (apply pwp_loop3 (α := Nat) 18 [] (fun k => [(14, .c (.v (.int .i64 k)))]) (fun k => []) (fun k => k ≤ wl.length) (fun k => wl.length - k) (0); (focus ((try push_cast [iO, tN]); rfl)); (focus exact (Nat.zero_le _)); (focus ((refine weak_fg ?_; try push_cast [iO, tN]); (try (skip)))))
    intro k hk
    push_cast [iO, tN]
    by_cases hlt : k < wl.length
    · obtain ⟨d, hd, hwg, hwgn⟩ := hget k hlt
      have hAt := rat_pure t (placeM t d.index) (by omega) hz
      rw [at_place ht.okt hd] at hAt
      have hOf := seatOf_pure t rs d.index ht.okt.p (by omega) hz ha hr
      unfold wantA at hwg hwgn
      obtain ⟨st, hst⟩ : ∃ st, seatM t rs d.index = st := ⟨_, rfl⟩
      rw [hst] at hOf hwg hwgn
      obtain ⟨us, hus⟩ : ∃ us, userM s st = us := ⟨_, rfl⟩
      rw [hus] at hwg
      obtain ⟨pl, hpl⟩ : ∃ pl, placeM t d.index = pl := ⟨_, rfl⟩
      rw [hpl] at hAt hwg hwgn
      obtain ⟨nd, hnd⟩ : ∃ nd, nodeM d = nd := ⟨_, rfl⟩
      rw [hnd] at hwg hwgn
      simp only [Option.getD_some, Option.isSome_some] at hAt
      have hkn : k < wn.length := by omega
      have hne : ∀ x : ByteArray, (x ≠ x) = False := fun x => by simp
      have npl := hne pl
      have nnd := hne nd
      have nus := hne us
      have nup := hne up
      by_cases hown : st = p
      · rw [hown, hupe] at hwgn
        repeat' (first | (refine hidR 14 ?_) | ((first | refine pC ?_ | refine pQC ?_ | refine pU ?_); push_cast [iO, tN, hwg, hwgn, hln]) | (refine pif (fun h => ?_) (fun h => ?_) <;> first | exact pN h | push_cast [iO, tN, hwg, hwgn, hln]))
        refine unhid ?_
        (refine pwp_cut 18 [] ?_; refine pwp_drawn (by kernel_rfl) ?_; simp only [List.length_cons, List.length_nil, Nat.reduceAdd]; refine pah 1 ?_; push_cast [iO, tN,  hwg, hwgn, hln]; refine pah 2 ?_; push_cast [iO, tN,  hwg, hwgn, hln]; refine pah 3 ?_; push_cast [iO, tN,  hwg, hwgn, hln]; refine pah 4 ?_; push_cast [iO, tN,  hwg, hwgn, hln]; apply pa_hav; intro z10; apply pa_hav; intro z9; apply pa_hav; intro z7; apply pa_hav; intro z8; apply pa_hav; intro z4; apply pa_hav; intro z5; apply pa_hav; intro z6; apply pa_hav; intro z1; apply pa_hav; intro z2; apply pa_hav; intro z3; refine pas [0, 5, 10] ?_; push_cast [iO, tN,  hwg, hwgn, hln]; refine ⟨z1, z2, z3⟩; refine pas [0, 5] ?_; push_cast [iO, tN,  hwg, hwgn, hln]; refine ⟨z5, z6⟩; refine pas [0, 10] ?_; push_cast [iO, tN,  hwg, hwgn, hln]; refine ⟨z4, paw z6 ?_⟩ <;> (refine weak_fg ?_; push_cast [iO, tN,  hwg, hwgn, hln]); refine pas [5, 10] ?_; push_cast [iO, tN,  hwg, hwgn, hln]; refine ⟨paw z4 ?_, paw z5 ?_⟩ <;> (refine weak_fg ?_; push_cast [iO, tN,  hwg, hwgn, hln]); refine pas [0] ?_; push_cast [iO, tN,  hwg, hwgn, hln]; refine z8; refine pas [5] ?_; push_cast [iO, tN,  hwg, hwgn, hln]; refine paw z8 ?_ <;> (refine weak_fg ?_; push_cast [iO, tN,  hwg, hwgn, hln]); refine pas [6, 10] ?_; push_cast [iO, tN,  hwg, hwgn, hln]; refine ⟨?_, ?_⟩; (focus ((first | ((refine plc [] (hAt) ?_ ?_; push_cast [iO, tN,  hwg, hwgn, hln]; rintro r os ⟨rfl, rfl⟩; push_cast [iO, tN,  hwg, hwgn, hln]))); refine pah 7 ?_; push_cast [iO, tN,  hwg, hwgn, hln]; refine pah 8 ?_; push_cast [iO, tN,  hwg, hwgn, hln]; refine pah 9 ?_; push_cast [iO, tN,  hwg, hwgn, hln]; exact z7)); (focus (refine paw z8 ?_; refine weak_fg ?_; push_cast [iO, tN,  hwg, hwgn, hln])); refine pas [6] ?_; push_cast [iO, tN,  hwg, hwgn, hln]; (focus ((first | ((refine plc [] (hAt) ?_ ?_; push_cast [iO, tN,  hwg, hwgn, hln]; rintro r os ⟨rfl, rfl⟩; push_cast [iO, tN,  hwg, hwgn, hln]))); refine pah 7 ?_; push_cast [iO, tN,  hwg, hwgn, hln]; refine pah 8 ?_; push_cast [iO, tN,  hwg, hwgn, hln]; refine pah 9 ?_; push_cast [iO, tN,  hwg, hwgn, hln]; exact z9)); refine pas [10] ?_; push_cast [iO, tN,  hwg, hwgn, hln]; refine paw z9 ?_ <;> (refine weak_fg ?_; push_cast [iO, tN,  hwg, hwgn, hln]); refine pas [11] ?_; push_cast [iO, tN,  hwg, hwgn, hln]; (focus (refine pah 12 ?_; push_cast [iO, tN,  hwg, hwgn, hln]; exact paw z10 (weak_cutS 18 [] _))); push_cast [iO, tN,  hwg, hwgn, hln]; refine pad ?_; push_cast [iO, tN,  hwg, hwgn, hln])
        repeat' (first | ((refine plc [] (hOf) ?_ ?_; push_cast [iO, tN, hwg, hwgn, hln, hown, npl, nnd, nus, nup]; rintro r os ⟨rfl, rfl⟩; push_cast [iO, tN, hwg, hwgn, hln, hown, npl, nnd, nus, nup])) | ((refine ql_call2 false rfl rfl (by kernel_rfl) (hUn) (fun r os h => h.1) rfl ?_ ?_; push_cast [iO, tN, hwg, hwgn, hln, hown, npl, nnd, nus, nup]; refine ql_of_qops ?_; push_cast [iO, tN, hwg, hwgn, hln, hown, npl, nnd, nus, nup])) | ((first | refine pC ?_ | refine pQC ?_ | refine pU ?_); push_cast [iO, tN, hwg, hwgn, hln, hown, npl, nnd, nus, nup]) | (refine pif (fun h => ?_) (fun h => ?_) <;> first | exact pN h | push_cast [iO, tN, hwg, hwgn, hln, hown, npl, nnd, nus, nup]))
        exact ⟨k + 1, by omega, by (refine weak_fg ?_; push_cast [iO, tN]), by omega⟩
      · rw [hoth st hown, hus] at hwgn
        repeat' (first | (refine hidR 14 ?_) | ((first | refine pC ?_ | refine pQC ?_ | refine pU ?_); push_cast [iO, tN, hwg, hwgn, hln]) | (refine pif (fun h => ?_) (fun h => ?_) <;> first | exact pN h | push_cast [iO, tN, hwg, hwgn, hln]))
        refine unhid ?_
        (refine pwp_cut 18 [] ?_; refine pwp_drawn (by kernel_rfl) ?_; simp only [List.length_cons, List.length_nil, Nat.reduceAdd]; refine pah 1 ?_; push_cast [iO, tN,  hwg, hwgn, hln]; refine pah 2 ?_; push_cast [iO, tN,  hwg, hwgn, hln]; refine pah 3 ?_; push_cast [iO, tN,  hwg, hwgn, hln]; refine pah 4 ?_; push_cast [iO, tN,  hwg, hwgn, hln]; apply pa_hav; intro z10; apply pa_hav; intro z9; apply pa_hav; intro z7; apply pa_hav; intro z8; apply pa_hav; intro z4; apply pa_hav; intro z5; apply pa_hav; intro z6; apply pa_hav; intro z1; apply pa_hav; intro z2; apply pa_hav; intro z3; refine pas [0, 5, 10] ?_; push_cast [iO, tN,  hwg, hwgn, hln]; refine ⟨z1, z2, z3⟩; refine pas [0, 5] ?_; push_cast [iO, tN,  hwg, hwgn, hln]; refine ⟨z5, z6⟩; refine pas [0, 10] ?_; push_cast [iO, tN,  hwg, hwgn, hln]; refine ⟨z4, paw z6 ?_⟩ <;> (refine weak_fg ?_; push_cast [iO, tN,  hwg, hwgn, hln]); refine pas [5, 10] ?_; push_cast [iO, tN,  hwg, hwgn, hln]; refine ⟨paw z4 ?_, paw z5 ?_⟩ <;> (refine weak_fg ?_; push_cast [iO, tN,  hwg, hwgn, hln]); refine pas [0] ?_; push_cast [iO, tN,  hwg, hwgn, hln]; refine z8; refine pas [5] ?_; push_cast [iO, tN,  hwg, hwgn, hln]; refine paw z8 ?_ <;> (refine weak_fg ?_; push_cast [iO, tN,  hwg, hwgn, hln]); refine pas [6, 10] ?_; push_cast [iO, tN,  hwg, hwgn, hln]; refine ⟨?_, ?_⟩; (focus ((first | ((refine plc [] (hAt) ?_ ?_; push_cast [iO, tN,  hwg, hwgn, hln]; rintro r os ⟨rfl, rfl⟩; push_cast [iO, tN,  hwg, hwgn, hln]))); refine pah 7 ?_; push_cast [iO, tN,  hwg, hwgn, hln]; refine pah 8 ?_; push_cast [iO, tN,  hwg, hwgn, hln]; refine pah 9 ?_; push_cast [iO, tN,  hwg, hwgn, hln]; exact z7)); (focus (refine paw z8 ?_; refine weak_fg ?_; push_cast [iO, tN,  hwg, hwgn, hln])); refine pas [6] ?_; push_cast [iO, tN,  hwg, hwgn, hln]; (focus ((first | ((refine plc [] (hAt) ?_ ?_; push_cast [iO, tN,  hwg, hwgn, hln]; rintro r os ⟨rfl, rfl⟩; push_cast [iO, tN,  hwg, hwgn, hln]))); refine pah 7 ?_; push_cast [iO, tN,  hwg, hwgn, hln]; refine pah 8 ?_; push_cast [iO, tN,  hwg, hwgn, hln]; refine pah 9 ?_; push_cast [iO, tN,  hwg, hwgn, hln]; exact z9)); refine pas [10] ?_; push_cast [iO, tN,  hwg, hwgn, hln]; refine paw z9 ?_ <;> (refine weak_fg ?_; push_cast [iO, tN,  hwg, hwgn, hln]); refine pas [11] ?_; push_cast [iO, tN,  hwg, hwgn, hln]; (focus (refine pah 12 ?_; push_cast [iO, tN,  hwg, hwgn, hln]; exact paw z10 (weak_cutS 18 [] _))); push_cast [iO, tN,  hwg, hwgn, hln]; refine pad ?_; push_cast [iO, tN,  hwg, hwgn, hln])
        repeat' (first | ((refine plc [] (hOf) ?_ ?_; push_cast [iO, tN, hwg, hwgn, hln, hown, npl, nnd, nus, nup]; rintro r os ⟨rfl, rfl⟩; push_cast [iO, tN, hwg, hwgn, hln, hown, npl, nnd, nus, nup])) | ((refine ql_call2 false rfl rfl (by kernel_rfl) (hUn) (fun r os h => h.1) rfl ?_ ?_; push_cast [iO, tN, hwg, hwgn, hln, hown, npl, nnd, nus, nup]; refine ql_of_qops ?_; push_cast [iO, tN, hwg, hwgn, hln, hown, npl, nnd, nus, nup])) | ((first | refine pC ?_ | refine pQC ?_ | refine pU ?_); push_cast [iO, tN, hwg, hwgn, hln, hown, npl, nnd, nus, nup]) | (refine pif (fun h => ?_) (fun h => ?_) <;> first | exact pN h | push_cast [iO, tN, hwg, hwgn, hln, hown, npl, nnd, nus, nup]))
        exact ⟨k + 1, by omega, by (refine weak_fg ?_; push_cast [iO, tN]), by omega⟩
    · repeat' (first |  ((refine plc [] (known_pure) ?_ ?_; push_cast [iO, tN]; rintro r os ⟨rfl, rfl⟩; push_cast [iO, tN]))  | ((first | refine pC ?_ | refine pQC ?_ | refine pU ?_); push_cast [iO, tN]) | (refine pif (fun h => ?_) (fun h => ?_) <;> first | exact pN h | push_cast [iO, tN]))
      (refine retK_of [] ?_; push_cast [iO, tN])
end Go.Proofs.YtcnoopjacilceaaGreatDoor
