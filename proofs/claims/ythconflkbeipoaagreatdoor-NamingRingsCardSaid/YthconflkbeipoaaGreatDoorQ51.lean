/- What the program computes, and the plain laws of it, part 51. -/
import Derived.Test.YthconflkbeipoaaGreatDoorQ50
namespace Go.Proofs.YthconflkbeipoaaGreatDoor
attribute [local irreducible] PL QL PWPr PCalls Weak RetK Kontr PA
open Go.RowKit
open IntWalk renaming iteOmega → iO, toNatUp → tN
set_option linter.unusedVariables false
set_option linter.unusedSimpArgs false
set_option maxRecDepth 20000
def netsK (k : Nat) : List Dev := (List.range k).map fun (i : Nat) => netD ((i : Int) + 1) (lt5 i) (lt5 i)
theorem netsK_succ (k : Nat) : netsK (k + 1) = netsK k ++ [netD ((k : Int) + 1) (lt5 k) (lt5 k)] := by unfold netsK; rw [List.range_succ, List.map_append, List.map_singleton]
theorem netsK_len (k : Nat) : (netsK k).length = k := by unfold netsK; simp
theorem wantR_succ (pm : List Nat) (k : Nat) : wantR pm (k + 1) = wantR pm k ++ [⟨⟨#[47]⟩ ++ lt5 k, lt5 (pm.getD k 0)⟩] := by unfold wantR; rw [List.range_succ, List.map_append, List.map_singleton]
theorem wantR_len (pm : List Nat) (k : Nat) : (wantR pm k).length = k := by unfold wantR; simp
theorem wrongR_succ (pm : List Nat) (k : Nat) : wrongR pm (k + 1) = if pm.getD k 0 = k then wrongR pm k else wrongR pm k + 1 := by
  unfold wrongR
  rw [List.range_succ, List.filter_append, List.length_append]
  by_cases h : pm.getD k 0 = k
  · rw [List.filter_cons_of_neg (by simp only [h, decide_true, Bool.not_true]; decide), if_pos h]; rfl
  · rw [List.filter_cons_of_pos (by simp only [h, decide_false, Bool.not_false]), if_neg h]; rfl
theorem wrongR_le (pm : List Nat) (k : Nat) : wrongR pm k ≤ k := by
  unfold wrongR
  exact Nat.le_trans (List.length_filter_le _ _) (by rw [List.length_range]; exact Nat.le_refl _)
theorem lt5_inj : ∀ i j, i < 5 → j < 5 → (lt5 i = lt5 j ↔ i = j) := by
  have h : ((List.range 5).all fun i => (List.range 5).all fun j => decide (lt5 i = lt5 j) == decide (i = j)) = true := by decide +kernel
  intro i j hi hj
  have := List.all_eq_true.1 (List.all_eq_true.1 h i (List.mem_range.2 hi)) j (List.mem_range.2 hj)
  simpa using this
theorem map_getD0 (pm : List Nat) {i : Nat} (h : i < pm.length) : (pm.map lt5).getD i default = lt5 (pm.getD i 0) := by
  rw [List.getD_eq_getElem?_getD, List.getElem?_map, List.getElem?_eq_getElem h]
  simp [List.getD, h]
theorem swp_rows (pm : List Nat) (i k : Nat) : (((pm.map lt5).map strD).set i [.v (.string (lt5 (pm.getD k 0)))]).set k [.v (.string (lt5 (pm.getD i 0)))] = ((swp pm i k).map lt5).map strD := by
  unfold swp
  rw [List.map_set, List.map_set, List.map_set, List.map_set]
  rfl
theorem swp_rows2 (pm : List Nat) {j m : Nat} (hj : j < pm.length) (hm : m < pm.length) : ((pm.map fun x => [D.v (.string (lt5 x))]).set j [D.v (.string (lt5 (pm.getD m default)))]).set m (D.v (.string (lt5 (pm.getD j default))) :: List.drop 1 (((pm.map fun x => [D.v (.string (lt5 x))]).set j [D.v (.string (lt5 (pm.getD m default)))]).getD m [])) = (swp pm j m).map fun x => [D.v (.string (lt5 x))] := by
  have e : (pm.map fun x => [D.v (.string (lt5 x))]).set j [D.v (.string (lt5 (pm.getD m default)))] = (pm.set j (pm.getD m 0)).map fun x => [D.v (.string (lt5 x))] := by rw [List.map_set]; rfl
  have hl : m < (pm.set j (pm.getD m 0)).length := by rw [List.length_set]; exact hm
  have g : ((pm.set j (pm.getD m 0)).map fun x => [D.v (.string (lt5 x))]).getD m [] = [D.v (.string (lt5 (pm.set j (pm.getD m 0))[m]))] := by
    rw [List.getD_eq_getElem?_getD, List.getElem?_map, List.getElem?_eq_getElem hl]
    rfl
  have r : ((pm.set j (pm.getD m 0)).set m (pm.getD j 0)).map (fun x => [D.v (.string (lt5 x))]) = ((pm.set j (pm.getD m 0)).map fun x => [D.v (.string (lt5 x))]).set m [D.v (.string (lt5 (pm.getD j 0)))] := List.map_set
  rw [e, g]
  unfold swp
  rw [r]
  rfl
def boolD (b : Bool) : List D := [.v (.bool b)]
attribute [push_cast] boolD
theorem rIt_inv {n : Nat} {pm : List Nat} (h : PermI n pm) (i : Nat) : ∀ (f k : Nat) (seen : List Bool) (r : Nat), k < n → seen.length = n → (rIt pm i f (k, seen, r)).2.1.length = n ∧ (rIt pm i f (k, seen, r)).2.2 + cf (rIt pm i f (k, seen, r)).2.1 ≤ r + cf seen
  | 0, k, seen, r, _, hs => ⟨hs, Nat.le_refl _⟩
  | f + 1, k, seen, r, hk, hs => by
    by_cases hc : seen.getD k false = false ∧ pm.getD i 0 ≠ i
    · rw [rIt_step hc]
      have h1 := cf_set (by omega) hc.1
      obtain ⟨g1, g2⟩ := rIt_inv h i f (pm.getD k 0) (seen.set k true) (if k = i then r + 1 else r) (h.lt k hk) (by rw [List.length_set]; exact hs)
      refine ⟨g1, Nat.le_trans g2 ?_⟩
      split <;> omega
    · rw [rIt_stop (f + 1) hc]
      exact ⟨hs, Nat.le_refl _⟩
theorem ringR_inv {n : Nat} {pm : List Nat} (h : PermI n pm) : ∀ i, i ≤ n → (ringR pm n i).1.length = n ∧ (ringR pm n i).2 + cf (ringR pm n i).1 ≤ n
  | 0, _ => by
    refine ⟨List.length_replicate, ?_⟩
    show 0 + cf (List.replicate n false) ≤ n
    unfold cf
    exact Nat.le_trans (by rw [Nat.zero_add]; exact List.countP_le_length) (by rw [List.length_replicate]; exact Nat.le_refl _)
  | i + 1, hi => by
    obtain ⟨h1, h2⟩ := ringR_inv h i (by omega)
    obtain ⟨h3, h4⟩ := rIt_inv h i (cf (ringR pm n i).1) i (ringR pm n i).1 (ringR pm n i).2 (by omega) h1
    exact ⟨h3, Nat.le_trans h4 h2⟩
set_option maxHeartbeats 16000000 in
set_option maxRecDepth 10000 in
theorem rings_pure (L : List Int) (hL : ∀ x ∈ L, -9223372036854775808 ≤ x ∧ x ≤ 9223372036854775807) (hLl : L.length ≤ 9223372036854775807) :
    PCalls Tryz.prog 5 [.c (.sl 1 (L.map fun x => [D.v (.int .i64 x)]))] [] fun r os => r = .c (.v (.bool true)) ∧ os = [] := by
  have nex := fun (j : Nat) (hj : j < 1000000) (m : Int) (hm : 0 < m) (hm2 : m ≤ 9223372036854775807) => next_ex L j m hj hm hm2 hL hLl
  have hn5 : nm5.length = 5 := rfl
  refine pcalls_of Tryz.func5 rfl (by simp [Tryz.ntmps5]) ?_
  rw [Tryz.ntmps5, Tryz.results5]
  push_cast [iO, tN]
  have cB : CutB 19 [] := trivial
  repeat' (first | ((first | refine pC ?_ | refine pQC ?_ | refine pU ?_); push_cast [iO, tN]) | (refine pif (fun h => ?_) (fun h => ?_) <;> first | exact pN h | push_cast [iO, tN]))
  refine pl_weak (weak_adopt_box 1 0 49 10 (by omega) 47 [.v (.slice none 0 0)] rfl rfl) ?_
  push_cast [iO, tN]
  (refine plc [0] (nex 0 (by omega) 6 (by decide) (by decide)) ?_ ?_; push_cast [iO, tN]; rintro r os ⟨z, ⟨za, zb⟩, rfl, rfl⟩; push_cast [iO, tN])
  obtain ⟨n, rfl⟩ : ∃ n : Nat, z = n := ⟨z.toNat, by omega⟩
  have hn : n < 6 := by omega
  repeat' (first | ((first | refine pC ?_ | refine pQC ?_ | refine pU ?_); push_cast [iO, tN]) | (refine pif (fun h => ?_) (fun h => ?_) <;> first | exact pN h | push_cast [iO, tN]))
  (apply pwp_loop3 (α := Nat) 19 [] (fun i => [(7, .c (.v (.int .i64 i))), (5, .c (.sl 1 (nm5.map strD)))]) (fun i => [(1, .box 47 [.own 2 i]), (2, .arr 49 10 ((netsK i).map Dev.d))]) (fun i => i ≤ n) (fun i => n - i) (0); (focus ((try push_cast [iO, tN]); rfl)); (focus exact (Nat.zero_le _)); (focus ((refine weak_fg ?_; try push_cast [iO, tN]); (try (exact ⟨rfl, rfl⟩)))))
  intro i hi
  have hKl := netsK_len i
  push_cast [iO, tN]
  by_cases hlt : i < n
  · have hKs := netsK_succ i
    have hl5 : nm5.getD i default = lt5 i := rfl
    repeat' (first | (refine hidR 8 ?_) | (refine pwp_seq fun K hK => ?_) | ((first | refine pC ?_ | refine pQC ?_ | refine pU ?_); push_cast [iO, tN, hn5, hl5, hKl]) | (refine pif (fun h => ?_) (fun h => ?_) <;> first | exact pN h | push_cast [iO, tN, hn5, hl5, hKl]))
    refine unhid ?_
    (refine pwp_cut 19 [] ?_; refine pwp_drawn (by kernel_rfl) ?_; simp only [List.length_cons, List.length_nil, Nat.reduceAdd]; refine pah 0 ?_; push_cast [iO, tN,  hn5, hl5, hKl]; refine pah 2 ?_; push_cast [iO, tN,  hn5, hl5, hKl]; refine pah 3 ?_; push_cast [iO, tN,  hn5, hl5, hKl]; refine pah 4 ?_; push_cast [iO, tN,  hn5, hl5, hKl]; refine pah 5 ?_; push_cast [iO, tN,  hn5, hl5, hKl]; refine pah 6 ?_; push_cast [iO, tN,  hn5, hl5, hKl]; refine pah 8 ?_; push_cast [iO, tN,  hn5, hl5, hKl]; refine pah 9 ?_; push_cast [iO, tN,  hn5, hl5, hKl]; refine pah 10 ?_; push_cast [iO, tN,  hn5, hl5, hKl]; apply pa_hav; intro z11; apply pa_hav; intro z10; apply pa_hav; intro z9; apply pa_hav; intro z7; apply pa_hav; intro z8; apply pa_hav; intro z6; apply pa_hav; intro z4; apply pa_hav; intro z5; apply pa_hav; intro z1; apply pa_hav; intro z2; apply pa_hav; intro z3; refine pas [1, 7, 11] ?_; push_cast [iO, tN,  hn5, hl5, hKl]; refine ⟨z1, z2, z3⟩; refine pas [1, 7] ?_; push_cast [iO, tN,  hn5, hl5, hKl]; refine ⟨?_, ?_⟩; (focus (exact z5)); (focus (refine pah 12 ?_; push_cast [iO, tN,  hn5, hl5, hKl]; exact z6)); refine pas [1, 11] ?_; push_cast [iO, tN,  hn5, hl5, hKl]; refine ⟨?_, ?_⟩; (focus (exact z4)); (focus (refine pah 12 ?_; push_cast [iO, tN,  hn5, hl5, hKl]; refine paw z6 ?_; refine weak_fg ?_; push_cast [iO, tN,  hn5, hl5, hKl])); refine pas [7, 11] ?_; push_cast [iO, tN,  hn5, hl5, hKl]; refine ⟨paw z4 ?_, paw z5 ?_⟩ <;> (refine weak_fg ?_; push_cast [iO, tN,  hn5, hl5, hKl]); refine pas [7] ?_; push_cast [iO, tN,  hn5, hl5, hKl]; (focus (refine pah 12 ?_; push_cast [iO, tN,  hn5, hl5, hKl]; exact z7)); refine pas [11] ?_; push_cast [iO, tN,  hn5, hl5, hKl]; (focus (refine pah 12 ?_; push_cast [iO, tN,  hn5, hl5, hKl]; refine paw z7 ?_; refine weak_fg ?_; push_cast [iO, tN,  hn5, hl5, hKl])); refine pas [1, 13] ?_; push_cast [iO, tN,  hn5, hl5, hKl]; refine ⟨paw z7 ?_, z8⟩ <;> (refine weak_fg ?_; push_cast [iO, tN,  hn5, hl5, hKl]); refine pas [1] ?_; push_cast [iO, tN,  hn5, hl5, hKl]; refine z9; refine pas [13] ?_; push_cast [iO, tN,  hn5, hl5, hKl]; refine paw z9 ?_ <;> (refine weak_fg ?_; push_cast [iO, tN,  hn5, hl5, hKl]); refine pas [14] ?_; push_cast [iO, tN,  hn5, hl5, hKl]; (focus (refine pah 15 ?_; push_cast [iO, tN,  hn5, hl5, hKl]; exact z10)); refine pas [16] ?_; push_cast [iO, tN,  hn5, hl5, hKl]; refine paw z11 (weak_cutS 19 [] _); push_cast [iO, tN,  hn5, hl5, hKl]; refine pad ?_; push_cast [iO, tN,  hn5, hl5, hKl])
    refine pU ?_
    refine pwp_weak (weak_last 2 (Dev.d (netD ((i : Int) + 1) (lt5 i) (lt5 i))) rfl (by simp [netD, Dev.d, leDs, leD, isEmp])) ?_
    push_cast [iO, tN]
    repeat' (first | ((first | refine pC ?_ | refine pQC ?_ | refine pU ?_); push_cast [iO, tN]) | (refine pif (fun h => ?_) (fun h => ?_) <;> first | exact pN h | push_cast [iO, tN]))
    exact ⟨i + 1, by omega, by (refine weak_fg ?_; push_cast [iO, tN, hKs]), by omega⟩
  have hi2 : i = n := by omega
  subst hi2
  have htk := lt5_take i hn
  have hml : ((List.range i).map lt5).length = i := by simp
  repeat' (first | ((first | refine pC ?_ | refine pQC ?_ | refine pU ?_); push_cast [iO, tN, hn5, htk, List.length_range]) | (refine pif (fun h => ?_) (fun h => ?_) <;> first | exact pN h | push_cast [iO, tN, hn5, htk, List.length_range]))
  (apply pwp_loop3 (α := Nat × List Nat × Nat) 19 [] (fun x => [(9, .c (.v (.int .i64 x.1))), (8, .c (.own 3 i))]) (fun x => [(0, tape L x.2.2), (3, .arr 9 1 ((x.2.1.map lt5).map strD))]) (fun x => x.1 ≤ i ∧ PermI i x.2.1 ∧ x.2.2 = 1 + x.1) (fun x => i - x.1) ((0, List.range i, 1)); (focus ((try push_cast [iO, tN]); rfl)); (focus exact ⟨Nat.zero_le _, PermI.range i, rfl⟩); (focus ((refine weak_fg ?_; try push_cast [iO, tN]); (try (rfl)))))
  rintro ⟨j, pm, q⟩ ⟨hj, hpm, hq⟩
  simp only at hj hpm hq
  have hpl := hpm.len
  have hml2 : (pm.map lt5).length = i := by rw [List.length_map, hpl]
  push_cast [iO, tN]
  by_cases hjt : j < i
  · repeat' (first | ((refine plc [0] (nex q (by omega) ((i : Int) - (j : Int)) (by omega) (by omega)) ?_ ?_; push_cast [iO, tN, hml2]; rintro r os ⟨z, ⟨za, zb⟩, rfl, rfl⟩; push_cast [iO, tN, hml2])) | (refine hidR 14 ?_) | (refine pwp_seq fun K hK => ?_) | ((first | refine pC ?_ | refine pQC ?_ | refine pU ?_); push_cast [iO, tN, hml2]) | (refine pif (fun h => ?_) (fun h => ?_) <;> first | exact pN h | push_cast [iO, tN, hml2]))
    obtain ⟨m, hm⟩ : ∃ m : Nat, (j : Int) + z = (m : Int) := ⟨((j : Int) + z).toNat, by omega⟩
    have hmi : m < i := by omega
    have hg1 := map_getD0 pm (i := j) (by omega)
    have hg2 := map_getD0 pm (i := m) (by omega)
    have hsw := swp_rows2 pm (j := j) (m := m) (by omega) (by omega)
    rw [hm]
    refine unhid ?_
    (refine pwp_cut 19 [] ?_; refine pwp_drawn (by kernel_rfl) ?_; simp only [List.length_cons, List.length_nil, Nat.reduceAdd]; refine pah 0 ?_; push_cast [iO, tN,  hml2, hg1, hg2]; refine pah 1 ?_; push_cast [iO, tN,  hml2, hg1, hg2]; refine pah 2 ?_; push_cast [iO, tN,  hml2, hg1, hg2]; refine pah 3 ?_; push_cast [iO, tN,  hml2, hg1, hg2]; refine pah 4 ?_; push_cast [iO, tN,  hml2, hg1, hg2]; refine pah 5 ?_; push_cast [iO, tN,  hml2, hg1, hg2]; refine pah 6 ?_; push_cast [iO, tN,  hml2, hg1, hg2]; refine pah 8 ?_; push_cast [iO, tN,  hml2, hg1, hg2]; refine pah 9 ?_; push_cast [iO, tN,  hml2, hg1, hg2]; refine pah 10 ?_; push_cast [iO, tN,  hml2, hg1, hg2]; apply pa_hav; intro z5; apply pa_hav; intro z4; apply pa_hav; intro z3; apply pa_hav; intro z1; apply pa_hav; intro z2; refine pas [7, 11] ?_; push_cast [iO, tN,  hml2, hg1, hg2]; refine ⟨z1, z2⟩; refine pas [7] ?_; push_cast [iO, tN,  hml2, hg1, hg2]; (focus (refine pah 12 ?_; push_cast [iO, tN,  hml2, hg1, hg2]; exact z3)); refine pas [11] ?_; push_cast [iO, tN,  hml2, hg1, hg2]; (focus (refine pah 12 ?_; push_cast [iO, tN,  hml2, hg1, hg2]; refine paw z3 ?_; refine weak_fg ?_; push_cast [iO, tN,  hml2, hg1, hg2])); refine pas [13] ?_; push_cast [iO, tN,  hml2, hg1, hg2]; (focus (refine pah 14 ?_; push_cast [iO, tN,  hml2, hg1, hg2]; exact z4)); refine pas [15] ?_; push_cast [iO, tN,  hml2, hg1, hg2]; refine paw z5 (weak_cutS 19 [] _); push_cast [iO, tN,  hml2, hg1, hg2]; refine pad ?_; push_cast [iO, tN,  hml2, hg1, hg2])
    repeat' (first | ((first | refine pC ?_ | refine pQC ?_ | refine pU ?_); push_cast [iO, tN]) | (refine pif (fun h => ?_) (fun h => ?_) <;> first | exact pN h | push_cast [iO, tN]))
    exact ⟨(j + 1, swp pm j m, q + 1), ⟨by simp only; omega, hpm.swp hjt hmi, by simp only; omega⟩, by (refine weak_fg ?_; push_cast [iO, tN, hsw]), by simp only; omega⟩
  have hj2 : j = i := by omega
  subst hj2
  have hgood := hpm.good hn
  have hrb : List.replicate j [D.v (.bool false)] = (List.replicate j false).map boolD := by rw [List.map_replicate]; rfl
  repeat' (first |  (refine pl_makeR (n := j) (kx := .i64) (kz := .i64) (by' := 1) (e := 4) (sz := 1) (zs := [.v (.bool false)]) (ds := [.v (.bool false)]) rfl rfl (by push_cast [iO, tN]) rfl (by kernel_rfl) (by kernel_rfl) rfl rfl (by omega) (by push_cast [iO, tN]) (by push_cast [iO, tN]) (by omega) (by omega) ?_; simp only [hrb]; push_cast [iO, tN]; refine pl_of_pops ?_; push_cast [iO, tN])  | ((first | refine pC ?_ | refine pQC ?_ | refine pU ?_); push_cast [iO, tN]) | (refine pif (fun h => ?_) (fun h => ?_) <;> first | exact pN h | push_cast [iO, tN]))
  refine pwp_weak (weak_adopt 11 33 2 (by omega) (by push_cast [iO, tN])) ?_
  push_cast [iO, tN]
  (apply pwp_loop3 (α := Nat) 19 [] (fun i => [(15, .c (.v (.int .i64 i))), (12, .c (.v (.int .i64 (wrongR pm i)))), (13, .c (.v (.int .i64 ((ringR pm j i).2)))), (11, .c (.own 5 i))]) (fun i => [(4, .arr 4 1 ((ringR pm j i).1.map boolD)), (5, .arr 33 2 ((wantR pm i).map Atr.d))]) (fun i => i ≤ j) (fun i => j - i) (0); (focus ((try push_cast [iO, tN]); rfl)); (focus exact (Nat.zero_le _)); (focus ((refine weak_fg ?_; try push_cast [iO, tN]); (try (exact ⟨⟨rfl, rfl⟩, hrb, rfl⟩)))))
  intro i hi
  push_cast [iO, tN]
  by_cases hit : i < j
  case neg =>
    have hij : i = j := by omega
    subst hij
    have hwl := wantR_len pm i
    have hwle := wrongR_le pm i
    obtain ⟨hrl, hrc⟩ := ringR_inv hpm i (by omega)
    unfold goodR at hgood
    simp only [Bool.and_eq_true, decide_eq_true_eq] at hgood
    obtain ⟨⟨g1, g2⟩, g3, g4⟩ := hgood
    have hpn := nowP_size (netsR i)
    have hnl : (netsR i).length = i := netsK_len i
    have hP := plan_ok (netsR i) (wantR pm i) (okpB_ok g1) (by omega) (fun d hd => by
      obtain ⟨m, hm, rfl⟩ := List.mem_map.1 hd
      have := lt5_size m (by have := List.mem_range.1 hm; omega)
      show (lt5 m).size ≤ 1000
      omega) (fun x hx => by
      obtain ⟨m, hm, rfl⟩ := List.mem_map.1 hx
      have := lt5_size (pm.getD m 0) (by have := hpm.lt m (List.mem_range.1 hm); omega)
      show (lt5 (pm.getD m 0)).size ≤ 9223372036854775807
      omega) g2 (planB_ok g3) (by omega)
    obtain ⟨PL, hPL⟩ : ∃ PL, planOf (wantR pm i) (nowP (netsR i)) = PL := ⟨_, rfl⟩
    rw [hPL] at hP g4
    have hnn : netsR i = netsK i := rfl
    rw [hnn] at hP
    simp only [trE] at hP
    have g4i : (PL.length : Int) = (wrongR pm i : Int) + ((ringR pm i i).2 : Int) := by omega
    refine pwp_weak (weak_frz 5 (by omega)) ?_
    push_cast [iO, tN]
    refine pwp_weak (weak_frz 2 (by omega)) ?_
    push_cast [iO, tN, hKl]
    have htk1 : List.take i ((netsK i).map Dev.d) = (netsK i).map Dev.d := List.take_of_length_le (by rw [List.length_map, hKl]; exact Nat.le_refl _)
    have htk2 : List.take i ((wantR pm i).map Atr.d) = (wantR pm i).map Atr.d := List.take_of_length_le (by rw [List.length_map, hwl]; exact Nat.le_refl _)
    repeat' (first | ((refine plc [] (hP) ?_ ?_; push_cast [iO, tN, htk1, htk2, g4i]; rintro r os ⟨rfl, rfl⟩; push_cast [iO, tN, htk1, htk2, g4i])) | ((refine plc [] (known23_pure) ?_ ?_; push_cast [iO, tN, htk1, htk2, g4i]; rintro r os ⟨rfl, rfl⟩; push_cast [iO, tN, htk1, htk2, g4i])) | ((first | refine pC ?_ | refine pQC ?_ | refine pU ?_); push_cast [iO, tN, htk1, htk2, g4i]) | (refine pif (fun h => ?_) (fun h => ?_) <;> first | exact pN h | push_cast [iO, tN, htk1, htk2, g4i]))
    (refine retK_of [] ?_; push_cast [iO, tN])
  have hwl := wantR_len pm i
  have hws := wantR_succ pm i
  have hwr := wrongR_succ pm i
  have hwle := wrongR_le pm i
  obtain ⟨hrl, hrc⟩ := ringR_inv hpm i (by omega)
  have hrs : ringR pm j (i + 1) = (rIt pm i (cf (ringR pm j i).1) (i, ringR pm j i)).2 := rfl
  obtain ⟨S0, r0, hS0⟩ : ∃ S0 r0, ringR pm j i = (S0, r0) := ⟨_, _, rfl⟩
  rw [hS0] at hrl hrc hrs ⊢
  simp only at hrl hrc hrs ⊢
  have hl5 : nm5.getD i default = lt5 i := rfl
  have hsz := lt5_size i (by omega)
  have hs1 : (⟨#[47]⟩ : ByteArray).size = 1 := rfl
  have hpd : pm.getD i default = pm.getD i 0 := rfl
  have hplt := hpm.lt i hit
  obtain ⟨pi, hpi⟩ : ∃ pi, pm.getD i 0 = pi := ⟨_, rfl⟩
  rw [hpi] at hws hwr hpd hplt
  repeat' (first | (refine hidR 21 ?_) | (refine pwp_seq fun K hK => ?_) | ((first | refine pC ?_ | refine pQC ?_ | refine pU ?_); push_cast [iO, tN, hn5, hl5, hsz, hs1, hpl, hpd]) | (refine pif (fun h => ?_) (fun h => ?_) <;> first | exact pN h | push_cast [iO, tN, hn5, hl5, hsz, hs1, hpl, hpd]))
  refine unhid ?_
  (refine pwp_cut 19 [] ?_; refine pwp_drawn (by kernel_rfl) ?_; simp only [List.length_cons, List.length_nil, Nat.reduceAdd]; refine pah 0 ?_; push_cast [iO, tN,  hn5, hl5, hsz, hs1, hpl, hpd, hwl]; refine pah 1 ?_; push_cast [iO, tN,  hn5, hl5, hsz, hs1, hpl, hpd, hwl]; refine pah 2 ?_; push_cast [iO, tN,  hn5, hl5, hsz, hs1, hpl, hpd, hwl]; refine pah 3 ?_; push_cast [iO, tN,  hn5, hl5, hsz, hs1, hpl, hpd, hwl]; refine pah 6 ?_; push_cast [iO, tN,  hn5, hl5, hsz, hs1, hpl, hpd, hwl]; refine pah 7 ?_; push_cast [iO, tN,  hn5, hl5, hsz, hs1, hpl, hpd, hwl]; refine pah 8 ?_; push_cast [iO, tN,  hn5, hl5, hsz, hs1, hpl, hpd, hwl]; apply pa_hav; intro z5; apply pa_hav; intro z4; apply pa_hav; intro z3; apply pa_hav; intro z1; apply pa_hav; intro z2; refine pas [4, 9] ?_; push_cast [iO, tN,  hn5, hl5, hsz, hs1, hpl, hpd, hwl]; refine ⟨?_, ?_⟩; (focus (refine pah 5 ?_; push_cast [iO, tN,  hn5, hl5, hsz, hs1, hpl, hpd, hwl]; exact z1)); (focus (exact z2)); refine pas [4] ?_; push_cast [iO, tN,  hn5, hl5, hsz, hs1, hpl, hpd, hwl]; (focus (refine pah 5 ?_; push_cast [iO, tN,  hn5, hl5, hsz, hs1, hpl, hpd, hwl]; refine pah 10 ?_; push_cast [iO, tN,  hn5, hl5, hsz, hs1, hpl, hpd, hwl]; exact z3)); refine pas [9] ?_; push_cast [iO, tN,  hn5, hl5, hsz, hs1, hpl, hpd, hwl]; (focus (refine pah 10 ?_; push_cast [iO, tN,  hn5, hl5, hsz, hs1, hpl, hpd, hwl]; refine paw z3 ?_; refine weak_fg ?_; push_cast [iO, tN,  hn5, hl5, hsz, hs1, hpl, hpd, hwl])); refine pas [11] ?_; push_cast [iO, tN,  hn5, hl5, hsz, hs1, hpl, hpd, hwl]; refine z4; refine pas [12] ?_; push_cast [iO, tN,  hn5, hl5, hsz, hs1, hpl, hpd, hwl]; (focus (refine pah 13 ?_; push_cast [iO, tN,  hn5, hl5, hsz, hs1, hpl, hpd, hwl]; exact paw z5 (weak_cutS 19 [] _))); push_cast [iO, tN,  hn5, hl5, hsz, hs1, hpl, hpd, hwl]; refine pad ?_; push_cast [iO, tN,  hn5, hl5, hsz, hs1, hpl, hpd, hwl])
  have hlt5 := lt5_inj pi i (by omega) (by omega)
  have hiI : pm.getD i 0 ≠ i ↔ pi ≠ i := by rw [hpi]
  by_cases hpe : pi = i
  · subst hpe
    have hnn : (lt5 pi ≠ lt5 pi) = False := by simp
    rw [if_pos rfl] at hwr
    have hst := rIt_stop (pm := pm) (i := pi) (cf S0) (k := pi) (seen := S0) (r := r0) (fun h => h.2 hpi)
    rw [hst] at hrs
    simp only at hrs
    repeat' (first | ((first | refine pC ?_ | refine pQC ?_ | refine pU ?_); push_cast [iO, tN, hn5, hl5, hpl, hpd, hnn]) | (refine pif (fun h => ?_) (fun h => ?_) <;> first | exact pN h | push_cast [iO, tN, hn5, hl5, hpl, hpd, hnn]))
    (apply pwp_loop3 (α := Nat) 19 [] (fun x => []) (fun x => []) (fun x => x = 0) (fun x => 0) (0); (focus ((try push_cast [iO, tN]); rfl)); (focus exact rfl); (focus ((refine weak_fg ?_; try push_cast [iO, tN]); (try (skip)))))
    intro x hx
    push_cast [iO, tN]
    cases hsk : S0.getD pi default with
    | true =>
      repeat' (first | ((first | refine pC ?_ | refine pQC ?_ | refine pU ?_); push_cast [iO, tN, hsk, hrl]) | (refine pif (fun h => ?_) (fun h => ?_) <;> first | exact pN h | push_cast [iO, tN, hsk, hrl]))
      exact ⟨pi + 1, by omega, by (refine weak_fg ?_; push_cast [iO, tN, hws, hwr, hrs]), by omega⟩
    | false =>
      repeat' (first | ((first | refine pC ?_ | refine pQC ?_ | refine pU ?_); push_cast [iO, tN, hsk, hrl, hn5, hl5, hpl, hpd, hnn]) | (refine pif (fun h => ?_) (fun h => ?_) <;> first | exact pN h | push_cast [iO, tN, hsk, hrl, hn5, hl5, hpl, hpd, hnn]))
      exact ⟨pi + 1, by omega, by (refine weak_fg ?_; push_cast [iO, tN, hws, hwr, hrs]), by omega⟩
  · have hne5 : ¬ lt5 pi = lt5 i := fun e => hpe (hlt5.1 e)
    rw [if_neg hpe] at hwr
    repeat' (first | ((first | refine pC ?_ | refine pQC ?_ | refine pU ?_); push_cast [iO, tN, hn5, hl5, hpl, hpd, hne5]) | (refine pif (fun h => ?_) (fun h => ?_) <;> first | exact pN h | push_cast [iO, tN, hn5, hl5, hpl, hpd, hne5]))
    (apply pwp_loop3 (α := Nat × List Bool × Nat) 19 [] (fun x => [(16, .c (.v (.int .i64 x.1))), (13, .c (.v (.int .i64 x.2.2)))]) (fun x => [(4, .arr 4 1 (x.2.1.map boolD))]) (fun x => x.1 < j ∧ x.2.1.length = j ∧ rIt pm i (cf x.2.1) x = rIt pm i (cf S0) (i, S0, r0) ∧ x.2.2 + cf x.2.1 ≤ j) (fun x => cf x.2.1) ((i, S0, r0)); (focus ((try push_cast [iO, tN]); rfl)); (focus exact ⟨hit, hrl, rfl, hrc⟩); (focus ((refine weak_fg ?_; try push_cast [iO, tN]); (try (skip)))))
    rintro ⟨k, seen, r⟩ ⟨hk, hsl, hT, hrcf⟩
    simp only at hk hsl hT hrcf
    push_cast [iO, tN]
    cases hsk : seen.getD k default with
    | true =>
      have hstop := rIt_stop (pm := pm) (i := i) (cf seen) (k := k) (seen := seen) (r := r) (fun h => by rw [show seen.getD k false = seen.getD k default from rfl, hsk] at h; cases h.1)
      rw [hstop] at hT
      rw [← hT] at hrs
      simp only at hrs
      repeat' (first | ((first | refine pC ?_ | refine pQC ?_ | refine pU ?_); push_cast [iO, tN, hsk, hsl]) | (refine pif (fun h => ?_) (fun h => ?_) <;> first | exact pN h | push_cast [iO, tN, hsk, hsl]))
      exact ⟨i + 1, by omega, by (refine weak_fg ?_; push_cast [iO, tN, hws, hwr, hrs]), by omega⟩
    | false =>
      have hgo : seen.getD k false = false ∧ pm.getD i 0 ≠ i := ⟨hsk, by rw [hpi]; exact hpe⟩
      have hcf := cf_set (by omega) hgo.1
      rw [hcf, rIt_step hgo] at hT
      have hkp := hpm.lt k hk
      have hid := idx5_pure (pm.getD k 0) (by omega)
      have hX : (seen.map boolD).set k [.v (.bool true)] = (seen.set k true).map boolD := by rw [List.map_set]; rfl
      have hsl2 : (seen.set k true).length = j := by rw [List.length_set]; exact hsl
      obtain ⟨pk, hpk⟩ : ∃ pk, pm.getD k 0 = pk := ⟨_, rfl⟩
      have hpkd : pm.getD k default = pk := hpk
      rw [hpk] at hT hkp hid
      by_cases hki : k = i
      · rw [if_pos hki] at hT
        subst hki
        have hpp : pk = pi := by rw [← hpk, hpi]
        subst hpp
        repeat' (first | ((refine plc [] (hid) ?_ ?_; push_cast [iO, tN, hsk, hsl, hn5, hl5, hpl, hpd, hne5, hpkd]; rintro r os ⟨rfl, rfl⟩; push_cast [iO, tN, hsk, hsl, hn5, hl5, hpl, hpd, hne5, hpkd])) | ((first | refine pC ?_ | refine pQC ?_ | refine pU ?_); push_cast [iO, tN, hsk, hsl, hn5, hl5, hpl, hpd, hne5, hpkd]) | (refine pif (fun h => ?_) (fun h => ?_) <;> first | exact pN h | push_cast [iO, tN, hsk, hsl, hn5, hl5, hpl, hpd, hne5, hpkd]))
        exact ⟨(pk, seen.set k true, r + 1), ⟨hkp, hsl2, hT, by simp only; omega⟩, by (refine weak_fg ?_; push_cast [iO, tN]), by simp only; omega⟩
      · rw [if_neg hki] at hT
        have hkiI : ¬ (k : Int) = (i : Int) := by omega
        repeat' (first | ((refine plc [] (hid) ?_ ?_; push_cast [iO, tN, hsk, hsl, hn5, hl5, hpl, hpd, hne5, hkiI, hki, hpkd]; rintro r os ⟨rfl, rfl⟩; push_cast [iO, tN, hsk, hsl, hn5, hl5, hpl, hpd, hne5, hkiI, hki, hpkd])) | ((first | refine pC ?_ | refine pQC ?_ | refine pU ?_); push_cast [iO, tN, hsk, hsl, hn5, hl5, hpl, hpd, hne5, hkiI, hki, hpkd]) | (refine pif (fun h => ?_) (fun h => ?_) <;> first | exact pN h | push_cast [iO, tN, hsk, hsl, hn5, hl5, hpl, hpd, hne5, hkiI, hki, hpkd]))
        exact ⟨(pk, seen.set k true, r), ⟨hkp, hsl2, hT, by simp only; omega⟩, by (refine weak_fg ?_; push_cast [iO, tN]), by simp only; omega⟩
end Go.Proofs.YthconflkbeipoaaGreatDoor
