/- What the program computes, and the plain laws of it, part 38. -/
import Derived.Test.YtcnoopjacilceaaGreatDoorQ37
namespace Go.Proofs.YtcnoopjacilceaaGreatDoor
attribute [local irreducible] PL QL PWPr PCalls Weak RetK Kontr PA
open Go.RowKit
open IntWalk renaming iteOmega → iO, toNatUp → tN
set_option linter.unusedVariables false
set_option linter.unusedSimpArgs false
set_option maxRecDepth 20000
theorem getD_memW (l : List Dev) {i : Nat} (hi : i < l.length) : l.getD i default ∈ l := by rw [getD_lt l hi]; exact List.getElem_mem _
theorem recF_mem {rs : List Rec} {n : Int} {p : ByteArray} {x : Rec} (h : recF rs n p = some x) : x ∈ rs := List.mem_of_find?_eq_some h
set_option maxHeartbeats 8000000 in
theorem want_pure (l : List Dev) (rs : List Rec) (nx : Int) (s : List Ses) (h : Okp l) (hl : l.length ≤ 1000) (hz : ∀ d ∈ l, d.original.size ≤ 1000) (ha : ∀ d ∈ l, d.attrs.length ≤ 1000000000) (hr : RecsOk rs) (hs : s.length ≤ 1000000) :
    PCalls Tryz.prog 9 [.agg (trE l), .c (.sl 12 (rs.map Rec.d)), .agg (sesE nx s)] [] fun r os => r = .c (.sl 3 ((wantM l rs s).map Acc.d)) ∧ os = [] := by
  refine pcalls_of Tryz.func9 rfl (by simp [Tryz.ntmps9]) ?_
  rw [Tryz.ntmps9, Tryz.results9]
  push_cast [iO, tN]
  have cB : CutB 17 [18, 19, 20] := trivial
  repeat' (first | ((first | refine pC ?_ | refine pQC ?_ | refine pU ?_); push_cast [iO, tN]) | (refine pif (fun h => ?_) (fun h => ?_) <;> first | exact pN h | push_cast [iO, tN]))
  refine pwp_weak (weak_adopt 7 43 3 (by omega) (by push_cast [iO, tN])) ?_
  push_cast [iO, tN]
  (apply pwp_loop3 (α := Nat) 17 [18, 19, 20] (fun k => [(20, .c (.v (.int .i64 k))), (7, .c (.own 2 (wantK l rs s k).length))]) (fun k => [(2, .arr 43 3 ((wantK l rs s k).map Acc.d))]) (fun k => k ≤ l.length) (fun k => l.length - k) (0); (focus ((try push_cast [iO, tN]); rfl)); (focus exact (Nat.zero_le _)); (focus ((refine weak_fg ?_; try push_cast [iO, tN]); (try (exact ⟨rfl, rfl⟩)))))
  intro k hk
  push_cast [iO, tN]
  by_cases hlt : k < l.length
  case neg =>
    have hk2 := wantK_all l rs s (k := k) (by omega)
    have hwl := wantK_len l rs s k
    refine pwp_weak (weak_frz 2 (by omega)) ?_
    push_cast [iO, tN]
    repeat' (first | ((first | refine pC ?_ | refine pQC ?_ | refine pU ?_); push_cast [iO, tN]) | (refine pif (fun h => ?_) (fun h => ?_) <;> first | exact pN h | push_cast [iO, tN]))
    (refine retK_of [] ?_; push_cast [iO, tN, hk2])
  have hm := getD_memW l hlt
  obtain ⟨d, hd⟩ : ∃ d, l.getD k default = d := ⟨_, rfl⟩
  rw [hd] at hm
  have hfd := findD_mem h.nodup hm
  have hor := origin_pure l d.index h hl hz
  rw [hfd] at hor
  simp only [Option.isSome_some] at hor
  have hfr := findR_pure rs d.index (placeM l d.index) (by have := hr.len; omega)
  have hno := node_pure d (by have := hz d hm; omega)
  have hof := seatOf_pure l rs d.index h hl hz ha hr
  have hus := user_pure nx s (seatM l rs d.index) hs
  have hT := recT_some (rs := rs) hfd
  have hwl := wantK_len l rs s k
  have hmem : (2 ∈ ([] : List Nat)) = False := eq_false (by simp)
  have hwt : wantQ l rs s (l.getD k default) = true → wantK l rs s (k + 1) = wantK l rs s k ++ [wantA l rs s (l.getD k default)] := wantK_t hlt
  have hwf : wantQ l rs s (l.getD k default) = false → wantK l rs s (k + 1) = wantK l rs s k := wantK_f hlt
  rw [hd] at hwt hwf
  obtain ⟨u, hu⟩ : ∃ u, wantK l rs s k = u := ⟨_, rfl⟩
  rw [hu] at hwt hwf hwl ⊢
  obtain ⟨us, huss⟩ : ∃ us, userM s (seatM l rs d.index) = us := ⟨_, rfl⟩
  have hA : wantA l rs s d = ⟨placeM l d.index, nodeM d, us⟩ := by unfold wantA; rw [huss]
  have hQ : wantQ l rs s d = ((hasN d && tagQ l rs d.index ⟨#[117, 97, 99, 99, 101, 115, 115]⟩) && !decide (us = ⟨#[]⟩)) := by unfold wantQ; rw [huss]
  rw [huss] at hus
  rw [hA] at hwt
  obtain ⟨st, hst⟩ : ∃ st, seatM l rs d.index = st := ⟨_, rfl⟩
  rw [hst] at hof hus
  obtain ⟨pl, hpl⟩ : ∃ pl, placeM l d.index = pl := ⟨_, rfl⟩
  rw [hpl] at hor hfr hT hwt
  obtain ⟨nd, hnd⟩ : ∃ nd, nodeM d = nd := ⟨_, rfl⟩
  rw [hnd] at hno hwt
  simp only [Dev.e, Dev.w] at hno
  cases hR : recF rs d.index pl with
  | none =>
    rw [hR] at hfr hT
    simp only [Option.getD_none, Option.isSome_none] at hfr
    have hw := hwf (by rw [hQ]; unfold tagQ; rw [hT]; simp)
    repeat' (first | ((refine plc [] (hor) ?_ ?_; push_cast [iO, tN, hd]; rintro r os ⟨rfl, rfl⟩; push_cast [iO, tN, hd])) | ((refine plc [] (hfr) ?_ ?_; push_cast [iO, tN, hd]; rintro r os ⟨rfl, rfl⟩; push_cast [iO, tN, hd])) | ((refine plc [] (hno) ?_ ?_; push_cast [iO, tN, hd]; rintro r os ⟨rfl, rfl⟩; push_cast [iO, tN, hd])) | ((first | refine pC ?_ | refine pQC ?_ | refine pU ?_); push_cast [iO, tN, hd]) | (refine pif (fun h => ?_) (fun h => ?_) <;> first | exact pN h | push_cast [iO, tN, hd]))
    exact ⟨k + 1, by omega, by (refine weak_fg ?_; push_cast [iO, tN, hw, hmem]), by omega⟩
  | some x =>
    rw [hR] at hfr hT
    simp only [Option.getD_some, Option.isSome_some] at hfr
    have hx := hr.tags x (recF_mem hR)
    have hct := scontains_pure x.tags ⟨#[117, 97, 99, 99, 101, 115, 115]⟩ (by omega)
    have hTg : tagQ l rs d.index ⟨#[117, 97, 99, 99, 101, 115, 115]⟩ = inM ⟨#[117, 97, 99, 99, 101, 115, 115]⟩ x.tags := by unfold tagQ; rw [hT]
    rw [hTg] at hQ
    cases hN : hasN d with
    | false =>
      rw [hN] at hno hQ
      have hw := hwf (by rw [hQ]; rfl)
      repeat' (first | ((refine plc [] (hor) ?_ ?_; push_cast [iO, tN, hd]; rintro r os ⟨rfl, rfl⟩; push_cast [iO, tN, hd])) | ((refine plc [] (hfr) ?_ ?_; push_cast [iO, tN, hd]; rintro r os ⟨rfl, rfl⟩; push_cast [iO, tN, hd])) | ((refine plc [] (hno) ?_ ?_; push_cast [iO, tN, hd]; rintro r os ⟨rfl, rfl⟩; push_cast [iO, tN, hd])) | ((first | refine pC ?_ | refine pQC ?_ | refine pU ?_); push_cast [iO, tN, hd]) | (refine pif (fun h => ?_) (fun h => ?_) <;> first | exact pN h | push_cast [iO, tN, hd]))
      exact ⟨k + 1, by omega, by (refine weak_fg ?_; push_cast [iO, tN, hw, hmem]), by omega⟩
    | true =>
      rw [hN] at hno hQ
      cases hI : inM ⟨#[117, 97, 99, 99, 101, 115, 115]⟩ x.tags with
      | false =>
        rw [hI] at hct hQ
        have hw := hwf (by rw [hQ]; rfl)
        repeat' (first | ((refine plc [] (hor) ?_ ?_; push_cast [iO, tN, hd]; rintro r os ⟨rfl, rfl⟩; push_cast [iO, tN, hd])) | ((refine plc [] (hfr) ?_ ?_; push_cast [iO, tN, hd]; rintro r os ⟨rfl, rfl⟩; push_cast [iO, tN, hd])) | ((refine plc [] (hno) ?_ ?_; push_cast [iO, tN, hd]; rintro r os ⟨rfl, rfl⟩; push_cast [iO, tN, hd])) | ((refine plc [] (hct) ?_ ?_; push_cast [iO, tN, hd]; rintro r os ⟨rfl, rfl⟩; push_cast [iO, tN, hd])) | ((first | refine pC ?_ | refine pQC ?_ | refine pU ?_); push_cast [iO, tN, hd]) | (refine pif (fun h => ?_) (fun h => ?_) <;> first | exact pN h | push_cast [iO, tN, hd]))
        exact ⟨k + 1, by omega, by (refine weak_fg ?_; push_cast [iO, tN, hw, hmem]), by omega⟩
      | true =>
        rw [hI] at hct hQ
        by_cases hU : us = ⟨#[]⟩
        · have hw := hwf (by rw [hQ, decide_eq_true hU]; rfl)
          repeat' (first | ((refine plc [] (hor) ?_ ?_; push_cast [iO, tN, hd, hU]; rintro r os ⟨rfl, rfl⟩; push_cast [iO, tN, hd, hU])) | ((refine plc [] (hfr) ?_ ?_; push_cast [iO, tN, hd, hU]; rintro r os ⟨rfl, rfl⟩; push_cast [iO, tN, hd, hU])) | ((refine plc [] (hno) ?_ ?_; push_cast [iO, tN, hd, hU]; rintro r os ⟨rfl, rfl⟩; push_cast [iO, tN, hd, hU])) | ((refine plc [] (hct) ?_ ?_; push_cast [iO, tN, hd, hU]; rintro r os ⟨rfl, rfl⟩; push_cast [iO, tN, hd, hU])) | ((refine pwp_cut 17 [18, 19, 20] ?_; apply pwp_drawn_to; (focus kernel_rfl); (focus (simp only [List.length_cons, List.length_nil, Nat.reduceAdd]; (repeat' first | ((refine plc [] (hof) ?_ ?_; push_cast [iO, tN,  hd]; rintro r os ⟨rfl, rfl⟩; push_cast [iO, tN,  hd])) | ((refine plc [] (hus) ?_ ?_; push_cast [iO, tN,  hd]; rintro r os ⟨rfl, rfl⟩; push_cast [iO, tN,  hd])) | ((first | refine pah 2 ?_ | refine pah 3 ?_ | refine pah 7 ?_); push_cast [iO, tN,  hd]) | (refine pad ?_; first | with_reducible exact weak_cutS 17 [18, 19, 20] _ | (refine weak_fg ?_; push_cast [iO, tN,  hd])) | ((first | refine pas [0] ?_ | refine pas [1] ?_ | refine pas [4] ?_ | refine pas [5] ?_ | refine pas [6] ?_); push_cast [iO, tN,  hd]) | ((first | refine pas [0, 1] ?_ | refine pas [0, 4] ?_ | refine pas [0, 5] ?_ | refine pas [1, 4] ?_); push_cast [iO, tN,  hd]; refine ⟨?_, ?_⟩) | ((first | refine pas [0, 1, 4] ?_); push_cast [iO, tN,  hd]; refine ⟨?_, ?_, ?_⟩)); done)); push_cast [iO, tN,  hd])) | ((first | refine pC ?_ | refine pQC ?_ | refine pU ?_); push_cast [iO, tN, hd, hU]) | (refine pif (fun h => ?_) (fun h => ?_) <;> first | exact pN h | push_cast [iO, tN, hd, hU]))
          exact ⟨k + 1, by omega, by (refine weak_fg ?_; push_cast [iO, tN, hw, hmem]), by omega⟩
        · have hw := hwt (by rw [hQ, decide_eq_false hU]; rfl)
          repeat' (first | ((refine plc [] (hor) ?_ ?_; push_cast [iO, tN, hd, hU]; rintro r os ⟨rfl, rfl⟩; push_cast [iO, tN, hd, hU])) | ((refine plc [] (hfr) ?_ ?_; push_cast [iO, tN, hd, hU]; rintro r os ⟨rfl, rfl⟩; push_cast [iO, tN, hd, hU])) | ((refine plc [] (hno) ?_ ?_; push_cast [iO, tN, hd, hU]; rintro r os ⟨rfl, rfl⟩; push_cast [iO, tN, hd, hU])) | ((refine plc [] (hct) ?_ ?_; push_cast [iO, tN, hd, hU]; rintro r os ⟨rfl, rfl⟩; push_cast [iO, tN, hd, hU])) | ((refine pwp_cut 17 [18, 19, 20] ?_; apply pwp_drawn_to; (focus kernel_rfl); (focus (simp only [List.length_cons, List.length_nil, Nat.reduceAdd]; (repeat' first | ((refine plc [] (hof) ?_ ?_; push_cast [iO, tN,  hd]; rintro r os ⟨rfl, rfl⟩; push_cast [iO, tN,  hd])) | ((refine plc [] (hus) ?_ ?_; push_cast [iO, tN,  hd]; rintro r os ⟨rfl, rfl⟩; push_cast [iO, tN,  hd])) | ((first | refine pah 2 ?_ | refine pah 3 ?_ | refine pah 7 ?_); push_cast [iO, tN,  hd]) | (refine pad ?_; first | with_reducible exact weak_cutS 17 [18, 19, 20] _ | (refine weak_fg ?_; push_cast [iO, tN,  hd])) | ((first | refine pas [0] ?_ | refine pas [1] ?_ | refine pas [4] ?_ | refine pas [5] ?_ | refine pas [6] ?_); push_cast [iO, tN,  hd]) | ((first | refine pas [0, 1] ?_ | refine pas [0, 4] ?_ | refine pas [0, 5] ?_ | refine pas [1, 4] ?_); push_cast [iO, tN,  hd]; refine ⟨?_, ?_⟩) | ((first | refine pas [0, 1, 4] ?_); push_cast [iO, tN,  hd]; refine ⟨?_, ?_, ?_⟩)); done)); push_cast [iO, tN,  hd])) | ((first | refine pC ?_ | refine pQC ?_ | refine pU ?_); push_cast [iO, tN, hd, hU]) | (refine pif (fun h => ?_) (fun h => ?_) <;> first | exact pN h | push_cast [iO, tN, hd, hU]))
          exact ⟨k + 1, by omega, by (refine weak_fg ?_; push_cast [iO, tN, hw, hmem]), by omega⟩
end Go.Proofs.YtcnoopjacilceaaGreatDoor
namespace Go.Proofs.YtcnoopjacilceaaGreatDoor
open Go.RowKit
open IntWalk renaming iteOmega → iO, toNatUp → tN
set_option linter.unusedVariables false
set_option linter.unusedSimpArgs false
theorem ltA_irr (a : Acc) : ¬ ltA a a := cmpP_irr _
theorem ltA_trans {a b c : Acc} (h : ltA a b) (h' : ltA b c) : ltA a c := cmpP_trans h h'
theorem take_drop {α : Type} {l : List α} {i : Nat} (hi : i < l.length) : l = l.take i ++ l[i] :: l.drop (i + 1) := by rw [← List.drop_eq_getElem_cons hi, List.take_append_drop]
structure WI (a b : List Acc) (i k : Nat) (r g : List Acc) : Prop where
  hi : i ≤ a.length
  hk : k ≤ b.length
  r : r = minusL (a.take i) b
  g : g = minusL (b.take k) a
  ab : ∀ x ∈ a.take i, ∀ y ∈ b.drop k, ltA x y
  ba : ∀ y ∈ b.take k, ∀ x ∈ a.drop i, ltA y x
theorem WI.start (a b : List Acc) : WI a b 0 0 [] [] := ⟨by simp, by simp, by simp [minusL], by simp [minusL], by simp, by simp⟩
theorem minus_step {a b : List Acc} {i : Nat} (hi : i < a.length) : minusL (a.take (i + 1)) b = minusL (a.take i) b ++ if a[i] ∈ b then [] else [a[i]] := by
  rw [List.take_succ_eq_append_getElem hi, minusL, List.filter_append]
  congr 1
  by_cases h : a[i] ∈ b
  · rw [if_pos h, List.filter_cons_of_neg (by simpa using h)]; rfl
  · rw [if_neg h, List.filter_cons_of_pos (by simpa using h)]; rfl
theorem WI.notin {a b : List Acc} {i k : Nat} {r g : List Acc} (h : WI a b i k r g) (hb : b.Pairwise ltA) (hi : i < a.length) (hlt : ∀ hk : k < b.length, ltA a[i] b[k]) : a[i] ∉ b := by
  intro hm
  have hai : a[i] ∈ a.drop i := by rw [List.drop_eq_getElem_cons hi]; exact List.mem_cons_self
  have e : b = b.take k ++ b.drop k := (List.take_append_drop k b).symm
  rw [e] at hm
  rcases List.mem_append.1 hm with hm | hm
  · exact ltA_irr _ (h.ba _ hm _ hai)
  · have hk : k < b.length := by
      have := List.length_pos_of_mem hm
      rw [List.length_drop] at this
      omega
    have h2 := hlt hk
    rw [List.drop_eq_getElem_cons hk] at hm
    rcases List.mem_cons.1 hm with e2 | hm
    · rw [← e2] at h2; exact ltA_irr _ h2
    · have hp : (b.drop k).Pairwise ltA := hb.sublist (List.drop_sublist _ _)
      rw [List.drop_eq_getElem_cons hk] at hp
      exact ltA_asymm h2 ((List.pairwise_cons.1 hp).1 _ hm)
theorem WI.left {a b : List Acc} {i k : Nat} {r g : List Acc} (h : WI a b i k r g) (ha : a.Pairwise ltA) (hb : b.Pairwise ltA) (hi : i < a.length) (hlt : ∀ hk : k < b.length, ltA a[i] b[k]) : WI a b (i + 1) k (r ++ [a[i]]) g := by
  have hn := h.notin hb hi hlt
  refine ⟨hi, h.hk, ?_, h.g, fun x hx y hy => ?_, fun y hy x hx => h.ba y hy x ?_⟩
  · rw [minus_step hi, if_neg hn, ← h.r]
  · rw [List.take_succ_eq_append_getElem hi] at hx
    rcases List.mem_append.1 hx with hx | hx
    · exact h.ab x hx y hy
    · rw [List.mem_singleton.1 hx]
      have hk : k < b.length := by
        have := List.length_pos_of_mem hy
        rw [List.length_drop] at this
        omega
      have hp : (b.drop k).Pairwise ltA := hb.sublist (List.drop_sublist _ _)
      rw [List.drop_eq_getElem_cons hk] at hp hy
      rcases List.mem_cons.1 hy with e | hy
      · rw [e]; exact hlt hk
      · exact ltA_trans (hlt hk) ((List.pairwise_cons.1 hp).1 _ hy)
  · rw [List.drop_eq_getElem_cons hi]; exact List.mem_cons_of_mem _ hx
theorem WI.swap {a b : List Acc} {i k : Nat} {r g : List Acc} (h : WI a b i k r g) : WI b a k i g r := ⟨h.hk, h.hi, h.g, h.r, h.ba, h.ab⟩
theorem WI.right {a b : List Acc} {i k : Nat} {r g : List Acc} (h : WI a b i k r g) (ha : a.Pairwise ltA) (hb : b.Pairwise ltA) (hk : k < b.length) (hlt : ∀ hi : i < a.length, ltA b[k] a[i]) : WI a b i (k + 1) r (g ++ [b[k]]) :=
  (h.swap.left hb ha hk hlt).swap
theorem WI.both {a b : List Acc} {i k : Nat} {r g : List Acc} (h : WI a b i k r g) (ha : a.Pairwise ltA) (hb : b.Pairwise ltA) (hi : i < a.length) (hk : k < b.length) (he : a[i].path = b[k].path) :
    (a[i] = b[k] → WI a b (i + 1) (k + 1) r g) ∧ (a[i] ≠ b[k] → WI a b (i + 1) (k + 1) (r ++ [a[i]]) (g ++ [b[k]])) := by
  have hai : a[i] ∈ a.drop i := by rw [List.drop_eq_getElem_cons hi]; exact List.mem_cons_self
  have hbk : b[k] ∈ b.drop k := by rw [List.drop_eq_getElem_cons hk]; exact List.mem_cons_self
  have hpa : (a.drop i).Pairwise ltA := ha.sublist (List.drop_sublist _ _)
  have hpb : (b.drop k).Pairwise ltA := hb.sublist (List.drop_sublist _ _)
  rw [List.drop_eq_getElem_cons hi] at hpa
  rw [List.drop_eq_getElem_cons hk] at hpb
  have ga := (List.pairwise_cons.1 hpa).1
  have gb := (List.pairwise_cons.1 hpb).1
  have eqv : ∀ x, ltA a[i] x ↔ ltA b[k] x := fun x => by unfold ltA; rw [he]
  have eqv2 : ∀ x, ltA x a[i] ↔ ltA x b[k] := fun x => by unfold ltA; rw [he]
  have hab : ∀ x ∈ a.take (i + 1), ∀ y ∈ b.drop (k + 1), ltA x y := by
    intro x hx y hy
    rw [List.take_succ_eq_append_getElem hi] at hx
    rcases List.mem_append.1 hx with hx | hx
    · exact h.ab x hx y (by rw [List.drop_eq_getElem_cons hk]; exact List.mem_cons_of_mem _ hy)
    · rw [List.mem_singleton.1 hx]; exact (eqv y).2 (gb y hy)
  have hba : ∀ y ∈ b.take (k + 1), ∀ x ∈ a.drop (i + 1), ltA y x := by
    intro y hy x hx
    rw [List.take_succ_eq_append_getElem hk] at hy
    rcases List.mem_append.1 hy with hy | hy
    · exact h.ba y hy x (by rw [List.drop_eq_getElem_cons hi]; exact List.mem_cons_of_mem _ hx)
    · rw [List.mem_singleton.1 hy]; exact (eqv x).1 (ga x hx)
  constructor
  · intro e
    refine ⟨hi, hk, ?_, ?_, hab, hba⟩
    · rw [minus_step hi, if_pos (by rw [e]; exact List.getElem_mem _), ← h.r, List.append_nil]
    · rw [minus_step hk, if_pos (by rw [← e]; exact List.getElem_mem _), ← h.g, List.append_nil]
  · intro hne
    have n1 : a[i] ∉ b := by
      intro hm
      rw [(List.take_append_drop k b).symm] at hm
      rcases List.mem_append.1 hm with hm | hm
      · exact ltA_irr _ (h.ba _ hm _ hai)
      · rw [List.drop_eq_getElem_cons hk] at hm
        rcases List.mem_cons.1 hm with e | hm
        · exact hne e
        · exact ltA_irr _ ((eqv _).2 (gb _ hm))
    have n2 : b[k] ∉ a := by
      intro hm
      rw [(List.take_append_drop i a).symm] at hm
      rcases List.mem_append.1 hm with hm | hm
      · exact ltA_irr _ (h.ab _ hm _ hbk)
      · rw [List.drop_eq_getElem_cons hi] at hm
        rcases List.mem_cons.1 hm with e | hm
        · exact hne e.symm
        · exact ltA_irr _ ((eqv _).1 (ga _ hm))
    refine ⟨hi, hk, ?_, ?_, hab, hba⟩
    · rw [minus_step hi, if_neg n1, ← h.r]
    · rw [minus_step hk, if_neg n2, ← h.g]
theorem WI.done {a b : List Acc} {i k : Nat} {r g : List Acc} (h : WI a b i k r g) (hi : ¬ i < a.length) (hk : ¬ k < b.length) : r = minusL a b ∧ g = minusL b a := by
  have h1 := h.r
  have h2 := h.g
  rw [List.take_of_length_le (by omega)] at h1 h2
  exact ⟨h1, h2⟩
def midA (a b : List Acc) (i : Nat) : List Acc := a.filter fun x => decide (x ∉ (minusL a b).take i)
theorem minus_sub (a b : List Acc) : (minusL a b).Sublist a := List.filter_sublist
theorem midA_zero (a b : List Acc) : midA a b 0 = a := by unfold midA; exact List.filter_eq_self.2 (by simp)
theorem midA_step {a b : List Acc} {i : Nat} (hi : i < (minusL a b).length) : (midA a b i).filter (fun x => decide (x ≠ (minusL a b)[i])) = midA a b (i + 1) := by
  unfold midA
  rw [List.filter_filter]
  refine List.filter_congr fun x hx => ?_
  rw [List.take_succ_eq_append_getElem hi]
  simp only [List.mem_append, List.mem_singleton, not_or]
  rw [Bool.eq_iff_iff]
  simp [and_comm]
theorem midA_mem {a b : List Acc} (hnd : a.Nodup) {i : Nat} (hi : i < (minusL a b).length) : (minusL a b)[i] ∈ midA a b i := by
  have h1 : (minusL a b)[i] ∈ a := (minus_sub a b).subset (List.getElem_mem _)
  refine List.mem_filter.2 ⟨h1, ?_⟩
  have hn := hnd.sublist (minus_sub a b)
  rw [take_drop hi, List.nodup_append] at hn
  simp only [decide_eq_true_eq]
  intro hc
  exact hn.2.2 _ hc _ List.mem_cons_self rfl
theorem midA_end (a b : List Acc) {i : Nat} (hi : ¬ i < (minusL a b).length) : midA a b i = a.filter fun x => decide (x ∈ b) := by
  unfold midA
  rw [List.take_of_length_le (by omega)]
  refine List.filter_congr fun x hx => ?_
  rw [Bool.eq_iff_iff]
  simp [minusL, hx]
theorem apply_rev {a b : List Acc} (ha : Right a) {i : Nat} (hi : i < (minusL a b).length) : applyA (midA a b i) ⟨1, (minusL a b)[i]⟩ = (some (midA a b (i + 1)), 0) := by
  have hm := midA_mem ha.nodup hi
  unfold applyA
  simp only [if_true]
  rw [if_pos hm, midA_step hi]
theorem mid_right {a b : List Acc} (ha : Right a) (i : Nat) : Right (midA a b i) := ha.sublist List.filter_sublist
def granA (a b : List Acc) (j : Nat) : List Acc := b.filter fun x => decide (x ∈ a ∨ x ∈ (minusL b a).take j)
theorem gran_right {a b : List Acc} (hb : Right b) (j : Nat) : Right (granA a b j) := hb.sublist List.filter_sublist
theorem gran_zero {a b : List Acc} (ha : Right a) (hb : Right b) : (a.filter fun x => decide (x ∈ b)) = granA a b 0 := by
  refine pw_ext (fun _ _ h => ltA_asymm h) (ha.asc.sublist List.filter_sublist) (gran_right hb 0).asc fun x => ?_
  simp only [granA, List.mem_filter, decide_eq_true_eq, List.take_zero, List.not_mem_nil, or_false]
  exact and_comm
theorem gran_end {a b : List Acc} {j : Nat} (hj : ¬ j < (minusL b a).length) : granA a b j = b := by
  unfold granA
  rw [List.take_of_length_le (by omega)]
  refine List.filter_eq_self.2 fun x hx => ?_
  simp only [minusL, List.mem_filter, decide_eq_true_eq]
  by_cases h : x ∈ a
  · exact .inl h
  · exact .inr ⟨hx, h⟩
theorem gran_new {a b : List Acc} (hb : Right b) {j : Nat} (hj : j < (minusL b a).length) : (minusL b a)[j] ∈ b ∧ (minusL b a)[j] ∉ granA a b j := by
  have hs := minus_sub b a
  have h1 : (minusL b a)[j] ∈ b := hs.subset (List.getElem_mem _)
  refine ⟨h1, fun hc => ?_⟩
  have hc2 := (List.mem_filter.1 hc).2
  simp only [decide_eq_true_eq] at hc2
  rcases hc2 with hc2 | hc2
  · have : (minusL b a)[j] ∈ minusL b a := List.getElem_mem _
    have := (List.mem_filter.1 this).2
    simp only [decide_eq_true_eq] at this
    exact this hc2
  · have hn := hb.nodup.sublist hs
    rw [take_drop hj, List.nodup_append] at hn
    exact hn.2.2 _ hc2 _ List.mem_cons_self rfl
theorem right_apart {l : List Acc} (h : Right l) {x y : Acc} (hx : x ∈ l) (hy : y ∈ l) (hne : x ≠ y) : x.path ≠ y.path ∧ x.node ≠ y.node := by
  constructor
  · have key : ∀ (l : List Acc), l.Pairwise ltA → x ∈ l → y ∈ l → x.path ≠ y.path := by
      intro l
      induction l with
      | nil => intro _ h; simp at h
      | cons a l ih =>
        intro hp hx hy
        obtain ⟨p1, p2⟩ := List.pairwise_cons.1 hp
        rcases List.mem_cons.1 hx with rfl | hx1 <;> rcases List.mem_cons.1 hy with e | hy1
        · exact absurd e.symm hne
        · intro e; have := p1 y hy1; unfold ltA at this; rw [e] at this; exact cmpP_irr _ this
        · subst e; intro e; have := p1 x hx1; unfold ltA at this; rw [e] at this; exact cmpP_irr _ this
        · exact ih p2 hx1 hy1
    exact key l h.asc hx hy
  · have key : ∀ (l : List Acc), (l.map Acc.node).Nodup → x ∈ l → y ∈ l → x.node ≠ y.node := by
      intro l
      induction l with
      | nil => intro _ h; simp at h
      | cons a l ih =>
        intro hp hx hy
        rw [List.map_cons, List.nodup_cons] at hp
        rcases List.mem_cons.1 hx with rfl | hx1 <;> rcases List.mem_cons.1 hy with e | hy1
        · exact absurd e.symm hne
        · intro e; exact hp.1 (List.mem_map.2 ⟨y, hy1, e.symm⟩)
        · subst e; intro e; exact hp.1 (List.mem_map.2 ⟨x, hx1, e⟩)
        · exact ih hp.2 hx1 hy1
    exact key l h.nodes hx hy
theorem apply_grant {a b : List Acc} (hb : Right b) {j : Nat} (hj : j < (minusL b a).length) : applyA (granA a b j) ⟨2, (minusL b a)[j]⟩ = (some (granA a b (j + 1)), 0) := by
  obtain ⟨h1, h2⟩ := gran_new hb hj
  have hno : ∀ y ∈ granA a b j, y.path ≠ (minusL b a)[j].path ∧ y.node ≠ (minusL b a)[j].node := fun y hy =>
    right_apart hb (List.mem_filter.1 hy).1 h1 (fun e => h2 (e ▸ hy))
  have hok := hb.ok _ h1
  have hins : insA (minusL b a)[j] (granA a b j) = granA a b (j + 1) := by
    refine pw_ext (fun _ _ h => ltA_asymm h) ((gran_right hb j).ins hok (fun y hy => (hno y hy).1) (fun y hy => (hno y hy).2)).asc (gran_right hb (j + 1)).asc fun x => ?_
    rw [mem_ins]
    simp only [granA, List.mem_filter, decide_eq_true_eq, List.take_succ_eq_append_getElem hj, List.mem_append, List.mem_singleton]
    constructor
    · rintro (rfl | ⟨h3, h4 | h4⟩)
      · exact ⟨h1, .inr (.inr rfl)⟩
      · exact ⟨h3, .inl h4⟩
      · exact ⟨h3, .inr (.inl h4)⟩
    · rintro ⟨h3, h4 | h4 | h4⟩
      · exact .inr ⟨h3, .inl h4⟩
      · exact .inr ⟨h3, .inr h4⟩
      · exact .inl h4
  obtain ⟨l0, hl0⟩ := hok
  unfold applyA
  rw [if_neg (show ¬ (2 : Int) = 1 by decide), if_pos rfl, if_neg]
  · simp only [hl0, hins]
  · rintro ⟨y, hy, e | e⟩
    · exact (hno y hy).1 e
    · exact (hno y hy).2 e
theorem back_rev {l : List Acc} (h : Right l) {x : Acc} (hx : okP1 x.path) (hno : ¬ ∃ y ∈ l, y.path = x.path ∨ y.node = x.node) : (insA x l).filter (fun y => decide (y ≠ x)) = l := by
  have hR := h.ins hx (fun y hy e => hno ⟨y, hy, .inl e⟩) (fun y hy e => hno ⟨y, hy, .inr e⟩)
  refine pw_ext (fun _ _ h => ltA_asymm h) (hR.asc.sublist List.filter_sublist) h.asc fun y => ?_
  rw [List.mem_filter, mem_ins]
  simp only [ne_eq, decide_eq_true_eq]
  constructor
  · rintro ⟨rfl | h1, h2⟩
    · exact absurd rfl h2
    · exact h1
  · intro h1
    exact ⟨.inr h1, fun e => hno ⟨y, h1, .inl (by rw [e])⟩⟩
theorem back_grant {l : List Acc} (h : Right l) {x : Acc} (hx : x ∈ l) : insA x (l.filter fun y => decide (y ≠ x)) = l ∧ ¬ ∃ y ∈ l.filter (fun y => decide (y ≠ x)), y.path = x.path ∨ y.node = x.node := by
  have hno : ¬ ∃ y ∈ l.filter (fun y => decide (y ≠ x)), y.path = x.path ∨ y.node = x.node := by
    rintro ⟨y, hy, he⟩
    obtain ⟨h1, h2⟩ := List.mem_filter.1 hy
    simp only [ne_eq, decide_eq_true_eq] at h2
    obtain ⟨g1, g2⟩ := right_apart h h1 hx h2
    rcases he with e | e
    · exact g1 e
    · exact g2 e
  refine ⟨?_, hno⟩
  have hS : Right (l.filter fun y => decide (y ≠ x)) := h.sublist List.filter_sublist
  refine pw_ext (fun _ _ h => ltA_asymm h) (hS.ins (h.ok x hx) (fun y hy e => hno ⟨y, hy, .inl e⟩) (fun y hy e => hno ⟨y, hy, .inr e⟩)).asc h.asc fun y => ?_
  rw [mem_ins, List.mem_filter]
  simp only [ne_eq, decide_eq_true_eq]
  constructor
  · rintro (rfl | ⟨h1, _⟩)
    · exact hx
    · exact h1
  · intro h1
    by_cases e : y = x
    · exact .inl e
    · exact .inr ⟨h1, e⟩
theorem minus_self (l : List Acc) : minusL l l = [] := List.filter_eq_nil_iff.2 fun x hx => by simpa using hx
end Go.Proofs.YtcnoopjacilceaaGreatDoor
