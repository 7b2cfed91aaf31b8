/- What the program computes, and the plain laws of it, part 44. -/
import Derived.Test.YtcnoopjacilceaaGreatDoorQ31
namespace Go.Proofs.YtcnoopjacilceaaGreatDoor
attribute [local irreducible] PL QL PWPr PCalls Weak RetK Kontr PA
open Go.RowKit
open IntWalk renaming iteOmega → iO, toNatUp → tN
set_option linter.unusedVariables false
set_option linter.unusedSimpArgs false
set_option maxRecDepth 20000
def SesS (x : Ses) : Prop := x.user.size ≤ 100 ∧ x.seat.size ≤ 100
structure SessOk (s : List Ses) : Prop where
  len : s.length ≤ 32
  siz : ∀ x ∈ s, SesS x
  usr : ∀ x ∈ s, x.user ≠ ⟨#[]⟩
  act : ∀ x ∈ s, ∃ y ∈ s, y.seat = x.seat ∧ y.active = true
theorem sess_snoc {s : List Ses} {x : Ses} (h : SessOk s) (hl : s.length < 32) (hx : SesS x) (hu : x.user ≠ ⟨#[]⟩) (ha : x.active = false → ∃ y ∈ s, y.seat = x.seat) : SessOk (s ++ [x]) := by
  have key : ∀ y ∈ s ++ [x], y ∈ s ∨ y = x := fun y hy => by simpa using hy
  refine ⟨by rw [List.length_append, List.length_singleton]; omega, fun y hy => ?_, fun y hy => ?_, fun y hy => ?_⟩
  · rcases key y hy with hy | rfl
    · exact h.siz y hy
    · exact hx
  · rcases key y hy with hy | rfl
    · exact h.usr y hy
    · exact hu
  · have hold : ∀ z ∈ s, ∃ y ∈ s ++ [x], y.seat = z.seat ∧ y.active = true := fun z hz => by
      obtain ⟨w, hw, h1, h2⟩ := h.act z hz
      exact ⟨w, List.mem_append_left _ hw, h1, h2⟩
    rcases key y hy with hy | rfl
    · exact hold y hy
    · cases hc : y.active with
      | true => exact ⟨y, by simp, rfl, hc⟩
      | false =>
        obtain ⟨z, hz, he⟩ := ha hc
        obtain ⟨w, hw, h1, h2⟩ := hold z hz
        exact ⟨w, hw, h1.trans he, h2⟩
theorem sess_swap {s : List Ses} {i j : Nat} (h : SessOk s) (hi : i < s.length) (hj : j < s.length) (he : (s.getD j default).seat = (s.getD i default).seat) : SessOk ((s.set i { s.getD i default with active := false }).set j { (s.set i { s.getD i default with active := false }).getD j default with active := true }) := by
  obtain ⟨s4, hs4⟩ : ∃ s4, s.set i { s.getD i default with active := false } = s4 := ⟨_, rfl⟩
  rw [hs4]
  have hl4 : s4.length = s.length := by rw [← hs4, List.length_set]
  have h4 : ∀ m (hm : m < s.length), (s4.getD m default).seat = (s.getD m default).seat ∧ (s4.getD m default).user = (s.getD m default).user ∧ (m ≠ i → (s4.getD m default).active = (s.getD m default).active) := fun m hm => by
    rw [← hs4]
    by_cases e : m = i
    · subst e
      rw [List.getD_eq_getElem?_getD, List.getElem?_set_self hm]
      exact ⟨rfl, rfl, fun hc => absurd rfl hc⟩
    · rw [List.getD_eq_getElem?_getD, List.getElem?_set_ne (Ne.symm e), ← List.getD_eq_getElem?_getD]
      exact ⟨rfl, rfl, fun _ => rfl⟩
  obtain ⟨s5, hs5⟩ : ∃ s5, s4.set j { s4.getD j default with active := true } = s5 := ⟨_, rfl⟩
  rw [hs5]
  have hl5 : s5.length = s.length := by rw [← hs5, List.length_set, hl4]
  have h5 : ∀ m (hm : m < s.length), (s5.getD m default).seat = (s.getD m default).seat ∧ (s5.getD m default).user = (s.getD m default).user ∧ (m ≠ i → m ≠ j → (s5.getD m default).active = (s.getD m default).active) ∧ (m = j → (s5.getD m default).active = true) := fun m hm => by
    obtain ⟨a1, a2, a3⟩ := h4 m hm
    rw [← hs5]
    by_cases e : m = j
    · subst e
      rw [List.getD_eq_getElem?_getD, List.getElem?_set_self (by omega)]
      exact ⟨a1, a2, fun _ hc => absurd rfl hc, fun _ => rfl⟩
    · rw [List.getD_eq_getElem?_getD, List.getElem?_set_ne (Ne.symm e), ← List.getD_eq_getElem?_getD]
      exact ⟨a1, a2, fun hc _ => a3 hc, fun hc => absurd hc e⟩
  have hget : ∀ x ∈ s5, ∃ m, m < s.length ∧ s5.getD m default = x := fun x hx => by
    obtain ⟨m, hm, rfl⟩ := List.getElem_of_mem hx
    exact ⟨m, by omega, getD_lt s5 hm⟩
  have hmem : ∀ m, m < s.length → s.getD m default ∈ s := fun m hm => by rw [getD_lt s hm]; exact List.getElem_mem _
  have hmem5 : ∀ m, m < s.length → s5.getD m default ∈ s5 := fun m hm => by rw [getD_lt s5 (by omega)]; exact List.getElem_mem _
  refine ⟨by rw [hl5]; exact h.len, fun x hx => ?_, fun x hx => ?_, fun x hx => ?_⟩
  · obtain ⟨m, hm, rfl⟩ := hget x hx
    obtain ⟨a1, a2, _⟩ := h5 m hm
    have := h.siz _ (hmem m hm)
    unfold SesS at this ⊢
    rw [a1, a2]; exact this
  · obtain ⟨m, hm, rfl⟩ := hget x hx
    rw [(h5 m hm).2.1]
    exact h.usr _ (hmem m hm)
  · obtain ⟨m, hm, rfl⟩ := hget x hx
    rw [(h5 m hm).1]
    obtain ⟨y, hy, h1, h2⟩ := h.act _ (hmem m hm)
    obtain ⟨k, hk, rfl⟩ := List.getElem_of_mem hy
    have hky : s.getD k default = s[k] := getD_lt s hk
    by_cases e : k = i ∨ k = j
    · have hs : (s.getD k default).seat = (s.getD j default).seat := by
        rcases e with rfl | rfl
        · exact he.symm
        · rfl
      exact ⟨_, hmem5 j hj, by rw [(h5 j hj).1, ← hs, hky, h1], (h5 j hj).2.2.2 rfl⟩
    · rw [not_or] at e
      exact ⟨_, hmem5 k hk, by rw [(h5 k hk).1, hky, h1], by rw [(h5 k hk).2.2.1 e.1 e.2, hky]; exact h2⟩
def SeenOk (s : List Ses) (seen : List ByteArray) : Prop := ∀ e ∈ seen, ∃ y ∈ s, y.seat = e
theorem seen_snoc {s : List Ses} {seen : List ByteArray} {x : Ses} (h : SeenOk s seen) : SeenOk (s ++ [x]) (addS seen x.seat) := fun e he => by
  have : e ∈ seen ∨ e = x.seat := by
    unfold addS at he
    split at he
    · exact .inl he
    · simpa using he
  rcases this with he | rfl
  · obtain ⟨y, hy, h1⟩ := h e he
    exact ⟨y, List.mem_append_left _ hy, h1⟩
  · exact ⟨x, by simp, rfl⟩
theorem seen_act {s : List Ses} {seen : List ByteArray} {e : ByteArray} (h : SeenOk s seen) (ha : (!inM e seen) = false) : ∃ y ∈ s, y.seat = e := h e (inM_iff.1 (by simpa using ha))
theorem users_ne {u : ByteArray} (h : u ∈ ([⟨#[97, 110, 110]⟩, ⟨#[98, 111, 98]⟩, ⟨#[101, 118, 101]⟩] : List ByteArray)) : u ≠ ⟨#[]⟩ := by
  intro e
  subst e
  revert h
  rw [← inM_iff]
  decide +kernel
theorem lk_seen (s : ByteArray) (l : List ByteArray) : lkP false (.c (.v (.bool false))) false (mget (setE l) (.s s)) = some (.c (.v (.bool (inM s l)))) := by
  rw [mget_set]
  cases inM s l <;> rfl
theorem row_get (s : List Ses) {i : Nat} (h : i < s.length) : (s.map Ses.d).getD i [] = (s.getD i default).d := by
  rw [getD_lt s h]
  simp [List.getD, h]
theorem pick_mem (L : List Int) (k : Nat) {l : List ByteArray} (h0 : 0 < l.length) (hn : l.length ≤ 1000000) : pick L k l ∈ l := by
  obtain ⟨h1, h2⟩ := fold_bds (tapeAt L k) l.length (by omega)
  unfold pick
  rw [getD_lt l (by omega)]
  exact List.getElem_mem _
set_option maxHeartbeats 8000000 in
theorem sessions_pure (L : List Int) (k : Nat) (hk : k < 50000) (hL : ∀ x ∈ L, -9223372036854775808 ≤ x ∧ x ≤ 9223372036854775807) (hLl : L.length ≤ 9223372036854775807) :
    PCalls Tryz.prog 22 [.c (.ptr 0 0)] [tape L k] fun r os => ∃ (nx : Int) (s : List Ses) (k' : Nat), SessOk s ∧ k' ≤ k + 2000 ∧ r = .agg [.v (.int .i64 nx), .sl 4 (s.map Ses.d)] ∧ os = [tape L k'] := by
  have nex := fun (j : Nat) (hj : j < 1000000) (m : Int) (hm : 0 < m) (hm2 : m ≤ 9223372036854775807) => next_ex L j m hj hm hm2 hL hLl
  refine pcalls_of Tryz.func22 rfl (by simp [Tryz.ntmps22]) ?_
  rw [Tryz.ntmps22, Tryz.results22]
  push_cast [iO, tN]
  have cB : CutB 10 [61, 62, 67, 68, 96] := trivial
  refine pwp_seq fun K0 hK0 => ?_
  refine pC ?_
  push_cast [iO, tN]
  refine pU ?_
  refine pwp_seq fun K1 hK1 => ?_
  refine pC ?_
  push_cast [iO, tN]
  refine pU ?_
  refine pwp_seq fun K2 hK2 => ?_
  refine pC ?_
  push_cast [iO, tN]
  (refine plc [0] (nex k (by omega) 8 (by decide) (by decide)) ?_ ?_; push_cast [iO, tN]; rintro r os ⟨n0, ⟨na, nb⟩, rfl, rfl⟩; push_cast [iO, tN])
  refine pU ?_
  (apply pwp_mid3 (α := Int × Nat) 10 [61, 62, 67, 68, 96] (fun x => [(4, .c (.v (.int .i64 x.1)))]) (fun x => [(0, tape L x.2)]) (fun x => (0 ≤ x.1 ∧ x.1 ≤ 32) ∧ x.2 ≤ k + 3) ((0, 0)); (focus ((try push_cast [iO, tN]); rfl)))
  · repeat' (first |  ((refine plc [0] (nex (k + 1) (by omega) 20 (by decide) (by decide)) ?_ ?_; push_cast [iO, tN]; rintro r os ⟨w, ⟨wa, wb⟩, rfl, rfl⟩; push_cast [iO, tN])) | ((refine plc [0] (nex (k + 1 + 1) (by omega) 2 (by decide) (by decide)) ?_ ?_; push_cast [iO, tN]; rintro r os ⟨u, ⟨ua, ub⟩, rfl, rfl⟩; push_cast [iO, tN]))  | ((first | refine pC ?_ | refine pQC ?_ | refine pU ?_); push_cast [iO, tN]) | (refine pif (fun h => ?_) (fun h => ?_) <;> first | exact pN h | push_cast [iO, tN]))
    · exact ⟨(32 - u, k + 1 + 1 + 1), ⟨⟨by simp only; omega, by simp only; omega⟩, by simp only; omega⟩, by (refine weak_fg ?_; push_cast [iO, tN])⟩
    · exact ⟨(n0, k + 1 + 1), ⟨⟨by simp only; omega, by simp only; omega⟩, by simp only; omega⟩, by (refine weak_fg ?_; push_cast [iO, tN])⟩
  rintro ⟨n, q0⟩ ⟨⟨hn0, hn1⟩, hq0⟩
  simp only at hn0 hn1 hq0
  push_cast [iO, tN]
  repeat' (first | ((first | refine pC ?_ | refine pQC ?_ | refine pU ?_); push_cast [iO, tN]) | (refine pif (fun h => ?_) (fun h => ?_) <;> first | exact pN h | push_cast [iO, tN]))
  refine pwp_weak (weak_adopt_box 2 1 81 4 (by omega) 29 [.v (.int .i64 1), .v (.slice none 0 0)] rfl rfl) ?_
  push_cast [iO, tN]
  (apply pwp_loop3 (α := (Nat × Int) × List Ses × List ByteArray × Nat) 10 [61, 62, 67, 68, 96] (fun x => [(6, .c (.v (.int .i64 x.1.1)))]) (fun x => [(0, tape L x.2.2.2), (2, .box 29 [.v (.int .i64 x.1.2), .own 4 x.2.1.length]), (3, .map none false (setE x.2.2.1)), (4, .arr 81 4 (x.2.1.map Ses.d))]) (fun x => ((x.1.1 : Int) ≤ n ∧ x.2.1.length = x.1.1 ∧ SessOk x.2.1 ∧ SeenOk x.2.1 x.2.2.1) ∧ (1 ≤ x.1.2 ∧ x.1.2 ≤ 1 + 2 * (x.1.1 : Int)) ∧ x.2.2.2 = q0 + 3 * x.1.1) (fun x => (n - (x.1.1 : Int)).toNat) (((0, 1), [], [], q0)); (focus ((try push_cast [iO, tN]); rfl)); (focus exact ⟨⟨by simp only; omega, rfl, ⟨by simp, by simp, by simp, by simp⟩, fun e he => by cases he⟩, ⟨by simp only; omega, by simp only; omega⟩, by simp⟩); (focus ((refine weak_fg ?_; try push_cast [iO, tN]); (try (exact ⟨rfl, rfl⟩)))))
  rintro ⟨⟨i, nx⟩, s, seen, q⟩ ⟨⟨hi, hsl, hso, hse⟩, ⟨hx0, hx1⟩, hq⟩
  simp only at hi hsl hso hse hx0 hx1 hq
  push_cast [iO, tN]
  by_cases hlt : (i : Int) < n
  · have hN := next_pure L q 2 (by omega) (by decide) hL hLl
    have hNb := fold_bds (tapeAt L q) 2 (by decide)
    obtain ⟨f, hf⟩ : ∃ f, fold (tapeAt L q) 2 = f := ⟨_, rfl⟩
    rw [hf] at hN hNb
    have hU := one_pure L (q + 1) [⟨#[97, 110, 110]⟩, ⟨#[98, 111, 98]⟩, ⟨#[101, 118, 101]⟩] (by omega) (by decide) (by decide) hL hLl
    have hS := one_pure L (q + 1 + 1) [⟨#[115, 101, 97, 116, 48]⟩, ⟨#[115, 101, 97, 116, 49]⟩, ⟨#[115, 101, 97, 116, 50]⟩] (by omega) (by decide) (by decide) hL hLl
    have hUm := pick_mem L (q + 1) (l := [⟨#[97, 110, 110]⟩, ⟨#[98, 111, 98]⟩, ⟨#[101, 118, 101]⟩]) (by decide) (by decide)
    have hSm := pick_mem L (q + 1 + 1) (l := [⟨#[115, 101, 97, 116, 48]⟩, ⟨#[115, 101, 97, 116, 49]⟩, ⟨#[115, 101, 97, 116, 50]⟩]) (by decide) (by decide)
    obtain ⟨us, hus⟩ : ∃ us, pick L (q + 1) [⟨#[97, 110, 110]⟩, ⟨#[98, 111, 98]⟩, ⟨#[101, 118, 101]⟩] = us := ⟨_, rfl⟩
    obtain ⟨se, hsee⟩ : ∃ se, pick L (q + 1 + 1) [⟨#[115, 101, 97, 116, 48]⟩, ⟨#[115, 101, 97, 116, 49]⟩, ⟨#[115, 101, 97, 116, 50]⟩] = se := ⟨_, rfl⟩
    rw [hus] at hU hUm
    rw [hsee] at hS hSm
    have hlk := lk_seen se seen
    have hmp := mput_set se seen
    have hmem : (4 ∈ ([0, 1, 2, 3] : List Nat)) = False := eq_false (by simp)
    repeat' (first |  (refine hidR 9 ?_)  | ((first | refine pC ?_ | refine pQC ?_ | refine pU ?_); push_cast [iO, tN]) | (refine pif (fun h => ?_) (fun h => ?_) <;> first | exact pN h | push_cast [iO, tN]))
    refine unhid ?_
    (refine pwp_cut 10 [61, 62, 67, 68, 96] ?_; apply pwp_drawn_to; (focus kernel_rfl); (focus (simp only [List.length_cons, List.length_nil, Nat.reduceAdd]; (repeat' first | ((refine plc [0] (hN) ?_ ?_; push_cast [iO, tN]; rintro r os ⟨rfl, rfl⟩; push_cast [iO, tN])) | ((first | refine pah 0 ?_ | refine pah 2 ?_ | refine pah 4 ?_ | refine pah 5 ?_); push_cast [iO, tN]) | (refine pad ?_; first | with_reducible exact weak_cutS 10 [61, 62, 67, 68, 96] _ | (refine weak_fg ?_; push_cast [iO, tN])) | ((first | refine pas [1] ?_ | refine pas [3] ?_ | refine pas [6] ?_); push_cast [iO, tN]) | ((first | refine pas [1, 3] ?_); push_cast [iO, tN]; refine ⟨?_, ?_⟩)); done)); push_cast [iO, tN])
    repeat' (first |  (refine hidR 10 ?_)  | ((first | refine pC ?_ | refine pQC ?_ | refine pU ?_); push_cast [iO, tN]) | (refine pif (fun h => ?_) (fun h => ?_) <;> first | exact pN h | push_cast [iO, tN]))
    refine unhid ?_
    (refine pwp_cut 10 [61, 62, 67, 68, 96] ?_; refine pwp_drawn (by kernel_rfl) ?_; simp only [List.length_cons, List.length_nil, Nat.reduceAdd]; refine pah 0 ?_; push_cast [iO, tN]; refine pah 2 ?_; push_cast [iO, tN]; refine pah 5 ?_; push_cast [iO, tN]; apply pa_hav; intro z28; apply pa_hav; intro z27; apply pa_hav; intro z24; apply pa_hav; intro z25; apply pa_hav; intro z26; apply pa_hav; intro z19; apply pa_hav; intro z20; apply pa_hav; intro z21; apply pa_hav; intro z22; apply pa_hav; intro z23; apply pa_hav; intro z12; apply pa_hav; intro z13; apply pa_hav; intro z14; apply pa_hav; intro z15; apply pa_hav; intro z16; apply pa_hav; intro z17; apply pa_hav; intro z18; apply pa_hav; intro z5; apply pa_hav; intro z6; apply pa_hav; intro z7; apply pa_hav; intro z8; apply pa_hav; intro z9; apply pa_hav; intro z10; apply pa_hav; intro z11; apply pa_hav; intro z1; apply pa_hav; intro z2; apply pa_hav; intro z3; apply pa_hav; intro z4; refine pas [1, 3, 6, 9] ?_; push_cast [iO, tN]; refine ⟨z1, z2, z3, z4⟩; refine pas [1, 3, 6] ?_; push_cast [iO, tN]; refine ⟨z7, z10, z11⟩; refine pas [1, 3, 9] ?_; push_cast [iO, tN]; refine ⟨z6, z9, paw z11 ?_⟩ <;> (refine weak_fg ?_; push_cast [iO, tN]); refine pas [1, 4, 6, 9] ?_; push_cast [iO, tN]; refine ⟨?_, ?_, ?_, ?_⟩; (focus (exact z5)); (focus ((first | ((refine plc [0] (hU) ?_ ?_; push_cast [iO, tN]; rintro r os ⟨rfl, rfl⟩; push_cast [iO, tN])) | ((refine plc [0] (hS) ?_ ?_; push_cast [iO, tN]; rintro r os ⟨rfl, rfl⟩; push_cast [iO, tN]))); exact z8)); (focus (refine paw z9 ?_; refine weak_fg ?_; push_cast [iO, tN])); (focus (refine paw z10 ?_; refine weak_fg ?_; push_cast [iO, tN])); refine pas [3, 6, 9] ?_; push_cast [iO, tN]; refine ⟨paw z5 ?_, paw z6 ?_, paw z7 ?_⟩ <;> (refine weak_fg ?_; push_cast [iO, tN]); refine pas [1, 3] ?_; push_cast [iO, tN]; refine ⟨z15, z18⟩; refine pas [1, 4, 6] ?_; push_cast [iO, tN]; refine ⟨?_, ?_, ?_⟩; (focus (exact z14)); (focus ((first | ((refine plc [0] (hU) ?_ ?_; push_cast [iO, tN]; rintro r os ⟨rfl, rfl⟩; push_cast [iO, tN])) | ((refine plc [0] (hS) ?_ ?_; push_cast [iO, tN]; rintro r os ⟨rfl, rfl⟩; push_cast [iO, tN]))); exact z17)); (focus (refine paw z18 ?_; refine weak_fg ?_; push_cast [iO, tN])); refine pas [1, 4, 9] ?_; push_cast [iO, tN]; refine ⟨?_, ?_, ?_⟩; (focus (exact z13)); (focus ((first | ((refine plc [0] (hU) ?_ ?_; push_cast [iO, tN]; rintro r os ⟨rfl, rfl⟩; push_cast [iO, tN])) | ((refine plc [0] (hS) ?_ ?_; push_cast [iO, tN]; rintro r os ⟨rfl, rfl⟩; push_cast [iO, tN]))); exact z16)); (focus (refine paw z18 ?_; refine weak_fg ?_; push_cast [iO, tN])); refine pas [1, 6, 9] ?_; push_cast [iO, tN]; refine ⟨z12, paw z16 ?_, paw z17 ?_⟩ <;> (refine weak_fg ?_; push_cast [iO, tN]); refine pas [3, 6] ?_; push_cast [iO, tN]; refine ⟨paw z14 ?_, paw z15 ?_⟩ <;> (refine weak_fg ?_; push_cast [iO, tN]); refine pas [3, 9] ?_; push_cast [iO, tN]; refine ⟨paw z13 ?_, paw z15 ?_⟩ <;> (refine weak_fg ?_; push_cast [iO, tN]); refine pas [4, 6, 9] ?_; push_cast [iO, tN]; refine ⟨?_, ?_, ?_⟩; (focus ((first | ((refine plc [0] (hU) ?_ ?_; push_cast [iO, tN]; rintro r os ⟨rfl, rfl⟩; push_cast [iO, tN])) | ((refine plc [0] (hS) ?_ ?_; push_cast [iO, tN]; rintro r os ⟨rfl, rfl⟩; push_cast [iO, tN]))); refine paw z12 ?_; refine weak_fg ?_; push_cast [iO, tN])); (focus (refine paw z13 ?_; refine weak_fg ?_; push_cast [iO, tN])); (focus (refine paw z14 ?_; refine weak_fg ?_; push_cast [iO, tN])); refine pas [1, 4] ?_; push_cast [iO, tN]; refine ⟨?_, ?_⟩; (focus (exact z21)); (focus ((first | ((refine plc [0] (hU) ?_ ?_; push_cast [iO, tN]; rintro r os ⟨rfl, rfl⟩; push_cast [iO, tN])) | ((refine plc [0] (hS) ?_ ?_; push_cast [iO, tN]; rintro r os ⟨rfl, rfl⟩; push_cast [iO, tN]))); exact z23)); refine pas [1, 6] ?_; push_cast [iO, tN]; refine ⟨z20, paw z23 ?_⟩ <;> (refine weak_fg ?_; push_cast [iO, tN]); refine pas [1, 7, 9] ?_; push_cast [iO, tN]; refine ⟨?_, ?_, ?_⟩; (focus (exact z19)); (focus ((first | ((refine plc [0] (hU) ?_ ?_; push_cast [iO, tN]; rintro r os ⟨rfl, rfl⟩; push_cast [iO, tN])) | ((refine plc [0] (hS) ?_ ?_; push_cast [iO, tN]; rintro r os ⟨rfl, rfl⟩; push_cast [iO, tN]))); exact z22)); (focus (refine paw z23 ?_; refine weak_fg ?_; push_cast [iO, tN])); refine pas [3] ?_; push_cast [iO, tN]; refine paw z21 ?_ <;> (refine weak_fg ?_; push_cast [iO, tN]); refine pas [4, 6] ?_; push_cast [iO, tN]; refine ⟨?_, ?_⟩; (focus ((first | ((refine plc [0] (hU) ?_ ?_; push_cast [iO, tN]; rintro r os ⟨rfl, rfl⟩; push_cast [iO, tN])) | ((refine plc [0] (hS) ?_ ?_; push_cast [iO, tN]; rintro r os ⟨rfl, rfl⟩; push_cast [iO, tN]))); refine paw z20 ?_; refine weak_fg ?_; push_cast [iO, tN])); (focus (refine paw z21 ?_; refine weak_fg ?_; push_cast [iO, tN])); refine pas [4, 9] ?_; push_cast [iO, tN]; refine ⟨?_, ?_⟩; (focus ((first | ((refine plc [0] (hU) ?_ ?_; push_cast [iO, tN]; rintro r os ⟨rfl, rfl⟩; push_cast [iO, tN])) | ((refine plc [0] (hS) ?_ ?_; push_cast [iO, tN]; rintro r os ⟨rfl, rfl⟩; push_cast [iO, tN]))); refine paw z19 ?_; refine weak_fg ?_; push_cast [iO, tN])); (focus (refine paw z21 ?_; refine weak_fg ?_; push_cast [iO, tN])); refine pas [6, 9] ?_; push_cast [iO, tN]; refine ⟨paw z19 ?_, paw z20 ?_⟩ <;> (refine weak_fg ?_; push_cast [iO, tN]); refine pas [1, 7] ?_; push_cast [iO, tN]; refine ⟨?_, ?_⟩; (focus (exact z25)); (focus ((first | ((refine plc [0] (hU) ?_ ?_; push_cast [iO, tN]; rintro r os ⟨rfl, rfl⟩; push_cast [iO, tN])) | ((refine plc [0] (hS) ?_ ?_; push_cast [iO, tN]; rintro r os ⟨rfl, rfl⟩; push_cast [iO, tN]))); exact z26)); refine pas [1, 9] ?_; push_cast [iO, tN]; refine ⟨?_, ?_⟩; (focus (refine pah 8 ?_; push_cast [iO, tN]; exact z24)); (focus (refine paw z26 ?_; refine weak_fg ?_; push_cast [iO, tN])); refine pas [4] ?_; push_cast [iO, tN]; (focus ((first | ((refine plc [0] (hU) ?_ ?_; push_cast [iO, tN]; rintro r os ⟨rfl, rfl⟩; push_cast [iO, tN])) | ((refine plc [0] (hS) ?_ ?_; push_cast [iO, tN]; rintro r os ⟨rfl, rfl⟩; push_cast [iO, tN]))); refine paw z25 ?_; refine weak_fg ?_; push_cast [iO, tN])); refine pas [6] ?_; push_cast [iO, tN]; refine paw z25 ?_ <;> (refine weak_fg ?_; push_cast [iO, tN]); refine pas [7, 9] ?_; push_cast [iO, tN]; refine ⟨?_, ?_⟩; (focus ((first | ((refine plc [0] (hU) ?_ ?_; push_cast [iO, tN]; rintro r os ⟨rfl, rfl⟩; push_cast [iO, tN])) | ((refine plc [0] (hS) ?_ ?_; push_cast [iO, tN]; rintro r os ⟨rfl, rfl⟩; push_cast [iO, tN]))); refine pah 8 ?_; push_cast [iO, tN]; refine paw z24 ?_; refine weak_fg ?_; push_cast [iO, tN])); (focus (refine paw z25 ?_; refine weak_fg ?_; push_cast [iO, tN])); refine pas [1] ?_; push_cast [iO, tN]; (focus (refine pah 8 ?_; push_cast [iO, tN]; exact z27)); refine pas [7] ?_; push_cast [iO, tN]; (focus ((first | ((refine plc [0] (hU) ?_ ?_; push_cast [iO, tN]; rintro r os ⟨rfl, rfl⟩; push_cast [iO, tN])) | ((refine plc [0] (hS) ?_ ?_; push_cast [iO, tN]; rintro r os ⟨rfl, rfl⟩; push_cast [iO, tN]))); refine pah 8 ?_; push_cast [iO, tN]; refine paw z27 ?_; refine weak_fg ?_; push_cast [iO, tN])); refine pas [9] ?_; push_cast [iO, tN]; refine paw z27 ?_ <;> (refine weak_fg ?_; push_cast [iO, tN]); refine pas [10] ?_; push_cast [iO, tN]; refine paw z28 (weak_cutS 10 [61, 62, 67, 68, 96] _); push_cast [iO, tN]; refine pad ?_; push_cast [iO, tN])
    repeat' (first | ((first | refine pC ?_ | refine pQC ?_ | refine pU ?_); push_cast [iO, tN, hlk, hmp, hmem]) | (refine pif (fun h => ?_) (fun h => ?_) <;> first | exact pN h | push_cast [iO, tN, hlk, hmp, hmem]))
    exact ⟨((i + 1, nx + f + 1), s ++ [⟨nx + f, us, se, !inM se seen⟩], addS seen se, q + 1 + 1 + 1), ⟨⟨by simp only; omega, by simp only [List.length_append, List.length_singleton]; omega, sess_snoc hso (by omega) ⟨mem_fit (by decide) hUm, mem_fit (by decide) hSm⟩ (users_ne hUm) (seen_act hse), seen_snoc (x := ⟨nx + f, us, se, !inM se seen⟩) hse⟩, ⟨by simp only; omega, by simp only; omega⟩, by simp only; omega⟩, by (refine weak_fg ?_; push_cast [iO, tN, hsl]), by simp only; omega⟩
  · have hs32 := hso.len
    repeat' (first | ((first | refine pC ?_ | refine pQC ?_ | refine pU ?_); push_cast [iO, tN]) | (refine pif (fun h => ?_) (fun h => ?_) <;> first | exact pN h | push_cast [iO, tN]))
    (apply pwp_loop3 (α := Nat × List Ses × Nat) 10 [61, 62, 67, 68, 96] (fun x => [(62, .c (.v (.int .i64 x.1)))]) (fun x => [(0, tape L x.2.2), (4, .arr 81 4 (x.2.1.map Ses.d))]) (fun x => x.1 ≤ s.length ∧ (x.2.1.length = s.length ∧ SessOk x.2.1) ∧ x.2.2 ≤ q + x.1 * 32) (fun x => s.length - x.1) ((0, s, q)); (focus ((try push_cast [iO, tN]); rfl)); (focus exact ⟨Nat.zero_le _, ⟨rfl, hso⟩, by simp⟩); (focus ((refine weak_fg ?_; try push_cast [iO, tN]))))
    rintro ⟨i2, s2, q2⟩ ⟨hi2, ⟨hl2, ho2⟩, hq2⟩
    simp only at hi2 hl2 ho2 hq2
    push_cast [iO, tN]
    by_cases hlt2 : i2 < s.length
    · repeat' (first | ((first | refine pC ?_ | refine pQC ?_ | refine pU ?_); push_cast [iO, tN]) | (refine pif (fun h => ?_) (fun h => ?_) <;> first | exact pN h | push_cast [iO, tN]))
      (apply pwp_loop3 (α := Nat × List Ses × Nat) 10 [61, 62, 67, 68, 96] (fun x => [(68, .c (.v (.int .i64 x.1)))]) (fun x => [(0, tape L x.2.2), (4, .arr 81 4 (x.2.1.map Ses.d))]) (fun x => x.1 ≤ s.length ∧ (x.2.1.length = s.length ∧ SessOk x.2.1) ∧ x.2.2 ≤ q2 + x.1) (fun x => s.length - x.1) ((0, s2, q2)); (focus ((try push_cast [iO, tN]); rfl)); (focus exact ⟨Nat.zero_le _, ⟨hl2, ho2⟩, by simp⟩); (focus ((refine weak_fg ?_; try push_cast [iO, tN]))))
      rintro ⟨i3, s3, q3⟩ ⟨hi3, ⟨hl3, ho3⟩, hq3⟩
      simp only at hi3 hl3 ho3 hq3
      push_cast [iO, tN]
      by_cases hlt3 : i3 < s.length
      · have hN := next_pure L q3 3 (by omega) (by decide) hL hLl
        obtain ⟨f, hf⟩ : ∃ f, fold (tapeAt L q3) 3 = f := ⟨_, rfl⟩
        rw [hf] at hN
        cases h1 : (s3.getD i2 default).active with
        | false =>
          repeat' (first | (refine hidR 21 ?_) | ((first | refine pC ?_ | refine pQC ?_ | refine pU ?_); push_cast [iO, tN, hl3]) | (refine pif (fun h => ?_) (fun h => ?_) <;> first | exact pN h | push_cast [iO, tN, hl3]))
          refine unhid ?_
          (refine pwp_cut 10 [61, 62, 67, 68, 96] ?_; refine pwp_drawn (by kernel_rfl) ?_; simp only [List.length_cons, List.length_nil, Nat.reduceAdd]; refine pah 0 ?_; push_cast [iO, tN,  hl3, h1]; refine pah 2 ?_; push_cast [iO, tN,  hl3, h1]; apply pa_hav; intro z11; apply pa_hav; intro z10; apply pa_hav; intro z8; apply pa_hav; intro z9; apply pa_hav; intro z6; apply pa_hav; intro z5; apply pa_hav; intro z7; apply pa_hav; intro z3; apply pa_hav; intro z4; apply pa_hav; intro z2; apply pa_hav; intro z1; refine pas [1] ?_; push_cast [iO, tN,  hl3, h1]; (focus (refine pah 3 ?_; push_cast [iO, tN,  hl3, h1]; refine pah 4 ?_; push_cast [iO, tN,  hl3, h1]; exact z1)); refine pas [5] ?_; push_cast [iO, tN,  hl3, h1]; (focus (refine pah 6 ?_; push_cast [iO, tN,  hl3, h1]; refine pah 7 ?_; push_cast [iO, tN,  hl3, h1]; refine pah 9 ?_; push_cast [iO, tN,  hl3, h1]; refine pah 13 ?_; push_cast [iO, tN,  hl3, h1]; refine pah 15 ?_; push_cast [iO, tN,  hl3, h1]; exact z2)); refine pas [8, 14] ?_; push_cast [iO, tN,  hl3, h1]; refine ⟨?_, ?_⟩; (focus (refine pah 10 ?_; push_cast [iO, tN,  hl3, h1]; refine pah 11 ?_; push_cast [iO, tN,  hl3, h1]; exact z3)); (focus (refine pah 16 ?_; push_cast [iO, tN,  hl3, h1]; refine pah 17 ?_; push_cast [iO, tN,  hl3, h1]; exact z4)); refine pas [8, 18] ?_; push_cast [iO, tN,  hl3, h1]; refine ⟨?_, ?_⟩; (focus (refine pah 10 ?_; push_cast [iO, tN,  hl3, h1]; refine pah 11 ?_; push_cast [iO, tN,  hl3, h1]; exact z6)); (focus (exact z7)); refine pas [12, 14] ?_; push_cast [iO, tN,  hl3, h1]; refine ⟨?_, ?_⟩; (focus (exact z5)); (focus (refine pah 16 ?_; push_cast [iO, tN,  hl3, h1]; refine pah 17 ?_; push_cast [iO, tN,  hl3, h1]; refine paw z6 ?_; refine weak_fg ?_; push_cast [iO, tN,  hl3, h1])); refine pas [8] ?_; push_cast [iO, tN,  hl3, h1]; (focus (refine pah 10 ?_; push_cast [iO, tN,  hl3, h1]; refine pah 11 ?_; push_cast [iO, tN,  hl3, h1]; exact z9)); refine pas [14] ?_; push_cast [iO, tN,  hl3, h1]; (focus (refine pah 16 ?_; push_cast [iO, tN,  hl3, h1]; refine pah 17 ?_; push_cast [iO, tN,  hl3, h1]; exact z8)); refine pas [12, 18] ?_; push_cast [iO, tN,  hl3, h1]; refine ⟨paw z8 ?_, paw z9 ?_⟩ <;> (refine weak_fg ?_; push_cast [iO, tN,  hl3, h1]); refine pas [12] ?_; push_cast [iO, tN,  hl3, h1]; (focus (refine pah 19 ?_; push_cast [iO, tN,  hl3, h1]; refine pah 20 ?_; push_cast [iO, tN,  hl3, h1]; refine pah 21 ?_; push_cast [iO, tN,  hl3, h1]; refine pah 22 ?_; push_cast [iO, tN,  hl3, h1]; exact z10)); refine pas [18] ?_; push_cast [iO, tN,  hl3, h1]; (focus (refine pah 19 ?_; push_cast [iO, tN,  hl3, h1]; refine pah 20 ?_; push_cast [iO, tN,  hl3, h1]; refine pah 21 ?_; push_cast [iO, tN,  hl3, h1]; refine pah 22 ?_; push_cast [iO, tN,  hl3, h1]; refine paw z10 ?_; refine weak_fg ?_; push_cast [iO, tN,  hl3, h1])); refine pas [23] ?_; push_cast [iO, tN,  hl3, h1]; (focus ((first | (skip)); refine pah 24 ?_; push_cast [iO, tN,  hl3, h1]; refine pah 25 ?_; push_cast [iO, tN,  hl3, h1]; exact paw z11 (weak_cutS 10 [61, 62, 67, 68, 96] _))); push_cast [iO, tN,  hl3, h1]; refine pad ?_; push_cast [iO, tN,  hl3, h1])
          repeat' (first | ((first | refine pC ?_ | refine pQC ?_ | refine pU ?_); push_cast [iO, tN, hl3]) | (refine pif (fun h => ?_) (fun h => ?_) <;> first | exact pN h | push_cast [iO, tN, hl3]))
          exact ⟨(i3 + 1, s3, q3), ⟨by simp only; omega, ⟨hl3, ho3⟩, by simp only; omega⟩, by (refine weak_fg ?_; push_cast [iO, tN]), by simp only; omega⟩
        | true =>
          by_cases h2 : (s3.getD i3 default).seat = (s3.getD i2 default).seat
          · by_cases h3 : f = 0
            · have hi3l : i3 < s3.length := by omega
              obtain ⟨s4, hs4⟩ : ∃ s4, s3.set i2 { s3.getD i2 default with active := false } = s4 := ⟨_, rfl⟩
              have hl4 : s4.length = s.length := by rw [← hs4, List.length_set]; exact hl3
              have hX : (s3.map Ses.d).set i2 [.v (.int .i64 (s3.getD i2 default).id), .v (.string (s3.getD i2 default).user), .v (.string (s3.getD i2 default).seat), .v (.bool false)] = s4.map Ses.d := by rw [← hs4, List.map_set]; rfl
              have hG := row_get s4 (i := i3) (by omega)
              obtain ⟨s5, hs5⟩ : ∃ s5, s4.set i3 { s4.getD i3 default with active := true } = s5 := ⟨_, rfl⟩
              have ho5 : SessOk s5 := by rw [← hs5, ← hs4]; exact sess_swap ho3 (by omega) hi3l h2
              have hl5 : s5.length = s.length := by rw [← hs5, List.length_set]; exact hl4
              have hY : (s4.map Ses.d).set i3 [.v (.int .i64 (s4.getD i3 default).id), .v (.string (s4.getD i3 default).user), .v (.string (s4.getD i3 default).seat), .v (.bool true)] = s5.map Ses.d := by rw [← hs5, List.map_set]; rfl
              repeat' (first | (refine hidR 21 ?_) | ((first | refine pC ?_ | refine pQC ?_ | refine pU ?_); push_cast [iO, tN, hl3]) | (refine pif (fun h => ?_) (fun h => ?_) <;> first | exact pN h | push_cast [iO, tN, hl3]))
              refine unhid ?_
              (refine pwp_cut 10 [61, 62, 67, 68, 96] ?_; refine pwp_drawn (by kernel_rfl) ?_; simp only [List.length_cons, List.length_nil, Nat.reduceAdd]; refine pah 0 ?_; push_cast [iO, tN,  hl3, h1, h2, h3]; refine pah 2 ?_; push_cast [iO, tN,  hl3, h1, h2, h3]; apply pa_hav; intro z11; apply pa_hav; intro z10; apply pa_hav; intro z8; apply pa_hav; intro z9; apply pa_hav; intro z6; apply pa_hav; intro z5; apply pa_hav; intro z7; apply pa_hav; intro z3; apply pa_hav; intro z4; apply pa_hav; intro z2; apply pa_hav; intro z1; refine pas [1] ?_; push_cast [iO, tN,  hl3, h1, h2, h3]; (focus (refine pah 3 ?_; push_cast [iO, tN,  hl3, h1, h2, h3]; refine pah 4 ?_; push_cast [iO, tN,  hl3, h1, h2, h3]; exact z1)); refine pas [5] ?_; push_cast [iO, tN,  hl3, h1, h2, h3]; (focus (refine pah 6 ?_; push_cast [iO, tN,  hl3, h1, h2, h3]; refine pah 7 ?_; push_cast [iO, tN,  hl3, h1, h2, h3]; refine pah 9 ?_; push_cast [iO, tN,  hl3, h1, h2, h3]; refine pah 13 ?_; push_cast [iO, tN,  hl3, h1, h2, h3]; refine pah 15 ?_; push_cast [iO, tN,  hl3, h1, h2, h3]; exact z2)); refine pas [8, 14] ?_; push_cast [iO, tN,  hl3, h1, h2, h3]; refine ⟨?_, ?_⟩; (focus (refine pah 10 ?_; push_cast [iO, tN,  hl3, h1, h2, h3]; refine pah 11 ?_; push_cast [iO, tN,  hl3, h1, h2, h3]; exact z3)); (focus (refine pah 16 ?_; push_cast [iO, tN,  hl3, h1, h2, h3]; refine pah 17 ?_; push_cast [iO, tN,  hl3, h1, h2, h3]; exact z4)); refine pas [8, 18] ?_; push_cast [iO, tN,  hl3, h1, h2, h3]; refine ⟨?_, ?_⟩; (focus (refine pah 10 ?_; push_cast [iO, tN,  hl3, h1, h2, h3]; refine pah 11 ?_; push_cast [iO, tN,  hl3, h1, h2, h3]; exact z6)); (focus (exact z7)); refine pas [12, 14] ?_; push_cast [iO, tN,  hl3, h1, h2, h3]; refine ⟨?_, ?_⟩; (focus (exact z5)); (focus (refine pah 16 ?_; push_cast [iO, tN,  hl3, h1, h2, h3]; refine pah 17 ?_; push_cast [iO, tN,  hl3, h1, h2, h3]; refine paw z6 ?_; refine weak_fg ?_; push_cast [iO, tN,  hl3, h1, h2, h3])); refine pas [8] ?_; push_cast [iO, tN,  hl3, h1, h2, h3]; (focus (refine pah 10 ?_; push_cast [iO, tN,  hl3, h1, h2, h3]; refine pah 11 ?_; push_cast [iO, tN,  hl3, h1, h2, h3]; exact z9)); refine pas [14] ?_; push_cast [iO, tN,  hl3, h1, h2, h3]; (focus (refine pah 16 ?_; push_cast [iO, tN,  hl3, h1, h2, h3]; refine pah 17 ?_; push_cast [iO, tN,  hl3, h1, h2, h3]; exact z8)); refine pas [12, 18] ?_; push_cast [iO, tN,  hl3, h1, h2, h3]; refine ⟨paw z8 ?_, paw z9 ?_⟩ <;> (refine weak_fg ?_; push_cast [iO, tN,  hl3, h1, h2, h3]); refine pas [12] ?_; push_cast [iO, tN,  hl3, h1, h2, h3]; (focus (refine pah 19 ?_; push_cast [iO, tN,  hl3, h1, h2, h3]; refine pah 20 ?_; push_cast [iO, tN,  hl3, h1, h2, h3]; refine pah 21 ?_; push_cast [iO, tN,  hl3, h1, h2, h3]; refine pah 22 ?_; push_cast [iO, tN,  hl3, h1, h2, h3]; exact z10)); refine pas [18] ?_; push_cast [iO, tN,  hl3, h1, h2, h3]; (focus (refine pah 19 ?_; push_cast [iO, tN,  hl3, h1, h2, h3]; refine pah 20 ?_; push_cast [iO, tN,  hl3, h1, h2, h3]; refine pah 21 ?_; push_cast [iO, tN,  hl3, h1, h2, h3]; refine pah 22 ?_; push_cast [iO, tN,  hl3, h1, h2, h3]; refine paw z10 ?_; refine weak_fg ?_; push_cast [iO, tN,  hl3, h1, h2, h3])); refine pas [23] ?_; push_cast [iO, tN,  hl3, h1, h2, h3]; (focus ((first | ((refine plc [0] (hN) ?_ ?_; push_cast [iO, tN,  hl3, h1, h2, h3]; rintro r os ⟨rfl, rfl⟩; push_cast [iO, tN,  hl3, h1, h2, h3]))); refine pah 24 ?_; push_cast [iO, tN,  hl3, h1, h2, h3]; refine pah 25 ?_; push_cast [iO, tN,  hl3, h1, h2, h3]; exact paw z11 (weak_cutS 10 [61, 62, 67, 68, 96] _))); push_cast [iO, tN,  hl3, h1, h2, h3]; refine pad ?_; push_cast [iO, tN,  hl3, h1, h2, h3])
              repeat' (first | ((first | refine pC ?_ | refine pQC ?_ | refine pU ?_); push_cast [iO, tN, hl3]) | (refine pif (fun h => ?_) (fun h => ?_) <;> first | exact pN h | push_cast [iO, tN, hl3]))
              exact ⟨(i3 + 1, s5, q3 + 1), ⟨by simp only; omega, ⟨hl5, ho5⟩, by simp only; omega⟩, by (refine weak_fg ?_; push_cast [iO, tN, hX, hG, hY]), by simp only; omega⟩
            · repeat' (first | (refine hidR 21 ?_) | ((first | refine pC ?_ | refine pQC ?_ | refine pU ?_); push_cast [iO, tN, hl3]) | (refine pif (fun h => ?_) (fun h => ?_) <;> first | exact pN h | push_cast [iO, tN, hl3]))
              refine unhid ?_
              (refine pwp_cut 10 [61, 62, 67, 68, 96] ?_; refine pwp_drawn (by kernel_rfl) ?_; simp only [List.length_cons, List.length_nil, Nat.reduceAdd]; refine pah 0 ?_; push_cast [iO, tN,  hl3, h1, h2, h3]; refine pah 2 ?_; push_cast [iO, tN,  hl3, h1, h2, h3]; apply pa_hav; intro z11; apply pa_hav; intro z10; apply pa_hav; intro z8; apply pa_hav; intro z9; apply pa_hav; intro z6; apply pa_hav; intro z5; apply pa_hav; intro z7; apply pa_hav; intro z3; apply pa_hav; intro z4; apply pa_hav; intro z2; apply pa_hav; intro z1; refine pas [1] ?_; push_cast [iO, tN,  hl3, h1, h2, h3]; (focus (refine pah 3 ?_; push_cast [iO, tN,  hl3, h1, h2, h3]; refine pah 4 ?_; push_cast [iO, tN,  hl3, h1, h2, h3]; exact z1)); refine pas [5] ?_; push_cast [iO, tN,  hl3, h1, h2, h3]; (focus (refine pah 6 ?_; push_cast [iO, tN,  hl3, h1, h2, h3]; refine pah 7 ?_; push_cast [iO, tN,  hl3, h1, h2, h3]; refine pah 9 ?_; push_cast [iO, tN,  hl3, h1, h2, h3]; refine pah 13 ?_; push_cast [iO, tN,  hl3, h1, h2, h3]; refine pah 15 ?_; push_cast [iO, tN,  hl3, h1, h2, h3]; exact z2)); refine pas [8, 14] ?_; push_cast [iO, tN,  hl3, h1, h2, h3]; refine ⟨?_, ?_⟩; (focus (refine pah 10 ?_; push_cast [iO, tN,  hl3, h1, h2, h3]; refine pah 11 ?_; push_cast [iO, tN,  hl3, h1, h2, h3]; exact z3)); (focus (refine pah 16 ?_; push_cast [iO, tN,  hl3, h1, h2, h3]; refine pah 17 ?_; push_cast [iO, tN,  hl3, h1, h2, h3]; exact z4)); refine pas [8, 18] ?_; push_cast [iO, tN,  hl3, h1, h2, h3]; refine ⟨?_, ?_⟩; (focus (refine pah 10 ?_; push_cast [iO, tN,  hl3, h1, h2, h3]; refine pah 11 ?_; push_cast [iO, tN,  hl3, h1, h2, h3]; exact z6)); (focus (exact z7)); refine pas [12, 14] ?_; push_cast [iO, tN,  hl3, h1, h2, h3]; refine ⟨?_, ?_⟩; (focus (exact z5)); (focus (refine pah 16 ?_; push_cast [iO, tN,  hl3, h1, h2, h3]; refine pah 17 ?_; push_cast [iO, tN,  hl3, h1, h2, h3]; refine paw z6 ?_; refine weak_fg ?_; push_cast [iO, tN,  hl3, h1, h2, h3])); refine pas [8] ?_; push_cast [iO, tN,  hl3, h1, h2, h3]; (focus (refine pah 10 ?_; push_cast [iO, tN,  hl3, h1, h2, h3]; refine pah 11 ?_; push_cast [iO, tN,  hl3, h1, h2, h3]; exact z9)); refine pas [14] ?_; push_cast [iO, tN,  hl3, h1, h2, h3]; (focus (refine pah 16 ?_; push_cast [iO, tN,  hl3, h1, h2, h3]; refine pah 17 ?_; push_cast [iO, tN,  hl3, h1, h2, h3]; exact z8)); refine pas [12, 18] ?_; push_cast [iO, tN,  hl3, h1, h2, h3]; refine ⟨paw z8 ?_, paw z9 ?_⟩ <;> (refine weak_fg ?_; push_cast [iO, tN,  hl3, h1, h2, h3]); refine pas [12] ?_; push_cast [iO, tN,  hl3, h1, h2, h3]; (focus (refine pah 19 ?_; push_cast [iO, tN,  hl3, h1, h2, h3]; refine pah 20 ?_; push_cast [iO, tN,  hl3, h1, h2, h3]; refine pah 21 ?_; push_cast [iO, tN,  hl3, h1, h2, h3]; refine pah 22 ?_; push_cast [iO, tN,  hl3, h1, h2, h3]; exact z10)); refine pas [18] ?_; push_cast [iO, tN,  hl3, h1, h2, h3]; (focus (refine pah 19 ?_; push_cast [iO, tN,  hl3, h1, h2, h3]; refine pah 20 ?_; push_cast [iO, tN,  hl3, h1, h2, h3]; refine pah 21 ?_; push_cast [iO, tN,  hl3, h1, h2, h3]; refine pah 22 ?_; push_cast [iO, tN,  hl3, h1, h2, h3]; refine paw z10 ?_; refine weak_fg ?_; push_cast [iO, tN,  hl3, h1, h2, h3])); refine pas [23] ?_; push_cast [iO, tN,  hl3, h1, h2, h3]; (focus ((first | ((refine plc [0] (hN) ?_ ?_; push_cast [iO, tN,  hl3, h1, h2, h3]; rintro r os ⟨rfl, rfl⟩; push_cast [iO, tN,  hl3, h1, h2, h3]))); refine pah 24 ?_; push_cast [iO, tN,  hl3, h1, h2, h3]; refine pah 25 ?_; push_cast [iO, tN,  hl3, h1, h2, h3]; exact paw z11 (weak_cutS 10 [61, 62, 67, 68, 96] _))); push_cast [iO, tN,  hl3, h1, h2, h3]; refine pad ?_; push_cast [iO, tN,  hl3, h1, h2, h3])
              repeat' (first | ((first | refine pC ?_ | refine pQC ?_ | refine pU ?_); push_cast [iO, tN, hl3]) | (refine pif (fun h => ?_) (fun h => ?_) <;> first | exact pN h | push_cast [iO, tN, hl3]))
              exact ⟨(i3 + 1, s3, q3 + 1), ⟨by simp only; omega, ⟨hl3, ho3⟩, by simp only; omega⟩, by (refine weak_fg ?_; push_cast [iO, tN]), by simp only; omega⟩
          · repeat' (first | (refine hidR 21 ?_) | ((first | refine pC ?_ | refine pQC ?_ | refine pU ?_); push_cast [iO, tN, hl3]) | (refine pif (fun h => ?_) (fun h => ?_) <;> first | exact pN h | push_cast [iO, tN, hl3]))
            refine unhid ?_
            (refine pwp_cut 10 [61, 62, 67, 68, 96] ?_; refine pwp_drawn (by kernel_rfl) ?_; simp only [List.length_cons, List.length_nil, Nat.reduceAdd]; refine pah 0 ?_; push_cast [iO, tN,  hl3, h1, h2]; refine pah 2 ?_; push_cast [iO, tN,  hl3, h1, h2]; apply pa_hav; intro z11; apply pa_hav; intro z10; apply pa_hav; intro z8; apply pa_hav; intro z9; apply pa_hav; intro z6; apply pa_hav; intro z5; apply pa_hav; intro z7; apply pa_hav; intro z3; apply pa_hav; intro z4; apply pa_hav; intro z2; apply pa_hav; intro z1; refine pas [1] ?_; push_cast [iO, tN,  hl3, h1, h2]; (focus (refine pah 3 ?_; push_cast [iO, tN,  hl3, h1, h2]; refine pah 4 ?_; push_cast [iO, tN,  hl3, h1, h2]; exact z1)); refine pas [5] ?_; push_cast [iO, tN,  hl3, h1, h2]; (focus (refine pah 6 ?_; push_cast [iO, tN,  hl3, h1, h2]; refine pah 7 ?_; push_cast [iO, tN,  hl3, h1, h2]; refine pah 9 ?_; push_cast [iO, tN,  hl3, h1, h2]; refine pah 13 ?_; push_cast [iO, tN,  hl3, h1, h2]; refine pah 15 ?_; push_cast [iO, tN,  hl3, h1, h2]; exact z2)); refine pas [8, 14] ?_; push_cast [iO, tN,  hl3, h1, h2]; refine ⟨?_, ?_⟩; (focus (refine pah 10 ?_; push_cast [iO, tN,  hl3, h1, h2]; refine pah 11 ?_; push_cast [iO, tN,  hl3, h1, h2]; exact z3)); (focus (refine pah 16 ?_; push_cast [iO, tN,  hl3, h1, h2]; refine pah 17 ?_; push_cast [iO, tN,  hl3, h1, h2]; exact z4)); refine pas [8, 18] ?_; push_cast [iO, tN,  hl3, h1, h2]; refine ⟨?_, ?_⟩; (focus (refine pah 10 ?_; push_cast [iO, tN,  hl3, h1, h2]; refine pah 11 ?_; push_cast [iO, tN,  hl3, h1, h2]; exact z6)); (focus (exact z7)); refine pas [12, 14] ?_; push_cast [iO, tN,  hl3, h1, h2]; refine ⟨?_, ?_⟩; (focus (exact z5)); (focus (refine pah 16 ?_; push_cast [iO, tN,  hl3, h1, h2]; refine pah 17 ?_; push_cast [iO, tN,  hl3, h1, h2]; refine paw z6 ?_; refine weak_fg ?_; push_cast [iO, tN,  hl3, h1, h2])); refine pas [8] ?_; push_cast [iO, tN,  hl3, h1, h2]; (focus (refine pah 10 ?_; push_cast [iO, tN,  hl3, h1, h2]; refine pah 11 ?_; push_cast [iO, tN,  hl3, h1, h2]; exact z9)); refine pas [14] ?_; push_cast [iO, tN,  hl3, h1, h2]; (focus (refine pah 16 ?_; push_cast [iO, tN,  hl3, h1, h2]; refine pah 17 ?_; push_cast [iO, tN,  hl3, h1, h2]; exact z8)); refine pas [12, 18] ?_; push_cast [iO, tN,  hl3, h1, h2]; refine ⟨paw z8 ?_, paw z9 ?_⟩ <;> (refine weak_fg ?_; push_cast [iO, tN,  hl3, h1, h2]); refine pas [12] ?_; push_cast [iO, tN,  hl3, h1, h2]; (focus (refine pah 19 ?_; push_cast [iO, tN,  hl3, h1, h2]; refine pah 20 ?_; push_cast [iO, tN,  hl3, h1, h2]; refine pah 21 ?_; push_cast [iO, tN,  hl3, h1, h2]; refine pah 22 ?_; push_cast [iO, tN,  hl3, h1, h2]; exact z10)); refine pas [18] ?_; push_cast [iO, tN,  hl3, h1, h2]; (focus (refine pah 19 ?_; push_cast [iO, tN,  hl3, h1, h2]; refine pah 20 ?_; push_cast [iO, tN,  hl3, h1, h2]; refine pah 21 ?_; push_cast [iO, tN,  hl3, h1, h2]; refine pah 22 ?_; push_cast [iO, tN,  hl3, h1, h2]; refine paw z10 ?_; refine weak_fg ?_; push_cast [iO, tN,  hl3, h1, h2])); refine pas [23] ?_; push_cast [iO, tN,  hl3, h1, h2]; (focus ((first | (skip)); refine pah 24 ?_; push_cast [iO, tN,  hl3, h1, h2]; refine pah 25 ?_; push_cast [iO, tN,  hl3, h1, h2]; exact paw z11 (weak_cutS 10 [61, 62, 67, 68, 96] _))); push_cast [iO, tN,  hl3, h1, h2]; refine pad ?_; push_cast [iO, tN,  hl3, h1, h2])
            repeat' (first | ((first | refine pC ?_ | refine pQC ?_ | refine pU ?_); push_cast [iO, tN, hl3]) | (refine pif (fun h => ?_) (fun h => ?_) <;> first | exact pN h | push_cast [iO, tN, hl3]))
            exact ⟨(i3 + 1, s3, q3), ⟨by simp only; omega, ⟨hl3, ho3⟩, by simp only; omega⟩, by (refine weak_fg ?_; push_cast [iO, tN]), by simp only; omega⟩
      · repeat' (first | ((first | refine pC ?_ | refine pQC ?_ | refine pU ?_); push_cast [iO, tN]) | (refine pif (fun h => ?_) (fun h => ?_) <;> first | exact pN h | push_cast [iO, tN]))
        exact ⟨(i2 + 1, s3, q3), ⟨by simp only; omega, ⟨hl3, ho3⟩, by simp only; omega⟩, by (refine weak_fg ?_; push_cast [iO, tN]), by simp only; omega⟩
    · refine pwp_weak (weak_frz 4 (by omega)) ?_
      have htk : List.take s.length (s2.map Ses.d) = s2.map Ses.d := List.take_of_length_le (by rw [List.length_map]; omega)
      push_cast [iO, tN, htk, hl2]
      repeat' (first | ((first | refine pC ?_ | refine pQC ?_ | refine pU ?_); push_cast [iO, tN]) | (refine pif (fun h => ?_) (fun h => ?_) <;> first | exact pN h | push_cast [iO, tN]))
      (refine retK_of [0] ?_; push_cast [iO, tN])
      exact ⟨_, _, leP_refl _, leOs_refl _, nx, s2, q2, ho2, by omega, rfl, rfl⟩
end Go.Proofs.YtcnoopjacilceaaGreatDoor
