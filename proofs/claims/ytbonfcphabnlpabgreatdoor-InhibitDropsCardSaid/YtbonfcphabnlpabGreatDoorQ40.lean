/- What the program computes, and the plain laws of it, part 40. -/
import Derived.Test.YtbonfcphabnlpabGreatDoorQ35
import Derived.Test.YtbonfcphabnlpabGreatDoorQ36
import Derived.Test.YtbonfcphabnlpabGreatDoorQ37
import Derived.Test.YtbonfcphabnlpabGreatDoorQ39
namespace Go.Proofs.YtbonfcphabnlpabGreatDoor
attribute [local irreducible] PL QL PWPr PCalls Weak RetK Kontr PA
open Go.RowKit
open IntWalk renaming iteOmega → iO, toNatUp → tN
set_option linter.unusedVariables false
set_option linter.unusedSimpArgs false
set_option maxRecDepth 20000
structure TreeOk (l : List Dev) (n : Nat) : Prop where
  okt : Okt l
  len : l.length ≤ n
  dev : ∀ d ∈ l, d.ok ∧ d.original.size ≤ 10 + 2 * n ∧ d.index ≤ n
  att : ∀ d ∈ l, d.attrs.length ≤ 1000
theorem TreeOk.nil (n : Nat) : TreeOk [] n := ⟨Okt.nil, Nat.zero_le _, fun d hd => by simp at hd, fun d hd => by simp at hd⟩
theorem TreeOk.more {l : List Dev} {n m : Nat} (h : TreeOk l n) (hm : n ≤ m) : TreeOk l m := ⟨h.okt, by have := h.len; omega, fun d hd => ⟨(h.dev d hd).1, by have := (h.dev d hd).2.1; omega, by have := (h.dev d hd).2.2; omega⟩, h.att⟩
theorem insT_mem {l : List Dev} {d x : Dev} (h : x ∈ insT l d) : x = d ∨ x ∈ l := by unfold insT at h; exact put_mem.1 h
theorem insT_len (l : List Dev) (d : Dev) : (insT l d).length = l.length + 1 := by
  have := atM_le l (ownM l d) l.length
  unfold insT
  simp only [List.length_append, List.length_take, List.length_drop, List.length_cons, List.length_nil]
  omega
theorem TreeOk.ins {l : List Dev} {n : Nat} (h : TreeOk l n) {d : Dev} (he : insErr l d = 0) (hk : d.ok) (hz : d.original.size ≤ 10 + 2 * n + 2) (hi : d.index = ((n + 1 : Nat) : Int)) (ha : d.attrs.length ≤ 1000) : TreeOk (insT l d) (n + 1) := by
  refine ⟨(h.okt.ins he).1, by rw [insT_len]; have := h.len; omega, fun x hx => ?_, fun x hx => (insT_mem hx).elim (fun e => e ▸ ha) (h.att x)⟩
  rcases insT_mem hx with rfl | hx
  · exact ⟨hk, by omega, by omega⟩
  · obtain ⟨a, b, c⟩ := h.dev x hx
    exact ⟨a, by omega, by omega⟩
set_option maxHeartbeats 4000000 in
theorem made_pure (L : List Int) (k n : Nat) (hk : k < 50000) (hn : n ≤ 10) (hL : ∀ x ∈ L, -9223372036854775808 ≤ x ∧ x ≤ 9223372036854775807) (hLl : L.length ≤ 9223372036854775807) :
    PCalls Tryz.prog 6 [.c (.ptr 0 0), .c (.v (.int .i64 n))] [tape L k] fun r os => ∃ (l : List Dev) (k' : Nat), TreeOk l n ∧ k' ≤ k + 12 * n ∧ r = .agg (trE l) ∧ os = [tape L k'] := by
  refine pcalls_of Tryz.func6 rfl (by simp [Tryz.ntmps6]) ?_
  rw [Tryz.ntmps6, Tryz.results6]
  push_cast [iO, tN]
  have cB : CutB 9 [] := trivial
  repeat' (first | ((first | refine pC ?_ | refine pQC ?_ | refine pU ?_); push_cast [iO, tN]) | (refine pif (fun h => ?_) (fun h => ?_) <;> first | exact pN h | push_cast [iO, tN]))
  (apply pwp_loop3 (α := Nat × List Dev × Nat) 9 [] (fun x => [(6, .c (.v (.int .i64 ((x.1 : Int) + 1))))]) (fun x => [(0, tape L x.2.2), (2, .box 34 (trE x.2.1))]) (fun x => x.1 ≤ n ∧ TreeOk x.2.1 x.1 ∧ x.2.2 ≤ k + 12 * x.1) (fun x => n - x.1) ((0, [], k)); (focus ((try push_cast [iO, tN]); rfl)); (focus exact ⟨Nat.zero_le _, TreeOk.nil _, Nat.le_refl _⟩); (focus ((refine weak_fg ?_; try push_cast [iO, tN]))))
  rintro ⟨i, l, k1⟩ ⟨h1, h2, h3⟩
  simp only at h1 h2 h3 ⊢
  push_cast [iO, tN]
  have hll := h2.len
  by_cases hlt : i < n
  case neg =>
    have hi : i = n := by omega
    have hc : ¬ (i : Int) + 1 ≤ (n : Int) := by omega
    subst hi
    repeat' (first | ((first | refine pC ?_ | refine pQC ?_ | refine pU ?_); push_cast [iO, tN, hc]) | (refine pif (fun h => ?_) (fun h => ?_) <;> first | exact pN h | push_cast [iO, tN, hc]))
    (refine retK_of [0] ?_; push_cast [iO, tN])
    exact ⟨_, _, leP_refl _, leOs_refl _, l, k1, h2, h3, rfl, rfl⟩
  have hc : (i : Int) + 1 ≤ (n : Int) := by omega
  have hzl : ∀ d ∈ l, d.original.size ≤ 10 + 2 * i := fun d hd => (h2.dev d hd).2.1
  have hzl2 : ∀ d ∈ l, d.original.size ≤ 100000 := fun d hd => by have := hzl d hd; omega
  have hdv := device_pure L k1 l ((i : Int) + 1) (10 + 2 * i) (by omega) (by omega) (by omega) (by omega) hzl (by omega) (by omega) hL hLl
  refine pwp_seq fun K1 hK1 => ?_
  refine pwp_seq fun K2 hK2 => ?_
  refine pwp_region ?_
  push_cast [iO, tN, hc]
  refine Kont.use (by assumption) ?_
  refine pwp_cond ?_
  push_cast [iO, tN, hc]
  refine pwp_skip ?_
  push_cast [iO, tN]
  refine Kont.use (by assumption) ?_
  refine pwp_seq fun K3 hK3 => ?_
  refine pwp_block ?_
  (apply pwp_mid4 (α := Int × List Dev × Nat) 9 [] (fun x => [(8, .c (.v (.int .i64 x.1))), (7, .c (.ptr 3 0))]) (fun x => [(0, tape L x.2.2)]) (fun x => [.box 34 (trE x.2.1)]) (fun x => (x.1 = 0 → TreeOk x.2.1 (i + 1)) ∧ x.2.2 ≤ k1 + 12) ((0, [], 0)); (focus ((try push_cast [iO, tN]); rfl)))
  · have hins : ∀ d : Dev, d.ok → d.original.size ≤ 10 + 2 * i + 2 → PCalls Tryz.prog 19 [.agg (trE l), .agg d.e] [] fun r os => r = .two (.agg (trE (if insErr l d = 0 then insT l d else []))) (.c (.v (.int .i64 (insErr l d)))) ∧ os = [] := fun d hd hz => rins_pure l d hd (by omega) hzl2 (by omega)
    (refine pwp_drawn (by kernel_rfl) ?_; simp only [List.length_cons, List.length_nil, Nat.reduceAdd]; repeat' first | (refine plc [0] (hdv) ?_ ?_; push_cast [iO, tN]; rintro r os ⟨d, k2, ⟨e1, e2, e3, e5⟩, e4, rfl, rfl⟩; push_cast [iO, tN]) | (refine plc [] ((hins d e2 e3)) ?_ ?_; push_cast [iO, tN]; rintro r os ⟨rfl, rfl⟩; push_cast [iO, tN]) | ((first | refine pah 1 ?_ | refine pah 3 ?_ | refine pah 6 ?_ | refine pah 7 ?_ | refine pah 8 ?_ | refine pah 11 ?_); push_cast [iO, tN]) | (refine pad ?_; try push_cast [iO, tN]) | ((first | refine pas [0] ?_ | refine pas [2] ?_ | refine pas [4] ?_ | refine pas [5] ?_ | refine pas [9] ?_ | refine pas [10] ?_); push_cast [iO, tN]) | ((first | refine pas [0, 2] ?_ | refine pas [0, 4] ?_ | refine pas [0, 5] ?_ | refine pas [0, 9] ?_ | refine pas [0, 10] ?_ | refine pas [2, 4] ?_ | refine pas [2, 5] ?_ | refine pas [2, 9] ?_ | refine pas [2, 10] ?_ | refine pas [4, 5] ?_ | refine pas [4, 9] ?_ | refine pas [4, 10] ?_ | refine pas [5, 9] ?_ | refine pas [5, 10] ?_ | refine pas [9, 10] ?_); push_cast [iO, tN]; refine ⟨?_, ?_⟩) | ((first | refine pas [0, 2, 4] ?_ | refine pas [0, 2, 5] ?_ | refine pas [0, 2, 9] ?_ | refine pas [0, 2, 10] ?_ | refine pas [0, 4, 5] ?_ | refine pas [0, 4, 9] ?_ | refine pas [0, 4, 10] ?_ | refine pas [0, 5, 9] ?_ | refine pas [0, 5, 10] ?_ | refine pas [0, 9, 10] ?_ | refine pas [2, 4, 5] ?_ | refine pas [2, 4, 9] ?_ | refine pas [2, 4, 10] ?_ | refine pas [2, 5, 9] ?_ | refine pas [2, 5, 10] ?_ | refine pas [2, 9, 10] ?_ | refine pas [4, 5, 9] ?_ | refine pas [4, 5, 10] ?_ | refine pas [4, 9, 10] ?_ | refine pas [5, 9, 10] ?_); push_cast [iO, tN]; refine ⟨?_, ?_, ?_⟩))
    all_goals exact ⟨(insErr l d, (if insErr l d = 0 then insT l d else []), k2), ⟨fun h0 => by have h0' : insErr l d = 0 := h0; simp only; rw [if_pos h0']; exact h2.ins h0' e2 e3 (by rw [e1]; omega) e5, by simp only; omega⟩, by (refine weak_fg ?_; push_cast [iO, tN])⟩
  rintro ⟨err, l2, k2⟩ ⟨g1, g2⟩
  simp only at g1 g2
  push_cast [iO, tN]
  by_cases he : err = 0
  · repeat' (first | ((first | refine pC ?_ | refine pQC ?_ | refine pU ?_); push_cast [iO, tN, he]) | (refine pif (fun h => ?_) (fun h => ?_) <;> first | exact pN h | push_cast [iO, tN, he]))
    exact ⟨(i + 1, l2, k2), ⟨by simp only; omega, g1 he, by simp only; omega⟩, by (refine weak_fg ?_; push_cast [iO, tN]), by simp only; omega⟩
  · repeat' (first | ((first | refine pC ?_ | refine pQC ?_ | refine pU ?_); push_cast [iO, tN, he]) | (refine pif (fun h => ?_) (fun h => ?_) <;> first | exact pN h | push_cast [iO, tN, he]))
    exact ⟨(i + 1, l, k2), ⟨by simp only; omega, h2.more (by omega), by simp only; omega⟩, by (refine weak_fg ?_; push_cast [iO, tN]), by simp only; omega⟩
end Go.Proofs.YtbonfcphabnlpabGreatDoor
namespace Go.Proofs.YtbonfcphabnlpabGreatDoor
open Go.RowKit
open IntWalk renaming iteOmega → iO, toNatUp → tN
set_option linter.unusedVariables false
set_option linter.unusedSimpArgs false
structure Inh.good (s : Inh) : Prop where
  ok : s.ok
  paths : (s.reqs.map Req.path).Nodup
  ids : (s.list.map Ihb.id).Nodup
theorem good_new {n : Int} (h0 : 0 ≤ n) (h1 : n ≤ 1073741824) : Inh.good ⟨n, [], []⟩ :=
  ⟨⟨h0, h1, Nat.zero_le _, Nat.zero_le _, fun x hx => by simp at hx, fun x hx => by simp at hx⟩, List.nodup_nil, List.nodup_nil⟩
theorem valid_size32 {s : ByteArray} (h : validS s = true) : s.size ≤ 32 := by
  unfold validS at h
  simp only [Bool.and_eq_true, decide_eq_true_eq] at h
  exact h.1.1.2
theorem glob_size {p : ByteArray} (h : globM p = 0) : p.size ≤ 256 := by
  unfold globM at h
  split at h
  · simp at h
  · omega
theorem add_split {s : Inh} {who pat : ByteArray} (h : addE s who pat = 0) : validS who = true ∧ globM pat = 0 ∧ s.list.length < 32 ∧ s.next < 1073741824 := by
  unfold addE at h
  split at h
  · simp at h
  split at h
  · simp at h
  split at h
  · simp at h
  rename_i h1 h2 h3
  exact ⟨by simpa using h1, by simpa using h2, by omega, by omega⟩
theorem Inh.good.add {s : Inh} (h : s.good) {who pat : ByteArray} {till : Int} (h1 : -1000000 ≤ till) (h2 : till ≤ 1000000) (e : addE s who pat = 0) : (addM s who pat till).good := by
  obtain ⟨e1, e2, e3, e4⟩ := add_split e
  have hv := valid_size32 e1
  have hg := glob_size e2
  have hM : addM s who pat till = ⟨s.next + 1, s.list ++ [⟨s.next, who, pat, till⟩], s.reqs⟩ := by unfold addM; rw [if_pos e]
  rw [hM]
  refine ⟨⟨by have := h.ok.n0; simp only; omega, by simp only; omega, by rw [List.length_append, List.length_singleton]; omega, h.ok.reqs, fun x hx => ?_, h.ok.req⟩, h.paths, ?_⟩
  · rw [List.mem_append, List.mem_singleton] at hx
    rcases hx with hx | hx
    · have := h.ok.ihb x hx
      exact ⟨⟨this.1.1, by simp only; omega⟩, this.2⟩
    · subst hx
      have := h.ok.n0
      exact ⟨⟨this, by simp only; omega⟩, ⟨h1, h2⟩, hg, by simp only; omega⟩
  · rw [List.map_append, List.nodup_append]
    refine ⟨h.ids, by simp, fun a ha b hb => ?_⟩
    rw [List.mem_map] at ha
    obtain ⟨x, hx, rfl⟩ := ha
    simp only [List.map_cons, List.map_nil, List.mem_singleton] at hb
    subst hb
    have := (h.ok.ihb x hx).1.2
    omega
theorem good_sub {s : Inh} (h : s.good) (p : Ihb → Bool) (q : Req → Bool) : Inh.good ⟨s.next, s.list.filter p, s.reqs.filter q⟩ := by
  refine ⟨⟨h.ok.n0, h.ok.n1, Nat.le_trans (List.length_filter_le _ _) h.ok.len, Nat.le_trans (List.length_filter_le _ _) h.ok.reqs, fun x hx => h.ok.ihb x (List.mem_filter.1 hx).1, fun x hx => h.ok.req x (List.mem_filter.1 hx).1⟩, ?_, ?_⟩
  · exact List.Nodup.sublist ((List.filter_sublist).map _) h.paths
  · exact List.Nodup.sublist ((List.filter_sublist).map _) h.ids
theorem filter_true {α : Type} (l : List α) : l.filter (fun _ => true) = l := by simp
theorem Inh.good.rel {s : Inh} (h : s.good) {id : Int} (e : relE s id = 0) : (relM s id).good := by
  have hn : ¬ (relL id s.list).length = s.list.length := fun h => by unfold relE at e; rw [if_pos h] at e; simp at e
  have hM : relM s id = ⟨s.next, relL id s.list, s.reqs⟩ := by unfold relM; rw [if_neg hn]
  have := good_sub h (fun x => decide (x.id ≠ id)) (fun _ => true)
  rw [filter_true] at this
  rw [hM]; exact this
theorem Inh.good.drop {s : Inh} (h : s.good) (p : ByteArray) : (dropM s p).good := by
  have := good_sub h (fun _ => true) (fun r => decide (r.path ≠ p))
  rw [filter_true] at this
  exact this
theorem Inh.good.fall {s : Inh} (h : s.good) (t : List Dev) : (fallM s t).good := by
  have := good_sub h (fun _ => true) (fun r => (findD t r.index).isSome && decide (placeM t r.index = r.path))
  rw [filter_true] at this
  exact this
theorem atD_mem {t : List Dev} {p : ByteArray} {d : Dev} (h : atD t p = some d) : d ∈ t ∧ placeM t d.index = p := by
  unfold atD at h
  exact ⟨List.mem_of_find?_eq_some h, by simpa using List.find?_some h⟩
theorem ask_split {s : Inh} {t : List Dev} {p : ByteArray} (h : askE s t p = 0) : ∃ d, atD t p = some d ∧ takenQ s p d = false ∧ (dropR p s.reqs).length < 32 := by
  unfold askE at h
  split at h
  · simp at h
  rename_i d hd
  split at h
  · simp at h
  split at h
  · simp at h
  rename_i h1 h2
  exact ⟨d, hd, by simpa using h1, by omega⟩
theorem Inh.good.ask {s : Inh} (h : s.good) {t : List Dev} {p : ByteArray} {now : Int} {n : Nat} (ht : TreeOk t n) (hn : n ≤ 1000) (h1 : 0 ≤ now) (h2 : now ≤ 1000000) (hp : p.size ≤ 10000000) (e : askE s t p = 0) : (askM s t p now).good := by
  obtain ⟨d, hd, _, hl⟩ := ask_split e
  have hdm := (atD_mem hd).1
  have hM : askM s t p now = ⟨s.next, s.list, dropR p s.reqs ++ [⟨p, d.index, now⟩]⟩ := by unfold askM; rw [if_pos e, hd]; rfl
  have hg := h.drop p
  rw [hM]
  refine ⟨⟨h.ok.n0, h.ok.n1, h.ok.len, by rw [List.length_append, List.length_singleton]; omega, h.ok.ihb, fun r hr => ?_⟩, ?_, h.ids⟩
  · rw [List.mem_append, List.mem_singleton] at hr
    rcases hr with hr | hr
    · exact hg.ok.req r hr
    · subst hr
      have h3 := (ht.dev d hdm).2.2
      have h4 := ht.okt.pos d hdm
      exact ⟨⟨h1, h2⟩, hp, by simp only; omega, by simp only; omega⟩
  · rw [List.map_append, List.nodup_append]
    refine ⟨hg.paths, by simp, fun a ha b hb => ?_⟩
    rw [List.mem_map] at ha
    obtain ⟨r, hr, rfl⟩ := ha
    simp only [List.map_cons, List.map_nil, List.mem_singleton] at hb
    subst hb
    have := (List.mem_filter.1 hr).2
    simpa using this
theorem at_find {t : List Dev} (ht : Okt t) (i : Int) (p : ByteArray) : ((atD t p).isSome && decide (((atD t p).getD default).index = i)) = ((findD t i).isSome && decide (placeM t i = p)) := by
  rw [Bool.eq_iff_iff]
  constructor
  · intro h
    cases ha : atD t p with
    | none => rw [ha] at h; simp at h
    | some d =>
      rw [ha] at h
      have hi : d.index = i := by simpa using h
      obtain ⟨h1, h2⟩ := atD_mem ha
      subst hi
      rw [findD_mem ht.nodup h1, h2]
      simp
  · intro h
    rw [Bool.and_eq_true, decide_eq_true_eq] at h
    obtain ⟨h1, h2⟩ := h
    obtain ⟨d, hd⟩ := Option.isSome_iff_exists.1 h1
    obtain ⟨h3, h4⟩ := findD_some hd
    subst h4
    cases ha : atD t p with
    | none =>
      unfold atD at ha
      rw [List.find?_eq_none] at ha
      exact absurd (decide_eq_true h2) (ha d h3)
    | some e =>
      obtain ⟨h5, h6⟩ := atD_mem ha
      have : e = d := place_inj ht h5 h3 (by rw [h6, h2])
      subst this
      simp
def diskD : Dev := ⟨1, 0, ⟨#[115, 100, 97]⟩, ⟨#[115, 100, 97]⟩, ⟨#[98, 108, 111, 99, 107]⟩, ⟨#[]⟩, ⟨#[]⟩, 2, 1, []⟩
def ks1 : Inh := ⟨1, [], []⟩
def ks2 : Inh := ⟨2, [⟨1, ⟨#[98, 97, 99, 107, 117, 112]⟩, ⟨#[47, 115, 100, 42]⟩, 100⟩], []⟩
def ks3 : Inh := ⟨2, [⟨1, ⟨#[98, 97, 99, 107, 117, 112]⟩, ⟨#[47, 115, 100, 42]⟩, 100⟩], [⟨⟨#[47, 115, 100, 97]⟩, 1, 10⟩]⟩
theorem alts_sd : altsM ⟨#[47, 115, 100, 42]⟩ = some [[litEl 47, litEl 115, litEl 100, starEl]] := by
  unfold altsM
  rw [altGo, dif_neg (by decide), if_neg (by decide), if_neg (by decide), if_neg (by decide), if_neg (by decide)]
  rw [altGo, dif_neg (by decide), if_neg (by decide), if_neg (by decide), if_neg (by decide), if_neg (by decide)]
  rw [altGo, dif_neg (by decide), if_neg (by decide), if_neg (by decide), if_neg (by decide), if_neg (by decide)]
  rw [altGo, dif_neg (by decide), if_neg (by decide), if_pos (by decide)]
  rw [altGo, dif_pos (by decide)]
  rfl
theorem glob_sd : globM ⟨#[47, 115, 100, 42]⟩ = 0 := by
  unfold globM
  rw [alts_sd]
  rfl
theorem match_sd : matchM ⟨#[47, 115, 100, 42]⟩ ⟨#[47, 115, 100, 97]⟩ = true := by
  unfold matchM
  rw [alts_sd, glob_sd]
  decide +kernel
theorem ke1 : addE ks1 ⟨#[98, 97, 99, 107, 117, 112]⟩ ⟨#[47, 115, 100, 42]⟩ = 0 := by
  unfold addE
  rw [glob_sd]
  decide +kernel
theorem km1 : addM ks1 ⟨#[98, 97, 99, 107, 117, 112]⟩ ⟨#[47, 115, 100, 42]⟩ 100 = ks2 := by unfold addM; rw [ke1]; rfl
theorem place_disk : placeM [diskD] 1 = ⟨#[47, 115, 100, 97]⟩ := by decide +kernel
theorem at_disk : atD [diskD] ⟨#[47, 115, 100, 97]⟩ = some diskD := by
  unfold atD
  rw [List.find?_cons_of_pos (by rw [show diskD.index = 1 from rfl, place_disk]; simp)]
theorem ke2 : askE ks2 [diskD] ⟨#[47, 115, 100, 97]⟩ = 0 := by
  unfold askE
  rw [at_disk]
  rfl
theorem km2 : askM ks2 [diskD] ⟨#[47, 115, 100, 97]⟩ 10 = ks3 := by unfold askM; rw [ke2, at_disk]; rfl
theorem kdel (now : Int) (h : now < 100) : delL ks3.list ⟨⟨#[47, 115, 100, 97]⟩, 1, 10⟩ now = ks3.list := by
  unfold delL
  rw [show ks3.list = [⟨1, ⟨#[98, 97, 99, 107, 117, 112]⟩, ⟨#[47, 115, 100, 42]⟩, 100⟩] from rfl, List.filter_cons_of_pos]
  · rfl
  · unfold delQ
    simp only [match_sd, Bool.and_true]
    rw [decide_eq_true h, decide_eq_true (by omega)]
    rfl
theorem kdue1 : dueM ks3 50 = [] := by
  unfold dueM
  rw [show ks3.reqs = [⟨⟨#[47, 115, 100, 97]⟩, 1, 10⟩] from rfl, List.filter_cons_of_neg (by rw [kdel 50 (by decide)]; decide)]
  rfl
theorem kwhy : whyM ks3 ⟨#[47, 115, 100, 97]⟩ 50 = [⟨#[98, 97, 99, 107, 117, 112]⟩] := by
  unfold whyM
  rw [show ks3.reqs = [⟨⟨#[47, 115, 100, 97]⟩, 1, 10⟩] from rfl, whyL, whyL, if_pos rfl, kdel 50 (by decide)]
  rfl
theorem kdue2 : dueM ks3 100 = [⟨⟨#[47, 115, 100, 97]⟩, 1, 10⟩] := by
  unfold dueM delL delQ
  rfl
theorem klater : laterL ks3 50 = [100, 610] := by decide +kernel
theorem kgood1 : ks1.good := good_new (by decide) (by decide)
theorem kgood2 : ks2.good := by rw [← km1]; exact kgood1.add (by decide) (by decide) ke1
theorem okt_disk : Okt [diskD] := by
  refine ⟨?_, by simp, ?_, ?_, ?_⟩
  · intro d hd; simp only [List.mem_singleton] at hd; subst hd; decide
  · intro i h
    simp only [List.length_singleton] at h
    have : i = 0 := by omega
    subst this
    exact .inl rfl
  · intro d hd; simp only [List.mem_singleton] at hd; subst hd; decide +kernel
  · intro d hd e he _; simp only [List.mem_singleton] at hd he; rw [hd, he]
end Go.Proofs.YtbonfcphabnlpabGreatDoor
namespace Go.Proofs.YtbonfcphabnlpabGreatDoor
open Go.RowKit
open IntWalk renaming iteOmega → iO, toNatUp → tN
set_option linter.unusedVariables false
set_option linter.unusedSimpArgs false
def leD : D → D → Prop
  | .v x, .v y => x = y
  | .v x, .sl _ l => isEmp x = true ∧ l = []
  | .sl sz l, .sl sz' l' => sz = sz' ∧ l = l'
  | _, _ => False
def leDs : List D → List D → Prop
  | [], [] => True
  | a :: l, b :: m => leD a b ∧ leDs l m
  | _, _ => False
theorem leD_ok {w : World} {I : Nat → Prop} {d d' : D} {y : Value} (h : leD d d') (hr : RD w I d y) : RD w I d' y := by
  cases d with
  | v x =>
    cases d' with
    | v z => obtain rfl : x = z := h; exact hr
    | sl sz l =>
      obtain ⟨h, rfl⟩ := h
      obtain ⟨A, c, rfl⟩ := isEmp_ok h
      rw [RD] at hr
      rw [rd_sl, hr.1]
      exact ⟨A, c, [], rfl, Nat.zero_le _, Rd.nil, by simp, trivial⟩
  | sl sz l =>
    cases d' with
    | v z => exact h.elim
    | sl sz' l' => obtain ⟨rfl, rfl⟩ := h; exact hr
theorem leDs_ok {w : World} {I : Nat → Prop} : ∀ {r r' : List D} {ys : List Value}, leDs r r' → All2 (RD w I) r ys → All2 (RD w I) r' ys
  | [], [], _, _, hr => hr
  | a :: l, b :: m, y :: ys, h, hr => ⟨leD_ok h.1 hr.1, leDs_ok h.2 hr.2⟩
  | _ :: _, _ :: _, [], _, hr => hr.elim
  | [], _ :: _, _, h, _ => h.elim
  | _ :: _, [], _, h, _ => h.elim
theorem leDs_length : ∀ {r r' : List D}, leDs r r' → r.length = r'.length
  | [], [], _ => rfl
  | a :: l, b :: m, h => by simp [leDs_length h.2]
  | [], _ :: _, h => h.elim
  | _ :: _, [], h => h.elim
attribute [push_cast] leD leDs
def leRows : List (List D) → List (List D) → Prop
  | [], [] => True
  | a :: l, b :: m => leDs a b ∧ leRows l m
  | _, _ => False
theorem leRows_ok {w : World} {I : Nat → Prop} : ∀ {r r' : List (List D)} {ys : List Value}, leRows r r' → All2 (RD w I) r.flatten ys → All2 (RD w I) r'.flatten ys
  | [], [], _, _, hr => hr
  | a :: l, b :: m, ys, h, hr => by
    simp only [List.flatten_cons] at hr ⊢
    obtain ⟨x, y, rfl, h1, h2⟩ := hr.split
    exact (leDs_ok h.1 h1).append (leRows_ok h.2 h2)
  | [], _ :: _, _, h, _ => h.elim
  | _ :: _, [], _, h, _ => h.elim
theorem leRows_length : ∀ {r r' : List (List D)}, leRows r r' → r.length = r'.length
  | [], [], _ => rfl
  | a :: l, b :: m, h => by simp [leRows_length h.2]
  | [], _ :: _, h => h.elim
  | _ :: _, [], h => h.elim
theorem leRows_mem {sz : Nat} : ∀ {r r' : List (List D)}, leRows r r' → (∀ x ∈ r, x.length = sz) → ∀ x ∈ r', x.length = sz
  | [], [], _, _, x, hx => by simp at hx
  | a :: l, b :: m, h, hr, x, hx => by
    rcases List.mem_cons.1 hx with rfl | hx
    · rw [← leDs_length h.1]; exact hr a (by simp)
    · exact leRows_mem h.2 (fun y hy => hr y (by simp [hy])) x hx
  | [], _ :: _, h, _, _, _ => h.elim
  | _ :: _, [], h, _, _, _ => h.elim
attribute [push_cast] leRows
end Go.Proofs.YtbonfcphabnlpabGreatDoor
namespace Go.Proofs.YtbonfcphabnlpabGreatDoor
open Go.RowKit
open IntWalk renaming iteOmega → iO, toNatUp → tN
set_option linter.unusedVariables false
set_option linter.unusedSimpArgs false
def leC : E → E → Prop
  | .full sz l, .sl sz' l' => sz = sz' ∧ leRows l l'
  | .v x, .v y => x = y
  | _, _ => False
def leCs : List E → List E → Prop
  | [], [] => True
  | a :: r, b :: r' => leC a b ∧ leCs r r'
  | _, _ => False
attribute [push_cast] leC leCs
theorem leC_ok {w : World} {Γ : G} {a b : E} {y : Value} (h : leC a b) (hr : RE w Γ a y) : RE w Γ b y := by
  unfold leC at h
  split at h
  · obtain ⟨rfl, h⟩ := h
    obtain ⟨h2, _⟩ := hr
    obtain ⟨A, c, xs, h3, h4, h5, h6, h7⟩ := rd_sl.1 h2
    show RD w Γ.I (.sl _ _) _
    rw [rd_sl, h3]
    have hl := leRows_length h
    exact ⟨A, c, xs, by rw [hl], by omega, by rw [← hl]; exact h5, leRows_mem h h6, leRows_ok h h7⟩
  · subst h; exact hr
  · exact h.elim
theorem leCs_ok {w : World} {Γ : G} : ∀ {a b : List E} {ys : List Value}, leCs a b → All2 (RE w Γ) a ys → All2 (RE w Γ) b ys
  | [], [], _, _, h => h
  | _ :: _, _ :: _, [], _, h => h.elim
  | _ :: _, _ :: _, _ :: _, h, hr => ⟨leC_ok h.1 hr.1, leCs_ok h.2 hr.2⟩
  | [], _ :: _, _, h, _ => h.elim
  | _ :: _, [], _, h, _ => h.elim
theorem weak_boxrows {N p : Nat} {s : S} (k : Nat) {ty : TypeId} {cs : List E} (cs' : List E) (hk : s.o[k]? = some (.box ty cs)) (h : leCs cs cs') : Weak N p s ⟨s.t, setO s.o k (.box ty cs')⟩ := by
  intro Γ a w hA
  have hm := hA.inv.m
  have hkl : k < s.o.length := (List.getElem?_eq_some_iff.1 hk).1
  refine ⟨Γ, ⟨⟨hA.inv.size, hA.inv.defers, hA.inv.t, ⟨by simp [setO, hm.n], fun j o ho => ?_, hm.sep, hm.off, hm.lt, hm.pin⟩⟩, hA.le⟩, Grow.refl _ _ _⟩
  simp only [setO] at ho
  by_cases e : k = j
  · subst e
    rw [List.getElem?_set_self hkl] at ho
    cases ho
    obtain ⟨g1, xs, g2, g3, g4⟩ := hm.ob k _ hk
    exact ⟨g1, xs, g2, leCs_ok h g3, g4⟩
  · rw [List.getElem?_set_ne e] at ho
    exact hm.ob j o ho
end Go.Proofs.YtbonfcphabnlpabGreatDoor
namespace Go.Proofs.YtbonfcphabnlpabGreatDoor
attribute [local irreducible] PL QL PWPr PCalls Weak RetK Kontr PA
open Go.RowKit
open IntWalk renaming iteOmega → iO, toNatUp → tN
set_option linter.unusedVariables false
set_option linter.unusedSimpArgs false
set_option maxRecDepth 20000
theorem same_pure (a b : List ByteArray) (ha : a.length ≤ 1000000000) (hb : b.length ≤ 1000000000) :
    PCalls Tryz.prog 30 [.c (.sl 1 (a.map strD)), .c (.sl 1 (b.map strD))] [] fun r os => r = .c (.v (.bool (decide (a = b)))) ∧ os = [] := by
  refine pcalls_of Tryz.func30 rfl (by simp [Tryz.ntmps30]) ?_
  rw [Tryz.ntmps30, Tryz.results30]
  push_cast [iO, tN]
  by_cases hl : a.length = b.length
  · repeat' (first | ((first | refine pG ?_ | refine pQ ?_ | refine pU ?_); push_cast [iO, tN]) | (refine pif (fun h => ?_) (fun h => ?_) <;> first | exact pN h | push_cast [iO, tN]))
    refine pwp_loop2 (α := Nat) (fun k => k ≤ a.length ∧ a.take k = b.take k) (fun k => ⟨[(5, .c (.v (.int .i64 k))), (0, .c (.sl 1 (a.map strD))), (1, .c (.sl 1 (b.map strD)))], []⟩) (fun k => a.length - k) 0 ⟨by omega, by simp⟩ (by (refine weak_fg ?_; push_cast [iO, tN])) ?_
    rintro k ⟨hk, hpre⟩
    by_cases hlt : k < a.length
    · have hlt' : k < b.length := by omega
      have e1 := getD_lt a hlt
      have e2 := getD_lt b hlt'
      repeat' (first | ((first | refine pG ?_ | refine pQ ?_ | refine pU ?_); push_cast [iO, tN]) | (refine pif (fun h => ?_) (fun h => ?_) <;> first | exact pN h | push_cast [iO, tN]))
      · (refine retK_of [] ?_; push_cast [iO, tN])
        rw [e1, e2] at h
        have : ¬ a = b := fun e => by subst e; simp at h
        simp [this]
      · refine ⟨k + 1, ⟨by omega, ?_⟩, by (refine weak_fg ?_; push_cast [iO, tN]), by omega⟩
        rw [e1, e2] at h
        have h' : a[k] = b[k] := by simpa using h
        rw [List.take_succ_eq_append_getElem hlt, List.take_succ_eq_append_getElem hlt', hpre, h']
    · rw [List.take_of_length_le (by omega), List.take_of_length_le (by omega)] at hpre
      repeat' (first | ((first | refine pG ?_ | refine pQ ?_ | refine pU ?_); push_cast [iO, tN]) | (refine pif (fun h => ?_) (fun h => ?_) <;> first | exact pN h | push_cast [iO, tN]))
      (refine retK_of [] ?_; push_cast [iO, tN])
      simp [hpre]
  · have : ¬ a = b := fun e => hl (by rw [e])
    repeat' (first | ((first | refine pG ?_ | refine pQ ?_ | refine pU ?_); push_cast [iO, tN]) | (refine pif (fun h => ?_) (fun h => ?_) <;> first | exact pN h | push_cast [iO, tN]))
    (refine retK_of [] ?_; push_cast [iO, tN])
    simp [this]
theorem disk_ok : diskD.ok := by
  refine ⟨?_, ?_, ?_, ?_, ?_, ?_, ?_, ?_⟩
  all_goals first | decide | (intro x hx; cases hx)
theorem disk_rows : leCs [.full 10 [[D.v (.int .i64 1), D.v (.int .i64 0), D.v (.string ⟨#[115, 100, 97]⟩), D.v (.string ⟨#[115, 100, 97]⟩), D.v (.string ⟨#[98, 108, 111, 99, 107]⟩), D.v (.string ⟨#[]⟩), D.v (.string ⟨#[]⟩), D.v (.int .i64 2), D.v (.int .i64 1), D.v (.slice none 0 0)]]] (trE [diskD]) := by
  simp [trE, diskD, Dev.d, Dev.w, Dev.e, leCs, leC, leRows, leDs, leD, isEmp]
theorem disk_pure : PCalls Tryz.prog 27 [] [] fun r os => r = .agg (trE [diskD]) ∧ os = [] := by
  refine pcalls_of Tryz.func27 rfl (by simp [Tryz.ntmps27]) ?_
  rw [Tryz.ntmps27, Tryz.results27]
  push_cast [iO, tN]
  repeat' (first |  (refine pwp_weak (weak_boxrows 0 (trE [diskD]) rfl disk_rows) ?_) | (refine pwp_seq fun K hK => ?_) | (refine pwp_block ?_)  | ((first | refine pG ?_ | refine pQ ?_ | refine pU ?_); push_cast [iO, tN]) | (refine pif (fun h => ?_) (fun h => ?_) <;> first | exact pN h | push_cast [iO, tN]))
  (refine retK_of [] ?_; push_cast [iO, tN])
theorem knext : nextN ks3 50 = 100 ∧ nextB ks3 50 = true := by
  unfold nextN nextB
  rw [klater]
  exact ⟨rfl, rfl⟩
set_option maxHeartbeats 4000000 in
theorem known_pure : PCalls Tryz.prog 11 [] [] fun r os => r = .c (.v (.bool true)) ∧ os = [] := by
  have k3 : ks3.good := by
    rw [← km2]
    exact kgood2.ask (n := 1) ⟨okt_disk, by simp, fun d hd => by simp only [List.mem_singleton] at hd; subst hd; exact ⟨disk_ok, by decide, by decide⟩, fun d hd => by simp only [List.mem_singleton] at hd; subst hd; decide⟩ (by decide) (by decide) (by decide) (by decide) ke2
  have ha := add_pure ks1 ⟨#[98, 97, 99, 107, 117, 112]⟩ ⟨#[47, 115, 100, 42]⟩ 100 kgood1.ok (by decide) (by decide)
  rw [ke1, km1] at ha
  have hk := ask_pure ks2 [diskD] ⟨#[47, 115, 100, 97]⟩ 10 kgood2.ok okt_disk.p (by simp) (by intro d hd; simp only [List.mem_singleton] at hd; subst hd; decide) (by intro d hd; simp only [List.mem_singleton] at hd; subst hd; decide)
  rw [ke2, km2] at hk
  have hd := disk_pure
  have hn := next_pureI ks3 50 k3.ok
  rw [knext.1, knext.2] at hn
  have hu := due_pure 50 ks3 k3.ok
  rw [kdue1] at hu
  have hu2 := due_pure 100 ks3 k3.ok
  rw [kdue2] at hu2
  have hw := why_pure ks3 ⟨#[47, 115, 100, 97]⟩ 50 k3.ok
  rw [kwhy] at hw
  have hs := same_pure [⟨#[98, 97, 99, 107, 117, 112]⟩] [⟨#[98, 97, 99, 107, 117, 112]⟩] (by simp) (by simp)
  simp only [Inh.e, ks1, ks2, ks3, Ihb.d, Req.d, List.map_cons, List.map_nil] at ha hk hn hu hu2 hw
  refine pcalls_of Tryz.func11 rfl (by simp [Tryz.ntmps11]) ?_
  rw [Tryz.ntmps11, Tryz.results11]
  push_cast [iO, tN]
  have cB : CutB 8 [] := trivial
  repeat' (first |  ((refine plc [] (ha) ?_ ?_; push_cast [iO, tN]; rintro r os ⟨rfl, rfl⟩; push_cast [iO, tN])) | ((refine plc [] (hn) ?_ ?_; push_cast [iO, tN]; rintro r os ⟨rfl, rfl⟩; push_cast [iO, tN])) | ((refine plc [] (hu) ?_ ?_; push_cast [iO, tN]; rintro r os ⟨rfl, rfl⟩; push_cast [iO, tN])) | ((refine plc [] (hu2) ?_ ?_; push_cast [iO, tN]; rintro r os ⟨rfl, rfl⟩; push_cast [iO, tN])) | ((refine plc [] (hw) ?_ ?_; push_cast [iO, tN]; rintro r os ⟨rfl, rfl⟩; push_cast [iO, tN])) | ((refine plc [] (hs) ?_ ?_; push_cast [iO, tN]; rintro r os ⟨rfl, rfl⟩; push_cast [iO, tN])) | ((refine pwp_cut 8 [] ?_; apply pwp_drawn_to; (focus kernel_rfl); (focus (simp only [List.length_cons, List.length_nil, Nat.reduceAdd]; (repeat' first | (refine plc [] (hd) ?_ ?_; push_cast [iO, tN]; rintro r os ⟨rfl, rfl⟩; push_cast [iO, tN]) | (refine plc [] (hk) ?_ ?_; push_cast [iO, tN]; rintro r os ⟨rfl, rfl⟩; push_cast [iO, tN]) | ((first | refine pah 3 ?_ | refine pah 4 ?_ | refine pah 5 ?_ | refine pah 7 ?_); push_cast [iO, tN]) | (refine pad ?_; first | with_reducible exact weak_cutS 8 [] _ | (refine weak_fg ?_; push_cast [iO, tN])) | ((first | refine pas [0] ?_ | refine pas [1] ?_ | refine pas [2] ?_ | refine pas [6] ?_); push_cast [iO, tN]) | ((first | refine pas [0, 1] ?_); push_cast [iO, tN]; refine ⟨?_, ?_⟩)); done)); push_cast [iO, tN]))  | ((first | refine pC ?_ | refine pQC ?_ | refine pU ?_); push_cast [iO, tN]) | (refine pif (fun h => ?_) (fun h => ?_) <;> first | exact pN h | push_cast [iO, tN]))
  (refine retK_of [] ?_; push_cast [iO, tN])
end Go.Proofs.YtbonfcphabnlpabGreatDoor
