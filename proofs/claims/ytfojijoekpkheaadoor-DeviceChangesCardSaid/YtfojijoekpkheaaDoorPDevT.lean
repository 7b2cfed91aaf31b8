/- Devices that are made by a tape: sound, with the sizes of their texts. (pure walks) -/
import Derived.Test.YtfojijoekpkheaaDoorPAttrs
namespace Go.Proofs.YtfojijoekpkheaaDoor
attribute [local irreducible] PL QL PWP PCalls Weak RetK Kont
open Go.RowKit
set_option linter.unusedVariables false
set_option linter.unusedSimpArgs false
structure Dev where
  index : Int
  parent : Int
  name : ByteArray
  original : ByteArray
  subsystem : ByteArray
  driver : ByteArray
  alias_ : ByteArray
  kind : Int
  number : Int
  attrs : List Atr
  deriving DecidableEq, Inhabited
/-- the device's cells, the list of attributes held as a -/
def Dev.w (d : Dev) (a : E) : List E := [.v (.int .i64 d.index), .v (.int .i64 d.parent), .v (.string d.name), .v (.string d.original), .v (.string d.subsystem), .v (.string d.driver), .v (.string d.alias_), .v (.int .i64 d.kind), .v (.int .i64 d.number), a]
def Dev.e (d : Dev) : List E := d.w (.sl 2 (d.attrs.map Atr.d))
attribute [push_cast] Dev.e Dev.w
def oOrig : List ByteArray := [⟨#[115, 100, 97]⟩, ⟨#[115, 100, 97, 49]⟩, ⟨#[99, 33, 100, 48]⟩, ⟨#[101, 116, 104, 48]⟩]
def oSub : List ByteArray := [⟨#[98, 108, 111, 99, 107]⟩, ⟨#[117, 115, 98]⟩]
def oDrv : List ByteArray := [⟨#[]⟩, ⟨#[104, 105, 100]⟩]
def oAli : List ByteArray := [⟨#[]⟩, ⟨#[117, 115, 98, 58, 118, 49]⟩]
def oNet : List ByteArray := [⟨#[101, 116, 104, 48]⟩, ⟨#[119, 108, 97, 110, 48]⟩]
attribute [push_cast] oOrig oSub oDrv oAli oNet
/-- texts whose sizes are numbers -/
abbrev Fit (s : ByteArray) : Prop := s.size ≤ 9223372036854775807
def okA (l : List Atr) : Prop := ∀ a ∈ l, Fit a.name ∧ Fit a.value
structure Dev.ok (d : Dev) : Prop where
  name : Fit d.name
  original : Fit d.original
  subsystem : Fit d.subsystem
  driver : Fit d.driver
  alias_ : Fit d.alias_
  attrs : okA d.attrs
  len : d.attrs.length ≤ 9223372036854775807
  orig : d.original.size ≤ 1048576
theorem mem_fit {l : List ByteArray} {s : ByteArray} (h : l.all (fun s => decide (s.size ≤ 100)) = true) (hm : s ∈ l) : s.size ≤ 100 := by
  have := List.all_eq_true.1 h s hm
  simpa using this
theorem fit_of {s : ByteArray} {n : Nat} (h : s.size ≤ n) (hn : n ≤ 1048576) : Fit s := Nat.le_trans h (Nat.le_trans hn (by decide))
theorem stepA_mem {n v : ByteArray} {s : List Atr × Bool} {x y : Atr} (h : y ∈ (stepA n v s x).1) : y ∈ s.1 ∨ y = ⟨n, v⟩ ∨ y = x := by
  unfold stepA at h
  simp only at h
  split at h <;> split at h
  · rcases List.mem_append.1 h with h | h
    · exact .inl h
    · exact .inr (.inl (by simpa using h))
  · exact .inl h
  · rcases List.mem_append.1 h with h | h
    · rcases List.mem_append.1 h with h | h
      · exact .inl h
      · exact .inr (.inl (by simpa using h))
    · exact .inr (.inr (by simpa using h))
  · rcases List.mem_append.1 h with h | h
    · exact .inl h
    · exact .inr (.inr (by simpa using h))
theorem refA_mem {l : List Atr} {n v : ByteArray} {y : Atr} (h : y ∈ refA l n v) : y ∈ l ∨ y = ⟨n, v⟩ := by
  have key : ∀ (l : List Atr) (s : List Atr × Bool), y ∈ (l.foldl (stepA n v) s).1 → y ∈ s.1 ∨ y ∈ l ∨ y = ⟨n, v⟩ := by
    intro l
    induction l with
    | nil => intro s h; exact .inl h
    | cons x l ih =>
      intro s h
      rw [List.foldl_cons] at h
      rcases ih _ h with h | h | h
      · rcases stepA_mem h with h | h | h
        · exact .inl h
        · exact .inr (.inr h)
        · exact .inr (.inl (by rw [h]; exact List.mem_cons_self))
      · exact .inr (.inl (List.mem_cons_of_mem _ h))
      · exact .inr (.inr h)
  unfold refA at h
  have h2 : y ∈ (toA n v l).1 ∨ y = ⟨n, v⟩ := by
    split at h
    · exact .inl h
    · rcases List.mem_append.1 h with h | h
      · exact .inl h
      · exact .inr (by simpa using h)
  rcases h2 with h2 | h2
  · rcases key l _ h2 with h | h | h
    · simp at h
    · exact .inl h
    · exact .inr h
  · exact .inr h2
theorem refA_ok {l : List Atr} {n v : ByteArray} (h : okA l) (hn : Fit n) (hv : Fit v) : okA (refA l n v) := fun a ha => by
  rcases refA_mem ha with h1 | rfl
  · exact h a h1
  · exact ⟨hn, hv⟩
theorem pick_mem (L : List Int) (k : Nat) (l : List ByteArray) (h0 : 0 < l.length) : pick L k l ∈ l := by
  have := fold_bds (tapeAt L k) l.length (by omega)
  unfold pick
  rw [getD_lt _ (by omega)]
  exact List.getElem_mem _
theorem attrsGo_ok (L : List Int) : ∀ (n k : Nat) (out : List Atr), okA out → okA (attrsGo L n k out)
  | 0, _, _, h => h
  | n + 1, k, out, h => by
    rw [attrsGo]
    exact attrsGo_ok L n (k + 2) _ (refA_ok h (fit_of (mem_fit (l := names5A) (by decide) (pick_mem L k names5A (by decide))) (by decide)) (fit_of (mem_fit (l := vals4A) (by decide) (pick_mem L (k + 1) vals4A (by decide))) (by decide)))
theorem attrs_ok (L : List Int) (k : Nat) (hk : k < 100000) (hL : ∀ x ∈ L, -9223372036854775808 ≤ x ∧ x ≤ 9223372036854775807) (hl : L.length ≤ 9223372036854775807) :
    PCalls Tryd.prog 6 [.c (.ptr 0 0)] [tape L k] fun r os => ∃ (l : List Atr) (n : Nat), (l.length ≤ 31 ∧ n ≤ 9 ∧ okA l) ∧ r = .c (.own 1 l.length) ∧ os = [tape L (k + n), .arr 50 2 (l.map Atr.d)] :=
  (attrs_pure L k hk hL hl).mono fun r os h => ⟨_, 1 + 2 * attrsN L k, ⟨attrsM_len L k, by have := attrsN_lt L k; omega, attrsGo_ok L _ _ _ (fun a ha => by simp at ha)⟩, h.1, by rw [← Nat.add_assoc]; exact h.2⟩
theorem oOrig_fit : oOrig.all (fun s => decide (s.size ≤ 100)) = true := by decide
theorem oSub_fit : oSub.all (fun s => decide (s.size ≤ 100)) = true := by decide
theorem oDrv_fit : oDrv.all (fun s => decide (s.size ≤ 100)) = true := by decide
theorem oAli_fit : oAli.all (fun s => decide (s.size ≤ 100)) = true := by decide
theorem oNet_fit : oNet.all (fun s => decide (s.size ≤ 100)) = true := by decide
theorem sound_pure (L : List Int) (k : Nat) (hk : k < 10000) (hL : ∀ x ∈ L, -9223372036854775808 ≤ x ∧ x ≤ 9223372036854775807) (hl : L.length ≤ 9223372036854775807) :
    PCalls Tryd.prog 14 [.c (.ptr 0 0)] [tape L k] fun r os => ∃ (d : Dev) (k' : Nat), r = .agg (d.w (.own 1 d.attrs.length)) ∧ os = [tape L k', .arr 50 2 (d.attrs.map Atr.d)] ∧ k' ≤ k + 40 ∧ d.attrs.length ≤ 31 ∧ d.ok := by
  refine pcalls_of Tryd.func14 rfl (by simp [Tryd.ntmps14]) ?_
  rw [Tryd.ntmps14, Tryd.results14]
  push_cast [eq_self, iff_self, IntWalk.iteOmega, IntWalk.toNatUp]
  repeat' (first | (refine Kont.use (by assumption) ?_) | (refine pwp_seq fun K hK => ?_) | (refine pwp_block ?_) | (refine pwp_scope ?_) | ((first | refine pwp_region ?_ | refine pwp_quiet (by kernel_rfl) (by kernel_rfl) ?_ | refine pwp_exit ?_ | refine pwp_ret ?_ | refine pwp_skip ?_); push_cast [eq_self, iff_self, IntWalk.iteOmega, IntWalk.toNatUp]) | (refine pwp_cond ?_; push_cast [eq_self, iff_self, IntWalk.iteOmega, IntWalk.toNatUp]; try (refine ⟨fun h => ?_, fun h => ?_⟩ <;> (try simp only [decide_eq_true_eq, decide_eq_false_iff_not, Bool.not_eq_true', Bool.not_eq_false', Int.not_lt, Int.not_le, Nat.not_lt, Nat.not_le] at h) <;> (try (first | contradiction | (exfalso; omega) | exact nomatch (Eq.trans (Eq.symm h) (by assumption) : true = false) | exact nomatch (Eq.trans (Eq.symm h) (by assumption) : false = true))))))
  (refine pl_call2 false [0] rfl rfl (by kernel_rfl) (next_ex L k 9 (by omega) (by omega) (by omega) hL hl) ?_ nofun ?_; push_cast [eq_self, iff_self, IntWalk.iteOmega, IntWalk.toNatUp]; rintro r os ⟨v0, ⟨v0a, v0b⟩, rfl, rfl⟩; refine pl_of_pops ?_; push_cast [eq_self, iff_self, IntWalk.iteOmega, IntWalk.toNatUp])
  (refine pl_call2 false [0] rfl rfl (by kernel_rfl) (one_ex L (k + 1) oOrig (by omega) (by decide) (by decide) hL hl) ?_ nofun ?_; push_cast [eq_self, iff_self, IntWalk.iteOmega, IntWalk.toNatUp]; rintro r os ⟨s1, s1m, rfl, rfl⟩; refine pl_of_pops ?_; push_cast [eq_self, iff_self, IntWalk.iteOmega, IntWalk.toNatUp])
  (refine pl_call2 false [0] rfl rfl (by kernel_rfl) (one_ex L (k + 1 + 1) oSub (by omega) (by decide) (by decide) hL hl) ?_ nofun ?_; push_cast [eq_self, iff_self, IntWalk.iteOmega, IntWalk.toNatUp]; rintro r os ⟨s2, s2m, rfl, rfl⟩; refine pl_of_pops ?_; push_cast [eq_self, iff_self, IntWalk.iteOmega, IntWalk.toNatUp])
  (refine pl_call2 false [0] rfl rfl (by kernel_rfl) (one_ex L (k + 1 + 1 + 1) oDrv (by omega) (by decide) (by decide) hL hl) ?_ nofun ?_; push_cast [eq_self, iff_self, IntWalk.iteOmega, IntWalk.toNatUp]; rintro r os ⟨s3, s3m, rfl, rfl⟩; refine pl_of_pops ?_; push_cast [eq_self, iff_self, IntWalk.iteOmega, IntWalk.toNatUp])
  (refine pl_call2 false [0] rfl rfl (by kernel_rfl) (one_ex L (k + 1 + 1 + 1 + 1) oAli (by omega) (by decide) (by decide) hL hl) ?_ nofun ?_; push_cast [eq_self, iff_self, IntWalk.iteOmega, IntWalk.toNatUp]; rintro r os ⟨s4, s4m, rfl, rfl⟩; refine pl_of_pops ?_; push_cast [eq_self, iff_self, IntWalk.iteOmega, IntWalk.toNatUp])
  (refine pl_call2 false [0] rfl rfl (by kernel_rfl) (next_ex L (k + 1 + 1 + 1 + 1 + 1) 4 (by omega) (by omega) (by omega) hL hl) ?_ nofun ?_; push_cast [eq_self, iff_self, IntWalk.iteOmega, IntWalk.toNatUp]; rintro r os ⟨v5, ⟨v5a, v5b⟩, rfl, rfl⟩; refine pl_of_pops ?_; push_cast [eq_self, iff_self, IntWalk.iteOmega, IntWalk.toNatUp])
  (refine pl_call2 false [0] rfl rfl (by kernel_rfl) (attrs_ok L (k + 1 + 1 + 1 + 1 + 1 + 1) (by omega) hL hl) ?_ nofun ?_; push_cast [eq_self, iff_self, IntWalk.iteOmega, IntWalk.toNatUp]; rintro r os ⟨al, n6, ⟨hal, hn6, hok⟩, rfl, rfl⟩; refine pl_of_pops ?_; push_cast [eq_self, iff_self, IntWalk.iteOmega, IntWalk.toNatUp])
  repeat' (first | (refine Kont.use (by assumption) ?_) | (refine pwp_seq fun K hK => ?_) | (refine pwp_block ?_) | (refine pwp_scope ?_) | ((first | refine pwp_region ?_ | refine pwp_quiet (by kernel_rfl) (by kernel_rfl) ?_ | refine pwp_exit ?_ | refine pwp_ret ?_ | refine pwp_skip ?_); push_cast [eq_self, iff_self, IntWalk.iteOmega, IntWalk.toNatUp]) | (refine pwp_cond ?_; push_cast [eq_self, iff_self, IntWalk.iteOmega, IntWalk.toNatUp]; try (refine ⟨fun h => ?_, fun h => ?_⟩ <;> (try simp only [decide_eq_true_eq, decide_eq_false_iff_not, Bool.not_eq_true', Bool.not_eq_false', Int.not_lt, Int.not_le, Nat.not_lt, Nat.not_le] at h) <;> (try (first | contradiction | (exfalso; omega) | exact nomatch (Eq.trans (Eq.symm h) (by assumption) : true = false) | exact nomatch (Eq.trans (Eq.symm h) (by assumption) : false = true))))))
  (refine pl_call2 false [0] rfl rfl (by kernel_rfl) (next_ex L (k + 1 + 1 + 1 + 1 + 1 + 1 + n6) 4 (by omega) (by omega) (by omega) hL hl) ?_ nofun ?_; push_cast [eq_self, iff_self, IntWalk.iteOmega, IntWalk.toNatUp]; rintro r os ⟨v7, ⟨v7a, v7b⟩, rfl, rfl⟩; refine pl_of_pops ?_; push_cast [eq_self, iff_self, IntWalk.iteOmega, IntWalk.toNatUp])
  repeat' (first | (refine Kont.use (by assumption) ?_) | (refine pwp_seq fun K hK => ?_) | (refine pwp_block ?_) | (refine pwp_scope ?_) | ((first | refine pwp_region ?_ | refine pwp_quiet (by kernel_rfl) (by kernel_rfl) ?_ | refine pwp_exit ?_ | refine pwp_ret ?_ | refine pwp_skip ?_); push_cast [eq_self, iff_self, IntWalk.iteOmega, IntWalk.toNatUp]) | (refine pwp_cond ?_; push_cast [eq_self, iff_self, IntWalk.iteOmega, IntWalk.toNatUp]; try (refine ⟨fun h => ?_, fun h => ?_⟩ <;> (try simp only [decide_eq_true_eq, decide_eq_false_iff_not, Bool.not_eq_true', Bool.not_eq_false', Int.not_lt, Int.not_le, Nat.not_lt, Nat.not_le] at h) <;> (try (first | contradiction | (exfalso; omega) | exact nomatch (Eq.trans (Eq.symm h) (by assumption) : true = false) | exact nomatch (Eq.trans (Eq.symm h) (by assumption) : false = true))))))
  · (refine pl_call2 false [0] rfl rfl (by kernel_rfl) (one_ex L (k + 1 + 1 + 1 + 1 + 1 + 1 + n6 + 1) oNet (by omega) (by decide) (by decide) hL hl) ?_ nofun ?_; push_cast [eq_self, iff_self, IntWalk.iteOmega, IntWalk.toNatUp]; rintro r os ⟨s8, s8m, rfl, rfl⟩; refine pl_of_pops ?_; push_cast [eq_self, iff_self, IntWalk.iteOmega, IntWalk.toNatUp])
    repeat' (first | (refine Kont.use (by assumption) ?_) | (refine pwp_seq fun K hK => ?_) | (refine pwp_block ?_) | (refine pwp_scope ?_) | ((first | refine pwp_region ?_ | refine pwp_quiet (by kernel_rfl) (by kernel_rfl) ?_ | refine pwp_exit ?_ | refine pwp_ret ?_ | refine pwp_skip ?_); push_cast [eq_self, iff_self, IntWalk.iteOmega, IntWalk.toNatUp]) | (refine pwp_cond ?_; push_cast [eq_self, iff_self, IntWalk.iteOmega, IntWalk.toNatUp]; try (refine ⟨fun h => ?_, fun h => ?_⟩ <;> (try simp only [decide_eq_true_eq, decide_eq_false_iff_not, Bool.not_eq_true', Bool.not_eq_false', Int.not_lt, Int.not_le, Nat.not_lt, Nat.not_le] at h) <;> (try (first | contradiction | (exfalso; omega) | exact nomatch (Eq.trans (Eq.symm h) (by assumption) : true = false) | exact nomatch (Eq.trans (Eq.symm h) (by assumption) : false = true))))))
    (refine pl_call2 false [0] rfl rfl (by kernel_rfl) (one_ex L (k + 1 + 1 + 1 + 1 + 1 + 1 + n6 + 1 + 1) [s8, ⟨#[108, 97, 110, 48]⟩] (by omega) (by simp) (by simp) hL hl) ?_ nofun ?_; push_cast [eq_self, iff_self, IntWalk.iteOmega, IntWalk.toNatUp]; rintro r os ⟨s9, s9m, rfl, rfl⟩; refine pl_of_pops ?_; push_cast [eq_self, iff_self, IntWalk.iteOmega, IntWalk.toNatUp])
    repeat' (first | (refine Kont.use (by assumption) ?_) | (refine pwp_seq fun K hK => ?_) | (refine pwp_block ?_) | (refine pwp_scope ?_) | ((first | refine pwp_region ?_ | refine pwp_quiet (by kernel_rfl) (by kernel_rfl) ?_ | refine pwp_exit ?_ | refine pwp_ret ?_ | refine pwp_skip ?_); push_cast [eq_self, iff_self, IntWalk.iteOmega, IntWalk.toNatUp]) | (refine pwp_cond ?_; push_cast [eq_self, iff_self, IntWalk.iteOmega, IntWalk.toNatUp]; try (refine ⟨fun h => ?_, fun h => ?_⟩ <;> (try simp only [decide_eq_true_eq, decide_eq_false_iff_not, Bool.not_eq_true', Bool.not_eq_false', Int.not_lt, Int.not_le, Nat.not_lt, Nat.not_le] at h) <;> (try (first | contradiction | (exfalso; omega) | exact nomatch (Eq.trans (Eq.symm h) (by assumption) : true = false) | exact nomatch (Eq.trans (Eq.symm h) (by assumption) : false = true))))))
    (refine retK_of [0, 2] ?_; push_cast [eq_self, iff_self, IntWalk.iteOmega, IntWalk.toNatUp])
    exact ⟨_, _, leP_refl _, leOs_refl _, ⟨1 + v0, v7 * 100, s9, s8, s2, s3, s4, 1 + v5, 0, al⟩, k + 1 + 1 + 1 + 1 + 1 + 1 + n6 + 1 + 1 + 1, rfl, rfl, by omega, hal, ⟨by rcases List.mem_cons.1 s9m with h | h; (rw [h]; exact fit_of (mem_fit oNet_fit s8m) (by decide)); (exact fit_of (mem_fit (l := [⟨#[108, 97, 110, 48]⟩]) (by decide) h) (by decide)), fit_of (mem_fit oNet_fit s8m) (by decide), fit_of (mem_fit oSub_fit s2m) (by decide), fit_of (mem_fit oDrv_fit s3m) (by decide), fit_of (mem_fit oAli_fit s4m) (by decide), hok, by show al.length ≤ _; omega, Nat.le_trans (mem_fit oNet_fit s8m) (by decide)⟩⟩
  · (refine pl_call2 false [0] rfl rfl (by kernel_rfl) (next_ex L (k + 1 + 1 + 1 + 1 + 1 + 1 + n6 + 1) 9 (by omega) (by omega) (by omega) hL hl) ?_ nofun ?_; push_cast [eq_self, iff_self, IntWalk.iteOmega, IntWalk.toNatUp]; rintro r os ⟨v9, ⟨v9a, v9b⟩, rfl, rfl⟩; refine pl_of_pops ?_; push_cast [eq_self, iff_self, IntWalk.iteOmega, IntWalk.toNatUp])
    repeat' (first | (refine Kont.use (by assumption) ?_) | (refine pwp_seq fun K hK => ?_) | (refine pwp_block ?_) | (refine pwp_scope ?_) | ((first | refine pwp_region ?_ | refine pwp_quiet (by kernel_rfl) (by kernel_rfl) ?_ | refine pwp_exit ?_ | refine pwp_ret ?_ | refine pwp_skip ?_); push_cast [eq_self, iff_self, IntWalk.iteOmega, IntWalk.toNatUp]) | (refine pwp_cond ?_; push_cast [eq_self, iff_self, IntWalk.iteOmega, IntWalk.toNatUp]; try (refine ⟨fun h => ?_, fun h => ?_⟩ <;> (try simp only [decide_eq_true_eq, decide_eq_false_iff_not, Bool.not_eq_true', Bool.not_eq_false', Int.not_lt, Int.not_le, Nat.not_lt, Nat.not_le] at h) <;> (try (first | contradiction | (exfalso; omega) | exact nomatch (Eq.trans (Eq.symm h) (by assumption) : true = false) | exact nomatch (Eq.trans (Eq.symm h) (by assumption) : false = true))))))
    (refine retK_of [0, 2] ?_; push_cast [eq_self, iff_self, IntWalk.iteOmega, IntWalk.toNatUp])
    exact ⟨_, _, leP_refl _, leOs_refl _, ⟨1 + v0, v7 * 100, s1, s1, s2, s3, s4, 1 + v5, 1 + v9, al⟩, k + 1 + 1 + 1 + 1 + 1 + 1 + n6 + 1 + 1, rfl, rfl, by omega, hal, ⟨fit_of (mem_fit oOrig_fit s1m) (by decide), fit_of (mem_fit oOrig_fit s1m) (by decide), fit_of (mem_fit oSub_fit s2m) (by decide), fit_of (mem_fit oDrv_fit s3m) (by decide), fit_of (mem_fit oAli_fit s4m) (by decide), hok, by show al.length ≤ _; omega, Nat.le_trans (mem_fit oOrig_fit s1m) (by decide)⟩⟩
  · (refine retK_of [0, 2] ?_; push_cast [eq_self, iff_self, IntWalk.iteOmega, IntWalk.toNatUp])
    exact ⟨_, _, leP_refl _, leOs_refl _, ⟨1 + v0, v7 * 100, s1, s1, s2, s3, s4, 1 + v5, 0, al⟩, k + 1 + 1 + 1 + 1 + 1 + 1 + n6 + 1, rfl, rfl, by omega, hal, ⟨fit_of (mem_fit oOrig_fit s1m) (by decide), fit_of (mem_fit oOrig_fit s1m) (by decide), fit_of (mem_fit oSub_fit s2m) (by decide), fit_of (mem_fit oDrv_fit s3m) (by decide), fit_of (mem_fit oAli_fit s4m) (by decide), hok, by show al.length ≤ _; omega, Nat.le_trans (mem_fit oOrig_fit s1m) (by decide)⟩⟩
end Go.Proofs.YtfojijoekpkheaaDoor
