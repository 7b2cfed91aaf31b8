/- What the program computes, and the plain laws of it, part 20. -/
import Derived.WideKeyEntry
import Derived.Test.YtbonfcphabnlpabGreatDoorQ19
namespace Go.Proofs.YtbonfcphabnlpabGreatDoor
open Go.RowKit
open IntWalk renaming iteOmega → iO, toNatUp → tN
set_option linter.unusedVariables false
set_option linter.unusedSimpArgs false
structure El where
  lit : Nat
  star : Bool
  set : List Bool
  deriving DecidableEq, Inhabited
def El.has (e : El) (b : UInt8) : Bool := e.set.getD b.toNat false
def anyTail (f : List UInt8 → Bool) : List UInt8 → Bool
  | [] => f []
  | b :: s => f (b :: s) || anyTail f s
def oneHead (e : El) (f : List UInt8 → Bool) : List UInt8 → Bool
  | [] => false
  | b :: s => e.has b && f s
def mat : List El → List UInt8 → Bool
  | [], s => s.isEmpty
  | e :: l, s => if e.star then anyTail (mat l) s else oneHead e (mat l) s
theorem anyTail_iff (f : List UInt8 → Bool) : ∀ s : List UInt8, anyTail f s = true ↔ ∃ j, j ≤ s.length ∧ f (s.drop j) = true
  | [] => by
    constructor
    · intro h; exact ⟨0, Nat.le_refl _, h⟩
    · rintro ⟨j, hj, h⟩
      have : j = 0 := by simpa using hj
      subst this; exact h
  | b :: s => by
    rw [anyTail, Bool.or_eq_true, anyTail_iff f s]
    constructor
    · rintro (h | ⟨j, hj, h⟩)
      · exact ⟨0, Nat.zero_le _, h⟩
      · exact ⟨j + 1, by simp only [List.length_cons]; omega, by simpa using h⟩
    · rintro ⟨j, hj, h⟩
      cases j with
      | zero => exact .inl h
      | succ j => exact .inr ⟨j, by simp only [List.length_cons] at hj; omega, by simpa using h⟩
theorem mat_star {e : El} {l : List El} {s : List UInt8} (he : e.star = true) : mat (e :: l) s = true ↔ ∃ j, j ≤ s.length ∧ mat l (s.drop j) = true := by
  rw [mat, if_pos he, anyTail_iff]
theorem mat_one {e : El} {l : List El} {b : UInt8} {s : List UInt8} (he : e.star = false) : mat (e :: l) (b :: s) = (e.has b && mat l s) := by
  rw [mat, if_neg (by simp [he]), oneHead]
theorem mat_end {e : El} {l : List El} (he : e.star = false) : mat (e :: l) [] = false := by
  rw [mat, if_neg (by simp [he]), oneHead]
theorem mat_pre : ∀ {p r : List El} {t : List UInt8}, (∀ e ∈ p, e.star = false) → mat (p ++ r) t = true → p.length ≤ t.length ∧ mat r (t.drop p.length) = true
  | [], r, t, _, h => ⟨Nat.zero_le _, by simpa using h⟩
  | e :: p, r, [], hp, h => by rw [List.cons_append, mat_end (hp e (by simp))] at h; cases h
  | e :: p, r, b :: t, hp, h => by
    rw [List.cons_append, mat_one (hp e (by simp)), Bool.and_eq_true] at h
    have ih := mat_pre (fun x hx => hp x (by simp [hx])) h.2
    exact ⟨by simp only [List.length_cons]; omega, by simpa using ih.2⟩
structure Way (l : List El) (s : List UInt8) (at_ i st f : Nat) : Prop where
  hat : at_ ≤ l.length
  hi : i ≤ s.length
  hf : f ≤ i
  hst : st ≤ at_
  h0 : st = 0 → (mat l s = true ↔ mat (l.drop at_) (s.drop i) = true)
  h1 : 0 < st → i - f = at_ - st ∧ (∀ e ∈ (l.drop st).take (at_ - st), e.star = false) ∧ (mat l s = true ↔ (mat (l.drop at_) (s.drop i) = true ∨ ∃ j, f < j ∧ j ≤ s.length ∧ mat (l.drop st) (s.drop j) = true))
theorem Way.start (l : List El) (s : List UInt8) : Way l s 0 0 0 0 := ⟨Nat.zero_le _, Nat.zero_le _, Nat.le_refl _, Nat.le_refl _, fun _ => by simp, fun h => absurd h (by omega)⟩
theorem drop_at {l : List El} {k : Nat} (h : k < l.length) : l.drop k = l[k] :: l.drop (k + 1) := List.drop_eq_getElem_cons h
theorem drop_byte {s : List UInt8} {k : Nat} (h : k < s.length) : s.drop k = s[k] :: s.drop (k + 1) := List.drop_eq_getElem_cons h
theorem Way.star {l : List El} {s : List UInt8} {at_ i st f : Nat} (w : Way l s at_ i st f) (h : at_ < l.length) (hs : l[at_].star = true) : Way l s (at_ + 1) i (at_ + 1) i := by
  refine ⟨by omega, w.hi, Nat.le_refl _, Nat.le_refl _, fun h => by omega, fun _ => ⟨by omega, by simp, ?_⟩⟩
  have e1 : mat (l.drop at_) (s.drop i) = true ↔ (mat (l.drop (at_ + 1)) (s.drop i) = true ∨ ∃ j, i < j ∧ j ≤ s.length ∧ mat (l.drop (at_ + 1)) (s.drop j) = true) := by
    rw [drop_at h, mat_star hs]
    constructor
    · rintro ⟨j, hj, hm⟩
      rw [List.drop_drop] at hm
      rw [List.length_drop] at hj
      cases j with
      | zero => exact .inl (by simpa using hm)
      | succ j => exact .inr ⟨i + (j + 1), by omega, by have := w.hi; omega, hm⟩
    · rintro (hm | ⟨j, h1, h2, hm⟩)
      · exact ⟨0, Nat.zero_le _, by simpa using hm⟩
      · exact ⟨j - i, by rw [List.length_drop]; omega, by rw [List.drop_drop]; rwa [show i + (j - i) = j by omega]⟩
  by_cases h0 : st = 0
  · rw [w.h0 h0, e1]
  · obtain ⟨k1, k2, k3⟩ := w.h1 (by omega)
    rw [k3, e1]
    constructor
    · rintro (hm | ⟨j, h1, h2, hm⟩)
      · exact hm
      · right
        have hsp : l.drop st = (l.drop st).take (at_ - st) ++ l.drop at_ := by
          conv => lhs; rw [← List.take_append_drop (at_ - st) (l.drop st)]
          rw [List.drop_drop, show st + (at_ - st) = at_ by have := w.hst; omega]
        rw [hsp] at hm
        obtain ⟨m1, m2⟩ := mat_pre k2 hm
        have hlen : ((l.drop st).take (at_ - st)).length = at_ - st := by rw [List.length_take, List.length_drop]; omega
        rw [hlen] at m1 m2
        rw [List.length_drop] at m1
        rw [List.drop_drop, drop_at h, mat_star hs] at m2
        obtain ⟨q, hq, hm2⟩ := m2
        rw [List.length_drop] at hq
        rw [List.drop_drop] at hm2
        have := w.hf
        exact ⟨j + (at_ - st) + q, by omega, by omega, hm2⟩
    · exact .inl
theorem Way.step {l : List El} {s : List UInt8} {at_ i st f : Nat} (w : Way l s at_ i st f) (h : at_ < l.length) (hi : i < s.length) (hs : l[at_].star = false) (hh : l[at_].has s[i] = true) : Way l s (at_ + 1) (i + 1) st f := by
  have e1 : mat (l.drop at_) (s.drop i) = mat (l.drop (at_ + 1)) (s.drop (i + 1)) := by rw [drop_at h, drop_byte hi, mat_one hs, hh, Bool.true_and]
  refine ⟨by omega, by omega, by have := w.hf; omega, by have := w.hst; omega, fun h0 => by rw [w.h0 h0, e1], fun h0 => ?_⟩
  obtain ⟨k1, k2, k3⟩ := w.h1 h0
  have hst := w.hst
  have hf := w.hf
  refine ⟨by omega, fun e he => ?_, by rw [k3, e1]⟩
  rw [show at_ + 1 - st = (at_ - st) + 1 by omega, List.take_add_one, List.mem_append] at he
  rcases he with he | he
  · exact k2 e he
  · rw [List.getElem?_drop, show st + (at_ - st) = at_ by omega, List.getElem?_eq_getElem h] at he
    simp at he
    rw [he]; exact hs
theorem Way.back {l : List El} {s : List UInt8} {at_ i st f : Nat} (w : Way l s at_ i st f) (hi : i < s.length) (h0 : 0 < st) (hno : mat (l.drop at_) (s.drop i) = false) : Way l s st (f + 1) st (f + 1) := by
  obtain ⟨k1, k2, k3⟩ := w.h1 h0
  have hst := w.hst
  have hf := w.hf
  have hat := w.hat
  refine ⟨by omega, by omega, Nat.le_refl _, Nat.le_refl _, fun h => by omega, fun _ => ⟨by omega, by simp, ?_⟩⟩
  rw [k3, hno]
  constructor
  · rintro (h | ⟨j, h1, h2, hm⟩)
    · cases h
    · by_cases e : j = f + 1
      · subst e; exact .inl hm
      · exact .inr ⟨j, by omega, h2, hm⟩
  · rintro (hm | ⟨j, h1, h2, hm⟩)
    · exact .inr ⟨f + 1, by omega, by omega, hm⟩
    · exact .inr ⟨j, by omega, h2, hm⟩
theorem Way.none {l : List El} {s : List UInt8} {at_ i f : Nat} (w : Way l s at_ i 0 f) (hno : mat (l.drop at_) (s.drop i) = false) : mat l s = false := by
  have := w.h0 rfl
  rw [hno] at this
  simpa using this
theorem Way.fin {l : List El} {s : List UInt8} {at_ st f : Nat} (w : Way l s at_ s.length st f) : mat l s = mat (l.drop at_) [] := by
  have hst := w.hst
  have hf := w.hf
  have hat := w.hat
  rw [Bool.eq_iff_iff]
  by_cases h0 : st = 0
  · rw [w.h0 h0, List.drop_length]
  · obtain ⟨k1, k2, k3⟩ := w.h1 (by omega)
    rw [k3, List.drop_length]
    constructor
    · rintro (h | ⟨j, h1, h2, hm⟩)
      · exact h
      · exfalso
        have hsp : l.drop st = (l.drop st).take (at_ - st) ++ l.drop at_ := by
          conv => lhs; rw [← List.take_append_drop (at_ - st) (l.drop st)]
          rw [List.drop_drop, show st + (at_ - st) = at_ by omega]
        rw [hsp] at hm
        have m1 := (mat_pre k2 hm).1
        rw [List.length_take, List.length_drop, List.length_drop] at m1
        omega
    · exact .inl
theorem mat_miss {l : List El} {s : List UInt8} {at_ i : Nat} (hi : i < s.length) (h : at_ < l.length → (∃ h : at_ < l.length, l[at_].star = false ∧ l[at_].has s[i] = false)) : mat (l.drop at_) (s.drop i) = false := by
  by_cases ha : at_ < l.length
  · obtain ⟨_, h1, h2⟩ := h ha
    rw [drop_at ha, drop_byte hi, mat_one h1, h2]; rfl
  · rw [List.drop_eq_nil_of_le (by omega), drop_byte hi]; rfl
theorem mat_stars : ∀ l : List El, mat l [] = l.all (·.star)
  | [] => rfl
  | e :: l => by
    cases he : e.star with
    | true =>
      rw [List.all_cons, he, Bool.true_and, ← mat_stars l, Bool.eq_iff_iff, mat_star he]
      constructor
      · rintro ⟨j, _, h⟩; simpa using h
      · intro h; exact ⟨0, Nat.le_refl _, by simpa using h⟩
    | false => rw [mat_end he, List.all_cons, he]; rfl
def wayM (L S at_ st f : Nat) : Nat := (L - st) * ((S + 1) * (L + 2)) + (S - f) * (L + 2) + (L - at_)
theorem mat_parts : ∀ {l : List El} {s : List UInt8}, mat l s = true ↔ ∃ ss : List (List UInt8), s = ss.flatten ∧ All2 (fun (e : El) (t : List UInt8) => e.star = true ∨ ∃ b, t = [b] ∧ e.has b = true) l ss
  | [], s => by
    constructor
    · intro h; exact ⟨[], by simpa [mat] using h, trivial⟩
    · rintro ⟨ss, rfl, h⟩
      rw [All2.nil_l] at h
      subst h; rfl
  | e :: l, s => by
    have ih := fun s => mat_parts (l := l) (s := s)
    cases he : e.star with
    | true =>
      rw [mat_star he]
      constructor
      · rintro ⟨j, hj, h⟩
        obtain ⟨ss, h1, h2⟩ := (ih _).1 h
        exact ⟨s.take j :: ss, by rw [List.flatten_cons, ← h1, List.take_append_drop], .inl he, h2⟩
      · rintro ⟨ss, rfl, h⟩
        obtain ⟨t, ts, rfl, h1, h2⟩ := All2.cons_l.1 h
        refine ⟨t.length, by rw [List.flatten_cons, List.length_append]; omega, ?_⟩
        rw [List.flatten_cons, List.drop_left]
        exact (ih _).2 ⟨ts, rfl, h2⟩
    | false =>
      cases s with
      | nil =>
        rw [mat_end he]
        constructor
        · intro h; cases h
        · rintro ⟨ss, hs, h⟩
          obtain ⟨t, ts, rfl, h1, h2⟩ := All2.cons_l.1 h
          rcases h1 with h1 | ⟨b, rfl, _⟩
          · rw [he] at h1; cases h1
          · simp at hs
      | cons b s =>
        rw [mat_one he, Bool.and_eq_true, ih]
        constructor
        · rintro ⟨hb, ss, rfl, h⟩
          exact ⟨[b] :: ss, rfl, .inr ⟨b, rfl, hb⟩, h⟩
        · rintro ⟨ss, hs, h⟩
          obtain ⟨t, ts, rfl, h1, h2⟩ := All2.cons_l.1 h
          rcases h1 with h1 | ⟨b', rfl, hb⟩
          · rw [he] at h1; cases h1
          · rw [List.flatten_cons, List.singleton_append] at hs
            injection hs with e1 e2
            subst e1 e2
            exact ⟨hb, ts, rfl, h2⟩
theorem all2_snoc {α β : Type} {R : α → β → Prop} {l : List α} {a : α} {m : List β} : All2 R (l ++ [a]) m ↔ ∃ m' b, m = m' ++ [b] ∧ All2 R l m' ∧ R a b := by
  constructor
  · intro h
    obtain ⟨x, y, rfl, h1, h2⟩ := h.split
    obtain ⟨b, y', rfl, h3, h4⟩ := All2.cons_l.1 h2
    rw [All2.nil_l] at h4
    subst h4
    exact ⟨x, b, rfl, h1, h3⟩
  · rintro ⟨m', b, rfl, h1, h2⟩
    exact h1.append ⟨h2, trivial⟩
theorem mat_snoc_star {l : List El} {e : El} {s : List UInt8} {b : UInt8} (he : e.star = true) : mat (l ++ [e]) (s ++ [b]) = (mat l (s ++ [b]) || mat (l ++ [e]) s) := by
  rw [Bool.eq_iff_iff, Bool.or_eq_true, mat_parts, mat_parts, mat_parts]
  constructor
  · rintro ⟨ss, hs, h⟩
    obtain ⟨ms, t, rfl, h1, h2⟩ := all2_snoc.1 h
    rw [List.flatten_append, List.flatten_cons, List.flatten_nil, List.append_nil] at hs
    rcases List.eq_nil_or_concat t with rfl | ⟨t', c, rfl⟩
    · exact .inl ⟨ms, by simpa using hs, h1⟩
    · right
      rw [List.concat_eq_append, ← List.append_assoc] at hs
      obtain ⟨h3, _⟩ := List.append_inj' hs rfl
      exact ⟨ms ++ [t'], by rw [h3]; simp, all2_snoc.2 ⟨ms, t', rfl, h1, .inl he⟩⟩
  · rintro (⟨ss, hs, h⟩ | ⟨ss, hs, h⟩)
    · exact ⟨ss ++ [[]], by rw [hs]; simp, all2_snoc.2 ⟨ss, [], rfl, h, .inl he⟩⟩
    · obtain ⟨ms, t, rfl, h1, h2⟩ := all2_snoc.1 h
      exact ⟨ms ++ [t ++ [b]], by rw [hs]; simp, all2_snoc.2 ⟨ms, _, rfl, h1, .inl he⟩⟩
theorem mat_snoc_one {l : List El} {e : El} {s : List UInt8} {b : UInt8} (he : e.star = false) : mat (l ++ [e]) (s ++ [b]) = (mat l s && e.has b) := by
  rw [Bool.eq_iff_iff, Bool.and_eq_true, mat_parts, mat_parts]
  constructor
  · rintro ⟨ss, hs, h⟩
    obtain ⟨ms, t, rfl, h1, h2⟩ := all2_snoc.1 h
    rcases h2 with h2 | ⟨c, rfl, hc⟩
    · rw [he] at h2; cases h2
    · rw [List.flatten_append, List.flatten_cons, List.flatten_nil, List.append_nil] at hs
      obtain ⟨h3, h4⟩ := List.append_inj' hs rfl
      injection h4 with h4
      subst h4
      exact ⟨⟨ms, h3, h1⟩, hc⟩
  · rintro ⟨⟨ss, rfl, h⟩, hb⟩
    exact ⟨ss ++ [[b]], by simp, all2_snoc.2 ⟨ss, _, rfl, h, .inr ⟨b, rfl, hb⟩⟩⟩
theorem mat_snoc_nil {l : List El} {e : El} : mat (l ++ [e]) [] = (mat l [] && e.star) := by
  rw [mat_stars, mat_stars, List.all_append]; simp
end Go.Proofs.YtbonfcphabnlpabGreatDoor
namespace Go.Proofs.YtbonfcphabnlpabGreatDoor
open Go.RowKit
open IntWalk renaming iteOmega → iO, toNatUp → tN
set_option linter.unusedVariables false
set_option linter.unusedSimpArgs false
def byt (p : ByteArray) (i : Nat) : UInt8 := p.data.toList.getD i 0
def fillN (cs : List Bool) (a : Nat) : Nat → List Bool
  | 0 => cs
  | k + 1 => (fillN cs a k).set (a + k) true
theorem fillN_len (cs : List Bool) (a : Nat) : ∀ n, (fillN cs a n).length = cs.length
  | 0 => rfl
  | n + 1 => by rw [fillN, List.length_set, fillN_len cs a n]
theorem fillN_get (cs : List Bool) (a i : Nat) : ∀ n, (fillN cs a n).getD i false = (cs.getD i false || (decide (a ≤ i ∧ i < a + n) && decide (i < cs.length)))
  | 0 => by
    have : ¬(a ≤ i ∧ i < a + 0) := by omega
    rw [fillN, decide_eq_false this]; simp
  | n + 1 => by
    rw [fillN]
    by_cases h : a + n = i
    · subst h
      by_cases hl : a + n < cs.length
      · rw [List.getD_eq_getElem?_getD, List.getElem?_set_self (by rw [fillN_len]; exact hl)]
        rw [decide_eq_true hl, decide_eq_true (by omega : a ≤ a + n ∧ a + n < a + (n + 1))]; simp
      · have e : (fillN cs a n).set (a + n) true = fillN cs a n := List.set_eq_of_length_le (by rw [fillN_len]; omega)
        rw [e, fillN_get cs a (a + n) n, decide_eq_false hl]; simp
    · rw [List.getD_eq_getElem?_getD, List.getElem?_set_ne h, ← List.getD_eq_getElem?_getD, fillN_get cs a i n]
      by_cases h2 : a ≤ i ∧ i < a + n
      · rw [decide_eq_true h2, decide_eq_true (by omega : a ≤ i ∧ i < a + (n + 1))]
      · rw [decide_eq_false h2, decide_eq_false (by omega : ¬(a ≤ i ∧ i < a + (n + 1)))]
def noneS : List Bool := List.replicate 127 false
def everyL : List Bool := fillN noneS 32 95
def rngQ (p : ByteArray) (i : Nat) : Bool := decide (i + 2 < p.size) && (byt p (i + 1) == 45) && (byt p (i + 2) != 93)
def memTo (p : ByteArray) (i : Nat) : UInt8 := if rngQ p i then byt p (i + 2) else byt p i
def memAt (p : ByteArray) (i : Nat) : Nat := if rngQ p i then i + 3 else i + 1
def memS (p : ByteArray) (i : Nat) (cs : List Bool) : List Bool := fillN cs (byt p i).toNat ((memTo p i).toNat + 1 - (byt p i).toNat)
theorem memAt_lt (p : ByteArray) (i : Nat) : i < memAt p i := by unfold memAt; split <;> omega
theorem memAt_le {p : ByteArray} {i : Nat} (h : i < p.size) : memAt p i ≤ p.size := by
  unfold memAt rngQ; split
  · rename_i h2; simp only [Bool.and_eq_true, decide_eq_true_eq] at h2; omega
  · omega
theorem memS_len (p : ByteArray) (i : Nat) (cs : List Bool) : (memS p i cs).length = cs.length := fillN_len _ _ _
def bsetGo (p : ByteArray) (i : Nat) (cs : List Bool) : Option (List Bool × Nat) :=
  if h : p.size ≤ i then none
  else if byt p i = 93 then some (cs, i)
  else if byt p i ≤ memTo p i then bsetGo p (memAt p i) (memS p i cs) else none
termination_by p.size - i
decreasing_by have := memAt_lt p i; omega
def notN (cs : List Bool) : Nat → List Bool
  | 0 => cs
  | k + 1 => (notN cs k).set (32 + k) (everyL.getD (32 + k) false && !(notN cs k).getD (32 + k) false)
theorem notN_len (cs : List Bool) : ∀ n, (notN cs n).length = cs.length
  | 0 => rfl
  | n + 1 => by rw [notN, List.length_set, notN_len cs n]
def notS (cs : List Bool) : List Bool := notN cs 95
theorem everyL_get {k : Nat} (h : k < 95) : everyL.getD (32 + k) false = true := by
  unfold everyL
  rw [fillN_get, decide_eq_true (by omega : 32 ≤ 32 + k ∧ 32 + k < 32 + 95), decide_eq_true (by show 32 + k < 127; omega)]
  simp
theorem everyL_len : everyL.length = 127 := by unfold everyL; rw [fillN_len]; rfl
def notQ (p : ByteArray) (i : Nat) : Bool := decide (i < p.size) && (byt p i == 33)
def setJ (p : ByteArray) (i : Nat) : Nat := if notQ p i then i + 1 else i
def bsetM (p : ByteArray) (i : Nat) : Option (List Bool × Nat) :=
  if p.size ≤ setJ p i ∨ byt p (setJ p i) = 93 then none
  else match bsetGo p (setJ p i) noneS with
    | none => none
    | some r => some (if notQ p i then notS r.1 else r.1, r.2 + 1)
theorem bsetGo_gt {p : ByteArray} : ∀ {i : Nat} {cs : List Bool} {r : List Bool × Nat}, bsetGo p i cs = some r → i ≤ r.2 ∧ r.2 < p.size ∧ r.1.length = cs.length := by
  intro i
  induction i using (measure fun i => p.size - i).wf.induction with
  | _ i ih =>
    intro cs r h
    rw [bsetGo] at h
    split at h
    · cases h
    · rename_i h1
      split at h
      · cases h; exact ⟨Nat.le_refl _, by omega, rfl⟩
      · split at h
        · have hm := memAt_lt p i
          have := ih (memAt p i) (by show p.size - memAt p i < p.size - i; omega) h
          rw [memS_len] at this
          exact ⟨by omega, this.2⟩
        · cases h
theorem setJ_le (p : ByteArray) (i : Nat) : i ≤ setJ p i := by unfold setJ; split <;> omega
theorem bsetM_gt {p : ByteArray} {i : Nat} {r : List Bool × Nat} (h : bsetM p i = some r) : i < r.2 ∧ r.2 ≤ p.size ∧ r.1.length = 127 := by
  unfold bsetM at h
  split at h
  · cases h
  · cases hg : bsetGo p (setJ p i) noneS with
    | none => rw [hg] at h; cases h
    | some q =>
      rw [hg] at h
      have := bsetGo_gt hg
      have hj := setJ_le p i
      cases h
      have hl : q.1.length = 127 := by rw [this.2.2]; rfl
      refine ⟨by show i < q.2 + 1; omega, by show q.2 + 1 ≤ p.size; omega, ?_⟩
      show (if notQ p i = true then notS q.1 else q.1).length = 127
      split
      · unfold notS; rw [notN_len]; exact hl
      · exact hl
def starEl : El := ⟨0, true, everyL⟩
def askEl : El := ⟨0, false, everyL⟩
def litEl (b : UInt8) : El := ⟨b.toNat, false, noneS.set b.toNat true⟩
def altGo (p : ByteArray) (i : Nat) (l : List (List El)) (x : List El) : Option (List (List El)) :=
  if h : p.size ≤ i then some (l ++ [x])
  else if byt p i = 124 then altGo p (i + 1) (l ++ [x]) []
  else if byt p i = 42 then altGo p (i + 1) l (x ++ [starEl])
  else if byt p i = 63 then altGo p (i + 1) l (x ++ [askEl])
  else if byt p i = 91 then match hs : bsetM p (i + 1) with
    | none => none
    | some r => altGo p r.2 l (x ++ [⟨0, false, r.1⟩])
  else altGo p (i + 1) l (x ++ [litEl (byt p i)])
termination_by p.size - i
decreasing_by all_goals first | omega | (have := bsetM_gt hs; omega)
def altsM (p : ByteArray) : Option (List (List El)) := altGo p 0 [] []
def globM (p : ByteArray) : Int := if 256 < p.size then 21 else if !(p.data.toList.all textB) then 20 else match altsM p with | none => 20 | some _ => 0
def matchM (p s : ByteArray) : Bool := decide (globM p = 0) && (s.data.toList.all textB) && match altsM p with | none => false | some l => l.any fun x => mat x s.data.toList
end Go.Proofs.YtbonfcphabnlpabGreatDoor
namespace Go.Proofs.YtbonfcphabnlpabGreatDoor
open Go.RowKit
open IntWalk renaming iteOmega → iO, toNatUp → tN
set_option linter.unusedVariables false
set_option linter.unusedSimpArgs false
structure Ihb where
  id : Int
  who : ByteArray
  pat : ByteArray
  till : Int
  deriving DecidableEq, Inhabited
def Ihb.d (x : Ihb) : List D := [.v (.int .i64 x.id), .v (.string x.who), .v (.string x.pat), .v (.int .i64 x.till)]
attribute [push_cast] Ihb.d
structure Req where
  path : ByteArray
  index : Int
  asked : Int
  deriving DecidableEq, Inhabited
def Req.d (x : Req) : List D := [.v (.string x.path), .v (.int .i64 x.index), .v (.int .i64 x.asked)]
attribute [push_cast] Req.d
structure Inh where
  next : Int
  list : List Ihb
  reqs : List Req
  deriving DecidableEq, Inhabited
def Inh.e (s : Inh) : List E := [.v (.int .i64 s.next), .sl 4 (s.list.map Ihb.d), .sl 3 (s.reqs.map Req.d)]
attribute [push_cast] Inh.e
def delQ (r : Req) (now : Int) (x : Ihb) : Bool := (decide (now < x.till) && decide (now < r.asked + 600)) && matchM x.pat r.path
def delL (l : List Ihb) (r : Req) (now : Int) : List Ihb := l.filter (delQ r now)
def dueM (s : Inh) (now : Int) : List Req := s.reqs.filter fun r => decide ((delL s.list r now).length = 0)
def whyL (l : List Ihb) (p : ByteArray) (now : Int) : List Req → List ByteArray
  | [] => []
  | r :: rs => (if r.path = p then (delL l r now).map Ihb.who else []) ++ whyL l p now rs
def whyM (s : Inh) (p : ByteArray) (now : Int) : List ByteArray := whyL s.list p now s.reqs
def dropR (p : ByteArray) (l : List Req) : List Req := l.filter fun r => decide (r.path ≠ p)
def dropM (s : Inh) (p : ByteArray) : Inh := { s with reqs := dropR p s.reqs }
def relL (id : Int) (l : List Ihb) : List Ihb := l.filter fun x => decide (x.id ≠ id)
def relE (s : Inh) (id : Int) : Int := if (relL id s.list).length = s.list.length then 393 else 0
def relM (s : Inh) (id : Int) : Inh := if (relL id s.list).length = s.list.length then ⟨0, [], []⟩ else { s with list := relL id s.list }
def addE (s : Inh) (who pat : ByteArray) : Int := if !validS who then 390 else if globM pat ≠ 0 then 391 else if 32 ≤ s.list.length ∨ 1073741824 ≤ s.next then 392 else 0
def addM (s : Inh) (who pat : ByteArray) (till : Int) : Inh := if addE s who pat = 0 then ⟨s.next + 1, s.list ++ [⟨s.next, who, pat, till⟩], s.reqs⟩ else ⟨0, [], []⟩
def takenQ (s : Inh) (p : ByteArray) (d : Dev) : Bool := s.reqs.any fun r => decide (r.path = p) && decide (r.index = d.index)
def askE (s : Inh) (l : List Dev) (p : ByteArray) : Int := match atD l p with
  | none => 393
  | some d => if takenQ s p d then 394 else if 32 ≤ (dropR p s.reqs).length then 392 else 0
def askM (s : Inh) (l : List Dev) (p : ByteArray) (now : Int) : Inh := if askE s l p = 0 then { s with reqs := dropR p s.reqs ++ [⟨p, ((atD l p).getD default).index, now⟩] } else ⟨0, [], []⟩
def fallR (l : List Dev) (rs : List Req) : List Req := rs.filter fun r => (findD l r.index).isSome && decide (placeM l r.index = r.path)
def fallM (s : Inh) (l : List Dev) : Inh := { s with reqs := fallR l s.reqs }
def timesL (s : Inh) : List Int := s.list.map Ihb.till ++ s.reqs.map fun r => r.asked + 600
def laterL (s : Inh) (now : Int) : List Int := (timesL s).filter fun n => decide (now < n)
structure Inh.ok (s : Inh) : Prop where
  n0 : 0 ≤ s.next
  n1 : s.next ≤ 1073741824
  len : s.list.length ≤ 32
  reqs : s.reqs.length ≤ 32
  ihb : ∀ x ∈ s.list, (0 ≤ x.id ∧ x.id < s.next) ∧ (-1000000 ≤ x.till ∧ x.till ≤ 1000000) ∧ x.pat.size ≤ 256 ∧ x.who.size ≤ 1000
  req : ∀ r ∈ s.reqs, (0 ≤ r.asked ∧ r.asked ≤ 1000000) ∧ r.path.size ≤ 10000000 ∧ (-9223372036854775808 ≤ r.index ∧ r.index ≤ 9223372036854775807)
end Go.Proofs.YtbonfcphabnlpabGreatDoor
namespace Go.Proofs.YtbonfcphabnlpabGreatDoor
open Go.RowKit
open IntWalk renaming iteOmega → iO, toNatUp → tN
set_option linter.unusedVariables false
set_option linter.unusedSimpArgs false
def allSome : List (Option PV) → List PV → Prop
  | [], [] => True
  | some q :: l, r :: m => leP q r ∧ allSome l m
  | _, _ => False
theorem allSome_ok {w : World} {Γ : G} : ∀ {l : List (Option PV)} {m : List PV} {ys : List Value}, allSome l m → All2 (fun q y => ∀ r, q = some r → RP w Γ r y) l ys → All2 (RP w Γ) m ys
  | [], [], _, _, h => by rw [All2.nil_l] at h ⊢; exact h
  | some q :: l, r :: m, y :: ys, h, hr => ⟨leP_ok h.1 (hr.1 q rfl), allSome_ok h.2 hr.2⟩
  | some _ :: _, _ :: _, [], _, hr => hr.elim
  | [], _ :: _, _, h, _ => h.elim
  | none :: _, _, _, h, _ => h.elim
  | some _ :: _, [], _, h, _ => h.elim
section
variable {P : Program} {N p : Nat} {ops : Array Oper} {rest : List Oper} {o : Oper} {s : S} {K : S → Prop}
theorem pl_call_all {f : Operand} {args : Array Operand} {tys : Array TypeId} {g : FuncId} {ds : List D} {cap : List Nat} {args' : List PV} {R : PV → List Ob → Prop}
    (ho : o.op = .call ⟨.value f, args, tys⟩) (hg : gd ops s o.guard = some true) (hf : s.ev f = some (.c (.fn (.func g) ds cap))) (hb : bodyOk P g = true) (hd : dstOk N o.dst)
    (ha : allSome (callArgs s ds args.toList cap) args') (hc : PCalls P g args' s.o R)
    (hK : ∀ r os'', R r os'' → PL P N p ops rest (S.put ⟨s.t, os''⟩ o.dst r) K) : PL P N p ops (o :: rest) s K := by
  intro Γ a w Q hA hQ
  obtain ⟨xs, ys, hfv, hargs⟩ := callArgs_ok hA.inv hf args
  have hseen := allSome_ok ha hargs
  unfold wpListIn
  rw [if_pos (gd_ok hg hA.inv)]
  refine wpIn_enter (run_enter ho hfv hb) ?_
  have := hc _ w _ hA.inv.m hseen
  rw [Array.toArray_toList] at this
  refine this.mono ?_
  rintro e w' ⟨r, os'', Γ', y, rfl, hR, hr, hlen, hm', hgr⟩
  have hle : p ≤ s.o.length := by rw [← hA.inv.m.n]; exact hA.le
  have hag : ∀ j, j < Γ.n → Agree Γ Γ' j := fun j hj => by
    have hj' : j < s.o.length := by rw [← hA.inv.m.n]; exact hj
    exact ⟨by rw [hm'.n]; omega, (hgr.keep j hj').1, (hgr.keep j hj').2⟩
  have hI := hA.inv.heap hm' (hgr.stay hA.inv.m) hag
  refine ⟨y, rfl, hK r os'' hR Γ' _ w' Q ⟨hI.put (dst_lt hd) hr, by rw [hm'.n]; omega⟩ fun s' Γ2 a2 w2 hk hA2 hg2 hd2 => hQ s' Γ2 a2 w2 hk hA2 ?_ (hd2.trans (put_defers _ _ _))⟩
  have hgp : Grow p Γ w Γ' w' := ⟨hgr.ext, hgr.sub, hgr.new, hgr.imm, fun k hk => hgr.keep k (by omega)⟩
  exact hgp.trans hg2
theorem weak_slots {s' : S} (ht : subT s s'.t) (ho : s'.o = s.o) : Weak N p s s' := by
  intro Γ a w hA
  refine ⟨Γ, ⟨⟨hA.inv.size, hA.inv.defers, fun i q hq => ?_, by rw [ho]; exact hA.inv.m⟩, hA.le⟩, Grow.refl _ _ _⟩
  obtain ⟨r, hr, hle⟩ := subT_look ht hq
  obtain ⟨i1, i2⟩ := hA.inv.t i r hr
  exact ⟨i1, leP_ok hle i2⟩
end
theorem weak_seg {N p : Nat} {s : S} (i : Nat) {k n : Nat} (sz : Nat) (hi : s.get i = some (.c (.own k n))) : Weak N p s ⟨(i, .c (.seg k sz 0 n)) :: s.t, s.o⟩ := by
  intro Γ a w hA
  refine ⟨Γ, ⟨⟨hA.inv.size, hA.inv.defers, fun j q hq => ?_, hA.inv.m⟩, hA.le⟩, Grow.refl _ _ _⟩
  simp only [S.get, look] at hq
  split at hq
  · rename_i e
    subst e
    cases hq
    obtain ⟨h1, h2, h3⟩ := hA.inv.t j _ hi
    refine ⟨h1, h2, ?_⟩
    rcases h3 with ⟨_, ⟨A, h4⟩, rfl⟩ | ⟨h4, h5, h6⟩
    · exact ⟨A, 0, h4, Nat.le_refl _, fun h => absurd h (by omega)⟩
    · exact ⟨_, _, h5, h6, fun _ => ⟨h4, by omega, by simp⟩⟩
  · exact hA.inv.t j q hq
def RetA (P : Program) (rs : List ResultVar) (p : Nat) (R : PV → List Ob → Prop) (s : S) : Prop := ∃ r, resP P s rs = some r ∧ p ≤ s.o.length ∧ R r s.o
def RetQA (P : Program) (rs : List ResultVar) (p : Nat) (R : PV → List Ob → Prop) : Exit → S → Prop
  | .normal, s => RetA P rs p R s
  | .ret, s => RetA P rs p R s
  | _, _ => False
theorem RetQA_normal (P : Program) (rs : List ResultVar) (p : Nat) (R : PV → List Ob → Prop) (s : S) : RetQA P rs p R .normal s = RetA P rs p R s := rfl
theorem RetQA_ret (P : Program) (rs : List ResultVar) (p : Nat) (R : PV → List Ob → Prop) (s : S) : RetQA P rs p R .ret s = RetA P rs p R s := rfl
attribute [push_cast] RetQA_normal RetQA_ret allSome
theorem pcalls_of_all {P : Program} {g : FuncId} {fn : Func} {c : Code} {args : List PV} {os : List Ob} {R : PV → List Ob → Prop} (hf : P.funcs[g]? = some fn) (hb : fn.body = some c) (hn : args.length ≤ fn.ntmps)
    (h : PWP P fn.ntmps os.length c (RetQA P fn.results.toList os.length R) ⟨parT 0 args, os⟩) : PCalls P g args os R := by
  refine calls_pwp (T := RetA P fn.results.toList os.length R) hf hb hn (fun e s hq => ?_) (fun s' Γ Γ' a' w w' ht hI hg => ?_) h
  · cases e with
    | normal => exact ⟨.inl rfl, hq⟩
    | ret => exact ⟨.inr rfl, hq⟩
    | exit j => exact hq.elim
    | goto l => exact hq.elim
    | panic ch => exact hq.elim
    | outgrown => exact hq.elim
  · obtain ⟨r, h1, h2, h3⟩ := ht
    obtain ⟨y, h8, h9⟩ := resP_ok hI h1
    exact ⟨y, h8, r, s'.o, Γ', h3, h9, h2, hI.m, hg⟩
end Go.Proofs.YtbonfcphabnlpabGreatDoor
namespace Go.Proofs.YtbonfcphabnlpabGreatDoor
open Go.RowKit
open IntWalk renaming iteOmega → iO, toNatUp → tN
set_option linter.unusedVariables false
set_option linter.unusedSimpArgs false
section
variable {P : Program} {N p : Nat} {ops : Array Oper} {s : S} {K : S → Prop} {fuel : Nat} {listed : Array Bool}
def entK (P : Program) (N p : Nat) (ops : Array Oper) (fuel : Nat) (listed : Array Bool) (K : S → Prop) (t : List (Nat × PV)) : Option (PV × List Ob) → Prop
  | some (_, os) => PA P N p ops fuel listed ⟨t, os⟩ K
  | none => False
attribute [push_cast] entK
end
section
variable {P : Program} {N p : Nat} {ops : Array Oper} {rest : List Oper} {o : Oper} {s : S} {K : S → Prop}
end
end Go.Proofs.YtbonfcphabnlpabGreatDoor
