/- What the program computes, and the plain laws of it, part 26. -/
import Derived.Lib.ReplaceLaws
import Derived.Lib.ItoaNum
import Derived.Test.YthconflkbeipoaaGreatDoorQ25
namespace Go.Proofs.YthconflkbeipoaaGreatDoor
open Go.RowKit
open IntWalk renaming iteOmega → iO, toNatUp → tN
set_option linter.unusedVariables false
set_option linter.unusedSimpArgs false
def nodeS (s : ByteArray) : ByteArray := ⟨(Lib.replaceAll s.data.toList [33] [47]).toArray⟩
def textB (b : UInt8) : Bool := decide (32 ≤ b.toNat) && decide (b.toNat ≤ 126)
def textS (s : ByteArray) : Bool := s.data.toList.all textB && decide (s.size ≤ 256)
theorem getD_byte {s : ByteArray} {k : Nat} (h : k < s.size) : ∃ h' : k < s.data.toList.length, s.data.toList.getD k 0 = s.data.toList[k] := ⟨h, by rw [List.getD_eq_getElem?_getD, List.getElem?_eq_getElem (show k < s.data.toList.length from h)]; rfl⟩
theorem all_next {p : UInt8 → Bool} {s : ByteArray} {k : Nat} (h : k < s.size) (ha : (s.data.toList.take k).all p = true) (hp : p (s.data.toList.getD k 0) = true) : (s.data.toList.take (k + 1)).all p = true := by
  obtain ⟨h', e⟩ := getD_byte h
  rw [List.take_succ_eq_append_getElem h', List.all_append, ha, ← e, List.all_cons, hp]; rfl
theorem all_not {p : UInt8 → Bool} {s : ByteArray} {k : Nat} (h : k < s.size) (hp : p (s.data.toList.getD k 0) = false) : s.data.toList.all p = false := by
  obtain ⟨h', e⟩ := getD_byte h
  exact List.all_eq_false.2 ⟨s.data.toList.getD k 0, by rw [e]; exact List.getElem_mem _, by rw [hp]; decide⟩
def ifaceS (s : ByteArray) : Bool := (validS s && decide (s.size ≤ 15)) && !(s.data.toList.contains 58 || s.data.toList.contains 33)
theorem nameB_ascii (b : UInt8) (h : nameB b = true) : b.toNat < 128 := by
  have : ∀ b ∈ nameT, b.toNat < 128 := by decide
  exact this b (by unfold nameB at h; exact List.contains_iff_mem.1 h)
theorem valid_ascii {s : ByteArray} (h : validS s = true) : ∀ (j : Nat) b, s.data.toList[j]? = some b → b.toNat < 128 := fun j b hb => by
  unfold validS at h
  simp only [Bool.and_eq_true] at h
  exact nameB_ascii b (List.all_eq_true.1 h.2 b (List.mem_of_getElem? hb))
theorem valid_size {s : ByteArray} (h : validS s = true) : s.size ≤ 32 := by
  unfold validS at h
  simp only [Bool.and_eq_true, decide_eq_true_eq] at h
  exact h.1.1.2
def linkL : List Bool := plusL commonL [64, 35, 61, 37]
theorem linkL_len : linkL.length = 256 := by rw [linkL, plusL_len, commonL_len]
def linkP (s : ByteArray) : Bool := (decide (s ≠ ⟨#[]⟩) && !dotsS s) && hasL linkL s
def linkS (s : ByteArray) : Bool := decide (s.size ≤ 256) && (parts s).all linkP
theorem part_size {s x : ByteArray} (h : x ∈ parts s) : x.size ≤ s.size := by
  have spl_mem : ∀ {l x : List UInt8}, x ∈ spl l → x.length ≤ l.length := by
    intro l
    induction l with
    | nil => intro x h; simp [spl] at h; subst h; simp
    | cons b l ih =>
      intro x h
      rw [spl] at h
      split at h
      · rcases List.mem_cons.1 h with rfl | h
        · simp
        · have := ih h; simp only [List.length_cons]; omega
      · split at h
        · rename_i e; simp at h; subst h; simp
        · rename_i y t e
          have hy : y ∈ spl l := by rw [e]; simp
          rcases List.mem_cons.1 h with rfl | h
          · have := ih hy; simp only [List.length_cons]; omega
          · have hx : x ∈ spl l := by rw [e]; simp [h]
            have := ih hx; simp only [List.length_cons]; omega
  unfold parts at h
  obtain ⟨y, hy, rfl⟩ := List.mem_map.1 h
  exact spl_mem hy
end Go.Proofs.YthconflkbeipoaaGreatDoor
namespace Go.Proofs.YthconflkbeipoaaGreatDoor
open Go.RowKit
open IntWalk renaming iteOmega → iO, toNatUp → tN
set_option linter.unusedVariables false
set_option linter.unusedSimpArgs false
structure Atr where
  name : ByteArray
  value : ByteArray
  deriving DecidableEq, Inhabited
def Atr.d (x : Atr) : List D := [.v (.string x.name), .v (.string x.value)]
attribute [push_cast] Atr.d
structure Dev where
  index : Int
  parent : Int
  name : ByteArray
  original : ByteArray
  subsystem : ByteArray
  driver : ByteArray
  alias_ : ByteArray
  kind : Int
  number : Int
  attrs : List Atr
  deriving DecidableEq, Inhabited
def Dev.w (d : Dev) (a : E) : List E := [.v (.int .i64 d.index), .v (.int .i64 d.parent), .v (.string d.name), .v (.string d.original), .v (.string d.subsystem), .v (.string d.driver), .v (.string d.alias_), .v (.int .i64 d.kind), .v (.int .i64 d.number), a]
def Dev.e (d : Dev) : List E := d.w (.sl 2 (d.attrs.map Atr.d))
attribute [push_cast] Dev.e Dev.w
def Dev.d (d : Dev) : List D := [.v (.int .i64 d.index), .v (.int .i64 d.parent), .v (.string d.name), .v (.string d.original), .v (.string d.subsystem), .v (.string d.driver), .v (.string d.alias_), .v (.int .i64 d.kind), .v (.int .i64 d.number), .sl 2 (d.attrs.map Atr.d)]
attribute [push_cast] Dev.d
def trE (l : List Dev) : List E := [.sl 10 (l.map Dev.d)]
attribute [push_cast] trE
abbrev Fit (s : ByteArray) : Prop := s.size ≤ 9223372036854775807
def okA (l : List Atr) : Prop := ∀ a ∈ l, Fit a.name ∧ Fit a.value
structure Dev.ok (d : Dev) : Prop where
  name : Fit d.name
  original : Fit d.original
  subsystem : Fit d.subsystem
  driver : Fit d.driver
  alias_ : Fit d.alias_
  attrs : okA d.attrs
  len : d.attrs.length ≤ 9223372036854775807
  orig : d.original.size ≤ 1048576
theorem mem_fit {l : List ByteArray} {s : ByteArray} (h : l.all (fun s => decide (s.size ≤ 100)) = true) (hm : s ∈ l) : s.size ≤ 100 := by
  have := List.all_eq_true.1 h s hm
  simpa using this
theorem fit_of {s : ByteArray} {n : Nat} (h : s.size ≤ n) (hn : n ≤ 1048576) : Fit s := Nat.le_trans h (Nat.le_trans hn (by decide))
end Go.Proofs.YthconflkbeipoaaGreatDoor
namespace Go.Proofs.YthconflkbeipoaaGreatDoor
open Go.RowKit
open IntWalk renaming iteOmega → iO, toNatUp → tN
set_option linter.unusedVariables false
set_option linter.unusedSimpArgs false
structure Wsh where
  path : ByteArray
  names : List ByteArray
  deriving DecidableEq, Inhabited
def Wsh.d (w : Wsh) : List D := [.v (.string w.path), .sl 1 (w.names.map strD)]
attribute [push_cast] Wsh.d
def Wsh.e (w : Wsh) : List E := [.v (.string w.path), .sl 1 (w.names.map strD)]
attribute [push_cast] Wsh.e
def digN (n : Nat) : ByteArray := ⟨(Lib.decDigits n).toArray⟩
def readGo : List UInt8 → Nat → Nat
  | [], a => a
  | b :: l, a => readGo l (a * 10 + (b.toNat - 48))
theorem readGo_app : ∀ (l m : List UInt8) (a : Nat), readGo (l ++ m) a = readGo m (readGo l a)
  | [], m, a => rfl
  | b :: l, m, a => readGo_app l m _
theorem dec_read (n : Nat) : readGo (Lib.decDigits n) 0 = n := by
  induction n using Nat.strongRecOn with
  | ind n ih =>
    rw [Lib.decDigits]
    split
    · rename_i h
      have : (UInt8.ofNat (48 + n)).toNat = 48 + n := by rw [UInt8.toNat_ofNat']; omega
      simp only [readGo]
      rw [this]; omega
    · rename_i h
      rw [readGo_app, ih (n / 10) (by omega)]
      have : (UInt8.ofNat (48 + n % 10)).toNat = 48 + n % 10 := by rw [UInt8.toNat_ofNat']; omega
      simp only [readGo]
      rw [this]; omega
theorem digN_inj {m n : Nat} (h : digN m = digN n) : m = n := by
  have h2 : Lib.decDigits m = Lib.decDigits n := by
    unfold digN at h
    injection h with h
    simpa using congrArg Array.toList h
  rw [← dec_read m, h2, dec_read]
def ifN (n : Nat) : ByteArray := ⟨#[105, 102]⟩ ++ digN n
theorem app_inj {a b c : ByteArray} (h : a ++ b = a ++ c) : b = c := by
  have h2 := congrArg (fun s : ByteArray => s.data.toList) h
  simp only [ByteArray.data_append, Array.toList_append] at h2
  have h3 := List.append_cancel_left h2
  cases b; cases c
  simp only at h3
  congr
  exact Array.toList_inj.1 h3
theorem ifN_inj {m n : Nat} (h : ifN m = ifN n) : m = n := digN_inj (app_inj h)
def freshGo (W : List ByteArray) : Nat → Nat → Nat
  | 0, n => n
  | k + 1, n => if inM (ifN n) W = true then freshGo W k (n + 1) else n
theorem freshGo_ge (W : List ByteArray) : ∀ k n, n ≤ freshGo W k n
  | 0, n => Nat.le_refl _
  | k + 1, n => by
    rw [freshGo]
    split
    · have := freshGo_ge W k (n + 1); omega
    · exact Nat.le_refl _
theorem freshGo_le (W : List ByteArray) : ∀ k n, freshGo W k n ≤ n + k
  | 0, n => Nat.le_refl _
  | k + 1, n => by
    rw [freshGo]
    split
    · have := freshGo_le W k (n + 1); omega
    · omega
theorem freshGo_mid (W : List ByteArray) : ∀ k n m, n ≤ m → m < freshGo W k n → inM (ifN m) W = true
  | 0, n, m, h1, h2 => by rw [freshGo] at h2; omega
  | k + 1, n, m, h1, h2 => by
    rw [freshGo] at h2
    split at h2
    · rename_i h
      by_cases e : m = n
      · rw [e]; exact h
      · exact freshGo_mid W k (n + 1) m (by omega) h2
    · omega
theorem nodup_sub_len {α : Type} [DecidableEq α] : ∀ {l m : List α}, l.Nodup → (∀ x ∈ l, x ∈ m) → l.length ≤ m.length
  | [], m, _, _ => Nat.zero_le _
  | a :: l, m, h, hs => by
    obtain ⟨h1, h2⟩ := List.nodup_cons.1 h
    have ha := hs a (by simp)
    have := nodup_sub_len (l := l) (m := m.erase a) h2 fun x hx => by
      have hx2 := hs x (by simp [hx])
      exact (List.mem_erase_of_ne (fun e => h1 (by rw [← e]; exact hx))).2 hx2
    rw [List.length_erase_of_mem ha] at this
    have hp : 0 < m.length := List.length_pos_of_mem ha
    rw [List.length_cons]
    omega
theorem freshGo_end (W : List ByteArray) {k n : Nat} (hk : W.length < k) : inM (ifN (freshGo W k n)) W = false := by
  have key : ∀ k n, inM (ifN (freshGo W k n)) W = true → freshGo W k n = n + k := by
    intro k
    induction k with
    | zero => intro n _; rfl
    | succ k ih =>
      intro n h
      rw [freshGo] at h ⊢
      split
      · rename_i hc
        rw [if_pos hc] at h
        rw [ih (n + 1) h]; omega
      · rename_i hc
        rw [if_neg hc] at h
        exact absurd h hc
  cases hc : inM (ifN (freshGo W k n)) W with
  | false => rfl
  | true =>
    exfalso
    have h1 := key k n hc
    have h2 : ((List.range k).map fun j => ifN (n + j)).Nodup := by
      rw [List.Nodup, List.pairwise_map]
      refine List.nodup_range.imp fun hne e => hne ?_
      have := ifN_inj e
      omega
    have h3 := nodup_sub_len h2 (m := W) fun x hx => by
      obtain ⟨j, hj, rfl⟩ := List.mem_map.1 hx
      rw [List.mem_range] at hj
      exact inM_iff.1 (freshGo_mid W k n (n + j) (by omega) (by omega))
    rw [List.length_map, List.length_range] at h3
    omega
def freshN (W : List ByteArray) (n : Nat) : Nat := freshGo W (W.length + 1) n
theorem fresh_ge (W : List ByteArray) (n : Nat) : n ≤ freshN W n := freshGo_ge W _ n
theorem fresh_le (W : List ByteArray) (n : Nat) : freshN W n ≤ n + W.length + 1 := freshGo_le W _ n
theorem fresh_not (W : List ByteArray) (n : Nat) : inM (ifN (freshN W n)) W = false := freshGo_end W (by omega)
theorem fresh_mid (W : List ByteArray) {n m : Nat} (h1 : n ≤ m) (h2 : m < freshN W n) : inM (ifN m) W = true := freshGo_mid W _ n m h1 h2
theorem fresh_uniq {W : List ByteArray} {n m : Nat} (h1 : n ≤ m) (h2 : inM (ifN m) W = false) (h3 : ∀ j, n ≤ j → j < m → inM (ifN j) W = true) : freshN W n = m := by
  rcases Nat.lt_trichotomy (freshN W n) m with h | h | h
  · have := h3 _ (fresh_ge W n) h
    rw [fresh_not] at this; cases this
  · exact h
  · have := fresh_mid W h1 h
    rw [h2] at this; cases this
def namesOk (ns : List ByteArray) : Bool := (List.range ns.length).all fun k => ifaceS (ns.getD k default) && !inM (ns.getD k default) (ns.take k)
def wshAt (l : List Wsh) (i : Nat) : Bool := ((splitP (l.getD i default).path).isSome && (decide (i = 0) || decide (cmpP (l.getD (i - 1) default).path (l.getD i default).path < 0))) && namesOk (l.getD i default).names
def wshOk (l : List Wsh) : Bool := (List.range l.length).all (wshAt l)
theorem wshOk_at {l : List Wsh} (h : wshOk l = true) {i : Nat} (hi : i < l.length) : wshAt l i = true := List.all_eq_true.1 h i (List.mem_range.2 hi)
theorem namesOk_at {ns : List ByteArray} (h : namesOk ns = true) {k : Nat} (hk : k < ns.length) : ifaceS (ns.getD k default) = true ∧ inM (ns.getD k default) (ns.take k) = false := by
  have := List.all_eq_true.1 h k (List.mem_range.2 hk)
  simpa using this
theorem namesOk_nodup {ns : List ByteArray} (h : namesOk ns = true) : ns.Nodup := by
  rw [List.Nodup, List.pairwise_iff_getElem]
  intro i j hi hj hij e
  have := (namesOk_at h hj).2
  rw [inM_false] at this
  apply this
  rw [getD_lt ns hj, ← e]
  exact List.mem_take_iff_getElem.2 ⟨i, by omega, rfl⟩
theorem iface_ne {s : ByteArray} (h : ifaceS s = true) : s ≠ ⟨#[]⟩ := fun e => by
  subst e
  revert h
  decide +kernel
theorem iface_size {s : ByteArray} (h : ifaceS s = true) : s.size ≤ 15 := by
  unfold ifaceS at h
  simp only [Bool.and_eq_true, decide_eq_true_eq] at h
  exact h.1.2
def rankK (l : List Wsh) (r k : Nat) : List (Nat × ByteArray) := ((List.range k).filter fun i => decide (r < (l.getD i default).names.length)).map fun i => (i, (l.getD i default).names.getD r default)
theorem rankK_zero (l : List Wsh) (r : Nat) : rankK l r 0 = [] := rfl
theorem rankK_t {l : List Wsh} {r k : Nat} (h : r < (l.getD k default).names.length) : rankK l r (k + 1) = rankK l r k ++ [(k, (l.getD k default).names.getD r default)] := by
  unfold rankK
  rw [List.range_succ, List.filter_append, List.map_append, List.filter_cons_of_pos (by simpa using h), List.filter_nil, List.map_singleton]
theorem rankK_f {l : List Wsh} {r k : Nat} (h : ¬ r < (l.getD k default).names.length) : rankK l r (k + 1) = rankK l r k := by
  unfold rankK
  rw [List.range_succ, List.filter_append, List.map_append, List.filter_cons_of_neg (by simpa using h), List.filter_nil, List.map_nil, List.append_nil]
def prsL (l : List Wsh) (n : Nat) : List (Nat × ByteArray) := (List.range n).flatMap fun r => rankK l r l.length
theorem prsL_succ (l : List Wsh) (n : Nat) : prsL l (n + 1) = prsL l n ++ rankK l n l.length := by
  unfold prsL
  rw [List.range_succ, List.flatMap_append, List.flatMap_singleton]
def maxR (l : List Wsh) : Nat := l.foldl (fun a w => max a w.names.length) 0
theorem foldl_max_ge (l : List Wsh) : ∀ a, a ≤ l.foldl (fun a w => max a w.names.length) a ∧ ∀ w ∈ l, w.names.length ≤ l.foldl (fun a w => max a w.names.length) a := by
  induction l with
  | nil => intro a; exact ⟨Nat.le_refl _, fun w hw => by cases hw⟩
  | cons x l ih =>
    intro a
    obtain ⟨h1, h2⟩ := ih (max a x.names.length)
    refine ⟨Nat.le_trans (Nat.le_max_left _ _) h1, fun w hw => ?_⟩
    rcases List.mem_cons.1 hw with rfl | hw
    · exact Nat.le_trans (Nat.le_max_right _ _) h1
    · exact h2 w hw
theorem maxR_ge {l : List Wsh} {w : Wsh} (h : w ∈ l) : w.names.length ≤ maxR l := (foldl_max_ge l 0).2 w h
abbrev AsgS := List ByteArray × List ByteArray
def stepW (st : AsgS) (p : Nat × ByteArray) : AsgS := if st.1.getD p.1 default = ⟨#[]⟩ ∧ inM p.2 st.2 = false then (st.1.set p.1 p.2, addS st.2 p.2) else st
def startA (l : List Wsh) : AsgS := (List.replicate l.length ⟨#[]⟩, [])
def runA (l : List Wsh) (ps : List (Nat × ByteArray)) : AsgS := ps.foldl stepW (startA l)
theorem runA_snoc (l : List Wsh) (ps : List (Nat × ByteArray)) (p : Nat × ByteArray) : runA l (ps ++ [p]) = stepW (runA l ps) p := by unfold runA; rw [List.foldl_append]; rfl
def wantedA (ps : List (Nat × ByteArray)) : List ByteArray := ps.foldl (fun W p => addS W p.2) []
theorem wantedA_snoc (ps : List (Nat × ByteArray)) (p : Nat × ByteArray) : wantedA (ps ++ [p]) = addS (wantedA ps) p.2 := by unfold wantedA; rw [List.foldl_append]; rfl
theorem mem_wantedA (ps : List (Nat × ByteArray)) (s : ByteArray) : s ∈ wantedA ps ↔ ∃ p ∈ ps, p.2 = s := by
  have key : ∀ (ps : List (Nat × ByteArray)) (W : List ByteArray), s ∈ ps.foldl (fun W p => addS W p.2) W ↔ s ∈ W ∨ ∃ p ∈ ps, p.2 = s := by
    intro ps
    induction ps with
    | nil => intro W; simp
    | cons p ps ih =>
      intro W
      rw [List.foldl_cons, ih, mem_addS]
      simp only [List.mem_cons, exists_eq_or_imp]
      constructor
      · rintro ((h | h) | h)
        · exact .inl h
        · exact .inr (.inl h.symm)
        · exact .inr (.inr h)
      · rintro (h | h | h)
        · exact .inl (.inl h)
        · exact .inl (.inr h.symm)
        · exact .inr h
  unfold wantedA
  rw [key]
  simp
def fillW (W : List ByteArray) (st : List ByteArray × Nat) (i : Nat) : List ByteArray × Nat := if st.1.getD i default = ⟨#[]⟩ then (st.1.set i (ifN (freshN W st.2)), freshN W st.2 + 1) else st
def fillWK (W : List ByteArray) (vals : List ByteArray) (k : Nat) : List ByteArray × Nat := (List.range k).foldl (fillW W) (vals, 0)
theorem fillWK_zero (W vals : List ByteArray) : fillWK W vals 0 = (vals, 0) := rfl
theorem fillWK_succ (W vals : List ByteArray) (k : Nat) : fillWK W vals (k + 1) = fillW W (fillWK W vals k) k := by unfold fillWK; rw [List.range_succ, List.foldl_append]; rfl
def valsA (l : List Wsh) : List ByteArray := (runA l (prsL l (maxR l))).1
def namedA (l : List Wsh) : List ByteArray := (fillWK (wantedA (prsL l (maxR l))) (valsA l) l.length).1
def assignA (l : List Wsh) : List Atr := (List.range l.length).map fun i => ⟨(l.getD i default).path, (namedA l).getD i default⟩
end Go.Proofs.YthconflkbeipoaaGreatDoor
