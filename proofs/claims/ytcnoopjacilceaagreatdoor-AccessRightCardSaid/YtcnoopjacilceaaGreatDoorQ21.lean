/- What the program computes, and the plain laws of it, part 21. -/
import Derived.Test.YtcnoopjacilceaaGreatDoorQ20
namespace Go.Proofs.YtcnoopjacilceaaGreatDoor
open Go.RowKit
open IntWalk renaming iteOmega → iO, toNatUp → tN
set_option linter.unusedVariables false
set_option linter.unusedSimpArgs false
theorem Okt.nil : Okt [] := ⟨by simp, by simp, fun i h => by simp at h, by simp, by simp⟩
theorem putl_get {α : Type} (l : List α) (d : α) (k : Nat) (hk : k ≤ l.length) (i : Nat) : (l.take k ++ [d] ++ l.drop k)[i]? = if i < k then l[i]? else if i = k then some d else l[i - 1]? := by
  rw [List.append_assoc, List.getElem?_append, List.length_take, Nat.min_eq_left hk]
  split
  · rename_i h; rw [List.getElem?_take_of_lt h]
  · rename_i h
    rw [List.singleton_append]
    by_cases e : i = k
    · subst e; simp
    · rw [if_neg e]
      obtain ⟨m, hm⟩ : ∃ m, i - k = m + 1 := ⟨i - k - 1, by omega⟩
      rw [hm, List.getElem?_cons_succ, List.getElem?_drop]
      congr 1
      omega
theorem put_mem {α : Type} {l : List α} {d x : α} {k : Nat} : x ∈ l.take k ++ [d] ++ l.drop k ↔ x = d ∨ x ∈ l := by
  rw [List.append_assoc, List.mem_append, List.singleton_append, List.mem_cons]
  constructor
  · rintro (h | h | h)
    · exact .inr (List.mem_of_mem_take h)
    · exact .inl h
    · exact .inr (List.mem_of_mem_drop h)
  · rintro (h | h)
    · exact .inr (.inl h)
    · rw [← List.take_append_drop k l, List.mem_append] at h
      rcases h with h | h
      · exact .inl h
      · exact .inr (.inr h)
theorem put_perm {α : Type} (l : List α) (d : α) (k : Nat) : (l.take k ++ [d] ++ l.drop k).Perm (d :: l) := by
  rw [List.append_assoc, List.singleton_append]
  refine (List.perm_middle).trans ?_
  rw [List.take_append_drop]
theorem okp_get {l : List Dev} (h : Okp l) {i : Nat} {d : Dev} (hd : l[i]? = some d) : d.parent = 0 ∨ ∃ (j : Nat) (e : Dev), j < i ∧ l[j]? = some e ∧ e.index = d.parent := by
  obtain ⟨hi, rfl⟩ := List.getElem?_eq_some_iff.1 hd
  rcases h.par i hi with h0 | ⟨j, hj, hp⟩
  · exact .inl h0
  · exact .inr ⟨j, _, hj, List.getElem?_eq_getElem (by omega), hp⟩
theorem okp_put {l : List Dev} (h : Okp l) {d : Dev} (k : Nat) (hk : k ≤ l.length) (h1 : 1 ≤ d.index) (hf : findD l d.index = none) (hp : d.parent = 0 ∨ ∃ (j : Nat) (e : Dev), j < k ∧ l[j]? = some e ∧ e.index = d.parent) : Okp (l.take k ++ [d] ++ l.drop k) := by
  refine ⟨fun x hx => ?_, ?_, fun i hi => ?_⟩
  · rcases put_mem.1 hx with rfl | hx
    · exact h1
    · exact h.pos x hx
  · rw [((put_perm l d k).map Dev.index).nodup_iff, List.map_cons, List.nodup_cons]
    refine ⟨fun hm => ?_, h.nodup⟩
    obtain ⟨x, hx, he⟩ := List.mem_map.1 hm
    exact findD_none.1 hf x hx he
  · have hg := putl_get l d k hk
    have up : ∀ (j : Nat) (e : Dev), l[j]? = some e → (j < k ∧ (l.take k ++ [d] ++ l.drop k)[j]? = some e) ∨ (k ≤ j ∧ (l.take k ++ [d] ++ l.drop k)[j + 1]? = some e) := fun j e he => by
      by_cases hj : j < k
      · exact .inl ⟨hj, by rw [hg, if_pos hj]; exact he⟩
      · exact .inr ⟨by omega, by rw [hg, if_neg (by omega), if_neg (by omega)]; simpa using he⟩
    have fin : ∀ (j : Nat) (e : Dev), j < i → (l.take k ++ [d] ++ l.drop k)[j]? = some e → e.index = (l.take k ++ [d] ++ l.drop k)[i].parent → ∃ (j : Nat) (hj : j < i), (l.take k ++ [d] ++ l.drop k)[j].index = (l.take k ++ [d] ++ l.drop k)[i].parent := fun j e hj he hx => by
      obtain ⟨h3, h4⟩ := List.getElem?_eq_some_iff.1 he
      exact ⟨j, hj, by rw [h4]; exact hx⟩
    have hx : (l.take k ++ [d] ++ l.drop k)[i]? = some (l.take k ++ [d] ++ l.drop k)[i] := List.getElem?_eq_getElem hi
    generalize (l.take k ++ [d] ++ l.drop k)[i] = x at hx fin ⊢
    rw [hg] at hx
    split at hx
    · rcases okp_get h hx with h0 | ⟨j, e, hj, he, hi2⟩
      · exact .inl h0
      · rcases up j e he with ⟨_, h3⟩ | ⟨h3, _⟩
        · exact .inr (fin j e hj h3 hi2)
        · omega
    · split at hx
      · rename_i hik
        cases hx
        rcases hp with h0 | ⟨j, e, hj, he, hi2⟩
        · exact .inl h0
        · rcases up j e he with ⟨_, h3⟩ | ⟨h3, _⟩
          · exact .inr (fin j e (by omega) h3 hi2)
          · omega
      · rcases okp_get h hx with h0 | ⟨j, e, hj, he, hi2⟩
        · exact .inl h0
        · rcases up j e he with ⟨_, h3⟩ | ⟨_, h3⟩
          · exact .inr (fin j e (by omega) h3 hi2)
          · exact .inr (fin (j + 1) e (by omega) h3 hi2)
theorem chain_same {l m : List Dev} (hl : Okp l) (hm : Okp m) (hsub : ∀ d ∈ l, d ∈ m → d.parent = 0 ∨ ∃ e ∈ l, e ∈ m ∧ e.index = d.parent) : ∀ (i : Nat) (hi : i < l.length), l[i] ∈ m → chainM l l[i].index = chainM m l[i].index := by
  intro i
  induction i using Nat.strongRecOn with
  | ind i ih =>
    intro hi him
    have hil : l[i] ∈ l := List.getElem_mem hi
    rw [chain_step hl hil, chain_step hm him]
    congr 1
    rcases hsub _ hil him with h0 | ⟨e, he, hem, hx⟩
    · rw [h0, chain_none (find0 hl.pos (by omega)), chain_none (find0 hm.pos (by omega))]
    · rcases hl.par i hi with h0 | ⟨j, hj, hp⟩
      · rw [h0] at hx; have := hl.pos e he; omega
      · have hj2 : j < l.length := by omega
        have hee : l[j] = e := by
          have h1 := findD_mem hl.nodup he
          have h2 := findD_mem hl.nodup (List.getElem_mem hj2)
          rw [hp, ← hx, h1] at h2
          exact (Option.some.inj h2).symm
        rw [← hp]
        exact ih j hj hj2 (by rw [hee]; exact hem)
theorem orig_same {l m : List Dev} (hl : Okp l) (hm : Okp m) (hsub : ∀ d ∈ l, d ∈ m → d.parent = 0 ∨ ∃ e ∈ l, e ∈ m ∧ e.index = d.parent) {d : Dev} (hd : d ∈ l) (hdm : d ∈ m) : origM l d.index = origM m d.index := by
  obtain ⟨i, hi, rfl⟩ := List.getElem_of_mem hd
  unfold origM
  rw [chain_same hl hm hsub i hi hdm]
theorem find_of_any {l : List Dev} {n : Int} (h : (findD l n).isNone = false) : ∃ (j : Nat) (e : Dev), l[j]? = some e ∧ e.index = n := by
  cases hf : findD l n with
  | none => rw [hf] at h; cases h
  | some e =>
    obtain ⟨h1, h2⟩ := findD_some hf
    obtain ⟨j, hj, rfl⟩ := List.getElem_of_mem h1
    exact ⟨j, _, List.getElem?_eq_getElem hj, h2⟩
theorem ins_split {l : List Dev} {d : Dev} (h : insErr l d = 0) : checkM d = 0 ∧ findD l d.index = none ∧ (d.parent = 0 ∨ (findD l d.parent).isNone = false) ∧ l.length < 256 ∧ (ownM l d).length ≤ 7 ∧ ∀ x ∈ l, bad1 l (ownM l d) d x = false := by
  unfold insErr at h
  split at h
  · cases h
  rename_i h1
  split at h
  · cases h
  rename_i h2
  split at h
  · cases h
  rename_i h3
  split at h
  · cases h
  rename_i h4
  split at h
  · cases h
  rename_i h5
  split at h
  · cases h
  rename_i h6
  refine ⟨by simpa using h1, by simpa using h2, ?_, by omega, by omega, fun x hx => ?_⟩
  · by_cases e : d.parent = 0
    · exact .inl e
    · exact .inr (by cases hq : (findD l d.parent).isNone with | false => rfl | true => exact absurd ⟨e, hq⟩ h3)
  · cases hb : bad1 l (ownM l d) d x with
    | false => rfl
    | true => exact absurd (List.any_eq_true.2 ⟨x, hx, hb⟩) h6
theorem Okt.ins {l : List Dev} (h : Okt l) {d : Dev} (hi : insErr l d = 0) : Okt (insT l d) ∧ (∀ x ∈ l, origM (insT l d) x.index = origM l x.index) := by
  obtain ⟨h1, h2, h3, h4, h5, h6⟩ := ins_split hi
  have hle := atM_le l (ownM l d) l.length
  have hpar : d.parent = 0 ∨ ∃ (j : Nat) (e : Dev), j < atM l (ownM l d) l.length ∧ l[j]? = some e ∧ e.index = d.parent := by
    rcases h3 with h3 | h3
    · exact .inl h3
    · obtain ⟨j, e, hj, he⟩ := find_of_any h3
      obtain ⟨hj2, hj3⟩ := List.getElem?_eq_some_iff.1 hj
      have hc : cmpL (origM l (l.getD j default).index) (ownM l d) < 0 := by
        rw [getD_lt l hj2, hj3, he]
        exact cmpL_pre _ _
      exact .inr ⟨j, e, by have := atM_ge l (ownM l d) hc l.length hj2; omega, hj, he⟩
  have hok : Okp (insT l d) := okp_put h.p _ hle (check_index h1).1 h2 hpar
  have hmem : ∀ x, x ∈ insT l d ↔ x = d ∨ x ∈ l := fun x => put_mem
  have hsame : ∀ x ∈ l, origM (insT l d) x.index = origM l x.index := fun x hx => by
    refine (orig_same h.p hok (fun y hy hy2 => ?_) hx ((hmem x).2 (.inr hx))).symm
    obtain ⟨i, hi2, rfl⟩ := List.getElem_of_mem hy
    rcases h.par i hi2 with h0 | ⟨j, hj, hp⟩
    · exact .inl h0
    · exact .inr ⟨l[j], List.getElem_mem _, (hmem _).2 (.inr (List.getElem_mem _)), hp⟩
  have hown : origM (insT l d) d.index = ownM l d := by
    rw [orig_step hok ((hmem d).2 (.inl rfl)), ownM]
    congr 1
    rcases h3 with h3 | h3
    · rw [h3, orig_none (find0 hok.pos (by omega)), orig_none (find0 h.pos (by omega))]
    · obtain ⟨j, e, hj, he⟩ := find_of_any h3
      rw [← he]
      exact hsame e (List.mem_of_getElem? hj)
  refine ⟨⟨hok.pos, hok.nodup, hok.par, fun x hx => ?_, fun x hx y hy he => ?_⟩, hsame⟩
  · rcases (hmem x).1 hx with rfl | hx
    · exact check_orig h1
    · exact h.val x hx
  · have hno : ∀ x ∈ l, origM l x.index ≠ ownM l d := fun x hx e => by
      have := h6 x hx
      unfold bad1 at this
      rw [Bool.or_eq_false_iff] at this
      exact absurd (cmpL_eq.2 e) (by simpa using this.1)
    rcases (hmem x).1 hx with rfl | hx' <;> rcases (hmem y).1 hy with rfl | hy'
    · rfl
    · rw [hown, hsame y hy'] at he
      exact absurd he.symm (hno y hy')
    · rw [hown, hsame x hx'] at he
      exact absurd he (hno x hx')
    · rw [hsame x hx', hsame y hy'] at he
      exact h.dist x hx' y hy' he
def belowM (l : List Dev) (m top : Int) : Bool := (chainM l m).any fun d => decide (d.index = top)
def remT (l : List Dev) (n : Int) : List Dev := l.filter fun d => !belowM l d.index n
theorem Okt.rem {l : List Dev} (h : Okt l) (n : Int) : Okt (remT l n) ∧ (∀ x ∈ remT l n, origM (remT l n) x.index = origM l x.index) := by
  have hmem : ∀ x, x ∈ remT l n ↔ x ∈ l ∧ belowM l x.index n = false := fun x => by unfold remT; rw [List.mem_filter]; simp
  have hup : ∀ x ∈ l, ∀ e ∈ l, e.index = x.parent → belowM l x.index n = false → belowM l e.index n = false := fun x hx e he hp hb => by
    unfold belowM at hb ⊢
    rw [chain_step h.p hx, ← hp, List.any_cons, Bool.or_eq_false_iff] at hb
    exact hb.2
  have hok : Okp (remT l n) := by
    refine ⟨fun x hx => h.pos x ((hmem x).1 hx).1, h.nodup.sublist (List.filter_sublist.map _), fun i hi => ?_⟩
    have hs : remT l n = (remT l n).take i ++ (remT l n)[i] :: (remT l n).drop (i + 1) := by rw [← List.drop_eq_getElem_cons hi, List.take_append_drop]
    have hs2 := hs
    conv at hs2 => lhs; unfold remT
    obtain ⟨l1, l2, e1, e2, e3⟩ := List.filter_eq_append_iff.1 hs2
    obtain ⟨l3, l4, e4, e5, e6, e7⟩ := List.filter_eq_cons_iff.1 e3
    have hil : (remT l n)[i] ∈ l := ((hmem _).1 (List.getElem_mem hi)).1
    have hib := ((hmem _).1 (List.getElem_mem hi)).2
    generalize (remT l n)[i] = x at hil hib e4 e6
    have hpos : l[l1.length + l3.length]? = some x := by
      rw [e1, e4, List.getElem?_append_right (by omega), List.getElem?_append_right (by omega)]
      have : l1.length + l3.length - l1.length - l3.length = 0 := by omega
      rw [this]; rfl
    rcases okp_get h.p hpos with h0 | ⟨j, e, hj, he, hp⟩
    · exact .inl h0
    · right
      have hel : e ∈ l := List.mem_of_getElem? he
      have heb := hup _ hil e hel hp hib
      have he1 : e ∈ l1 := by
        rw [e1, e4] at he
        by_cases hj1 : j < l1.length
        · rw [List.getElem?_append_left hj1] at he
          exact List.mem_of_getElem? he
        · rw [List.getElem?_append_right (by omega), List.getElem?_append_left (by omega)] at he
          have := e5 e (List.mem_of_getElem? he)
          simp [heb] at this
      have he2 : e ∈ (remT l n).take i := by
        rw [← e2, List.mem_filter]
        exact ⟨he1, by simp [heb]⟩
      obtain ⟨j', hj', hx⟩ := List.mem_take_iff_getElem.1 he2
      exact ⟨j', by omega, by rw [hx]; exact hp⟩
  have hsame : ∀ x ∈ remT l n, origM (remT l n) x.index = origM l x.index := fun x hx => by
    refine orig_same hok h.p (fun y hy hy2 => ?_) hx ((hmem x).1 hx).1
    obtain ⟨i, hi2, rfl⟩ := List.getElem_of_mem hy
    rcases hok.par i hi2 with h0 | ⟨j, hj, hp⟩
    · exact .inl h0
    · exact .inr ⟨_, List.getElem_mem _, ((hmem _).1 (List.getElem_mem (by omega))).1, hp⟩
  refine ⟨⟨hok.pos, hok.nodup, hok.par, fun x hx => h.val x ((hmem x).1 hx).1, fun x hx y hy he => ?_⟩, hsame⟩
  rw [hsame x hx, hsame y hy] at he
  exact h.dist x ((hmem x).1 hx).1 y ((hmem y).1 hy).1 he
def atD (l : List Dev) (p : ByteArray) : Option Dev := l.find? fun d => decide (placeM l d.index = p)
theorem atD_ori {l : List Dev} (h : Okt l) (p : ByteArray) : (l.find? fun d => decide (oriF l d.index = some p)) = atD l p := by
  have key : ∀ (m : List Dev) (p q : Dev → Bool), (∀ d ∈ m, p d = q d) → m.find? p = m.find? q := by
    intro m p q
    induction m with
    | nil => intro _; rfl
    | cons x m ih =>
      intro h
      rw [List.find?_cons, List.find?_cons, h x (by simp), ih fun d hd => h d (by simp [hd])]
  unfold atD
  refine key l _ _ fun d hd => ?_
  rw [oriF_eq h.p, findD_mem h.nodup hd]
  simp
theorem place_ne {l : List Dev} (h : Okp l) {d : Dev} (hd : d ∈ l) : placeM l d.index ≠ ⟨#[]⟩ := fun e => by
  have h1 : (placeM l d.index).data.toList = [] := by rw [e]
  unfold placeM at h1
  rw [joinP_list, orig_step h hd, List.map_append] at h1
  simp [joinL] at h1
end Go.Proofs.YtcnoopjacilceaaGreatDoor
namespace Go.Proofs.YtcnoopjacilceaaGreatDoor
open Go.RowKit
open IntWalk renaming iteOmega → iO, toNatUp → tN
set_option linter.unusedVariables false
set_option linter.unusedSimpArgs false
structure Acc where
  path : ByteArray
  node : ByteArray
  user : ByteArray
  deriving DecidableEq
instance : Inhabited Acc := ⟨⟨⟨#[]⟩, ⟨#[]⟩, ⟨#[]⟩⟩⟩
def Acc.d (a : Acc) : List D := [.v (.string a.path), .v (.string a.node), .v (.string a.user)]
def Acc.e (a : Acc) : List E := a.d.map D.e
structure Chg where
  kind : Int
  acc : Acc
instance : Inhabited Chg := ⟨⟨0, default⟩⟩
def Chg.d (c : Chg) : List D := .v (.int .i64 c.kind) :: c.acc.d
def Chg.e (c : Chg) : List E := c.d.map D.e
attribute [push_cast] Acc.d Acc.e Chg.d Chg.e
def cmpP (a b : ByteArray) : Int := match splitP a, splitP b with
  | some l, some m => cmpL l m
  | _, _ => 0
def okP1 (a : ByteArray) : Prop := ∃ l, splitP a = some l
theorem cmpP_anti (a b : ByteArray) : cmpP b a = -cmpP a b := by
  unfold cmpP
  cases splitP a <;> cases splitP b <;> simp
  exact cmpL_anti _ _
theorem cmpP_lt (a b : ByteArray) : cmpP a b = -1 ∨ cmpP a b = 0 ∨ cmpP a b = 1 := by
  unfold cmpP
  cases splitP a <;> cases splitP b <;> simp
  exact cmpL_lt _ _
theorem cmpP_trans {a b c : ByteArray} (h1 : cmpP a b < 0) (h2 : cmpP b c < 0) : cmpP a c < 0 := by
  unfold cmpP at *
  cases ha : splitP a <;> cases hb : splitP b <;> cases hc : splitP c <;> simp_all
  exact cmpL_trans h1 h2
theorem cmpP_irr (a : ByteArray) : ¬ cmpP a a < 0 := by have := cmpP_anti a a; omega
theorem spl_inj : ∀ {l m : List UInt8}, spl l = spl m → l = m
  | [], [], _ => rfl
  | [], b :: m, h => by
    rw [spl, spl] at h
    split at h
    · injection h with _ h; exact absurd h.symm (spl_ne m)
    · split at h <;> simp at h
  | b :: l, [], h => by
    rw [spl, spl] at h
    split at h
    · injection h with _ h; exact absurd h (spl_ne l)
    · split at h <;> simp at h
  | b :: l, c :: m, h => by
    have key : ∀ (b : UInt8) (l : List UInt8), b ≠ 47 → ∃ h t, spl l = h :: t ∧ spl (b :: l) = (b :: h) :: t := by
      intro b l hb
      cases hs : spl l with
      | nil => exact absurd hs (spl_ne l)
      | cons h t => exact ⟨h, t, rfl, by rw [spl, if_neg hb, hs]⟩
    by_cases e1 : b = 47 <;> by_cases e2 : c = 47
    · subst e1; subst e2
      rw [spl, spl, if_pos rfl, if_pos rfl] at h
      injection h with _ h
      rw [spl_inj h]
    · obtain ⟨h1, t1, _, i2⟩ := key c m e2
      subst e1
      rw [i2, spl, if_pos rfl] at h
      injection h with h _; cases h
    · obtain ⟨h1, t1, _, i2⟩ := key b l e1
      subst e2
      rw [i2, spl, if_pos rfl] at h
      injection h with h _; cases h
    · obtain ⟨h1, t1, i1, i2⟩ := key b l e1
      obtain ⟨h2, t2, j1, j2⟩ := key c m e2
      rw [i2, j2] at h
      injection h with h h'
      injection h with h h''
      subst h; subst h'; subst h''
      rw [spl_inj (i1.trans j1.symm)]
theorem parts_inj {s t : ByteArray} (h : parts s = parts t) : s = t := by
  unfold parts at h
  have h2 : spl s.data.toList = spl t.data.toList := by
    have : ∀ {a b : List (List UInt8)}, a.map unT = b.map unT → a = b := by
      intro a
      induction a with
      | nil => intro b h; cases b <;> simp at h ⊢
      | cons x a ih =>
        intro b h
        cases b with
        | nil => simp at h
        | cons y b =>
          simp only [List.map_cons, List.cons.injEq] at h
          obtain ⟨h1, h2⟩ := h
          have hx : x = y := by have := congrArg (fun z : ByteArray => z.data.toList) h1; simpa [unT] using this
          rw [hx, ih h2]
    exact this h
  have h3 := spl_inj h2
  cases s; cases t
  simp only at h3
  congr
  exact Array.toList_inj.1 h3
theorem slash_rest {s : ByteArray} (h : slashS s = true) : s.data.toList = 47 :: (restS s).data.toList := by
  unfold restS
  rw [if_pos h]
  unfold slashS Lib.hasPrefix at h
  rw [Lib.extract_to_end]
  cases e : s.data.toList with
  | nil => rw [e] at h; simp [List.isPrefixOf] at h
  | cons b l => rw [e] at h; simp [List.isPrefixOf] at h; subst h; rfl
theorem splitP_inj {a b : ByteArray} {l : List ByteArray} (ha : splitP a = some l) (hb : splitP b = some l) : a = b := by
  unfold splitP at ha hb
  split at ha
  · rename_i h1
    split at hb
    · rename_i h2
      cases ha
      injection hb with hb
      have hr := parts_inj hb
      have e1 := slash_rest h1.1
      have e2 := slash_rest h2.1
      rw [hr, ← e1] at e2
      cases a; cases b
      simp only at e2
      congr
      exact (Array.toList_inj.1 e2).symm
    · cases hb
  · cases ha
theorem cmpP_eq {a b : ByteArray} (ha : okP1 a) (hb : okP1 b) : cmpP a b = 0 ↔ a = b := by
  obtain ⟨l, hl⟩ := ha
  obtain ⟨m, hm⟩ := hb
  unfold cmpP
  rw [hl, hm]
  simp only
  rw [cmpL_eq]
  exact ⟨fun h => splitP_inj hl (by rw [hm, h]), fun h => by subst h; rw [hl] at hm; injection hm⟩
def ltA (a b : Acc) : Prop := cmpP a.path b.path < 0
structure Right (l : List Acc) : Prop where
  ok : ∀ a ∈ l, okP1 a.path
  asc : l.Pairwise ltA
  nodes : (l.map Acc.node).Nodup
theorem ltA_asymm {a b : Acc} (h : ltA a b) : ¬ ltA b a := by unfold ltA at *; rw [cmpP_anti a.path b.path]; omega
theorem pw_ext {α : Type} {r : α → α → Prop} (hr : ∀ a b, r a b → ¬ r b a) : ∀ {l m : List α}, l.Pairwise r → m.Pairwise r → (∀ x, x ∈ l ↔ x ∈ m) → l = m
  | [], [], _, _, _ => rfl
  | [], b :: m, _, _, h => by have := (h b).2 (by simp); simp at this
  | a :: l, [], _, _, h => by have := (h a).1 (by simp); simp at this
  | a :: l, b :: m, hl, hm, h => by
    obtain ⟨l1, l2⟩ := List.pairwise_cons.1 hl
    obtain ⟨m1, m2⟩ := List.pairwise_cons.1 hm
    have e : a = b := by
      rcases List.mem_cons.1 ((h a).1 (by simp)) with e | ha
      · exact e
      · rcases List.mem_cons.1 ((h b).2 (by simp)) with e | hb
        · exact e.symm
        · exact absurd (m1 a ha) (hr _ _ (l1 b hb))
    subst e
    congr 1
    refine pw_ext hr l2 m2 fun x => ⟨fun hx => ?_, fun hx => ?_⟩
    · rcases List.mem_cons.1 ((h x).1 (by simp [hx])) with e | h'
      · subst e; exact absurd (l1 x hx) (fun h => hr _ _ h h)
      · exact h'
    · rcases List.mem_cons.1 ((h x).2 (by simp [hx])) with e | h'
      · subst e; exact absurd (m1 x hx) (fun h => hr _ _ h h)
      · exact h'
theorem Right.nodup {l : List Acc} (h : Right l) : l.Nodup := h.asc.imp fun {a b} h e => by subst e; exact cmpP_irr _ h
theorem Right.sublist {l m : List Acc} (h : Right l) (hs : m.Sublist l) : Right m := ⟨fun a ha => h.ok a (hs.subset ha), h.asc.sublist hs, h.nodes.sublist (hs.map _)⟩
def minusL (a b : List Acc) : List Acc := a.filter fun x => decide (x ∉ b)
def planA (a b : List Acc) : List Chg := (minusL a b).map (Chg.mk 1) ++ (minusL b a).map (Chg.mk 2)
instance (a b : Acc) : Decidable (ltA a b) := inferInstanceAs (Decidable (cmpP a.path b.path < 0))
def insA (x : Acc) (l : List Acc) : List Acc := (l.takeWhile fun y => decide (ltA y x)) ++ x :: l.dropWhile fun y => decide (ltA y x)
theorem tw_pre {l : List Acc} (h : l.Pairwise ltA) (x : Acc) : (∀ y ∈ l.takeWhile fun y => decide (ltA y x), ltA y x) ∧ ∀ y ∈ l.dropWhile fun y => decide (ltA y x), ¬ ltA y x := by
  induction l with
  | nil => simp
  | cons a l ih =>
    obtain ⟨h1, h2⟩ := List.pairwise_cons.1 h
    obtain ⟨i1, i2⟩ := ih h2
    by_cases hx : ltA a x
    · rw [List.takeWhile_cons_of_pos (by simpa using hx), List.dropWhile_cons_of_pos (by simpa using hx)]
      exact ⟨fun y hy => by rcases List.mem_cons.1 hy with rfl | hy; exact hx; exact i1 y hy, i2⟩
    · rw [List.takeWhile_cons_of_neg (by simpa using hx), List.dropWhile_cons_of_neg (by simpa using hx)]
      refine ⟨by simp, fun y hy => ?_⟩
      rcases List.mem_cons.1 hy with rfl | hy
      · exact hx
      · exact fun hc => hx (cmpP_trans (h1 y hy) hc)
theorem mem_ins {x : Acc} {l : List Acc} {y : Acc} : y ∈ insA x l ↔ y = x ∨ y ∈ l := by
  have e : l = (l.takeWhile fun y => decide (ltA y x)) ++ l.dropWhile fun y => decide (ltA y x) := List.takeWhile_append_dropWhile.symm
  constructor
  · intro h
    rcases List.mem_append.1 h with h | h
    · right; rw [e]; exact List.mem_append.2 (.inl h)
    · rcases List.mem_cons.1 h with h | h
      · exact .inl h
      · right; rw [e]; exact List.mem_append.2 (.inr h)
  · rintro (h | h)
    · subst h; simp [insA]
    · rw [e] at h
      rcases List.mem_append.1 h with h | h
      · exact List.mem_append.2 (.inl h)
      · exact List.mem_append.2 (.inr (List.mem_cons_of_mem _ h))
theorem Right.ins {l : List Acc} {x : Acc} (h : Right l) (hx : okP1 x.path) (hp : ∀ y ∈ l, y.path ≠ x.path) (hn : ∀ y ∈ l, y.node ≠ x.node) : Right (insA x l) := by
  obtain ⟨t1, t2⟩ := tw_pre h.asc x
  have e : l = (l.takeWhile fun y => decide (ltA y x)) ++ l.dropWhile fun y => decide (ltA y x) := List.takeWhile_append_dropWhile.symm
  have hasc := h.asc
  have hnd := h.nodes
  refine ⟨fun a ha => ?_, ?_, ?_⟩
  · rcases mem_ins.1 ha with rfl | ha
    · exact hx
    · exact h.ok a ha
  · have hgt : ∀ y ∈ l.dropWhile fun y => decide (ltA y x), ltA x y := by
      intro y hy
      have hyl : y ∈ l := by rw [e]; exact List.mem_append.2 (.inr hy)
      have h1 := t2 y hy
      have h2 : cmpP y.path x.path ≠ 0 := fun hc => hp y hyl ((cmpP_eq (h.ok y hyl) hx).1 hc)
      have h3 := cmpP_anti y.path x.path
      unfold ltA at *
      omega
    rw [e] at hasc
    obtain ⟨p1, p2, p3⟩ := List.pairwise_append.1 hasc
    refine List.pairwise_append.2 ⟨p1, List.pairwise_cons.2 ⟨hgt, p2⟩, fun a ha b hb => ?_⟩
    rcases List.mem_cons.1 hb with rfl | hb
    · exact t1 a ha
    · exact p3 a ha b hb
  · have hperm : (insA x l).Perm (x :: l) := by
      conv => rhs; rw [e]
      exact List.perm_middle
    refine (hperm.map Acc.node).nodup_iff.2 ?_
    rw [List.map_cons, List.nodup_cons]
    refine ⟨fun hc => ?_, h.nodes⟩
    obtain ⟨y, hy, he⟩ := List.mem_map.1 hc
    exact hn y hy he
def posA (x : Acc) (l : List Acc) : Nat := (l.takeWhile fun y => decide (ltA y x)).length
theorem posA_le (x : Acc) (l : List Acc) : posA x l ≤ l.length := by
  have := congrArg List.length (List.takeWhile_append_dropWhile (p := fun y => decide (ltA y x)) (l := l))
  rw [List.length_append] at this
  unfold posA
  omega
theorem take_pos (x : Acc) (l : List Acc) : l.take (posA x l) = (l.takeWhile fun y => decide (ltA y x)) ∧ l.drop (posA x l) = l.dropWhile fun y => decide (ltA y x) := by
  have e : (l.takeWhile fun y => decide (ltA y x)) ++ (l.dropWhile fun y => decide (ltA y x)) = l := List.takeWhile_append_dropWhile
  have h1 : ((l.takeWhile fun y => decide (ltA y x)) ++ (l.dropWhile fun y => decide (ltA y x))).take (posA x l) = l.takeWhile fun y => decide (ltA y x) := List.take_left' rfl
  have h2 : ((l.takeWhile fun y => decide (ltA y x)) ++ (l.dropWhile fun y => decide (ltA y x))).drop (posA x l) = l.dropWhile fun y => decide (ltA y x) := List.drop_left' rfl
  rw [e] at h1 h2
  exact ⟨h1, h2⟩
theorem insA_pos (x : Acc) (l : List Acc) : insA x l = l.take (posA x l) ++ x :: l.drop (posA x l) := by
  rw [(take_pos x l).1, (take_pos x l).2]; rfl
theorem posA_spec {l : List Acc} (h : l.Pairwise ltA) (x : Acc) : (∀ y ∈ l.take (posA x l), ltA y x) ∧ ∀ y ∈ l.drop (posA x l), ¬ ltA y x := by
  rw [(take_pos x l).1, (take_pos x l).2]
  exact tw_pre h x
def applyA (l : List Acc) (c : Chg) : Option (List Acc) × Int :=
  if c.kind = 1 then (if c.acc ∈ l then (some (l.filter fun x => decide (x ≠ c.acc)), 0) else (none, 381))
  else if c.kind = 2 then (if ∃ y ∈ l, y.path = c.acc.path ∨ y.node = c.acc.node then (none, 382) else match splitP c.acc.path with
    | none => (none, 383)
    | some _ => (some (insA c.acc l), 0))
  else (none, 380)
theorem Right.apply {l m : List Acc} {c : Chg} {n : Int} (h : Right l) (ha : applyA l c = (some m, n)) : Right m := by
  unfold applyA at ha
  split at ha
  · split at ha
    · cases ha; exact h.sublist List.filter_sublist
    · cases ha
  · split at ha
    · split at ha
      · cases ha
      · rename_i hno
        split at ha
        · cases ha
        · rename_i l0 hs
          cases ha
          exact h.ins ⟨_, hs⟩ (fun y hy e => hno ⟨y, hy, .inl e⟩) (fun y hy e => hno ⟨y, hy, .inr e⟩)
    · cases ha
end Go.Proofs.YtcnoopjacilceaaGreatDoor
namespace Go.Proofs.YtcnoopjacilceaaGreatDoor
open Go.RowKit
open IntWalk renaming iteOmega → iO, toNatUp → tN
set_option linter.unusedVariables false
set_option linter.unusedSimpArgs false
structure Rec where
  path : ByteArray
  index : Int
  props : List Atr
  tags : List ByteArray
  owner : ByteArray
  group : ByteArray
  mode : Int
  deriving DecidableEq, Inhabited
def Rec.d (r : Rec) : List D := [.v (.string r.path), .v (.int .i64 r.index), .sl 2 (r.props.map Atr.d), .sl 1 (r.tags.map strD), .sl 1 [], .sl 1 [], .sl 1 [], .v (.string ⟨#[]⟩), .v (.int .i64 0), .v (.string r.owner), .v (.string r.group), .v (.int .i64 r.mode)]
attribute [push_cast] Rec.d
def Rec.e (r : Rec) : List E := [.v (.string r.path), .v (.int .i64 r.index), .sl 2 (r.props.map Atr.d), .sl 1 (r.tags.map strD), .sl 1 [], .sl 1 [], .sl 1 [], .v (.string ⟨#[]⟩), .v (.int .i64 0), .v (.string r.owner), .v (.string r.group), .v (.int .i64 r.mode)]
attribute [push_cast] Rec.e
structure Ses where
  id : Int
  user : ByteArray
  seat : ByteArray
  active : Bool
  deriving DecidableEq, Inhabited
def Ses.d (x : Ses) : List D := [.v (.int .i64 x.id), .v (.string x.user), .v (.string x.seat), .v (.bool x.active)]
attribute [push_cast] Ses.d
def getP (l : List Atr) (k : ByteArray) : ByteArray := match l.find? fun a => decide (a.name = k) with
  | some a => a.value
  | none => ⟨#[]⟩
def recF (rs : List Rec) (n : Int) (p : ByteArray) : Option Rec := rs.find? fun r => decide (r.index = n) && decide (r.path = p)
def recT (l : List Dev) (rs : List Rec) (n : Int) : Option Rec := if (findD l n).isSome then recF rs n (placeM l n) else none
def seatV (l : List Dev) (rs : List Rec) (n : Int) : ByteArray := getP ((recT l rs n).getD default).props ⟨#[73, 68, 95, 83, 69, 65, 84]⟩
def seatL (l : List Dev) (rs : List Rec) : List Dev → ByteArray
  | [] => ⟨#[115, 101, 97, 116, 48]⟩
  | d :: ds => if validS (seatV l rs d.index) then seatV l rs d.index else seatL l rs ds
def seatM (l : List Dev) (rs : List Rec) (n : Int) : ByteArray := if (findD l n).isSome then seatL l rs (chainM l n) else ⟨#[]⟩
def userM (s : List Ses) (seat : ByteArray) : ByteArray := match s.find? fun x => decide (x.seat = seat) && x.active with
  | some x => x.user
  | none => ⟨#[]⟩
def tagQ (l : List Dev) (rs : List Rec) (n : Int) (tag : ByteArray) : Bool := match recT l rs n with
  | some r => inM tag r.tags
  | none => false
def wantQ (l : List Dev) (rs : List Rec) (s : List Ses) (d : Dev) : Bool := (hasN d && tagQ l rs d.index ⟨#[117, 97, 99, 99, 101, 115, 115]⟩) && !decide (userM s (seatM l rs d.index) = ⟨#[]⟩)
def wantA (l : List Dev) (rs : List Rec) (s : List Ses) (d : Dev) : Acc := ⟨placeM l d.index, nodeM d, userM s (seatM l rs d.index)⟩
def wantM (l : List Dev) (rs : List Rec) (s : List Ses) : List Acc := (l.filter (wantQ l rs s)).map (wantA l rs s)
end Go.Proofs.YtcnoopjacilceaaGreatDoor
