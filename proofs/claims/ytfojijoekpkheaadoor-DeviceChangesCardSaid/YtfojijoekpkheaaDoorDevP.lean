/- The plain law of Set and Get on lists that ascend. No program in sight. -/
import Derived.Test.YtfojijoekpkheaaDoorPRef
namespace Go.Proofs.YtfojijoekpkheaaDoor
open Go.RowKit
set_option linter.unusedVariables false
set_option linter.unusedSimpArgs false
abbrev Up (a b : Atr) : Prop := bless a.name b.name = true
instance : DecidableRel Up := fun a b => inferInstanceAs (Decidable (bless a.name b.name = true))
def getM (l : List Atr) (n : ByteArray) : ByteArray × Bool :=
  match l.find? (fun a => decide (a.name = n)) with
  | some a => (a.value, true)
  | none => (⟨#[]⟩, false)
def pos (l : List Atr) (n : ByteArray) : Nat := (l.takeWhile fun y => bless y.name n).length
def hit (l : List Atr) (n : ByteArray) : Bool := match l[pos l n]? with
  | some y => decide (y.name = n)
  | none => false
def devSet (l : List Atr) (n v : ByteArray) : List Atr :=
  l.take (pos l n) ++ (if v = ⟨#[]⟩ then [] else [⟨n, v⟩]) ++ l.drop (if hit l n then pos l n + 1 else pos l n)
theorem pos_le (l : List Atr) (n : ByteArray) : pos l n ≤ l.length := by
  have := congrArg List.length (List.takeWhile_append_dropWhile (p := fun y : Atr => bless y.name n) (l := l))
  rw [List.length_append] at this
  unfold pos
  omega
theorem pos_up {l : List Atr} {n : ByteArray} : ∀ {i : Nat}, i ≤ l.length → (∀ y ∈ l.take i, bless y.name n = true) → (∀ y ∈ l.drop i, bless y.name n = false) → pos l n = i := by
  induction l with
  | nil => intro i h _ _; simp at h; subst h; rfl
  | cons a l ih =>
    intro i h h1 h2
    unfold pos
    cases i with
    | zero => rw [List.takeWhile_cons_of_neg (by simpa using h2 a (by simp))]; rfl
    | succ i =>
      rw [List.takeWhile_cons_of_pos (by simpa using h1 a (by simp)), List.length_cons]
      exact congrArg (· + 1) (ih (by simpa using h) (fun y hy => h1 y (by simp [hy])) (fun y hy => h2 y (by simpa using hy)))
theorem getM_nil (c : ByteArray) : getM [] c = (⟨#[]⟩, false) := rfl
theorem getM_cons (x : Atr) (t : List Atr) (c : ByteArray) : getM (x :: t) c = if x.name = c then (x.value, true) else getM t c := by
  by_cases h : x.name = c <;> simp [getM, List.find?_cons, h]
theorem getM_none {l : List Atr} {c : ByteArray} (h : ∀ y ∈ l, y.name ≠ c) : getM l c = (⟨#[]⟩, false) := by
  induction l with
  | nil => rfl
  | cons x t ih =>
    rw [getM_cons, if_neg (h x (by simp)), ih (fun y hy => h y (by simp [hy]))]
theorem getM_some {l : List Atr} {c : ByteArray} (h : (getM l c).2 = true) : ∃ y ∈ l, y.name = c ∧ (getM l c) = (y.value, true) := by
  induction l with
  | nil => cases h
  | cons x t ih =>
    rw [getM_cons] at h ⊢
    by_cases hx : x.name = c
    · rw [if_pos hx]
      exact ⟨x, by simp, hx, rfl⟩
    · rw [if_neg hx] at h ⊢
      obtain ⟨y, hy, h1, h2⟩ := ih h
      exact ⟨y, by simp [hy], h1, h2⟩
theorem getM_mem {l : List Atr} (hl : l.Pairwise Up) {y : Atr} (hy : y ∈ l) : getM l y.name = (y.value, true) := by
  induction l with
  | nil => simp at hy
  | cons x t ih =>
    rw [getM_cons]
    rw [List.pairwise_cons] at hl
    rcases List.mem_cons.1 hy with rfl | hy
    · simp
    · rw [if_neg (bless_ne (hl.1 y hy))]
      exact ih hl.2 hy
theorem up_ext : ∀ {l m : List Atr}, l.Pairwise Up → m.Pairwise Up → (∀ c, getM l c = getM m c) → l = m
  | [], [], _, _, _ => rfl
  | [], y :: m, _, _, h => by
    have := h y.name
    rw [getM_cons, if_pos rfl, getM_nil] at this
    simp at this
  | x :: l, [], _, _, h => by
    have := h x.name
    rw [getM_cons, if_pos rfl, getM_nil] at this
    simp at this
  | x :: l, y :: m, hl, hm, h => by
    have hxy : x.name = y.name := by
      have h1 := h x.name
      have h2 := h y.name
      rw [getM_cons, if_pos rfl] at h1
      rw [getM_cons y m y.name, if_pos rfl] at h2
      obtain ⟨a, ha, ha1, _⟩ := getM_some (l := y :: m) (c := x.name) (by rw [← h1])
      obtain ⟨b, hb, hb1, _⟩ := getM_some (l := x :: l) (c := y.name) (by rw [h2])
      rcases List.mem_cons.1 ha with rfl | ha
      · exact ha1.symm
      · rcases List.mem_cons.1 hb with rfl | hb
        · exact hb1
        · have e1 := (List.pairwise_cons.1 hm).1 a ha
          have e2 := (List.pairwise_cons.1 hl).1 b hb
          unfold Up at e1 e2
          rw [ha1] at e1
          rw [hb1] at e2
          rw [bless_asymm e1] at e2
          cases e2
    have hv : x.value = y.value := by
      have h1 := h x.name
      rw [getM_cons, if_pos rfl, getM_cons, if_pos hxy.symm] at h1
      exact congrArg Prod.fst h1
    have hx : x = y := by
      obtain ⟨a, b⟩ := x
      obtain ⟨c, d⟩ := y
      simp only at hxy hv
      rw [hxy, hv]
    subst hx
    rw [List.pairwise_cons] at hl hm
    rw [up_ext hl.2 hm.2 fun c => ?_]
    by_cases hc : x.name = c
    · subst hc
      rw [getM_none fun y hy => (bless_ne (hl.1 y hy)).symm, getM_none fun y hy => (bless_ne (hm.1 y hy)).symm]
    · have := h c
      rwa [getM_cons, if_neg hc, getM_cons, if_neg hc] at this

/-! ### Set, by recursion -/
def one (n v : ByteArray) : List Atr := if v = ⟨#[]⟩ then [] else [⟨n, v⟩]
def insM (n v : ByteArray) : List Atr → List Atr
  | [] => one n v
  | x :: t => if bless x.name n then x :: insM n v t else one n v ++ (if x.name = n then t else x :: t)
theorem devSet_eq (n v : ByteArray) : ∀ l : List Atr, devSet l n v = insM n v l
  | [] => by simp [devSet, pos, hit, insM, one]
  | x :: t => by
    have ih := devSet_eq n v t
    by_cases hb : bless x.name n = true
    · have hp : pos (x :: t) n = pos t n + 1 := by simp [pos, hb]
      have hh : hit (x :: t) n = hit t n := by simp only [hit, hp, List.getElem?_cons_succ]
      rw [insM, if_pos hb, ← ih]
      simp only [devSet, hp, hh, List.take_succ_cons, List.cons_append]
      congr 2
      split <;> simp
    · have hp : pos (x :: t) n = 0 := by simp [pos, hb]
      have hh : hit (x :: t) n = decide (x.name = n) := by simp [hit, hp]
      rw [insM, if_neg hb]
      simp only [devSet, hp, hh, one, List.take_zero, List.nil_append]
      congr 1
      by_cases hx : x.name = n <;> simp [hx]
theorem one_mem {n v : ByteArray} {y : Atr} (h : y ∈ one n v) : y = ⟨n, v⟩ := by
  unfold one at h
  split at h
  · simp at h
  · simpa using h
theorem insM_mem {n v : ByteArray} {y : Atr} : ∀ {l : List Atr}, y ∈ insM n v l → y = ⟨n, v⟩ ∨ y ∈ l
  | [], h => .inl (one_mem h)
  | x :: t, h => by
    rw [insM] at h
    split at h
    · rcases List.mem_cons.1 h with rfl | h
      · exact .inr (by simp)
      · rcases insM_mem h with h | h
        · exact .inl h
        · exact .inr (by simp [h])
    · rcases List.mem_append.1 h with h | h
      · exact .inl (one_mem h)
      · split at h
        · exact .inr (by simp [h])
        · exact .inr h
theorem one_pw (n v : ByteArray) : (one n v).Pairwise Up := by
  unfold one; split <;> simp
theorem insM_pw {n v : ByteArray} : ∀ {l : List Atr}, l.Pairwise Up → (insM n v l).Pairwise Up
  | [], _ => one_pw n v
  | x :: t, h => by
    have hc := List.pairwise_cons.1 h
    rw [insM]
    split
    · rename_i hb
      rw [List.pairwise_cons]
      refine ⟨fun y hy => ?_, insM_pw hc.2⟩
      rcases insM_mem hy with rfl | hy
      · exact hb
      · exact hc.1 y hy
    · rename_i hb
      rw [List.pairwise_append]
      refine ⟨one_pw n v, ?_, fun y hy z hz => ?_⟩
      · split
        · exact hc.2
        · exact h
      · rw [one_mem hy]
        show bless n z.name = true
        have hb' : bless x.name n = false := by simpa using hb
        by_cases hx : x.name = n
        · rw [if_pos hx] at hz
          rw [← hx]
          exact hc.1 z hz
        · rw [if_neg hx] at hz
          have hnx : bless n x.name = true := by
            rcases hq : bless n x.name with _ | _
            · exact absurd (bless_total hb' hq) hx
            · rfl
          rcases List.mem_cons.1 hz with rfl | hz
          · exact hnx
          · exact bless_trans hnx (hc.1 z hz)
theorem getM_one (n v c : ByteArray) (t : List Atr) : getM (one n v ++ t) c = if n = c ∧ v ≠ ⟨#[]⟩ then (v, true) else getM t c := by
  unfold one
  by_cases hv : v = ⟨#[]⟩
  · simp [hv]
  · rw [if_neg hv]
    show getM (⟨n, v⟩ :: t) c = _
    rw [getM_cons]
    simp [hv]
theorem insM_get {n v c : ByteArray} : ∀ {l : List Atr}, l.Pairwise Up → getM (insM n v l) c = if c = n then (v, decide (v ≠ ⟨#[]⟩)) else getM l c
  | [], _ => by
    have := getM_one n v c []
    rw [List.append_nil] at this
    rw [insM, this]
    by_cases hv : v = ⟨#[]⟩ <;> by_cases hc : c = n <;> simp [hv, hc, getM_nil, eq_comm]
    intro h; exact absurd h.symm hc
  | x :: t, h => by
    have hcs := List.pairwise_cons.1 h
    have ih := insM_get (n := n) (v := v) (c := c) hcs.2
    rw [insM]
    split
    · rename_i hb
      rw [getM_cons, getM_cons, ih]
      by_cases hx : x.name = c
      · have : c ≠ n := by rw [← hx]; exact bless_ne hb
        simp [hx, this]
      · simp [hx]
    · rename_i hb
      have hb' : bless x.name n = false := by simpa using hb
      rw [getM_one]
      by_cases hc : c = n
      · subst hc
        by_cases hv : v = ⟨#[]⟩
        · subst hv
          simp only [ne_eq, not_true_eq_false, and_false, if_false, if_true, decide_false]
          refine getM_none fun y hy => ?_
          by_cases hx : x.name = c
          · rw [if_pos hx] at hy
            have := hcs.1 y hy
            unfold Up at this
            rw [hx] at this
            exact (bless_ne this).symm
          · rw [if_neg hx] at hy
            rcases List.mem_cons.1 hy with rfl | hy
            · exact hx
            · intro hyc
              have h1 := hcs.1 y hy
              unfold Up at h1
              rw [hyc, hb'] at h1
              cases h1
        · simp [hv]
      · have hnc : ¬ (n = c ∧ v ≠ ⟨#[]⟩) := fun h => hc h.1.symm
        rw [if_neg hnc, if_neg hc, getM_cons]
        by_cases hx : x.name = n
        · rw [if_pos hx, if_neg (by rw [hx]; exact fun h => hc h.symm)]
        · rw [if_neg hx, getM_cons]

/-! ### the reference's Set is the same -/
theorem fold_done (n v : ByteArray) : ∀ (l o : List Atr), l.foldl (stepA n v) (o, true) = (o ++ l.filter (fun x => decide (x.name ≠ n)), true)
  | [], o => by simp
  | x :: t, o => by
    have hs : stepA n v (o, true) x = (if x.name = n then o else o ++ [x], true) := by by_cases hx : x.name = n <;> simp [stepA, hx]
    rw [List.foldl_cons, hs, fold_done n v t]
    by_cases hx : x.name = n <;> simp [hx]
theorem filter_all {n : ByteArray} {t : List Atr} (h : ∀ y ∈ t, y.name ≠ n) : t.filter (fun x => decide (x.name ≠ n)) = t := by
  rw [List.filter_eq_self]
  intro y hy
  simpa using h y hy
theorem fold_insM (n v : ByteArray) (hv : v ≠ ⟨#[]⟩) : ∀ (l o : List Atr), l.Pairwise Up → (if (l.foldl (stepA n v) (o, false)).2 then (l.foldl (stepA n v) (o, false)).1 else (l.foldl (stepA n v) (o, false)).1 ++ [⟨n, v⟩]) = o ++ insM n v l
  | [], o, _ => by simp [insM, one, hv]
  | x :: t, o, h => by
    have hcs := List.pairwise_cons.1 h
    rw [List.foldl_cons, insM]
    by_cases hb : bless x.name n = true
    · have hx := bless_ne hb
      have hs : stepA n v (o, false) x = (o ++ [x], false) := by simp [stepA, hb, hx]
      rw [hs, fold_insM n v hv t _ hcs.2, if_pos hb]
      simp
    · have hb' : bless x.name n = false := by simpa using hb
      have hs : stepA n v (o, false) x = (if x.name = n then o ++ [⟨n, v⟩] else o ++ [⟨n, v⟩] ++ [x], true) := by by_cases hx : x.name = n <;> simp [stepA, hb', hx, bless_irrefl]
      have hr : t.filter (fun x => decide (x.name ≠ n)) = t := filter_all fun y hy => by
        intro e
        have h1 := hcs.1 y hy
        unfold Up at h1
        rw [e, hb'] at h1
        cases h1
      rw [hs, fold_done, hr, if_neg hb]
      by_cases hx : x.name = n <;> simp [hx, one, hv]
theorem filter_insM (n : ByteArray) : ∀ l : List Atr, l.Pairwise Up → l.filter (fun x => decide (x.name ≠ n)) = insM n ⟨#[]⟩ l
  | [], _ => by simp [insM, one]
  | x :: t, h => by
    have hcs := List.pairwise_cons.1 h
    rw [insM]
    by_cases hb : bless x.name n = true
    · rw [if_pos hb, ← filter_insM n t hcs.2]
      simp [bless_ne hb]
    · have hb' : bless x.name n = false := by simpa using hb
      have hr : t.filter (fun x => decide (x.name ≠ n)) = t := filter_all fun y hy => by
        intro e
        have h1 := hcs.1 y hy
        unfold Up at h1
        rw [e, hb'] at h1
        cases h1
      rw [if_neg hb, List.filter_cons, hr]
      by_cases hx : x.name = n <;> simp [hx, one]
theorem refA_eq {l : List Atr} (h : l.Pairwise Up) (n v : ByteArray) : refA l n v = insM n v l := by
  unfold refA toA
  by_cases hv : v = ⟨#[]⟩
  · subst hv
    simp only [decide_true]
    rw [fold_done]
    simp only [if_true, List.nil_append]
    exact filter_insM n l h
  · simp only [decide_eq_false hv]
    have := fold_insM n v hv l [] h
    simpa using this
theorem insM_len (n v : ByteArray) : ∀ l : List Atr, (insM n v l).length ≤ l.length + 1
  | [] => by unfold insM one; split <;> simp
  | x :: t => by
    have ih := insM_len n v t
    have h1 : (one n v).length ≤ 1 := by unfold one; split <;> simp
    rw [insM]
    split
    · simp; omega
    · split <;> simp <;> omega
theorem insM_comm {l : List Atr} (h : l.Pairwise Up) {a b : ByteArray} (x y : ByteArray) (hab : a ≠ b) : insM b y (insM a x l) = insM a x (insM b y l) := by
  refine up_ext (insM_pw (insM_pw h)) (insM_pw (insM_pw h)) fun c => ?_
  rw [insM_get (insM_pw h), insM_get h, insM_get (insM_pw h), insM_get h]
  by_cases h1 : c = a <;> by_cases h2 : c = b <;> simp_all
theorem insM_idem {l : List Atr} (h : l.Pairwise Up) (a x : ByteArray) : insM a x (insM a x l) = insM a x l := by
  refine up_ext (insM_pw (insM_pw h)) (insM_pw h) fun c => ?_
  rw [insM_get (insM_pw h), insM_get h]
  by_cases h1 : c = a <;> simp [h1]
end Go.Proofs.YtfojijoekpkheaaDoor
