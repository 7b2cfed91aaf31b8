/- The library's functions of texts, as pure contracts (Compare, ReplaceAll, Split, ToLower, IndexByte, Contains, ContainsAny). -/
import Derived.Test.YtfojijoekpkheaaDoorPLibB
import Derived.Test.YtfojijoekpkheaaDoorPTape
import Derived.Test.YtfojijoekpkheaaDoorShelfD
import Derived.Test.YtfojijoekpkheaaDoorNamA
namespace Go.Proofs.YtfojijoekpkheaaDoor
open Go.RowKit
set_option linter.unusedVariables false
set_option linter.unusedSimpArgs false
theorem lower_pure : PCalls Tryd.prog 89 [.c (.v (.string ⟨upperT.toArray⟩))] [] fun r os => r = .c (.v (.string ⟨lowerT.toArray⟩)) ∧ os = [] :=
  pcalls_plain [.string ⟨upperT.toArray⟩] _ rfl fun w _ => (strings_ToLower_ascii ⟨upperT.toArray⟩ w (by decide) (fun j b hb => by
    have : ∀ b ∈ upperT, b.toNat < 128 := by decide
    exact this b (List.mem_of_getElem? hb))).mono fun e w' ⟨he, hw⟩ => by
    rw [he]
    exact ⟨by congr, hw⟩
theorem idxb_pure (s : ByteArray) (c : Int) : PCalls Tryd.prog 92 [.c (.v (.string s)), .c (.v (.int .u8 c))] [] fun r os => r = .c (.v (.int .i64 (Lib.indexByte s.data.toList c.toNat.toUInt8))) ∧ os = [] :=
  pcalls_plain [.string s, .int .u8 c] _ rfl fun w _ => (strings_IndexByte s c w).mono fun e w' ⟨he, hw⟩ => by rw [he, hw]; exact ⟨rfl, Below.refl _ _⟩
theorem cmpB_eq (a b : ByteArray) : Lib.compareBytes a.data.toList b.data.toList = cmpS a b := by
  have h1 := compare_lt a.data.toList b.data.toList
  have h2 := compare_eq a.data.toList b.data.toList
  have h3 : ∀ x y : List UInt8, Lib.compareBytes x y = -1 ∨ Lib.compareBytes x y = 0 ∨ Lib.compareBytes x y = 1 := by
    intro x
    induction x with
    | nil => intro y; cases y <;> simp [Lib.compareBytes]
    | cons a x ih =>
      intro y
      cases y with
      | nil => simp [Lib.compareBytes]
      | cons b y => rw [Lib.compareBytes]; split; simp; split; simp; exact ih y
  have h4 := h3 a.data.toList b.data.toList
  have hb : Op.bytesLess a.data.toList b.data.toList = bless a b := by unfold bless; rw [Lib.toList_data, Lib.toList_data]
  rw [hb] at h1
  unfold cmpS
  by_cases e1 : bless a b = true
  · rw [if_pos e1]; have := h1.2 e1; omega
  · rw [if_neg e1]
    by_cases e2 : bless b a = true
    · rw [if_pos e2]
      have hn : ¬ Lib.compareBytes a.data.toList b.data.toList = 0 := fun h => by
        have he := h2.1 h
        have : a = b := by cases a; cases b; simp only at he; congr; exact Array.toList_inj.1 he
        exact bless_ne e2 this.symm
      have : ¬ Lib.compareBytes a.data.toList b.data.toList < 0 := fun h => e1 (h1.1 h)
      omega
    · rw [if_neg e2]
      have : a = b := bless_total (by simpa using e1) (by simpa using e2)
      rw [h2, this]
theorem scmp_pure (a b : ByteArray) : PCalls Tryd.prog 30 [.c (.v (.string a)), .c (.v (.string b))] [] fun r os => r = .c (.v (.int .i64 (cmpS a b))) ∧ os = [] :=
  pcalls_plain [.string a, .string b] _ rfl fun w _ => (strings_Compare a b w).mono fun e w' ⟨he, hw⟩ => by rw [he, hw, cmpB_eq]; exact ⟨rfl, Below.refl _ _⟩
/-- a text's ! turned into / -/
def nodeS (s : ByteArray) : ByteArray := ⟨(Lib.replaceAll s.data.toList [33] [47]).toArray⟩
theorem repl_pure (s : ByteArray) (hs : s.size < 4294967281) : PCalls Tryd.prog 33 [.c (.v (.string s)), .c (.v (.string ⟨#[33]⟩)), .c (.v (.string ⟨#[47]⟩))] [] fun r os => r = .c (.v (.string (nodeS s))) ∧ os = [] :=
  pcalls_plain [.string s, .string ⟨#[33]⟩, .string ⟨#[47]⟩] _ rfl fun w hp => by
    obtain ⟨m, hm⟩ := hp
    refine (strings_ReplaceAll s ⟨#[33]⟩ ⟨#[47]⟩ m w hs hm (by decide) (by
      have h := Lib.countB_le ⟨#[33]⟩ (by decide) _ s (Nat.le_refl _)
      show _ + _ * 1 ≤ _
      omega)).mono fun e w' ⟨he, hw⟩ => ?_
    exact ⟨he, hw⟩
theorem lcontains_one (c : UInt8) : ∀ l : List UInt8, Lib.contains l [c] = l.contains c := by
  have key : ∀ l : List UInt8, Lib.index l [c] = Lib.indexByte l c := by
    intro l
    induction l with
    | nil => rfl
    | cons b l ih =>
      rw [Lib.index, Lib.indexByte, ih]
      by_cases h : b = c
      · subst h; simp
      · simp [h, Ne.symm h]
  intro l
  rw [Lib.contains, key, Lib.contains_iff_indexByte]
theorem contains_pure (s : ByteArray) (c : UInt8) (hs : s.size < 4294967281) : PCalls Tryd.prog 68 [.c (.v (.string s)), .c (.v (.string ⟨#[c]⟩))] [] fun r os => r = .c (.v (.bool (s.data.toList.contains c))) ∧ os = [] :=
  pcalls_plain [.string s, .string ⟨#[c]⟩] _ rfl fun w hp => by
    obtain ⟨m, hm⟩ := hp
    refine (strings_Contains s ⟨#[c]⟩ m w hs hm).mono fun e w' ⟨he, hw⟩ => ?_
    rw [he, hw]
    exact ⟨by rw [show (⟨#[c]⟩ : ByteArray).data.toList = [c] from rfl, lcontains_one], Below.refl _ _⟩
theorem lcontainsAny_two (c d : UInt8) : ∀ l : List UInt8, Lib.containsAny l [c, d] = (l.contains c || l.contains d)
  | [] => rfl
  | b :: l => by
    have ih := lcontainsAny_two c d l
    have hg := Lib.indexAny_ge [c, d] l
    unfold Lib.containsAny at ih ⊢
    rw [Lib.indexAny]
    by_cases h1 : c = b
    · subst h1; simp
    · by_cases h2 : d = b
      · subst h2; simp
      · rw [if_neg (by simp [Ne.symm h1, Ne.symm h2])]
        have e1 : (b :: l).contains c = l.contains c := by rw [List.contains_cons]; simp [h1]
        have e2 : (b :: l).contains d = l.contains d := by rw [List.contains_cons]; simp [h2]
        rw [e1, e2, ← ih]
        split
        · rename_i h3; simp at h3; rw [h3]
        · rename_i h3; simp at h3; exact decide_eq_decide.2 (by omega)
theorem containsAny_pure (s : ByteArray) (hs : s.size < 4294967281) (ha : ∀ (j : Nat) b, s.data.toList[j]? = some b → b.toNat < 128) : PCalls Tryd.prog 87 [.c (.v (.string s)), .c (.v (.string ⟨#[58, 33]⟩))] [] fun r os => r = .c (.v (.bool (s.data.toList.contains 58 || s.data.toList.contains 33))) ∧ os = [] :=
  pcalls_plain [.string s, .string ⟨#[58, 33]⟩] _ rfl fun w _ => by
    refine (strings_ContainsAny_laid s ⟨#[58, 33]⟩ w hs (by decide) ha (fun j b hb => by
      have : ∀ b ∈ ([58, 33] : List UInt8), b.toNat < 128 := by decide
      exact this b (List.mem_of_getElem? hb))).mono fun e w' ⟨he, hw⟩ => ?_
    rw [he]
    exact ⟨by rw [show (⟨#[58, 33]⟩ : ByteArray).data.toList = [58, 33] from rfl, lcontainsAny_two], hw⟩
theorem texts_rows (w : World) (I : Nat → Prop) : ∀ l : List ByteArray, All2 (RD w I) (l.map strD).flatten (l.map Value.string)
  | [] => trivial
  | a :: l => ⟨by rw [RD]; exact ⟨rfl, rfl⟩, texts_rows w I l⟩
theorem split_pure (s : ByteArray) (hs : s.size < 4294967281) : PCalls Tryd.prog 41 [.c (.v (.string s)), .c (.v (.string ⟨#[47]⟩))] [] fun r os => r = .c (.own 0 (parts s).length) ∧ os = [.arr 9 1 ((parts s).map strD)] := by
  have h := pcalls_row (P := Tryd.prog) (g := 41) [.string s, .string ⟨#[47]⟩] 9 ((parts s).map strD) ((parts s).map Value.string) 1 (by omega) (fun r hr => by obtain ⟨z, _, rfl⟩ := List.mem_map.1 hr; rfl) (by rw [List.length_map]; exact parts_ne s) (fun w I => texts_rows w I _)
    (fun w hp => by
      obtain ⟨m, hm⟩ := hp
      refine (strings_Split s ⟨#[47]⟩ m w hs hm (by decide)).mono fun e w' ⟨he, hw⟩ => ?_
      have hlen : Lib.countB s ⟨#[47]⟩ + 1 = (parts s).length := by rw [← splitB_parts, Lib.splitB_all _ (by decide) 0 _ s rfl]
      rw [splitB_parts] at hw
      rw [hlen] at he
      refine ⟨_, he, ?_, by rw [hw]; exact (Below.refl _ _).alloc (Nat.le_refl _) _⟩
      rw [hw, List.length_map]
      have := own_blk (base := w.heap.size) (n := (parts s).length) (cap := (parts s).length) (size := 1) (Blk.new w 9 ((parts s).map Value.string).toArray) (Nat.le_refl _) (by simp) (Nat.le_refl _) (by have := parts_size (s := s); unfold maxLen; omega)
      rwa [List.toList_toArray, List.take_of_length_le (by simp)] at this)
  simpa using h
end Go.Proofs.YtfojijoekpkheaaDoor
