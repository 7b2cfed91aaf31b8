/- The library's functions of texts, as pure contracts. -/
import Derived.Test.YtipgjpcbmnlbhaaDoorPLibB
import Derived.Test.YtipgjpcbmnlbhaaDoorShelfN
import Derived.Test.YtipgjpcbmnlbhaaDoorAccA
namespace Go.Proofs.YtipgjpcbmnlbhaaDoor
open Go.RowKit
set_option linter.unusedVariables false
set_option linter.unusedSimpArgs false
theorem rest_trim (s : ByteArray) : (⟨(Lib.trimPrefix s.data.toList [47]).toArray⟩ : ByteArray) = restS s := by
  unfold restS slashS Lib.trimPrefix
  split
  · have e := Lib.extract_to_end s 1
    generalize s.extract 1 s.size = t at e
    cases t
    simp only at e
    congr
    rw [show ([47] : List UInt8).length = 1 from rfl, ← e]
  · rfl
theorem cutp_pure (s : ByteArray) : PCalls Tryd.prog 38 [.c (.v (.string s)), .c (.v (.string ⟨#[47]⟩))] [] fun r os => r = .two (.c (.v (.string (restS s)))) (.c (.v (.bool (slashS s)))) ∧ os = [] :=
  pcalls_plain2 [.string s, .string ⟨#[47]⟩] _ _ rfl rfl fun w _ => (strings_CutPrefix s ⟨#[47]⟩ w).mono fun e w' ⟨he, hw⟩ => by
    rw [he, hw]
    refine ⟨?_, Below.refl _ _⟩
    show Ending.returned (.tuple #[.string ⟨(Lib.trimPrefix s.data.toList [47]).toArray⟩, .bool (Lib.hasPrefix s.data.toList [47])]) = _
    rw [rest_trim]; rfl
theorem lower_pure : PCalls Tryd.prog 65 [.c (.v (.string ⟨upperT.toArray⟩))] [] fun r os => r = .c (.v (.string ⟨lowerT.toArray⟩)) ∧ os = [] :=
  pcalls_plain [.string ⟨upperT.toArray⟩] _ rfl fun w _ => (strings_ToLower_ascii ⟨upperT.toArray⟩ w (by decide) (fun j b hb => by
    have : ∀ b ∈ upperT, b.toNat < 128 := by decide
    exact this b (List.mem_of_getElem? hb))).mono fun e w' ⟨he, hw⟩ => by
    rw [he]
    exact ⟨by congr, hw⟩
theorem idxb_pure (s : ByteArray) (c : Int) : PCalls Tryd.prog 68 [.c (.v (.string s)), .c (.v (.int .u8 c))] [] fun r os => r = .c (.v (.int .i64 (Lib.indexByte s.data.toList c.toNat.toUInt8))) ∧ os = [] :=
  pcalls_plain [.string s, .int .u8 c] _ rfl fun w _ => (strings_IndexByte s c w).mono fun e w' ⟨he, hw⟩ => by rw [he, hw]; exact ⟨rfl, Below.refl _ _⟩
theorem cmpB_eq (a b : ByteArray) : Lib.compareBytes a.data.toList b.data.toList = cmpS a b := by
  have h1 := compare_lt a.data.toList b.data.toList
  have h2 := compare_eq a.data.toList b.data.toList
  have h3 : ∀ x y : List UInt8, Lib.compareBytes x y = -1 ∨ Lib.compareBytes x y = 0 ∨ Lib.compareBytes x y = 1 := by
    intro x
    induction x with
    | nil => intro y; cases y <;> simp [Lib.compareBytes]
    | cons a x ih =>
      intro y
      cases y with
      | nil => simp [Lib.compareBytes]
      | cons b y => rw [Lib.compareBytes]; split; simp; split; simp; exact ih y
  have h4 := h3 a.data.toList b.data.toList
  have hb : Op.bytesLess a.data.toList b.data.toList = bless a b := by unfold bless; rw [Lib.toList_data, Lib.toList_data]
  rw [hb] at h1
  unfold cmpS
  by_cases e1 : bless a b = true
  · rw [if_pos e1]; have := h1.2 e1; omega
  · rw [if_neg e1]
    by_cases e2 : bless b a = true
    · rw [if_pos e2]
      have hn : ¬ Lib.compareBytes a.data.toList b.data.toList = 0 := fun h => by
        have he := h2.1 h
        have : a = b := by cases a; cases b; simp only at he; congr; exact Array.toList_inj.1 he
        exact bless_ne e2 this.symm
      have : ¬ Lib.compareBytes a.data.toList b.data.toList < 0 := fun h => e1 (h1.1 h)
      omega
    · rw [if_neg e2]
      have : a = b := bless_total (by simpa using e1) (by simpa using e2)
      rw [h2, this]
theorem scmp_pure (a b : ByteArray) : PCalls Tryd.prog 59 [.c (.v (.string a)), .c (.v (.string b))] [] fun r os => r = .c (.v (.int .i64 (cmpS a b))) ∧ os = [] :=
  pcalls_plain [.string a, .string b] _ rfl fun w _ => (strings_Compare a b w).mono fun e w' ⟨he, hw⟩ => by rw [he, hw, cmpB_eq]; exact ⟨rfl, Below.refl _ _⟩
theorem texts_rows (w : World) (I : Nat → Prop) : ∀ l : List ByteArray, All2 (RD w I) (l.map strD).flatten (l.map Value.string)
  | [] => trivial
  | a :: l => ⟨by rw [RD]; exact ⟨rfl, rfl⟩, texts_rows w I l⟩
theorem split_pure (s : ByteArray) (hs : s.size < 4294967281) : PCalls Tryd.prog 39 [.c (.v (.string s)), .c (.v (.string ⟨#[47]⟩))] [] fun r os => r = .c (.own 0 (parts s).length) ∧ os = [.arr 9 1 ((parts s).map strD)] := by
  have h := pcalls_row (P := Tryd.prog) (g := 39) [.string s, .string ⟨#[47]⟩] 9 ((parts s).map strD) ((parts s).map Value.string) 1 (by omega) (fun r hr => by obtain ⟨z, _, rfl⟩ := List.mem_map.1 hr; rfl) (by rw [List.length_map]; exact parts_ne s) (fun w I => texts_rows w I _)
    (fun w hp => by
      obtain ⟨m, hm⟩ := hp
      refine (strings_Split s ⟨#[47]⟩ m w hs hm (by decide)).mono fun e w' ⟨he, hw⟩ => ?_
      have hlen : Lib.countB s ⟨#[47]⟩ + 1 = (parts s).length := by rw [← splitB_parts, Lib.splitB_all _ (by decide) 0 _ s rfl]
      rw [splitB_parts] at hw
      rw [hlen] at he
      refine ⟨_, he, ?_, by rw [hw]; exact (Below.refl _ _).alloc (Nat.le_refl _) _⟩
      rw [hw, List.length_map]
      have := own_blk (base := w.heap.size) (n := (parts s).length) (cap := (parts s).length) (size := 1) (Blk.new w 9 ((parts s).map Value.string).toArray) (Nat.le_refl _) (by simp) (Nat.le_refl _) (by have := parts_size (s := s); unfold maxLen; omega)
      rwa [List.toList_toArray, List.take_of_length_le (by simp)] at this)
  simpa using h
end Go.Proofs.YtipgjpcbmnlbhaaDoor
