/- What the program computes, and the plain laws of it, part 24. -/
import Derived.Lib.IndexAny
import Derived.Lib.Join
import Derived.Test.YtcnoopjacilceaaGreatDoorQ21
import Derived.Test.YtcnoopjacilceaaGreatDoorQ22
import Derived.Test.YtcnoopjacilceaaGreatDoorQ23
namespace Go.Proofs.YtcnoopjacilceaaGreatDoor
open Go.RowKit
open IntWalk renaming iteOmega → iO, toNatUp → tN
set_option linter.unusedVariables false
set_option linter.unusedSimpArgs false
theorem lower_pure : PCalls Tryz.prog 112 [.c (.v (.string ⟨upperT.toArray⟩))] [] fun r os => r = .c (.v (.string ⟨lowerT.toArray⟩)) ∧ os = [] :=
  pcalls_plain [.string ⟨upperT.toArray⟩] _ rfl fun w _ => (strings_ToLower_ascii ⟨upperT.toArray⟩ w (by decide) (fun j b hb => by
    have : ∀ b ∈ upperT, b.toNat < 128 := by decide
    exact this b (List.mem_of_getElem? hb))).mono fun e w' ⟨he, hw⟩ => by
    rw [he]
    exact ⟨by congr, hw⟩
theorem idxb_pure (s : ByteArray) (c : Int) : PCalls Tryz.prog 127 [.c (.v (.string s)), .c (.v (.int .u8 c))] [] fun r os => r = .c (.v (.int .i64 (Lib.indexByte s.data.toList c.toNat.toUInt8))) ∧ os = [] :=
  pcalls_plain [.string s, .int .u8 c] _ rfl fun w _ => (strings_IndexByte s c w).mono fun e w' ⟨he, hw⟩ => by rw [he, hw]; exact ⟨rfl, Below.refl _ _⟩
theorem cmpB_eq (a b : ByteArray) : Lib.compareBytes a.data.toList b.data.toList = cmpS a b := by
  have h1 := compare_lt a.data.toList b.data.toList
  have h2 := compare_eq a.data.toList b.data.toList
  have h3 : ∀ x y : List UInt8, Lib.compareBytes x y = -1 ∨ Lib.compareBytes x y = 0 ∨ Lib.compareBytes x y = 1 := by
    intro x
    induction x with
    | nil => intro y; cases y <;> simp [Lib.compareBytes]
    | cons a x ih =>
      intro y
      cases y with
      | nil => simp [Lib.compareBytes]
      | cons b y => rw [Lib.compareBytes]; split; simp; split; simp; exact ih y
  have h4 := h3 a.data.toList b.data.toList
  have hb : Op.bytesLess a.data.toList b.data.toList = bless a b := by unfold bless; rw [Lib.toList_data, Lib.toList_data]
  rw [hb] at h1
  unfold cmpS
  by_cases e1 : bless a b = true
  · rw [if_pos e1]; have := h1.2 e1; omega
  · rw [if_neg e1]
    by_cases e2 : bless b a = true
    · rw [if_pos e2]
      have hn : ¬ Lib.compareBytes a.data.toList b.data.toList = 0 := fun h => by
        have he := h2.1 h
        have : a = b := by cases a; cases b; simp only at he; congr; exact Array.toList_inj.1 he
        exact bless_ne e2 this.symm
      have : ¬ Lib.compareBytes a.data.toList b.data.toList < 0 := fun h => e1 (h1.1 h)
      omega
    · rw [if_neg e2]
      have : a = b := bless_total (by simpa using e1) (by simpa using e2)
      rw [h2, this]
theorem scmp_pure (a b : ByteArray) : PCalls Tryz.prog 114 [.c (.v (.string a)), .c (.v (.string b))] [] fun r os => r = .c (.v (.int .i64 (cmpS a b))) ∧ os = [] :=
  pcalls_plain [.string a, .string b] _ rfl fun w _ => (strings_Compare a b w).mono fun e w' ⟨he, hw⟩ => by rw [he, hw, cmpB_eq]; exact ⟨rfl, Below.refl _ _⟩
theorem repl_pure (s : ByteArray) (hs : s.size < 4294967281) : PCalls Tryz.prog 60 [.c (.v (.string s)), .c (.v (.string ⟨#[33]⟩)), .c (.v (.string ⟨#[47]⟩))] [] fun r os => r = .c (.v (.string (nodeS s))) ∧ os = [] :=
  pcalls_plain [.string s, .string ⟨#[33]⟩, .string ⟨#[47]⟩] _ rfl fun w hp => by
    obtain ⟨m, hm⟩ := hp
    refine (strings_ReplaceAll s ⟨#[33]⟩ ⟨#[47]⟩ m w hs hm (by decide) (by
      have h := Lib.countB_le ⟨#[33]⟩ (by decide) _ s (Nat.le_refl _)
      show _ + _ * 1 ≤ _
      omega)).mono fun e w' ⟨he, hw⟩ => ?_
    exact ⟨he, hw⟩
theorem lcontains_one (c : UInt8) : ∀ l : List UInt8, Lib.contains l [c] = l.contains c := by
  have key : ∀ l : List UInt8, Lib.index l [c] = Lib.indexByte l c := by
    intro l
    induction l with
    | nil => rfl
    | cons b l ih =>
      rw [Lib.index, Lib.indexByte, ih]
      by_cases h : b = c
      · subst h; simp
      · simp [h, Ne.symm h]
  intro l
  rw [Lib.contains, key, Lib.contains_iff_indexByte]
theorem contains_pure (s : ByteArray) (c : UInt8) (hs : s.size < 4294967281) : PCalls Tryz.prog 139 [.c (.v (.string s)), .c (.v (.string ⟨#[c]⟩))] [] fun r os => r = .c (.v (.bool (s.data.toList.contains c))) ∧ os = [] :=
  pcalls_plain [.string s, .string ⟨#[c]⟩] _ rfl fun w hp => by
    obtain ⟨m, hm⟩ := hp
    refine (strings_Contains s ⟨#[c]⟩ m w hs hm).mono fun e w' ⟨he, hw⟩ => ?_
    rw [he, hw]
    exact ⟨by rw [show (⟨#[c]⟩ : ByteArray).data.toList = [c] from rfl, lcontains_one], Below.refl _ _⟩
theorem texts_rows (w : World) (I : Nat → Prop) : ∀ l : List ByteArray, All2 (RD w I) (l.map strD).flatten (l.map Value.string)
  | [] => trivial
  | a :: l => ⟨by rw [RD]; exact ⟨rfl, rfl⟩, texts_rows w I l⟩
theorem split_pure (s : ByteArray) (hs : s.size < 4294967281) : PCalls Tryz.prog 88 [.c (.v (.string s)), .c (.v (.string ⟨#[47]⟩))] [] fun r os => r = .c (.own 0 (parts s).length) ∧ os = [.arr 9 1 ((parts s).map strD)] := by
  have h := pcalls_row (P := Tryz.prog) (g := 88) [.string s, .string ⟨#[47]⟩] 9 ((parts s).map strD) ((parts s).map Value.string) 1 (by omega) (fun r hr => by obtain ⟨z, _, rfl⟩ := List.mem_map.1 hr; rfl) (by rw [List.length_map]; exact parts_ne s) (fun w I => texts_rows w I _)
    (fun w hp => by
      obtain ⟨m, hm⟩ := hp
      refine (strings_Split s ⟨#[47]⟩ m w hs hm (by decide)).mono fun e w' ⟨he, hw⟩ => ?_
      have hlen : Lib.countB s ⟨#[47]⟩ + 1 = (parts s).length := by rw [← splitB_parts, Lib.splitB_all _ (by decide) 0 _ s rfl]
      rw [splitB_parts] at hw
      rw [hlen] at he
      refine ⟨_, he, ?_, by rw [hw]; exact (Below.refl _ _).alloc (Nat.le_refl _) _⟩
      rw [hw, List.length_map]
      have := own_blk (base := w.heap.size) (n := (parts s).length) (cap := (parts s).length) (size := 1) (Blk.new w 9 ((parts s).map Value.string).toArray) (Nat.le_refl _) (by simp) (Nat.le_refl _) (by have := parts_size (s := s); unfold maxLen; omega)
      rwa [List.toList_toArray, List.take_of_length_le (by simp)] at this)
  simpa using h
end Go.Proofs.YtcnoopjacilceaaGreatDoor
namespace Go.Proofs.YtcnoopjacilceaaGreatDoor
open Go.RowKit
open IntWalk renaming iteOmega → iO, toNatUp → tN
set_option linter.unusedVariables false
set_option linter.unusedSimpArgs false
def allSome : List (Option PV) → List PV → Prop
  | [], [] => True
  | some q :: l, r :: m => leP q r ∧ allSome l m
  | _, _ => False
theorem allSome_ok {w : World} {Γ : G} : ∀ {l : List (Option PV)} {m : List PV} {ys : List Value}, allSome l m → All2 (fun q y => ∀ r, q = some r → RP w Γ r y) l ys → All2 (RP w Γ) m ys
  | [], [], _, _, h => by rw [All2.nil_l] at h ⊢; exact h
  | some q :: l, r :: m, y :: ys, h, hr => ⟨leP_ok h.1 (hr.1 q rfl), allSome_ok h.2 hr.2⟩
  | some _ :: _, _ :: _, [], _, hr => hr.elim
  | [], _ :: _, _, h, _ => h.elim
  | none :: _, _, _, h, _ => h.elim
  | some _ :: _, [], _, h, _ => h.elim
section
variable {P : Program} {N p : Nat} {ops : Array Oper} {rest : List Oper} {o : Oper} {s : S} {K : S → Prop}
theorem pl_call_all {f : Operand} {args : Array Operand} {tys : Array TypeId} {g : FuncId} {ds : List D} {cap : List Nat} {args' : List PV} {R : PV → List Ob → Prop}
    (ho : o.op = .call ⟨.value f, args, tys⟩) (hg : gd ops s o.guard = some true) (hf : s.ev f = some (.c (.fn (.func g) ds cap))) (hb : bodyOk P g = true) (hd : dstOk N o.dst)
    (ha : allSome (callArgs s ds args.toList cap) args') (hc : PCalls P g args' s.o R)
    (hK : ∀ r os'', R r os'' → PL P N p ops rest (S.put ⟨s.t, os''⟩ o.dst r) K) : PL P N p ops (o :: rest) s K := by
  intro Γ a w Q hA hQ
  obtain ⟨xs, ys, hfv, hargs⟩ := callArgs_ok hA.inv hf args
  have hseen := allSome_ok ha hargs
  unfold wpListIn
  rw [if_pos (gd_ok hg hA.inv)]
  refine wpIn_enter (run_enter ho hfv hb) ?_
  have := hc _ w _ hA.inv.m hseen
  rw [Array.toArray_toList] at this
  refine this.mono ?_
  rintro e w' ⟨r, os'', Γ', y, rfl, hR, hr, hlen, hm', hgr⟩
  have hle : p ≤ s.o.length := by rw [← hA.inv.m.n]; exact hA.le
  have hag : ∀ j, j < Γ.n → Agree Γ Γ' j := fun j hj => by
    have hj' : j < s.o.length := by rw [← hA.inv.m.n]; exact hj
    exact ⟨by rw [hm'.n]; omega, (hgr.keep j hj').1, (hgr.keep j hj').2⟩
  have hI := hA.inv.heap hm' (hgr.stay hA.inv.m) hag
  refine ⟨y, rfl, hK r os'' hR Γ' _ w' Q ⟨hI.put (dst_lt hd) hr, by rw [hm'.n]; omega⟩ fun s' Γ2 a2 w2 hk hA2 hg2 hd2 => hQ s' Γ2 a2 w2 hk hA2 ?_ (hd2.trans (put_defers _ _ _))⟩
  have hgp : Grow p Γ w Γ' w' := ⟨hgr.ext, hgr.sub, hgr.new, hgr.imm, fun k hk => hgr.keep k (by omega)⟩
  exact hgp.trans hg2
theorem weak_slots {s' : S} (ht : subT s s'.t) (ho : s'.o = s.o) : Weak N p s s' := by
  intro Γ a w hA
  refine ⟨Γ, ⟨⟨hA.inv.size, hA.inv.defers, fun i q hq => ?_, by rw [ho]; exact hA.inv.m⟩, hA.le⟩, Grow.refl _ _ _⟩
  obtain ⟨r, hr, hle⟩ := subT_look ht hq
  obtain ⟨i1, i2⟩ := hA.inv.t i r hr
  exact ⟨i1, leP_ok hle i2⟩
end
theorem weak_seg {N p : Nat} {s : S} (i : Nat) {k n : Nat} (sz : Nat) (hi : s.get i = some (.c (.own k n))) : Weak N p s ⟨(i, .c (.seg k sz 0 n)) :: s.t, s.o⟩ := by
  intro Γ a w hA
  refine ⟨Γ, ⟨⟨hA.inv.size, hA.inv.defers, fun j q hq => ?_, hA.inv.m⟩, hA.le⟩, Grow.refl _ _ _⟩
  simp only [S.get, look] at hq
  split at hq
  · rename_i e
    subst e
    cases hq
    obtain ⟨h1, h2, h3⟩ := hA.inv.t j _ hi
    refine ⟨h1, h2, ?_⟩
    rcases h3 with ⟨_, ⟨A, h4⟩, rfl⟩ | ⟨h4, h5, h6⟩
    · exact ⟨A, 0, h4, Nat.le_refl _, fun h => absurd h (by omega)⟩
    · exact ⟨_, _, h5, h6, fun _ => ⟨h4, by omega, by simp⟩⟩
  · exact hA.inv.t j q hq
def RetA (P : Program) (rs : List ResultVar) (p : Nat) (R : PV → List Ob → Prop) (s : S) : Prop := ∃ r, resP P s rs = some r ∧ p ≤ s.o.length ∧ R r s.o
def RetQA (P : Program) (rs : List ResultVar) (p : Nat) (R : PV → List Ob → Prop) : Exit → S → Prop
  | .normal, s => RetA P rs p R s
  | .ret, s => RetA P rs p R s
  | _, _ => False
theorem RetQA_normal (P : Program) (rs : List ResultVar) (p : Nat) (R : PV → List Ob → Prop) (s : S) : RetQA P rs p R .normal s = RetA P rs p R s := rfl
theorem RetQA_ret (P : Program) (rs : List ResultVar) (p : Nat) (R : PV → List Ob → Prop) (s : S) : RetQA P rs p R .ret s = RetA P rs p R s := rfl
attribute [push_cast] RetQA_normal RetQA_ret allSome
theorem pcalls_of_all {P : Program} {g : FuncId} {fn : Func} {c : Code} {args : List PV} {os : List Ob} {R : PV → List Ob → Prop} (hf : P.funcs[g]? = some fn) (hb : fn.body = some c) (hn : args.length ≤ fn.ntmps)
    (h : PWP P fn.ntmps os.length c (RetQA P fn.results.toList os.length R) ⟨parT 0 args, os⟩) : PCalls P g args os R := by
  refine calls_pwp (T := RetA P fn.results.toList os.length R) hf hb hn (fun e s hq => ?_) (fun s' Γ Γ' a' w w' ht hI hg => ?_) h
  · cases e with
    | normal => exact ⟨.inl rfl, hq⟩
    | ret => exact ⟨.inr rfl, hq⟩
    | exit j => exact hq.elim
    | goto l => exact hq.elim
    | panic ch => exact hq.elim
    | outgrown => exact hq.elim
  · obtain ⟨r, h1, h2, h3⟩ := ht
    obtain ⟨y, h8, h9⟩ := resP_ok hI h1
    exact ⟨y, h8, r, s'.o, Γ', h3, h9, h2, hI.m, hg⟩
end Go.Proofs.YtcnoopjacilceaaGreatDoor
namespace Go.Proofs.YtcnoopjacilceaaGreatDoor
attribute [local irreducible] PL QL PWPr PCalls Weak RetK Kontr PA
open Go.RowKit
open IntWalk renaming iteOmega → iO, toNatUp → tN
set_option linter.unusedVariables false
set_option linter.unusedSimpArgs false
set_option maxRecDepth 20000
def idxI : List Dev → Int → Int
  | [], _ => -1
  | d :: l, n => if d.index = n then 0 else if idxI l n < 0 then -1 else idxI l n + 1
theorem idxI_find (n : Int) : ∀ l : List Dev, (idxI l n = -1 ∧ findD l n = none) ∨ ∃ i : Nat, idxI l n = i ∧ i < l.length ∧ findD l n = some (l.getD i default)
  | [] => .inl ⟨rfl, rfl⟩
  | d :: l => by
    by_cases h : d.index = n
    · exact .inr ⟨0, by simp [idxI, h], by simp, by simp [findD, h]⟩
    · have hf : findD (d :: l) n = findD l n := by unfold findD; rw [List.find?_cons_of_neg (by simpa using h)]
      rw [hf, idxI, if_neg h]
      rcases idxI_find n l with ⟨h1, h2⟩ | ⟨i, h1, h2, h3⟩
      · exact .inl ⟨by rw [h1]; rfl, h2⟩
      · exact .inr ⟨i + 1, by rw [h1, if_neg (by omega)]; omega, by simp only [List.length_cons]; omega, by rw [h3]; rfl⟩
theorem idxI_skip {n : Int} {b : List Dev} : ∀ {a : List Dev}, (∀ d ∈ a, d.index ≠ n) → idxI (a ++ b) n = if idxI b n < 0 then -1 else a.length + idxI b n
  | [], _ => by
    rcases idxI_find n b with ⟨h1, _⟩ | ⟨i, h1, _⟩
    · simp [h1]
    · rw [List.nil_append, h1, if_neg (by omega)]; simp
  | x :: a, h => by
    rw [List.cons_append, idxI, if_neg (h x (by simp)), idxI_skip fun d hd => h d (by simp [hd])]
    split
    · simp
    · rw [if_neg (by omega), List.length_cons]; omega
theorem idxI_at {l : List Dev} {n : Int} {k : Nat} (hk : k < l.length) (h0 : ∀ d ∈ l.take k, d.index ≠ n) (h : (l.getD k default).index = n) : idxI l n = k := by
  have e : l = l.take k ++ l[k] :: l.drop (k + 1) := by rw [← List.drop_eq_getElem_cons hk, List.take_append_drop]
  rw [getD_lt l hk] at h
  rw [e, idxI_skip h0, idxI, if_pos h, List.length_take]
  simp
  omega
theorem idxI_none {l : List Dev} {n : Int} (h : ∀ d ∈ l, d.index ≠ n) : idxI l n = -1 := by
  rcases idxI_find n l with ⟨h1, _⟩ | ⟨i, _, h2, h3⟩
  · exact h1
  · rw [findD_none.2 h] at h3; cases h3
theorem dnext {l : List Dev} {n : Int} {k : Nat} (hk : k < l.length) (h0 : ∀ d ∈ l.take k, d.index ≠ n) (h : ¬ (l.getD k default).index = n) : ∀ d ∈ l.take (k + 1), d.index ≠ n := by
  intro y hy
  rw [List.take_succ_eq_append_getElem hk, List.mem_append, List.mem_singleton] at hy
  rcases hy with hy | hy
  · exact h0 y hy
  · rw [hy, ← getD_lt l hk]; exact h
set_option maxHeartbeats 1000000 in
theorem rindex_pure (l : List Dev) (n : Int) (hl : l.length ≤ 1000000000) :
    PCalls Tryz.prog 93 [.c (.sl 10 (l.map Dev.d)), .c (.v (.int .i64 n))] [] fun r os => r = .c (.v (.int .i64 (idxI l n))) ∧ os = [] := by
  refine pcalls_of Tryz.func93 rfl (by simp [Tryz.ntmps93]) ?_
  rw [Tryz.ntmps93, Tryz.results93]
  push_cast [iO, tN]
  have cB : CutB 6 [] := trivial
  repeat' (first | ((first | refine pC ?_ | refine pQC ?_ | refine pU ?_); push_cast [iO, tN]) | (refine pif (fun h => ?_) (fun h => ?_) <;> first | exact pN h | push_cast [iO, tN]))
  (apply pwp_loop3 (α := Nat) 6 [] (fun k => [(5, .c (.v (.int .i64 k)))]) (fun k => []) (fun k => k ≤ l.length ∧ ∀ d ∈ l.take k, d.index ≠ n) (fun k => l.length - k) (0); (focus ((try push_cast [iO, tN]); rfl)); (focus exact ⟨by omega, by simp⟩); (focus ((refine weak_fg ?_; try push_cast [iO, tN]))))
  rintro k ⟨hk, h0⟩
  push_cast [iO, tN]
  by_cases hlt : k < l.length
  · by_cases hn : (l.getD k default).index = n
    · have hg := idxI_at hlt h0 hn
      have hn' := eq_true hn
      repeat' (first | ((first | refine pC ?_ | refine pQC ?_ | refine pU ?_); push_cast [iO, tN, hn']) | (refine pif (fun h => ?_) (fun h => ?_) <;> first | exact pN h | push_cast [iO, tN, hn']))
      (refine retK_of [] ?_; push_cast [iO, tN])
      all_goals rw [hg]
    · have h1 := dnext hlt h0 hn
      repeat' (first | ((first | refine pC ?_ | refine pQC ?_ | refine pU ?_); push_cast [iO, tN, hn]) | (refine pif (fun h => ?_) (fun h => ?_) <;> first | exact pN h | push_cast [iO, tN, hn]))
      exact ⟨k + 1, ⟨by omega, h1⟩, by (refine weak_fg ?_; push_cast [iO, tN]), by omega⟩
  · rw [List.take_of_length_le (by omega)] at h0
    have hg := idxI_none h0
    repeat' (first | ((first | refine pC ?_ | refine pQC ?_ | refine pU ?_); push_cast [iO, tN]) | (refine pif (fun h => ?_) (fun h => ?_) <;> first | exact pN h | push_cast [iO, tN]))
    (refine retK_of [] ?_; push_cast [iO, tN])
    all_goals rw [hg]
set_option maxHeartbeats 1000000 in
theorem rfind_pure (l : List Dev) (n : Int) (hl : l.length ≤ 1000000000) :
    PCalls Tryz.prog 62 [.agg (trE l), .c (.v (.int .i64 n))] [] fun r os => r = .two (.agg ((findD l n).getD default).e) (.c (.v (.bool ((findD l n).isSome)))) ∧ os = [] := by
  have hi := rindex_pure l n hl
  refine pcalls_of Tryz.func62 rfl (by simp [Tryz.ntmps62]) ?_
  rw [Tryz.ntmps62, Tryz.results62]
  rcases idxI_find n l with ⟨h1, h2⟩ | ⟨i, h1, h2, h3⟩
  · rw [h1] at hi
    rw [h2]
    push_cast [iO, tN]
    repeat' (first |  (refine plc [] (hi) ?_ ?_; push_cast [iO, tN]; rintro r os ⟨rfl, rfl⟩; push_cast [iO, tN])  | ((first | refine pG ?_ | refine pQ ?_ | refine pU ?_); push_cast [iO, tN]) | (refine pif (fun h => ?_) (fun h => ?_) <;> first | exact pN h | push_cast [iO, tN]))
    (refine retK_of [] ?_; push_cast [iO, tN])
    all_goals exact ⟨⟨rfl, rfl, rfl, rfl, rfl, rfl, rfl, rfl, rfl, rfl⟩, rfl⟩
  · rw [h1] at hi
    rw [h3]
    push_cast [iO, tN]
    repeat' (first |  (refine plc [] (hi) ?_ ?_; push_cast [iO, tN]; rintro r os ⟨rfl, rfl⟩; push_cast [iO, tN])  | ((first | refine pG ?_ | refine pQ ?_ | refine pU ?_); push_cast [iO, tN]) | (refine pif (fun h => ?_) (fun h => ?_) <;> first | exact pN h | push_cast [iO, tN]))
    (refine retK_of [] ?_; push_cast [iO, tN])
    all_goals exact ⟨⟨rfl, rfl, rfl, rfl, rfl, rfl, rfl, rfl, rfl, rfl⟩, rfl⟩
end Go.Proofs.YtcnoopjacilceaaGreatDoor
namespace Go.Proofs.YtcnoopjacilceaaGreatDoor
attribute [local irreducible] PL QL PWPr PCalls Weak RetK Kontr PA
open Go.RowKit
open IntWalk renaming iteOmega → iO, toNatUp → tN
set_option linter.unusedVariables false
set_option linter.unusedSimpArgs false
set_option maxRecDepth 20000
set_option maxHeartbeats 1000000 in
theorem rchain_pure (l : List Dev) (n : Int) (hl : l.length ≤ 1000000) :
    PCalls Tryz.prog 63 [.agg (trE l), .c (.v (.int .i64 n))] [] fun r os => r = .c (.sl 10 ((chainM l n).map Dev.d)) ∧ os = [] := by
  refine pcalls_of Tryz.func63 rfl (by simp [Tryz.ntmps63]) ?_
  rw [Tryz.ntmps63, Tryz.results63]
  push_cast [iO, tN]
  have cB : CutB 8 [] := trivial
  repeat' (first | ((first | refine pC ?_ | refine pQC ?_ | refine pU ?_); push_cast [iO, tN]) | (refine pif (fun h => ?_) (fun h => ?_) <;> first | exact pN h | push_cast [iO, tN]))
  refine pwp_weak (weak_adopt 5 39 10 (by omega) (by push_cast [iO, tN])) ?_
  push_cast [iO, tN]
  (apply pwp_loop3 (α := List Dev × Int) 8 [] (fun x => [(1, .c (.v (.int .i64 x.2))), (5, .c (.own 1 (x.1.length)))]) (fun x => [(1, .arr 39 10 (x.1.map Dev.d))]) (fun x => x.1 ++ chainGo l (l.length - x.1.length) x.2 = chainM l n ∧ x.1.length ≤ l.length) (fun x => l.length - x.1.length) (([], n)); (focus ((try push_cast [iO, tN]); rfl)); (focus exact ⟨by simp [chainM], by simp⟩); (focus ((refine weak_fg ?_; try push_cast [iO, tN]))))
  rintro ⟨acc, m⟩ ⟨h1, h2⟩
  simp only at h1 h2
  push_cast [iO, tN]
  by_cases hlt : acc.length < l.length
  · have hf := rfind_pure l m (by omega)
    obtain ⟨k, hk⟩ : ∃ k, l.length - acc.length = k + 1 := ⟨l.length - acc.length - 1, by omega⟩
    rw [hk] at h1
    cases hx : findD l m with
    | none =>
      simp only [hx, Option.getD_none, Option.isSome_none] at hf
      rw [chainGo, hx] at h1
      simp only [List.append_nil] at h1
      repeat' (first |  (refine plc [] (hf) ?_ ?_; push_cast [iO, tN]; rintro r os ⟨rfl, rfl⟩; push_cast [iO, tN])  | ((first | refine pC ?_ | refine pQC ?_ | refine pU ?_); push_cast [iO, tN]) | (refine pif (fun h => ?_) (fun h => ?_) <;> first | exact pN h | push_cast [iO, tN]))
      (refine retK_of [] ?_; push_cast [iO, tN])
      all_goals rw [h1]
    | some d =>
      simp only [hx, Option.getD_some, Option.isSome_some] at hf
      rw [chainGo_some hx] at h1
      repeat' (first |  (refine plc [] (hf) ?_ ?_; push_cast [iO, tN]; rintro r os ⟨rfl, rfl⟩; push_cast [iO, tN])  | ((first | refine pC ?_ | refine pQC ?_ | refine pU ?_); push_cast [iO, tN]) | (refine pif (fun h => ?_) (fun h => ?_) <;> first | exact pN h | push_cast [iO, tN]))
      refine ⟨(acc ++ [d], d.parent), ⟨?_, by simp only [List.length_append, List.length_cons, List.length_nil]; omega⟩, by (refine weak_fg ?_; push_cast [iO, tN]), by simp only [List.length_append, List.length_cons, List.length_nil]; omega⟩
      simp only [List.length_append, List.length_cons, List.length_nil, List.append_assoc, List.singleton_append]
      rw [show l.length - (acc.length + (0 + 1)) = k by omega]
      exact h1
  · have hk : l.length - acc.length = 0 := by omega
    rw [hk, chainGo, List.append_nil] at h1
    repeat' (first | ((first | refine pC ?_ | refine pQC ?_ | refine pU ?_); push_cast [iO, tN]) | (refine pif (fun h => ?_) (fun h => ?_) <;> first | exact pN h | push_cast [iO, tN]))
    (refine retK_of [] ?_; push_cast [iO, tN])
    all_goals rw [h1]
set_option maxHeartbeats 1000000 in
theorem rorigin_pure (l : List Dev) (n : Int) (hl : l.length ≤ 1000000) :
    PCalls Tryz.prog 66 [.agg (trE l), .c (.v (.int .i64 n))] [] fun r os => r = .c (.own 0 ((origM l n).length)) ∧ os = [.arr 9 1 ((origM l n).map strD)] := by
  have hc := rchain_pure l n hl
  have hcl := chain_len l n
  unfold origM
  obtain ⟨c, hcc⟩ : ∃ c, chainM l n = c := ⟨_, rfl⟩
  rw [hcc] at hc hcl ⊢
  refine pcalls_of Tryz.func66 rfl (by simp [Tryz.ntmps66]) ?_
  rw [Tryz.ntmps66, Tryz.results66]
  push_cast [iO, tN]
  have cB : CutB 8 [] := trivial
  repeat' (first |  (refine plc [] (hc) ?_ ?_; push_cast [iO, tN]; rintro r os ⟨rfl, rfl⟩; push_cast [iO, tN])  | ((first | refine pC ?_ | refine pQC ?_ | refine pU ?_); push_cast [iO, tN]) | (refine pif (fun h => ?_) (fun h => ?_) <;> first | exact pN h | push_cast [iO, tN]))
  refine pwp_weak (weak_adopt 5 9 1 (by omega) (by push_cast [iO, tN])) ?_
  push_cast [iO, tN]
  (apply pwp_loop3 (α := Nat × List ByteArray) 8 [] (fun x => [(7, .c (.v (.int .i64 ((x.1 : Int) - 1)))), (5, .c (.own 1 (x.2.length)))]) (fun x => [(1, .arr 9 1 (x.2.map strD))]) (fun x => x.1 ≤ c.length ∧ x.2 = ((c.drop x.1).map Dev.original).reverse) (fun x => x.1) ((c.length, [])); (focus ((try push_cast [iO, tN]); rfl)); (focus exact ⟨Nat.le_refl _, by simp⟩); (focus ((refine weak_fg ?_; try push_cast [iO, tN]))))
  rintro ⟨k, out⟩ ⟨hk, ho⟩
  simp only at hk ho
  have hol : out.length ≤ c.length := by rw [ho, List.length_reverse, List.length_map, List.length_drop]; omega
  cases k with
  | zero =>
    rw [List.drop_zero] at ho
    push_cast [iO, tN]
    repeat' (first | ((first | refine pC ?_ | refine pQC ?_ | refine pU ?_); push_cast [iO, tN]) | (refine pif (fun h => ?_) (fun h => ?_) <;> first | exact pN h | push_cast [iO, tN]))
    (refine retK_of [1] ?_; push_cast [iO, tN])
    all_goals rw [ho]
    all_goals simp
  | succ k =>
    have hlt : k < c.length := by omega
    have hd : out ++ [(c.getD k default).original] = ((c.drop k).map Dev.original).reverse := by
      rw [ho, List.drop_eq_getElem_cons hlt, getD_lt c hlt, List.map_cons, List.reverse_cons]
    have hi : ((k + 1 : Nat) : Int) - 1 = (k : Int) := by omega
    simp only [hi]
    push_cast [iO, tN]
    repeat' (first | ((first | refine pC ?_ | refine pQC ?_ | refine pU ?_); push_cast [iO, tN]) | (refine pif (fun h => ?_) (fun h => ?_) <;> first | exact pN h | push_cast [iO, tN]))
    exact ⟨(k, out ++ [(c.getD k default).original]), ⟨by simp only; omega, hd⟩, by (refine weak_fg ?_; push_cast [iO, tN]), by simp only; omega⟩
end Go.Proofs.YtcnoopjacilceaaGreatDoor
