/- What the program computes, and the plain laws of it, part 20. -/
import Derived.Test.YtcnoopjacilceaaGreatDoorQ19
namespace Go.Proofs.YtcnoopjacilceaaGreatDoor
open Go.RowKit
open IntWalk renaming iteOmega → iO, toNatUp → tN
set_option linter.unusedVariables false
set_option linter.unusedSimpArgs false
structure Acc where
  path : ByteArray
  node : ByteArray
  user : ByteArray
  deriving DecidableEq
instance : Inhabited Acc := ⟨⟨⟨#[]⟩, ⟨#[]⟩, ⟨#[]⟩⟩⟩
def Acc.d (a : Acc) : List D := [.v (.string a.path), .v (.string a.node), .v (.string a.user)]
def Acc.e (a : Acc) : List E := a.d.map D.e
structure Chg where
  kind : Int
  acc : Acc
instance : Inhabited Chg := ⟨⟨0, default⟩⟩
def Chg.d (c : Chg) : List D := .v (.int .i64 c.kind) :: c.acc.d
def Chg.e (c : Chg) : List E := c.d.map D.e
attribute [push_cast] Acc.d Acc.e Chg.d Chg.e
def cmpP (a b : ByteArray) : Int := match splitP a, splitP b with
  | some l, some m => cmpL l m
  | _, _ => 0
def okP1 (a : ByteArray) : Prop := ∃ l, splitP a = some l
theorem cmpP_anti (a b : ByteArray) : cmpP b a = -cmpP a b := by
  unfold cmpP
  cases splitP a <;> cases splitP b <;> simp
  exact cmpL_anti _ _
theorem cmpP_lt (a b : ByteArray) : cmpP a b = -1 ∨ cmpP a b = 0 ∨ cmpP a b = 1 := by
  unfold cmpP
  cases splitP a <;> cases splitP b <;> simp
  exact cmpL_lt _ _
theorem cmpP_trans {a b c : ByteArray} (h1 : cmpP a b < 0) (h2 : cmpP b c < 0) : cmpP a c < 0 := by
  unfold cmpP at *
  cases ha : splitP a <;> cases hb : splitP b <;> cases hc : splitP c <;> simp_all
  exact cmpL_trans h1 h2
theorem cmpP_irr (a : ByteArray) : ¬ cmpP a a < 0 := by have := cmpP_anti a a; omega
theorem spl_inj : ∀ {l m : List UInt8}, spl l = spl m → l = m
  | [], [], _ => rfl
  | [], b :: m, h => by
    rw [spl, spl] at h
    split at h
    · injection h with _ h; exact absurd h.symm (spl_ne m)
    · split at h <;> simp at h
  | b :: l, [], h => by
    rw [spl, spl] at h
    split at h
    · injection h with _ h; exact absurd h (spl_ne l)
    · split at h <;> simp at h
  | b :: l, c :: m, h => by
    have key : ∀ (b : UInt8) (l : List UInt8), b ≠ 47 → ∃ h t, spl l = h :: t ∧ spl (b :: l) = (b :: h) :: t := by
      intro b l hb
      cases hs : spl l with
      | nil => exact absurd hs (spl_ne l)
      | cons h t => exact ⟨h, t, rfl, by rw [spl, if_neg hb, hs]⟩
    by_cases e1 : b = 47 <;> by_cases e2 : c = 47
    · subst e1; subst e2
      rw [spl, spl, if_pos rfl, if_pos rfl] at h
      injection h with _ h
      rw [spl_inj h]
    · obtain ⟨h1, t1, _, i2⟩ := key c m e2
      subst e1
      rw [i2, spl, if_pos rfl] at h
      injection h with h _; cases h
    · obtain ⟨h1, t1, _, i2⟩ := key b l e1
      subst e2
      rw [i2, spl, if_pos rfl] at h
      injection h with h _; cases h
    · obtain ⟨h1, t1, i1, i2⟩ := key b l e1
      obtain ⟨h2, t2, j1, j2⟩ := key c m e2
      rw [i2, j2] at h
      injection h with h h'
      injection h with h h''
      subst h; subst h'; subst h''
      rw [spl_inj (i1.trans j1.symm)]
theorem parts_inj {s t : ByteArray} (h : parts s = parts t) : s = t := by
  unfold parts at h
  have h2 : spl s.data.toList = spl t.data.toList := by
    have : ∀ {a b : List (List UInt8)}, a.map unT = b.map unT → a = b := by
      intro a
      induction a with
      | nil => intro b h; cases b <;> simp at h ⊢
      | cons x a ih =>
        intro b h
        cases b with
        | nil => simp at h
        | cons y b =>
          simp only [List.map_cons, List.cons.injEq] at h
          obtain ⟨h1, h2⟩ := h
          have hx : x = y := by have := congrArg (fun z : ByteArray => z.data.toList) h1; simpa [unT] using this
          rw [hx, ih h2]
    exact this h
  have h3 := spl_inj h2
  cases s; cases t
  simp only at h3
  congr
  exact Array.toList_inj.1 h3
theorem slash_rest {s : ByteArray} (h : slashS s = true) : s.data.toList = 47 :: (restS s).data.toList := by
  unfold restS
  rw [if_pos h]
  unfold slashS Lib.hasPrefix at h
  rw [Lib.extract_to_end]
  cases e : s.data.toList with
  | nil => rw [e] at h; simp [List.isPrefixOf] at h
  | cons b l => rw [e] at h; simp [List.isPrefixOf] at h; subst h; rfl
theorem splitP_inj {a b : ByteArray} {l : List ByteArray} (ha : splitP a = some l) (hb : splitP b = some l) : a = b := by
  unfold splitP at ha hb
  split at ha
  · rename_i h1
    split at hb
    · rename_i h2
      cases ha
      injection hb with hb
      have hr := parts_inj hb
      have e1 := slash_rest h1.1
      have e2 := slash_rest h2.1
      rw [hr, ← e1] at e2
      cases a; cases b
      simp only at e2
      congr
      exact (Array.toList_inj.1 e2).symm
    · cases hb
  · cases ha
theorem cmpP_eq {a b : ByteArray} (ha : okP1 a) (hb : okP1 b) : cmpP a b = 0 ↔ a = b := by
  obtain ⟨l, hl⟩ := ha
  obtain ⟨m, hm⟩ := hb
  unfold cmpP
  rw [hl, hm]
  simp only
  rw [cmpL_eq]
  exact ⟨fun h => splitP_inj hl (by rw [hm, h]), fun h => by subst h; rw [hl] at hm; injection hm⟩
def ltA (a b : Acc) : Prop := cmpP a.path b.path < 0
structure Right (l : List Acc) : Prop where
  ok : ∀ a ∈ l, okP1 a.path
  asc : l.Pairwise ltA
  nodes : (l.map Acc.node).Nodup
theorem ltA_asymm {a b : Acc} (h : ltA a b) : ¬ ltA b a := by unfold ltA at *; rw [cmpP_anti a.path b.path]; omega
theorem Right.nodup {l : List Acc} (h : Right l) : l.Nodup := h.asc.imp fun {a b} h e => by subst e; exact cmpP_irr _ h
theorem Right.sublist {l m : List Acc} (h : Right l) (hs : m.Sublist l) : Right m := ⟨fun a ha => h.ok a (hs.subset ha), h.asc.sublist hs, h.nodes.sublist (hs.map _)⟩
def minusL (a b : List Acc) : List Acc := a.filter fun x => decide (x ∉ b)
def planA (a b : List Acc) : List Chg := (minusL a b).map (Chg.mk 1) ++ (minusL b a).map (Chg.mk 2)
instance (a b : Acc) : Decidable (ltA a b) := inferInstanceAs (Decidable (cmpP a.path b.path < 0))
def insA (x : Acc) (l : List Acc) : List Acc := (l.takeWhile fun y => decide (ltA y x)) ++ x :: l.dropWhile fun y => decide (ltA y x)
theorem tw_pre {l : List Acc} (h : l.Pairwise ltA) (x : Acc) : (∀ y ∈ l.takeWhile fun y => decide (ltA y x), ltA y x) ∧ ∀ y ∈ l.dropWhile fun y => decide (ltA y x), ¬ ltA y x := by
  induction l with
  | nil => simp
  | cons a l ih =>
    obtain ⟨h1, h2⟩ := List.pairwise_cons.1 h
    obtain ⟨i1, i2⟩ := ih h2
    by_cases hx : ltA a x
    · rw [List.takeWhile_cons_of_pos (by simpa using hx), List.dropWhile_cons_of_pos (by simpa using hx)]
      exact ⟨fun y hy => by rcases List.mem_cons.1 hy with rfl | hy; exact hx; exact i1 y hy, i2⟩
    · rw [List.takeWhile_cons_of_neg (by simpa using hx), List.dropWhile_cons_of_neg (by simpa using hx)]
      refine ⟨by simp, fun y hy => ?_⟩
      rcases List.mem_cons.1 hy with rfl | hy
      · exact hx
      · exact fun hc => hx (cmpP_trans (h1 y hy) hc)
theorem mem_ins {x : Acc} {l : List Acc} {y : Acc} : y ∈ insA x l ↔ y = x ∨ y ∈ l := by
  have e : l = (l.takeWhile fun y => decide (ltA y x)) ++ l.dropWhile fun y => decide (ltA y x) := List.takeWhile_append_dropWhile.symm
  constructor
  · intro h
    rcases List.mem_append.1 h with h | h
    · right; rw [e]; exact List.mem_append.2 (.inl h)
    · rcases List.mem_cons.1 h with h | h
      · exact .inl h
      · right; rw [e]; exact List.mem_append.2 (.inr h)
  · rintro (h | h)
    · subst h; simp [insA]
    · rw [e] at h
      rcases List.mem_append.1 h with h | h
      · exact List.mem_append.2 (.inl h)
      · exact List.mem_append.2 (.inr (List.mem_cons_of_mem _ h))
theorem Right.ins {l : List Acc} {x : Acc} (h : Right l) (hx : okP1 x.path) (hp : ∀ y ∈ l, y.path ≠ x.path) (hn : ∀ y ∈ l, y.node ≠ x.node) : Right (insA x l) := by
  obtain ⟨t1, t2⟩ := tw_pre h.asc x
  have e : l = (l.takeWhile fun y => decide (ltA y x)) ++ l.dropWhile fun y => decide (ltA y x) := List.takeWhile_append_dropWhile.symm
  have hasc := h.asc
  have hnd := h.nodes
  refine ⟨fun a ha => ?_, ?_, ?_⟩
  · rcases mem_ins.1 ha with rfl | ha
    · exact hx
    · exact h.ok a ha
  · have hgt : ∀ y ∈ l.dropWhile fun y => decide (ltA y x), ltA x y := by
      intro y hy
      have hyl : y ∈ l := by rw [e]; exact List.mem_append.2 (.inr hy)
      have h1 := t2 y hy
      have h2 : cmpP y.path x.path ≠ 0 := fun hc => hp y hyl ((cmpP_eq (h.ok y hyl) hx).1 hc)
      have h3 := cmpP_anti y.path x.path
      unfold ltA at *
      omega
    rw [e] at hasc
    obtain ⟨p1, p2, p3⟩ := List.pairwise_append.1 hasc
    refine List.pairwise_append.2 ⟨p1, List.pairwise_cons.2 ⟨hgt, p2⟩, fun a ha b hb => ?_⟩
    rcases List.mem_cons.1 hb with rfl | hb
    · exact t1 a ha
    · exact p3 a ha b hb
  · have hperm : (insA x l).Perm (x :: l) := by
      conv => rhs; rw [e]
      exact List.perm_middle
    refine (hperm.map Acc.node).nodup_iff.2 ?_
    rw [List.map_cons, List.nodup_cons]
    refine ⟨fun hc => ?_, h.nodes⟩
    obtain ⟨y, hy, he⟩ := List.mem_map.1 hc
    exact hn y hy he
def applyA (l : List Acc) (c : Chg) : Option (List Acc) × Int :=
  if c.kind = 1 then (if c.acc ∈ l then (some (l.filter fun x => decide (x ≠ c.acc)), 0) else (none, 381))
  else if c.kind = 2 then (if ∃ y ∈ l, y.path = c.acc.path ∨ y.node = c.acc.node then (none, 382) else match splitP c.acc.path with
    | none => (none, 383)
    | some _ => (some (insA c.acc l), 0))
  else (none, 380)
theorem Right.apply {l m : List Acc} {c : Chg} {n : Int} (h : Right l) (ha : applyA l c = (some m, n)) : Right m := by
  unfold applyA at ha
  split at ha
  · split at ha
    · cases ha; exact h.sublist List.filter_sublist
    · cases ha
  · split at ha
    · split at ha
      · cases ha
      · rename_i hno
        split at ha
        · cases ha
        · rename_i l0 hs
          cases ha
          exact h.ins ⟨_, hs⟩ (fun y hy e => hno ⟨y, hy, .inl e⟩) (fun y hy e => hno ⟨y, hy, .inr e⟩)
    · cases ha
end Go.Proofs.YtcnoopjacilceaaGreatDoor
namespace Go.Proofs.YtcnoopjacilceaaGreatDoor
open Go.RowKit
open IntWalk renaming iteOmega → iO, toNatUp → tN
set_option linter.unusedVariables false
set_option linter.unusedSimpArgs false
structure Rec where
  path : ByteArray
  index : Int
  props : List Atr
  tags : List ByteArray
  owner : ByteArray
  group : ByteArray
  mode : Int
  deriving DecidableEq, Inhabited
def Rec.d (r : Rec) : List D := [.v (.string r.path), .v (.int .i64 r.index), .sl 2 (r.props.map Atr.d), .sl 1 (r.tags.map strD), .sl 1 [], .sl 1 [], .sl 1 [], .v (.string ⟨#[]⟩), .v (.int .i64 0), .v (.string r.owner), .v (.string r.group), .v (.int .i64 r.mode)]
attribute [push_cast] Rec.d
def Rec.e (r : Rec) : List E := [.v (.string r.path), .v (.int .i64 r.index), .sl 2 (r.props.map Atr.d), .sl 1 (r.tags.map strD), .sl 1 [], .sl 1 [], .sl 1 [], .v (.string ⟨#[]⟩), .v (.int .i64 0), .v (.string r.owner), .v (.string r.group), .v (.int .i64 r.mode)]
attribute [push_cast] Rec.e
structure Ses where
  id : Int
  user : ByteArray
  seat : ByteArray
  active : Bool
  deriving DecidableEq, Inhabited
def Ses.d (x : Ses) : List D := [.v (.int .i64 x.id), .v (.string x.user), .v (.string x.seat), .v (.bool x.active)]
attribute [push_cast] Ses.d
def getP (l : List Atr) (k : ByteArray) : ByteArray := match l.find? fun a => decide (a.name = k) with
  | some a => a.value
  | none => ⟨#[]⟩
def recF (rs : List Rec) (n : Int) (p : ByteArray) : Option Rec := rs.find? fun r => decide (r.index = n) && decide (r.path = p)
def recT (l : List Dev) (rs : List Rec) (n : Int) : Option Rec := if (findD l n).isSome then recF rs n (placeM l n) else none
def seatV (l : List Dev) (rs : List Rec) (n : Int) : ByteArray := getP ((recT l rs n).getD default).props ⟨#[73, 68, 95, 83, 69, 65, 84]⟩
def seatL (l : List Dev) (rs : List Rec) : List Dev → ByteArray
  | [] => ⟨#[115, 101, 97, 116, 48]⟩
  | d :: ds => if validS (seatV l rs d.index) then seatV l rs d.index else seatL l rs ds
def seatM (l : List Dev) (rs : List Rec) (n : Int) : ByteArray := if (findD l n).isSome then seatL l rs (chainM l n) else ⟨#[]⟩
def userM (s : List Ses) (seat : ByteArray) : ByteArray := match s.find? fun x => decide (x.seat = seat) && x.active with
  | some x => x.user
  | none => ⟨#[]⟩
def tagQ (l : List Dev) (rs : List Rec) (n : Int) (tag : ByteArray) : Bool := match recT l rs n with
  | some r => inM tag r.tags
  | none => false
def wantQ (l : List Dev) (rs : List Rec) (s : List Ses) (d : Dev) : Bool := (hasN d && tagQ l rs d.index ⟨#[117, 97, 99, 99, 101, 115, 115]⟩) && !decide (userM s (seatM l rs d.index) = ⟨#[]⟩)
def wantA (l : List Dev) (rs : List Rec) (s : List Ses) (d : Dev) : Acc := ⟨placeM l d.index, nodeM d, userM s (seatM l rs d.index)⟩
def wantM (l : List Dev) (rs : List Rec) (s : List Ses) : List Acc := (l.filter (wantQ l rs s)).map (wantA l rs s)
end Go.Proofs.YtcnoopjacilceaaGreatDoor
namespace Go.Proofs.YtcnoopjacilceaaGreatDoor
open Go.RowKit
open IntWalk renaming iteOmega → iO, toNatUp → tN
set_option linter.unusedVariables false
set_option linter.unusedSimpArgs false
theorem rp_vals {w : World} {Γ : G} : ∀ {vs xs : List Value}, All2 (RP w Γ) (vs.map fun v => .c (.v v)) xs → xs = vs
  | [], _, h => by rw [List.map_nil, All2.nil_l] at h; exact h
  | v :: vs, xs, h => by
    rw [List.map_cons, All2.cons_l] at h
    obtain ⟨y, m, rfl, h1, h2⟩ := h
    rw [rp_vals h2, h1.1]
theorem ext_of_below {w w' : World} (hB : Below w.heap.size w w') : Ext No w w' := ⟨hB.os, hB.tape, hB.output, hB.size, fun k hk _ => hB.block k hk⟩
theorem pcalls_plain {P : Program} {g : FuncId} (vs : List Value) (v : Value) (hv : v.oneCell' = true) (h : ∀ w, Pin w → Calls P g vs.toArray w fun e w' => e = .returned v ∧ Below w.heap.size w w') :
    PCalls P g (vs.map fun v => .c (.v v)) [] fun r os => r = .c (.v v) ∧ os = [] := fun Γ w xs hm hx => by
  rw [rp_vals hx]
  refine (h w hm.pin.1).mono ?_
  rintro e w' ⟨rfl, hB⟩
  have hE := ext_of_below hB
  exact ⟨_, [], Γ, _, rfl, ⟨rfl, rfl⟩, ⟨rfl, hv⟩, Nat.le_refl _, hm.same (Same.of_ext hE), ext_grow hE⟩
theorem pcalls_plain2 {P : Program} {g : FuncId} (vs : List Value) (v u : Value) (hv : v.oneCell' = true) (hu : u.oneCell' = true) (h : ∀ w, Pin w → Calls P g vs.toArray w fun e w' => e = .returned (.tuple #[v, u]) ∧ Below w.heap.size w w') :
    PCalls P g (vs.map fun v => .c (.v v)) [] fun r os => r = .two (.c (.v v)) (.c (.v u)) ∧ os = [] := fun Γ w xs hm hx => by
  rw [rp_vals hx]
  refine (h w hm.pin.1).mono ?_
  rintro e w' ⟨rfl, hB⟩
  have hE := ext_of_below hB
  exact ⟨_, [], Γ, _, rfl, ⟨rfl, rfl⟩, ⟨_, _, rfl, ⟨rfl, hv⟩, ⟨rfl, hu⟩⟩, Nat.le_refl _, hm.same (Same.of_ext hE), ext_grow hE⟩
theorem pcalls_row {P : Program} {g : FuncId} (vs : List Value) (T : TypeId) (rows : List (List D)) (cells : List Value) (sz : Nat) (hsz : 0 < sz) (hr : ∀ r ∈ rows, r.length = sz) (hn : 0 < rows.length) (hc : ∀ w I, All2 (RD w I) rows.flatten cells)
    (h : ∀ w, Pin w → Calls P g vs.toArray w fun e w' => ∃ v, e = .returned v ∧ w'.ownsRow w.heap.size T sz v rows.length cells ∧ Below w.heap.size w w') :
    PCalls P g (vs.map fun v => .c (.v v)) [] fun r os => r = .c (.own 0 rows.length) ∧ os = [.arr T sz rows] := fun Γ w xs hm hx => by
  rw [rp_vals hx]
  refine (h w hm.pin.1).mono ?_
  rintro e w' ⟨v, rfl, hrow, hB⟩
  have hE := ext_of_below hB
  have hS := Same.of_ext hE
  have hn0 : Γ.n = 0 := hm.n
  obtain ⟨b, c, rfl, h4, h5, h6, h7, h8, h9⟩ := arr_of_own (k := Γ.n) (Γ := Γ) (rows := rows) hrow hn hsz hr rfl
  have hro := h9 (Γ.push b c) (by simp [G.push, upd_same]) (by simp [G.push, upd_same]) (hc _ _)
  refine ⟨_, _, Γ.push b c, _, rfl, ⟨rfl, rfl⟩, ?_, by simp, hm.push hS _ b c hro (fun _ => h6), grow_push hm hE b c (fun _ => h6) (Nat.zero_le _)⟩
  have hrep : OwnRep (Γ.push b c) Γ.n rows.length (.slice (some ⟨b, 0, none⟩) rows.length c) := .inr ⟨by simp [G.push, upd_same, h4], by simp [G.push, upd_same], by simp [G.push, upd_same]; exact h5⟩
  rw [hn0] at hrep
  exact ⟨by simp [G.push, hn0], hrep⟩
end Go.Proofs.YtcnoopjacilceaaGreatDoor
