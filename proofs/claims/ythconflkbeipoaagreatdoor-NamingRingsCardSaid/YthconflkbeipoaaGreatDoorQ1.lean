/- What the program computes, and the plain laws of it, part 1. -/
import Derived.WalkKit
import Derived.WalkLawsBesides
import Derived.WalkSpells
import Derived.BigQuiet
import Derived.Deep.QuietTactic
import Derived.Deep.Draws
import Derived.Lib.Hide
import Derived.StillTailTactics
import Derived.Laws.CopyOwn
import Derived.Maps.AppendAt
import Derived.Deep.AppendLies
namespace Go.Proofs.YthconflkbeipoaaGreatDoor
open Go.RowKit
open IntWalk renaming iteOmega → iO, toNatUp → tN
set_option linter.unusedVariables false
set_option linter.unusedSimpArgs false
theorem ret_int {k : IntKind} {a b : Int} (h : a = b) : Ending.returned (.int k a) = .returned (.int k b) := by rw [h]
theorem ret_bool {a b : Bool} (h : a = b) : Ending.returned (.bool a) = .returned (.bool b) := by rw [h]
theorem blist_inj (a b : ByteArray) : a.toList = b.toList ↔ a = b := by
  constructor
  · intro e
    rw [ByteArray.toList_eq, ByteArray.toList_eq] at e
    obtain ⟨⟨x⟩⟩ := a
    obtain ⟨⟨y⟩⟩ := b
    have e : x = y := e
    rw [e]
  · rintro rfl; rfl
structure Ext (S : Nat → Prop) (w w' : World) : Prop where
  os : w'.os = w.os
  tape : w'.tape = w.tape
  output : w'.output = w.output
  size : w.heap.size ≤ w'.heap.size
  block : ∀ k, k < w.heap.size → ¬ S k → w'.heap[k]? = w.heap[k]?
def No : Nat → Prop := fun _ => False
namespace Ext
variable {S T : Nat → Prop} {w w' w'' : World}
theorem refl (S : Nat → Prop) (w : World) : Ext S w w := ⟨rfl, rfl, rfl, Nat.le_refl _, fun _ _ _ => rfl⟩
theorem trans (h : Ext S w w') (k : Ext S w' w'') : Ext S w w'' :=
  ⟨k.os.trans h.os, k.tape.trans h.tape, k.output.trans h.output, Nat.le_trans h.size k.size,
    fun i hi hs => (k.block i (Nat.lt_of_lt_of_le hi h.size) hs).trans (h.block i hi hs)⟩
theorem mono (h : Ext S w w') (hs : ∀ k, S k → T k) : Ext T w w' := ⟨h.os, h.tape, h.output, h.size, fun i hi ht => h.block i hi fun hS => ht (hs i hS)⟩
theorem trans_new (h : Ext S w w') (k : Ext T w' w'') (hT : ∀ i, T i → S i ∨ w.heap.size ≤ i) : Ext S w w'' :=
  ⟨k.os.trans h.os, k.tape.trans h.tape, k.output.trans h.output, Nat.le_trans h.size k.size,
    fun i hi hs => (k.block i (Nat.lt_of_lt_of_le hi h.size) (fun ht => by rcases hT i ht with h1 | h1; exact hs h1; omega)).trans (h.block i hi hs)⟩
theorem drew (h : Ext S w w') : Ext S w w'.drew := ⟨h.os, h.tape, h.output, h.size, h.block⟩
theorem drewN (h : Ext S w w') (n : Nat) : Ext S w (w'.drewN n) := ⟨h.os, h.tape, h.output, h.size, h.block⟩
theorem alloc (h : Ext S w w') (o : Obj) : Ext S w (w'.alloc o) :=
  ⟨h.os, h.tape, h.output, by have := h.size; simp; omega, fun k hk hs => (Below.heap_alloc w' o k (by have := h.size; omega)).trans (h.block k hk hs)⟩
theorem setCell (h : Ext S w w') {p : Addr} (hp : S p.block ∨ w.heap.size ≤ p.block) (u : Value) : Ext S w (w'.setCell p u) :=
  ⟨h.os, h.tape, h.output, by simpa [World.setCell] using h.size,
    fun k hk hs => (Below.heap_setCell w' p u k (by rintro rfl; rcases hp with hp | hp; exact hs hp; omega)).trans (h.block k hk hs)⟩
theorem grown (h : Ext S w w') {row : Option Nat} (hg : w'.grownBy w'' row) (hr : ∀ k, row = some k → S k ∨ w.heap.size ≤ k) : Ext S w w'' :=
  ⟨hg.os.trans h.os, hg.tape.trans h.tape, hg.output.trans h.output, Nat.le_trans h.size hg.size,
    fun k hk hs => (hg.block k (Nat.lt_of_lt_of_le hk h.size) (fun e => by rcases hr k e.symm with h1 | h1; exact hs h1; omega)).trans (h.block k hk hs)⟩
theorem below (h : Ext No w w') : Below w.heap.size w w' := ⟨h.os, h.tape, h.output, h.size, fun k hk => h.block k hk id⟩
theorem of_below (h : Below w.heap.size w w') : Ext S w w' := ⟨h.os, h.tape, h.output, h.size, fun k hk _ => h.block k hk⟩
theorem no (h : Ext No w w') : Ext S w w' := h.mono fun _ => False.elim
theorem base {B : Nat} {W : World} (h : Below B W w) (k : Ext S w w') (hB : B ≤ w.heap.size) (hS : ∀ i, S i → B ≤ i) : Below B W w' :=
  ⟨k.os.trans h.os, k.tape.trans h.tape, k.output.trans h.output, Nat.le_trans h.size k.size,
    fun i hi => (k.block i (by omega) (fun hs => by have := hS i hs; omega)).trans (h.block i hi)⟩
theorem cell (h : Ext S w w') {p : Addr} (hp : p.block < w.heap.size) (hs : ¬ S p.block) : w'.cell? p = w.cell? p := World.cell?_of_block (h.block p.block hp hs)
theorem frozen (h : Ext S w w') {p : Addr} (hp : p.block < w.heap.size) (hs : ¬ S p.block) : w'.frozen? p = w.frozen? p := World.frozen?_of_block (h.block p.block hp hs)
end Ext
def Blk (w : World) (g : Nat) (t : TypeId) (cs : Array Value) : Prop := w.heap[g]? = some (.cells cs t (0, 0))
namespace Blk
variable {w w' : World} {g : Nat} {t : TypeId} {cs : Array Value} {S : Nat → Prop}
theorem lt (h : Blk w g t cs) : g < w.heap.size := by
  rcases Nat.lt_or_ge g w.heap.size with hlt | hge
  · exact hlt
  · unfold Blk at h; rw [Array.getElem?_eq_none hge] at h; cases h
theorem cell (h : Blk w g t cs) (i : Nat) : w.cell? ⟨g, i, none⟩ = cs[i]? := cell_of_row w g i cs t (0, 0) h
theorem frozen (h : Blk w g t cs) (i : Nat) : w.frozen? ⟨g, i, none⟩ = false := frozen_of_row w g i cs t h
theorem new (w : World) (t : TypeId) (cs : Array Value) : Blk (w.alloc (.cells cs t)) w.heap.size t cs := heap_alloc_new w _
theorem new_at (w : World) (t : TypeId) (cs : Array Value) {n : Nat} (h : n = w.heap.size) : Blk (w.alloc (.cells cs t)) n t cs := by subst h; exact heap_alloc_new w _
theorem drew (h : Blk w g t cs) : Blk w.drew g t cs := h
theorem drewN (h : Blk w g t cs) (n : Nat) : Blk (w.drewN n) g t cs := h
theorem alloc (h : Blk w g t cs) (o : Obj) : Blk (w.alloc o) g t cs := (Below.heap_alloc w o g h.lt).trans h
theorem set_ (h : Blk w g t cs) (i : Nat) (u : Value) : Blk (w.setCell ⟨g, i, none⟩ u) g t (cs.setIfInBounds i u) := heap_setCell_same w g i cs t u h
theorem far (h : Blk w g t cs) {p : Addr} (hp : g ≠ p.block) (u : Value) : Blk (w.setCell p u) g t cs := (Below.heap_setCell w p u g hp).trans h
theorem ext (h : Blk w g t cs) (e : Ext S w w') (hS : ¬ S g) : Blk w' g t cs := (e.block g h.lt hS).trans h
theorem grown {row : Option Nat} (h : Blk w g t cs) (hb : w.grownBy w' row) (hg : some g ≠ row) : Blk w' g t cs := (hb.block g h.lt hg).trans h
end Blk
def Rd (w : World) (P : Nat → Prop) (size : Nat) (A : Option Addr) (n : Nat) (xs : List Value) : Prop :=
  xs.length = n * size ∧ (0 < n → ∃ b o, A = some ⟨b, o, none⟩ ∧ P b ∧ b < w.heap.size ∧ ∀ j u, xs[j]? = some u → w.cell? ⟨b, o + j, none⟩ = some u)
namespace Rd
variable {w w' : World} {P Q S : Nat → Prop} {size n : Nat} {A : Option Addr} {xs : List Value}
theorem nil : Rd w P size A 0 [] := ⟨by simp, fun h => absurd h (by omega)⟩
theorem get (h : Rd w P size A n xs) (hn : 0 < n) : ∃ b o, A = some ⟨b, o, none⟩ ∧ P b ∧ b < w.heap.size ∧ ∀ j u, xs[j]? = some u → w.cell? ⟨b, o + j, none⟩ = some u := h.2 hn
theorem keep (h : Rd w P size A n xs) (hz : w.heap.size ≤ w'.heap.size) (hk : ∀ b o, P b → b < w.heap.size → w'.cell? ⟨b, o, none⟩ = w.cell? ⟨b, o, none⟩) : Rd w' P size A n xs :=
  ⟨h.1, fun hn => by
    obtain ⟨b, o, e, hb, hlt, hc⟩ := h.2 hn
    exact ⟨b, o, e, hb, by omega, fun j u hu => (hk _ _ hb hlt).trans (hc j u hu)⟩⟩
theorem more (h : Rd w P size A n xs) (hP : ∀ b, P b → Q b) : Rd w Q size A n xs :=
  ⟨h.1, fun hn => by
    obtain ⟨b, o, e, hb, hlt, hc⟩ := h.2 hn
    exact ⟨b, o, e, hP b hb, hlt, hc⟩⟩
theorem ext (h : Rd w P size A n xs) (e : Ext S w w') (hS : ∀ b, P b → ¬ S b) : Rd w' P size A n xs :=
  h.keep e.size fun b o hb hlt => e.cell (p := ⟨b, o, none⟩) hlt (hS b hb)
theorem cut (h : Rd w P size A n xs) {k cap : Nat} (hk : k ≤ n) (hc : n ≤ cap) :
    Rd w P size (if cap = k then A else A.map (·.add (k * size))) (n - k) (xs.drop (k * size)) := by
  refine ⟨by rw [List.length_drop, h.1, Nat.sub_mul], fun hn => ?_⟩
  obtain ⟨b, o, rfl, hb, hlt, hcell⟩ := h.2 (by omega)
  rw [if_neg (by omega)]
  refine ⟨b, o + k * size, by simp [Addr.add_lit], hb, hlt, fun j u hu => ?_⟩
  rw [Nat.add_assoc]
  exact hcell _ u (by rw [← hu, List.getElem?_drop])
theorem take_ (h : Rd w P size A n xs) {k : Nat} (hk : k ≤ n) : Rd w P size A k (xs.take (k * size)) := by
  refine ⟨by rw [List.length_take, h.1]; exact Nat.min_eq_left (Nat.mul_le_mul_right _ hk), fun hn => ?_⟩
  obtain ⟨b, o, rfl, hb, hlt, hcell⟩ := h.2 (by omega)
  refine ⟨b, o, rfl, hb, hlt, fun j u hu => hcell j u ?_⟩
  rw [List.getElem?_take] at hu
  split at hu
  · exact hu
  · cases hu
theorem and (h : Rd w P size A n xs) (h' : Rd w Q size A n xs) : Rd w (fun b => P b ∧ Q b) size A n xs :=
  ⟨h.1, fun hn => by
    obtain ⟨b, o, e, hb, hlt, hc⟩ := h.2 hn
    obtain ⟨b', o', e', hb', _, _⟩ := h'.2 hn
    rw [e] at e'
    injection e' with e'
    injection e' with e1 _ _
    subst e1
    exact ⟨b, o, e, ⟨hb, hb'⟩, hlt, hc⟩⟩
theorem lt (h : Rd w P size A n xs) : Rd w (· < w.heap.size) size A n xs :=
  ⟨h.1, fun hn => by
    obtain ⟨b, o, e, hb, hlt, hc⟩ := h.2 hn
    exact ⟨b, o, e, hlt, hlt, hc⟩⟩
theorem drew (h : Rd w P size A n xs) : Rd w.drew P size A n xs := h
theorem drewN (h : Rd w P size A n xs) (k : Nat) : Rd (w.drewN k) P size A n xs := h
end Rd
def over (L : List Value) (off : Nat) (cs : List Value) : List Value := L.take off ++ (cs ++ L.drop (off + cs.length))
theorem run_copy_sz {P : Program} (w : World) (dT sT ty elem : TypeId) (size : Nat) (dp sp : Option Addr) (dLen dCap sLen sCap g off k : Nat) (cur : Array Value) (t : TypeId) (cs : List Value)
    (hu : P.underlying dT = some (.slice elem)) (hs : (P.info? elem).map (·.size) = some size) (hg : Blk w g t cur) (hk : k = Nat.min sLen dLen) (hn : cs.length = k * size)
    (hd : 0 < k → dp = some ⟨g, off, none⟩) (hsrc : 0 < k → ∃ b o, sp = some ⟨b, o, none⟩ ∧ ∀ j v, cs[j]? = some v → w.cell? ⟨b, o + j, none⟩ = some v)
    (hfit : off + cs.length ≤ cur.size) (h1 : ∀ v ∈ cs, v.oneCell' = true) :
    ∃ w', (Builtin.copy_ #[dT, sT] ty #[.slice dp dLen dCap, .slice sp sLen sCap]).run P w = .ok (.int .i64 (k : Int)) w' ∧ Blk w' g t (over cur.toList off cs).toArray ∧ Ext (· = g) w w' := by
  obtain ⟨i, hq, hi⟩ := Option.map_eq_some_iff.1 hs
  rcases Nat.eq_zero_or_pos k with h0 | h0
  · subst h0
    have hcs : cs = [] := List.eq_nil_of_length_eq_zero (by simpa using hn)
    subst hcs
    refine ⟨w, ?_, by simpa [over] using hg, Ext.refl _ _⟩
    cases dp <;> cases sp <;> simp [Builtin.copy_, run_underlying hu, Builtin.lenOf, Builtin.firstCells, sizeOf, typeInfo, hq, hi, ← hk, loadCells, storeCells, goInt, loadCellsFrom]
  · obtain rfl := hd h0
    obtain ⟨b, o, rfl, hc⟩ := hsrc h0
    have hl := run_loadCells_list (P := P) w ⟨b, o, none⟩ cs (fun j v hv => by rw [Addr.add_lit]; exact hc j v hv)
    have hst := run_storeCells_at P g off t cs 0 cur w hg (by simpa using hfit) h1
    rw [hn] at hl
    refine ⟨_, by simp [Builtin.copy_, run_underlying hu, Builtin.lenOf, Builtin.firstCells, sizeOf, typeInfo, hq, hi, ← hk, hl, hst, goInt]; rfl, ?_, ?_⟩
    · exact setRow_heap w g _ _ t _ hg
    · exact ⟨rfl, rfl, rfl, by simp [World.setRow], fun q _ hS => setRow_other w g q _ hS⟩
theorem wpList_copy_sz {P : Program} {w : World} {ops : Array Oper} {rest : List Oper} {o : Oper} {a : Act} {Q : Exit → Act → World → Prop} (hgd : o.guard = none) (d s : Operand) (dT sT : TypeId)
    (ho : o.op = .call { callee := .builtin .copy, args := #[d, s], argTypes := #[dT, sT] }) (elem : TypeId) (size : Nat) (hu : P.underlying dT = some (.slice elem)) (hsz : (P.info? elem).map (·.size) = some size)
    (dp sp : Option Addr) (dLen dCap sLen sCap : Nat) (hd : a.eval d = .slice dp dLen dCap) (hs : a.eval s = .slice sp sLen sCap)
    (g off k : Nat) (cur : Array Value) (t : TypeId) (cs : List Value) (hg : Blk w g t cur) (hk : k = Nat.min sLen dLen) (hn : cs.length = k * size)
    (hdp : 0 < k → dp = some ⟨g, off, none⟩) (hsrc : 0 < k → ∃ b o, sp = some ⟨b, o, none⟩ ∧ ∀ j v, cs[j]? = some v → w.cell? ⟨b, o + j, none⟩ = some v)
    (hfit : off + cs.length ≤ cur.size) (h1 : ∀ v ∈ cs, v.oneCell' = true)
    (h : ∀ w', Blk w' g t (over cur.toList off cs).toArray → Ext (· = g) w w' → wpList P ops Q rest (a.put o.dst (.int .i64 (k : Int))) w') : wpList P ops Q (o :: rest) a w := by
  refine wpList_plain hgd fun K hK => ?_
  obtain ⟨w', hrun, hB, hE⟩ := run_copy_sz (P := P) w dT sT o.type elem size dp sp dLen dCap sLen sCap g off k cur t cs hu hsz hg hk hn hdp hsrc hfit h1
  unfold Oper.wp
  simp [execOp, ho, resolve, invoke, builtin, hd, hs, hrun, Result.andThen]
  exact hK _ _ (h w' hB hE)
structure SlT (P : Program) (t e : TypeId) (size bytes : Nat) : Prop where
  ht : P.underlying t = some (.slice e)
  hi : ∃ i z, P.info? e = some i ∧ i.zero = some z ∧ i.size = size ∧ i.bytes = bytes ∧ z.cells.size = size
  pos : 0 < size
theorem own_form {w : World} {base : Nat} {e : TypeId} {size n : Nat} {v : Value} {xs : List Value} (h : w.ownsRow base e size v n xs) :
    ∃ A c, v = .slice A n c ∧ n ≤ c ∧ (∀ g, v.ownBlock = some g → base ≤ g ∧ g < w.heap.size) ∧ Rd w (base ≤ ·) size A n xs := by
  have hlt := h.lt
  have hc := fun g hg => h.cells (g := g) hg
  obtain ⟨hl, h2⟩ := h
  rcases h2 with ⟨rfl, rfl⟩ | ⟨g, cap, cur, rfl, hb, hg, hn, r⟩
  · exact ⟨none, 0, rfl, Nat.le_refl _, hlt, hl, fun h => absurd h (by omega)⟩
  · refine ⟨_, cap, rfl, hn, hlt, hl, fun _ => ⟨g, 0, rfl, hb, (hlt g rfl).2, fun j u hu => ?_⟩⟩
    have := hc g rfl j u hu
    rwa [Addr.add_lit] at this
theorem own_ext {w w' : World} {base : Nat} {e : TypeId} {size n : Nat} {v : Value} {xs : List Value} {S : Nat → Prop} (h : w.ownsRow base e size v n xs) (hE : Ext S w w') (hS : ∀ g, v.ownBlock = some g → ¬ S g) :
    w'.ownsRow base e size v n xs := by
  have hlt := h.lt
  obtain ⟨hl, h2⟩ := h
  refine ⟨hl, ?_⟩
  rcases h2 with h2 | ⟨g, cap, cur, rfl, hb, hg, r⟩
  · exact .inl h2
  · exact .inr ⟨g, cap, cur, rfl, hb, (hE.block g (hlt g rfl).2 (hS g rfl)).trans hg, r⟩
theorem own_nil (w : World) (base : Nat) (e : TypeId) (size : Nat) : w.ownsRow base e size (.slice none 0 0) 0 [] := World.ownsRow_nil w base e size
theorem own_blk {w : World} {base g : Nat} {e : TypeId} {size n cap : Nat} {cs : Array Value} (h : Blk w g e cs) (hb : base ≤ g) (hs : cs.size = cap * size) (hn : n ≤ cap) (hc : cap ≤ maxLen) :
    w.ownsRow base e size (.slice (some ⟨g, 0, none⟩) n cap) n (cs.toList.take (n * size)) :=
  ⟨by rw [List.length_take, Array.length_toList, hs]; exact Nat.min_eq_left (Nat.mul_le_mul_right _ hn), .inr ⟨g, cap, cs, rfl, hb, h, hn, hc, hs, rfl⟩⟩
theorem rd_blk {w : World} {t : TypeId} {xs : List Value} {g : Nat} (hb : Blk w g t xs.toArray) {n size : Nat} (h : xs.length = n * size) : Rd w (fun b => b = g) size (some ⟨g, 0, none⟩) n xs :=
  ⟨h, fun _ => ⟨_, 0, rfl, rfl, hb.lt, fun j u hu => by rw [hb.cell, Nat.zero_add]; simpa using hu⟩⟩
theorem rd_new (w : World) (t : TypeId) (xs : List Value) (n size : Nat) (h : xs.length = n * size) : Rd (w.alloc (.cells xs.toArray t)) (fun b => b = w.heap.size) size (some ⟨w.heap.size, 0, none⟩) n xs :=
  ⟨h, fun _ => ⟨_, 0, rfl, rfl, by simp, fun j u hu => by rw [(Blk.new w t xs.toArray).cell, Nat.zero_add]; simpa using hu⟩⟩
theorem run_append_rd {P : Program} (w : World) (base : Nat) (t ty e : TypeId) (size bytes : Nat) (hT : SlT P t e size bytes)
    (v : Value) (n : Nat) (xs : List Value) (hown : w.ownsRow base e size v n xs) (R : Nat → Prop) (A : Option Addr) (m c : Nat) (news : List Value) (hr : Rd w R size A m news) (h1 : ∀ u ∈ news, u.oneCell' = true)
    (h63 : n + m ≤ maxLen) (hbytes : (n + m) * bytes ≤ 140737488355328) (hbase : base ≤ w.heap.size) :
    ∃ v' w', (Builtin.append_ #[t, t] ty #[v, .slice A m c]).run P w = .ok v' w' ∧ w'.ownsRow base e size v' (n + m) (xs ++ news) ∧ Ext (fun k => v.ownBlock = some k) w w' ∧
      (v'.ownBlock = v.ownBlock ∨ v'.ownBlock = some w.heap.size) := by
  obtain ⟨ht, ⟨i, z, hi, hz, hsize, hby, hzs⟩, hsz⟩ := hT
  have hnil : A = none → ∃ v' w', (Builtin.append_ #[t, t] ty #[v, .slice none m c]).run P w = .ok v' w' ∧ w'.ownsRow base e size v' (n + m) (xs ++ news) ∧ Ext (fun k => v.ownBlock = some k) w w' ∧ (v'.ownBlock = v.ownBlock ∨ v'.ownBlock = some w.heap.size) := by
    rintro rfl
    have hm : m = 0 := by
      rcases Nat.eq_zero_or_pos m with h0 | h0
      · exact h0
      · obtain ⟨b, o, h, _⟩ := hr.2 h0
        cases h
    subst hm
    have hn : news = [] := List.eq_nil_of_length_eq_zero (by simpa using hr.1)
    subst hn
    refine ⟨v, w, ?_, by simpa using hown, Ext.refl _ _, .inl rfl⟩
    rcases hown.2 with ⟨rfl, rfl⟩ | ⟨g, cap, cur, rfl, _, _, hnc, _⟩
    · simp [Builtin.append_, run_underlying ht, sizeOf, typeInfo, hi, Builtin.lenOf, Builtin.firstCells]
    · simp [Builtin.append_, run_underlying ht, sizeOf, typeInfo, hi, Builtin.lenOf, Builtin.firstCells, hnc, storeCells]
  rcases A with _ | ad
  · exact hnil rfl
  · have hcells : ∀ j u, news[j]? = some u → w.cell? (ad.add j) = some u := by
      intro j u hu
      rcases Nat.eq_zero_or_pos m with h0 | h0
      · subst h0
        have hn : news = [] := List.eq_nil_of_length_eq_zero (by simpa using hr.1)
        subst hn
        simp at hu
      · obtain ⟨b, o, h, _, _, hc⟩ := hr.2 h0
        injection h with h
        subst h
        rw [Addr.add_lit]
        exact hc j u hu
    obtain ⟨v', w', hrun, h2, h3, _, h5⟩ := run_append_own_at (P := P) w base t ty e i z size bytes ht hi hz hsize hby hzs hsz v n xs hown ad m c news hr.1 hcells h1 h63 hbytes hbase
    exact ⟨v', w', hrun, h2, (Ext.refl _ w).grown h3 (fun k hk => .inl hk), h5⟩
theorem wp_append_rd {P : Program} {w : World} {o : Oper} {a : Act} {K : Act → World → Prop} {Q : Exit → Act → World → Prop} (s x : Operand) (t : TypeId)
    (ho : o.op = .call { callee := .builtin .append, args := #[s, x], argTypes := #[t, t] })
    (base : Nat) (e : TypeId) (size bytes : Nat) (hT : SlT P t e size bytes) (v : Value) (n : Nat) (xs : List Value) (hs : a.eval s = v) (hown : w.ownsRow base e size v n xs)
    (R : Nat → Prop) (A : Option Addr) (m c : Nat) (news : List Value) (hx : a.eval x = .slice A m c) (hr : Rd w R size A m news) (h1 : ∀ u ∈ news, u.oneCell' = true)
    (h63 : n + m ≤ maxLen) (hbytes : (n + m) * bytes ≤ 140737488355328) (hbase : base ≤ w.heap.size)
    (h : ∀ v' w', w'.ownsRow base e size v' (n + m) (xs ++ news) → Ext (fun k => v.ownBlock = some k) w w' → (v'.ownBlock = v.ownBlock ∨ v'.ownBlock = some w.heap.size) → K (a.put o.dst v') w') : o.wp P a w K Q := by
  obtain ⟨v', w', hrun, h2, h3, h4⟩ := run_append_rd (P := P) w base t o.type e size bytes hT v n xs hown R A m c news hr h1 h63 hbytes hbase
  unfold Oper.wp execOp
  simp only [ho, resolve, invoke, builtin, Sem.run_bind, Sem.run_pure, Result.andThen_ok, List.map_toArray, List.map_cons, List.map_nil, hs, hx, hrun]
  exact h v' w' h2 h3 h4
theorem wpList_append_rd {P : Program} {w : World} {ops : Array Oper} {rest : List Oper} {o : Oper} {a : Act} {Q : Exit → Act → World → Prop} (hgd : o.guard = none) (s x : Operand) (t : TypeId)
    (ho : o.op = .call { callee := .builtin .append, args := #[s, x], argTypes := #[t, t] })
    (base : Nat) (e : TypeId) (size bytes : Nat) (hT : SlT P t e size bytes) (v : Value) (n : Nat) (xs : List Value) (hs : a.eval s = v) (hown : w.ownsRow base e size v n xs)
    (R : Nat → Prop) (A : Option Addr) (m c : Nat) (news : List Value) (hx : a.eval x = .slice A m c) (hr : Rd w R size A m news) (h1 : ∀ u ∈ news, u.oneCell' = true)
    (h63 : n + m ≤ maxLen) (hbytes : (n + m) * bytes ≤ 140737488355328) (hbase : base ≤ w.heap.size)
    (h : ∀ v' w', w'.ownsRow base e size v' (n + m) (xs ++ news) → Ext (fun k => v.ownBlock = some k) w w' → (v'.ownBlock = v.ownBlock ∨ v'.ownBlock = some w.heap.size) → wpList P ops Q rest (a.put o.dst v') w') : wpList P ops Q (o :: rest) a w :=
  wpList_plain hgd fun _ hK => wp_append_rd s x t ho base e size bytes hT v n xs hs hown R A m c news hx hr h1 h63 hbytes hbase fun v' w' h2 h3 h4 => hK _ _ (h v' w' h2 h3 h4)
theorem step_append_rd {P : Program} {w : World} {ops : Array Oper} {o : Oper} {a : Act} {K : Act → World → Prop} {Q : Exit → Act → World → Prop} {E : Prop} (hgd : o.guard = none) (s x : Operand) (t : TypeId)
    (ho : o.op = .call { callee := .builtin .append, args := #[s, x], argTypes := #[t, t] })
    (base : Nat) (e : TypeId) (size bytes : Nat) (hT : SlT P t e size bytes) (v : Value) (n : Nat) (xs : List Value) (hs : a.eval s = v) (hown : w.ownsRow base e size v n xs)
    (R : Nat → Prop) (A : Option Addr) (m c : Nat) (news : List Value) (hx : a.eval x = .slice A m c) (hr : Rd w R size A m news) (h1 : ∀ u ∈ news, u.oneCell' = true)
    (h63 : n + m ≤ maxLen) (hbytes : (n + m) * bytes ≤ 140737488355328) (hbase : base ≤ w.heap.size)
    (h : ∀ v' w', w'.ownsRow base e size v' (n + m) (xs ++ news) → Ext (fun k => v.ownBlock = some k) w w' → (v'.ownBlock = v.ownBlock ∨ v'.ownBlock = some w.heap.size) → K (a.put o.dst v') w') :
    if Region.wanted o (yielded ops a.tmps) = true then Oper.wp P o a w K Q else E := by
  have hw : Region.wanted o (yielded ops a.tmps) = true := by simp [Region.wanted, hgd]
  rw [if_pos hw]
  exact wp_append_rd s x t ho base e size bytes hT v n xs hs hown R A m c news hx hr h1 h63 hbytes hbase h
theorem region_tail {P : Program} {id : Nat} {Q : Exit → Act → World → Prop} {a : Act} {w : World} {l : List Oper} (n : Nat) (hm : P.follows .mixedOrders = true) (hB : Region.lexTailB .any l.toArray n = true)
    (h : wpStill P l.toArray w.drew (fun a' => wpList P l.toArray Q (l.drop n) a' w.drew) (l.take n) a) : (Code.region id l.toArray true).wp P Q a w :=
  wp_region_still_tail n hm hB h
def fold (v n : Int) : Int := if n ≤ 1 then 0 else if v.tmod n < 0 then v.tmod n + n else v.tmod n
theorem fold_bd (v n : Int) (hn : 1 ≤ n) : 0 ≤ fold v n ∧ fold v n < n := by
  unfold fold
  split
  · omega
  · have := Int.lt_tmod_of_pos v (b := n) (by omega)
    have := Int.tmod_lt_of_pos v (b := n) (by omega)
    split <;> omega
theorem fold_nn (v n : Int) : 0 ≤ fold v n := by
  unfold fold
  split
  · omega
  · have := Int.lt_tmod_of_pos v (b := n) (by omega)
    have := Int.tmod_lt_of_pos v (b := n) (by omega)
    split <;> omega
def tapeAt (L : List Int) (k : Nat) : Int := if k < L.length then L.getD k 0 else ((k : Int) * 7) % 11
structure TapeIs (T : TypeId) (w : World) (b : Nat) (L : List Int) (k : Nat) : Prop where
  blk : ∃ A c, Blk w b T #[.slice A L.length c, .int .i64 (k : Int)] ∧ Rd w (· < b) 1 A L.length (L.map (Value.int .i64))
  len : L.length ≤ 9223372036854775807
  wf : ∀ i, i < L.length → -9223372036854775808 ≤ L.getD i 0 ∧ L.getD i 0 ≤ 9223372036854775807
theorem TapeIs.lt {T : TypeId} {w : World} {b : Nat} {L : List Int} {k : Nat} (h : TapeIs T w b L k) : b < w.heap.size := by
  obtain ⟨⟨A, c, hb, _⟩, _, _⟩ := h
  exact hb.lt
theorem TapeIs.ext {T : TypeId} {w w' : World} {b : Nat} {L : List Int} {k : Nat} {S : Nat → Prop} (h : TapeIs T w b L k) (e : Ext S w w') (hS : ∀ i, i ≤ b → ¬ S i) : TapeIs T w' b L k := by
  obtain ⟨⟨A, c, hb, hr⟩, h2, h3⟩ := h
  exact ⟨⟨A, c, hb.ext e (hS b (Nat.le_refl _)), hr.ext e fun i hi => hS i (Nat.le_of_lt hi)⟩, h2, h3⟩
theorem tape_new {T : TypeId} {w : World} {P : Nat → Prop} {A : Option Addr} {L : List Int} {c : Nat} (hl : L.length ≤ 9223372036854775807) (hr : Rd w P 1 A L.length (L.map (Value.int .i64)))
    (hb : ∀ i, i < L.length → -9223372036854775808 ≤ L.getD i 0 ∧ L.getD i 0 ≤ 9223372036854775807) : TapeIs T (w.alloc (.cells #[.slice A L.length c, .int .i64 0] T)) w.heap.size L 0 :=
  ⟨⟨A, c, Blk.new w T _, hr.lt.ext ((Ext.refl No w).alloc _) (fun _ _ h => h)⟩, hl, hb⟩
end Go.Proofs.YthconflkbeipoaaGreatDoor
namespace Go.Proofs.YthconflkbeipoaaGreatDoor
def Pin (w : World) : Prop := ∃ m, w.cell? ⟨0, 0, none⟩ = some (.int .i64 m)
def PinB (b : Nat) : Prop := b = 0
theorem Pin.stay {w w' : World} (h : ∀ b, PinB b → w'.heap[b]? = w.heap[b]?) (hp : Pin w) : Pin w' := by
  obtain ⟨m, hm⟩ := hp
  exact ⟨m, (World.cell?_of_block (h 0 rfl)).trans hm⟩
end Go.Proofs.YthconflkbeipoaaGreatDoor
