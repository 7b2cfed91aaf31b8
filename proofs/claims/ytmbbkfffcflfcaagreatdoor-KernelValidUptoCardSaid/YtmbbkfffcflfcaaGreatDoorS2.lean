/- What the program computes, and the plain laws of it, part 2. -/
import Derived.Lib.Bytealg
import Derived.Test.YtmbbkfffcflfcaaGreatDoorS1
namespace Go.Proofs.YtmbbkfffcflfcaaGreatDoor
open Go.RowKit
open IntWalk renaming iteOmega → O, toNatUp → U
set_option linter.unusedVariables false
set_option linter.unusedSimpArgs false
section
variable {α:Type} {f:α → List Value} {size:Nat}
def rows (f:α → List Value) (l:List α):List Value:=l.flatMap f
def Sl (w:World) (P:Nat → Prop) (size:Nat) (f:α → List Value) (v:Value) (l:List α):Prop:=∃ A c,v = .slice A l.length c∧l.length≤c∧Rd w P size A l.length (rows f l)
variable {w w':World} {P Q S:Nat → Prop} {v:Value} {l:List α}
theorem Sl.ext (h:Sl w P size f v l) (e:Ext S w w') (hS:∀ b,P b → ¬ S b):Sl w' P size f v l:=by
 obtain ⟨A,c,rfl,hc,hr⟩:=h
 exact ⟨A,c,rfl,hc,hr.ext e hS⟩
theorem Sl.more (h:Sl w P size f v l) (hP:∀ b,P b → Q b):Sl w Q size f v l:=by
 obtain ⟨A,c,rfl,hc,hr⟩:=h
 exact ⟨A,c,rfl,hc,hr.more hP⟩
theorem Sl.drew (h:Sl w P size f v l):Sl w.drew P size f v l:=h
theorem Sl.lt (h:Sl w P size f v l):Sl w (fun b=>P b∧b < w.heap.size) size f v l:=by
 obtain ⟨A,c,rfl,hc,hr⟩:=h
 exact ⟨A,c,rfl,hc,hr.and hr.lt⟩
theorem Sl.nil:Sl w P size f (.slice none 0 0) []:=⟨none,0,rfl,Nat.le_refl _,Rd.nil⟩
theorem Sl.own {base:Nat} {e:TypeId} {n:Nat} (h:w.ownsRow base e size v n (rows f l)) (hn:n=l.length):Sl w (base ≤ ·) size f v l:=by
 subst hn
 obtain ⟨A,c,rfl,hc,_,hr⟩:=own_form h
 exact ⟨A,c,rfl,hc,hr⟩
end
theorem bl_eq:∀ (x y:List UInt8),Op.bytesLess x y=decide (x < y)
 | [],[]=>by simp [Op.bytesLess]
 | _ :: _,[]=>by simp [Op.bytesLess]
 | [],_ :: _=>by simp [Op.bytesLess]
 | a :: x,b :: y=>by
  have ih:=bl_eq x y
  simp only [Op.bytesLess,ih,List.cons_lt_cons_iff]
  by_cases h1:a < b<;>by_cases h2:a=b<;>by_cases h3:x < y<;>simp [h1,h2,h3]
def bless (a b:ByteArray):Bool:=Op.bytesLess a.toList b.toList
theorem bless_lt (a b:ByteArray):bless a b=true ↔ a.toList < b.toList:=by
 unfold bless;rw [bl_eq];simp
theorem bless_irrefl (a:ByteArray):bless a a=false:=by
 rw [Bool.eq_false_iff,ne_eq,bless_lt];exact List.lt_irrefl _
theorem bless_trans {a b c:ByteArray} (h:bless a b=true) (k:bless b c=true):bless a c=true:=by
 rw [bless_lt] at *;exact List.lt_trans h k
theorem bless_asymm {a b:ByteArray} (h:bless a b=true):bless b a=false:=by
 rw [Bool.eq_false_iff,ne_eq,bless_lt];rw [bless_lt] at h;exact List.lt_asymm h
theorem bless_total {a b:ByteArray} (h:bless a b=false) (k:bless b a=false):a=b:=by
 rw [Bool.eq_false_iff,ne_eq,bless_lt] at h k
 rw [← blist_inj]
 exact List.le_antisymm (List.not_lt.1 k) (List.not_lt.1 h)
theorem bless_ne {a b:ByteArray} (h:bless a b=true):a≠b:=by
 rintro rfl;rw [bless_irrefl] at h;cases h
theorem compare_lt:∀ x y:List UInt8,Lib.compareBytes x y < 0 ↔ Op.bytesLess x y=true
 | [],[]=>by simp [Lib.compareBytes,Op.bytesLess]
 | [],_ :: _=>by simp [Lib.compareBytes,Op.bytesLess]
 | _ :: _,[]=>by simp [Lib.compareBytes,Op.bytesLess]
 | a :: x,b :: y=>by
  have ih:=compare_lt x y
  simp only [Lib.compareBytes,Op.bytesLess]
  by_cases h1:a < b
  ·simp [h1]
  ·by_cases h2:b < a
   ·have h3:a≠b:=by rintro rfl;exact h1 h2
    simp [h1,h2,h3]
   ·have h3:a=b:=by
     have e1:¬ a.toNat < b.toNat:=fun h=>h1 (UInt8.lt_iff_toNat_lt.2 h)
     have e2:¬ b.toNat < a.toNat:=fun h=>h2 (UInt8.lt_iff_toNat_lt.2 h)
     exact UInt8.toNat.inj (by omega)
    subst h3
    simp [h1,ih]
theorem compare_eq:∀ x y:List UInt8,Lib.compareBytes x y=0 ↔ x=y
 | [],[]=>by simp [Lib.compareBytes]
 | [],_ :: _=>by simp [Lib.compareBytes]
 | _ :: _,[]=>by simp [Lib.compareBytes]
 | a :: x,b :: y=>by
  have ih:=compare_eq x y
  simp only [Lib.compareBytes]
  by_cases h1:a < b
  ·have h3:a≠b:=by rintro rfl;exact UInt8.lt_irrefl _ h1
   simp [h1,h3]
  ·by_cases h2:b < a
   ·have h3:a≠b:=by rintro rfl;exact h1 h2
    simp [h1,h2,h3]
   ·have h3:a=b:=by
     have e1:¬ a.toNat < b.toNat:=fun h=>h1 (UInt8.lt_iff_toNat_lt.2 h)
     have e2:¬ b.toNat < a.toNat:=fun h=>h2 (UInt8.lt_iff_toNat_lt.2 h)
     exact UInt8.toNat.inj (by omega)
    subst h3
    simp [h1,ih]
end Go.Proofs.YtmbbkfffcflfcaaGreatDoor
