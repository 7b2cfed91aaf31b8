/- What the program computes, and the plain laws of it, part 14. -/
import Derived.Lib.SplitLaws
import Derived.Lib.IndexBytes
import Derived.Lib.ReplaceLaws
import Derived.Shelf.Strings.Builder1
import Derived.Shelf.Strings.Builder2
import Derived.Shelf.Strings.OnBuilder
import Derived.Shelf.Small.Utf8
import Derived.Shelf.Small.Strs
import Derived.Shelf.Small.Wraps
import Derived.Shelf.Strings.Search1
import Derived.Shelf.Strings.Search2
import Derived.Shelf.Strings.Search3
import Derived.Shelf.Strings.Count
import Derived.Shelf.Strings.Shaped
import Derived.Shelf.Strings.Prefix
import Derived.Shelf.Strings.Split
import Derived.Shelf.Strings.Replace
import Derived.Shelf.Unicode.Latin
import Derived.Shelf.Strings.Runes
import Derived.Shelf.Strings.IndexAny
import Derived.Shelf.Strings.AsciiSet
import Derived.Shelf.Strings.IndexAnyAll
import Derived.Shelf.Unicode.DecodeSlow
import Derived.Shelf.Unicode.CaseLookup
import Derived.Shelf.Unicode.CaseConvert
import Derived.Shelf.Unicode.CaseTo
import Derived.Shelf.Unicode.CaseLaid
import Derived.Shelf.Slices.Turned
import Derived.Shelf.Slices.Delete
import Derived.Test.YtmbbkfffcflfcaaGreatDoorProg
import Derived.Test.YtmbbkfffcflfcaaGreatDoorT13
namespace Go.Proofs.YtmbbkfffcflfcaaGreatDoor
open Go.Proofs.Tryz
set_option linter.unusedSimpArgs false
set_option linter.unusedVariables false
section
open Go.RowKit
open IntWalk renaming iteOmega → O, toNatUp → U
theorem az {α:Type} {a:Option α} {b c:α} (h:a=some b) (k:b=c:=by kernel_rfl):a=some c:=h.trans (congrArg some k)
def plusL (cs:List Bool) (t:List UInt8):List Bool:=t.foldl (fun cs b=>cs.set b.toNat true) cs
theorem aX:∀ (t:List UInt8) (cs:List Bool),(plusL cs t).length=cs.length
 | [],_=>rfl
 | b :: t,cs=>by have:=aX t (cs.set b.toNat true);rw [List.length_set] at this;exact this
theorem dL:∀ (t:List UInt8) (cs:List Bool) (b:UInt8),cs.length=256 → (plusL cs t).getD b.toNat false=(cs.getD b.toNat false || t.contains b)
 | [],cs,b,_=>by simp [plusL]
 | a :: t,cs,b,h=>by
  have hb:=b.toNat_lt;have:=dL t (cs.set a.toNat true) b (by rw [List.length_set];exact h);rw [show plusL cs (a :: t)=plusL (cs.set a.toNat true) t from rfl,this,List.contains_cons];by_cases e:b=a
  ·subst e;have:(cs.set b.toNat true).getD b.toNat false=true:=by rw [List.getD_eq_getElem?_getD,List.getElem?_set_self ac];rfl
   rw [this];simp
  ·have hne:a.toNat≠b.toNat:=fun h=>e (UInt8.toNat_inj.1 h.symm)
   have:(cs.set a.toNat true).getD b.toNat false=cs.getD b.toNat false:=by rw [List.getD_eq_getElem?_getD,List.getElem?_set_ne hne,← List.getD_eq_getElem?_getD]
   rw [this,show (b == a)=false by simpa using e,Bool.false_or]
theorem yu (cs:List Bool) (t:List UInt8) (b:UInt8):plusL cs (t++[b])=(plusL cs t).set b.toNat true:=by simp [plusL]
def upperT:List UInt8:=[65,66,67,68,69,70,71,72,73,74,75,76,77,78,79,80,81,82,83,84,85,86,87,88,89,90]
def lowerT:List UInt8:=[97,98,99,100,101,102,103,104,105,106,107,108,109,110,111,112,113,114,115,116,117,118,119,120,121,122]
def digitT:List UInt8:=[48,49,50,51,52,53,54,55,56,57]
def Ey:List UInt8:=[95,46,58,43,45]
def noneL:List Bool:=List.replicate 256 false
def commonL:List Bool:=plusL (plusL (plusL (plusL noneL upperT) lowerT) digitT) Ey
theorem cQ:noneL.length=256:=List.length_replicate
theorem fk:commonL.length=256:=by rw [commonL,aX,aX,aX,aX,cQ]
def Ez:List UInt8:=upperT++lowerT++digitT++Ey++[33]
def qX (b:UInt8):Bool:=Ez.contains b
theorem Bv (b:UInt8):(plusL commonL [33]).getD b.toNat false=qX b:=by
 have h0:noneL.getD b.toNat false=false:=by unfold noneL;rw [List.getD_eq_getElem?_getD,List.getElem?_replicate];split<;>rfl
 rw [dL _ _ _ fk,commonL,dL _ _ _ (by rw [aX,aX,aX,cQ]),dL _ _ _ (by rw [aX,aX,cQ]),dL _ _ _ (by rw [aX,cQ]),dL _ _ _ cQ,h0];rw [Bool.eq_iff_iff];simp only [qX,Ez,Bool.or_eq_true,List.contains_iff_mem,List.mem_append,Bool.false_eq_true,false_or]
def ik (cs:List Bool) (s:ByteArray):Bool:=s.data.toList.all fun b=>cs.getD b.toNat false
def fH (s:ByteArray):Bool:=decide (s=⟨#[46]⟩) || decide (s=⟨#[46,46]⟩)
def validS (s:ByteArray):Bool:=(((decide (s≠⟨#[]⟩) && decide (s.size≤32)) && !fH s) && s.data.toList.all qX)
theorem EA (s:ByteArray):ik (plusL commonL [33]) s=s.data.toList.all qX:=by unfold ik;simp only [Bv]
def spl:List UInt8 → List (List UInt8)
 | []=>[[]]
 | b :: l=>if b=47 then [] :: spl l else match spl l with
  | []=>[[b]]
  | h :: t=>(b :: h) :: t
theorem Jo (l:List UInt8):spl l≠[]:=by
 cases l with
 | nil=>simp [spl]
 | cons b l=>rw [spl];split;simp;split<;>simp
theorem qY:∀ {l:List UInt8},(47:UInt8) ∉ l → spl l=[l]
 | [],_=>rfl
 | b :: l,h=>by
  simp only [List.mem_cons,not_or] at h;rw [spl,if_neg (fun e=>h.1 e.symm),qY h.2]
theorem uT:∀ {a:List UInt8} (r:List UInt8),(47:UInt8) ∉ a → spl (a++47 :: r)=a :: spl r
 | [],r,_=>by rw [List.nil_append,spl,if_pos rfl]
 | b :: a,r,h=>by
  simp only [List.mem_cons,not_or] at h;rw [List.cons_append,spl,if_neg (fun e=>h.1 e.symm),uT r h.2]
theorem qZ:∀ (k:Nat) (s:List UInt8),s.count 47=k → Lib.splitK [47] 0 k s=spl s
 | 0,s,h=>by rw [qY (List.count_eq_zero.1 h)];rfl
 | k+1,s,h=>by
  have hmem:(47:UInt8) ∈ s:=List.count_pos_iff.1 ac;obtain ⟨a,r,rfl,ha⟩:∃ a r,s=a++47 :: r∧(47:UInt8) ∉ a:=by
   clear h;induction s with
   | nil=>simp at hmem
   | cons b s ih =>
    by_cases e:b=47
    ·subst e;exact ⟨[],s,rfl,by simp⟩
    ·obtain ⟨a,r,rfl,ha⟩:=ih (by simpa [Ne.symm e] using hmem);exact ⟨b :: a,r,rfl,by simp [ha,Ne.symm e]⟩
  have hi:Lib.index (a++47 :: r) [47]=(a.length:Int):=by
   rw [Lib.index_one];clear h;induction a with
   | nil=>simp [Lib.indexByte]
   | cons b a ih =>
    simp only [List.mem_cons,not_or] at ha;have:=ih ha.2 (by simp);rw [List.cons_append,Lib.indexByte,if_neg (by simpa using Ne.symm ha.1),this,if_neg (by simp)];simp
  have hc:r.count 47=k:=by
   rw [List.count_append,List.count_cons_self,List.count_eq_zero.2 ha] at h;omega
  rw [Lib.splitK,hi,if_neg (by simp),uT r ha];simp only [Int.toNat_natCast,Nat.add_zero,List.length_cons,List.length_nil,Nat.zero_add];rw [List.take_left,List.drop_append,List.drop_eq_nil_of_le ac,List.nil_append,show a.length+1 - a.length=1 by omega];simp only [List.drop_succ_cons,List.drop_zero];rw [qZ k r hc]
def unT (l:List UInt8):ByteArray:=⟨l.toArray⟩
theorem EB (s:ByteArray):unT s.data.toList=s:=rfl
def parts (s:ByteArray):List ByteArray:=(spl s.data.toList).map unT
theorem EC (s:ByteArray):0 < (parts s).length:=by
 unfold parts;rw [List.length_map];exact List.length_pos_iff.2 (Jo _)
theorem m6 (s:ByteArray):Lib.splitB ⟨#[47]⟩ 0 (Lib.countB s ⟨#[47]⟩) s=parts s:=by
 have h:=Lib.splitB_data ⟨#[47]⟩ 0 (Lib.countB s ⟨#[47]⟩) s;have hc:Lib.countB s ⟨#[47]⟩=s.data.toList.count 47:=Lib.count_one 47 s.data.toList;have h2:=qZ _ s.data.toList hc.symm;have e:(⟨#[47]⟩:ByteArray).data.toList=[47]:=rfl;rw [e,h2] at h;unfold parts;rw [← h,List.map_map]
 conv=>lhs;rw [← List.map_id (Lib.splitB _ _ _ _)]
 exact List.map_congr_left fun x _=>rfl
def jy (s:ByteArray):Bool:=Lib.hasPrefix s.data.toList [47]
def gm (s:ByteArray):ByteArray:=if jy s=true then s.extract 1 s.size else s
def dP (s:ByteArray):Option (List ByteArray):=if jy s=true∧(parts (gm s)).all validS=true then some (parts (gm s)) else none
theorem gU:∀ {s:ByteArray},(parts s).length≤s.size+1:=by
 intro s;unfold parts;rw [List.length_map];have:∀ l:List UInt8,(spl l).length≤l.length+1:=by
  intro l;induction l with
  | nil=>simp [spl]
  | cons b l ih =>
   rw [spl];split
   ·simp only [List.length_cons];omega
   ·split
    ·simp
    ·rename_i h t e;rw [e] at ih;simp only [List.length_cons] at ih ⊢;omega
 have h:=this s.data.toList
 rwa [show s.data.toList.length=s.size from rfl] at h
def iZ (a b:ByteArray):Int:=if bh a b=true then -1 else if bh b a=true then 1 else 0
def cu:List ByteArray → List ByteArray → Int
 | [],[]=>0
 | [],_ :: _ => -1
 | _ :: _,[]=>1
 | a :: l,b :: m=>if a=b then cu l m else iZ a b
theorem qm {a b:ByteArray}:iZ a b=0 ↔ a=b:=by
 unfold iZ;constructor
 ·intro h;split at h
  ·omega
  ·split at h
   ·omega
   ·rename_i h1 h2;exact ip (by simpa using h1) (by simpa using h2)
 ·rintro rfl;rw [if_neg (fun h=>dJ h rfl),if_neg (fun h=>dJ h rfl)]
theorem By (a b:ByteArray):iZ b a = -iZ a b:=by
 unfold iZ;by_cases h1:bh a b=true
 ·have:=kj h1;rw [if_pos h1,this];simp [h1]
 ·by_cases h2:bh b a=true
  ·rw [if_pos h2,if_neg h1,if_pos h2]
  ·rw [if_neg h2,if_neg h1,if_neg h1,if_neg h2];rfl
theorem m7:∀ {l m:List ByteArray},cu l m=0 ↔ l=m
 | [],[]=>by simp [cu]
 | [],_ :: _=>by simp [cu]
 | _ :: _,[]=>by simp [cu]
 | a :: l,b :: m=>by
  rw [cu];split
  ·rename_i e;subst e;rw [m7];simp
  ·rename_i e;rw [qm];simp [e]
theorem tz:∀ (l m:List ByteArray),cu m l = -cu l m
 | [],[]=>rfl
 | [],_ :: _=>rfl
 | _ :: _,[]=>rfl
 | a :: l,b :: m=>by
  rw [cu,cu];by_cases e:a=b
  ·subst e;rw [if_pos rfl,if_pos rfl];exact tz l m
  ·rw [if_neg e,if_neg (Ne.symm e)];exact By a b
theorem m8 {a b:ByteArray}:iZ a b < 0 ↔ bh a b=true:=by
 unfold iZ;split
 ·rename_i h;simp [h]
 ·rename_i h;split<;>simp [h]
theorem me:∀ {l m n:List ByteArray},cu l m < 0 → cu m n < 0 → cu l n < 0
 | [],[],_,h,_=>by simp [cu] at h
 | _ :: _,[],_,h,_=>by simp [cu] at h
 | _,_ :: _,[],_,h=>by simp [cu] at h
 | [],_ :: _,_ :: _,_,_=>by simp [cu]
 | a :: l,b :: m,c :: n,h1,h2=>by
  rw [cu] at h1 h2 ⊢;by_cases e1:a=b
  ·subst e1;rw [if_pos rfl] at h1;by_cases e2:a=c
   ·subst e2;rw [if_pos rfl] at h2 ⊢;exact me h1 h2
   ·rw [if_neg e2] at h2 ⊢;exact h2
  ·rw [if_neg e1] at h1;by_cases e2:b=c
   ·subst e2;rw [if_neg e1];exact h1
   ·rw [if_neg e2] at h2;have h3:=fW (m8.1 h1) (m8.1 h2);rw [if_neg (dJ h3)];exact m8.2 h3
def m9 (s:ByteArray):ByteArray:=⟨(Lib.replaceAll s.data.toList [33] [47]).toArray⟩
def bR (b:UInt8):Bool:=decide (32≤b.toNat) && decide (b.toNat≤126)
def fJ (s:ByteArray):Bool:=s.data.toList.all bR && decide (s.size≤256)
theorem tC {s:ByteArray} {k:Nat} (h:k < s.size):∃ h':k < s.data.toList.length,s.data.toList.getD k 0=s.data.toList[k]:=⟨h,by rw [List.getD_eq_getElem?_getD,List.getElem?_eq_getElem (show k < s.data.toList.length from h)];rfl⟩
theorem nc {p:UInt8 → Bool} {s:ByteArray} {k:Nat} (h:k < s.size) (ha:(s.data.toList.take k).all p=true) (hp:p (s.data.toList.getD k 0)=true):(s.data.toList.take (k+1)).all p=true:=by
 obtain ⟨h',e⟩:=tC h;rw [List.take_succ_eq_append_getElem h',List.all_append,ha,← e,List.all_cons,hp];rfl
theorem lx {p:UInt8 → Bool} {s:ByteArray} {k:Nat} (h:k < s.size) (hp:p (s.data.toList.getD k 0)=false):s.data.toList.all p=false:=by
 obtain ⟨h',e⟩:=tC h;exact List.all_eq_false.2 ⟨s.data.toList.getD k 0,by rw [e];exact List.getElem_mem _,by rw [hp];decide⟩
def gV (s:ByteArray):Bool:=(validS s && decide (s.size≤15)) && !(s.data.toList.contains 58 || s.data.toList.contains 33)
theorem wB (b:UInt8) (h:qX b=true):b.toNat < 128:=by
 have:∀ b ∈ Ez,b.toNat < 128:=af;exact this b (by unfold qX at h;exact List.contains_iff_mem.1 h)
theorem wC {s:ByteArray} (h:validS s=true):∀ (j:Nat) b,s.data.toList[j]? = some b → b.toNat < 128:=fun j b hb=>by
 unfold validS at h;simp only [Bool.and_eq_true] at h;exact wB b (List.all_eq_true.1 h.2 b (List.mem_of_getElem? hb))
theorem cE {s:ByteArray} (h:validS s=true):s.size≤32:=by
 unfold validS at h;simp only [Bool.and_eq_true,decide_eq_true_eq] at h;exact h.1.1.2
def linkL:List Bool:=plusL commonL [64,35,61,37]
theorem tD:linkL.length=256:=by rw [linkL,aX,fk]
def q7 (s:ByteArray):Bool:=(decide (s≠⟨#[]⟩) && !fH s) && ik linkL s
def linkS (s:ByteArray):Bool:=decide (s.size≤256) && (parts s).all q7
theorem tG {s x:ByteArray} (h:x ∈ parts s):x.size≤s.size:=by
 have spl_mem:∀ {l x:List UInt8},x ∈ spl l → x.length≤l.length:=by
  intro l;induction l with
  | nil=>intro x h;simp [spl] at h;subst h;simp
  | cons b l ih =>
   intro x h;rw [spl] at h;split at h
   ·rcases List.mem_cons.1 h with rfl|h
    ·simp
    ·have:=ih h;simp only [List.length_cons];omega
   ·split at h
    ·rename_i e;simp at h;subst h;simp
    ·rename_i y t e;have hy:y ∈ spl l:=by rw [e];simp
     rcases List.mem_cons.1 h with rfl|h
     ·have:=ih hy;simp only [List.length_cons];omega
     ·have hx:x ∈ spl l:=by rw [e];simp [h]
      have:=ih hx;simp only [List.length_cons];omega
 unfold parts at h;obtain ⟨y,hy,rfl⟩:=List.mem_map.1 h;exact spl_mem hy
def byt (p:ByteArray) (i:Nat):UInt8:=p.data.toList.getD i 0
def br (cs:List Bool) (a:Nat):Nat → List Bool
 | 0=>cs
 | k+1=>(br cs a k).set (a+k) true
theorem cR (cs:List Bool) (a:Nat):∀ n,(br cs a n).length=cs.length
 | 0=>rfl
 | n+1=>by rw [br,List.length_set,cR cs a n]
theorem ly (cs:List Bool) (a i:Nat):∀ n,(br cs a n).getD i false=(cs.getD i false || (decide (a≤i∧i < a+n) && decide (i < cs.length)))
 | 0=>by
  have:¬(a≤i∧i < a+0):=ac;rw [br,decide_eq_false this];simp
 | n+1=>by
  rw [br];by_cases h:a+n=i
  ·subst h;by_cases hl:a+n < cs.length
   ·rw [List.getD_eq_getElem?_getD,List.getElem?_set_self (by rw [cR];exact hl)];rw [decide_eq_true hl,decide_eq_true (by omega:a≤a+n∧a+n < a+(n+1))];simp
   ·have e:(br cs a n).set (a+n) true=br cs a n:=List.set_eq_of_length_le (by rw [cR];omega);rw [e,ly cs a (a+n) n,decide_eq_false hl];simp
  ·rw [List.getD_eq_getElem?_getD,List.getElem?_set_ne h,← List.getD_eq_getElem?_getD,ly cs a i n];by_cases h2:a≤i∧i < a+n
   ·rw [decide_eq_true h2,decide_eq_true (by omega:a≤i∧i < a+(n+1))]
   ·rw [decide_eq_false h2,decide_eq_false (by omega:¬(a≤i∧i < a+(n+1)))]
def dn:List Bool:=List.replicate 127 false
def fA:List Bool:=br dn 32 95
def jz (p:ByteArray) (i:Nat):Bool:=decide (i+2 < p.size) && (byt p (i+1) == 45) && (byt p (i+2) != 93)
def dq (p:ByteArray) (i:Nat):UInt8:=if jz p i then byt p (i+2) else byt p i
def cH (p:ByteArray) (i:Nat):Nat:=if jz p i then i+3 else i+1
def eR (p:ByteArray) (i:Nat) (cs:List Bool):List Bool:=br cs (byt p i).toNat ((dq p i).toNat+1 - (byt p i).toNat)
theorem f8 (p:ByteArray) (i:Nat):i < cH p i:=by unfold cH;split<;>omega
theorem nf {p:ByteArray} {i:Nat} (h:i < p.size):cH p i≤p.size:=by
 unfold cH jz;split
 ·rename_i h2;simp only [Bool.and_eq_true,decide_eq_true_eq] at h2;omega
 ·omega
theorem i6 (p:ByteArray) (i:Nat) (cs:List Bool):(eR p i cs).length=cs.length:=cR _ _ _
def aT (p:ByteArray) (i:Nat) (cs:List Bool):Option (List Bool × Nat) :=
 if h:p.size≤i then none
 else if byt p i=93 then some (cs,i)
 else if byt p i≤dq p i then aT p (cH p i) (eR p i cs) else none
termination_by p.size - i
decreasing_by have:=f8 p i;omega
def gk (cs:List Bool):Nat → List Bool
 | 0=>cs
 | k+1=>(gk cs k).set (32+k) (fA.getD (32+k) false && !(gk cs k).getD (32+k) false)
theorem i7 (cs:List Bool):∀ n,(gk cs n).length=cs.length
 | 0=>rfl
 | n+1=>by rw [gk,List.length_set,i7 cs n]
def q8 (cs:List Bool):List Bool:=gk cs 95
theorem q9 {k:Nat} (h:k < 95):fA.getD (32+k) false=true:=by
 unfold fA;rw [ly,decide_eq_true (by omega:32≤32+k∧32+k < 32+95),decide_eq_true (by show 32+k < 127;omega)];simp
theorem bZ:fA.length=127:=by unfold fA;rw [cR];rfl
def jA (p:ByteArray) (i:Nat):Bool:=decide (i < p.size) && (byt p i == 33)
def setJ (p:ByteArray) (i:Nat):Nat:=if jA p i then i+1 else i
def bY (p:ByteArray) (i:Nat):Option (List Bool × Nat) :=
 if p.size≤setJ p i∨byt p (setJ p i)=93 then none
 else match aT p (setJ p i) dn with
  | none=>none
  | some r=>some (if jA p i then q8 r.1 else r.1,r.2+1)
theorem tH {p:ByteArray}:∀ {i:Nat} {cs:List Bool} {r:List Bool × Nat},aT p i cs=some r → i≤r.2∧r.2 < p.size∧r.1.length=cs.length:=by
 intro i;induction i using (measure fun i=>p.size - i).wf.induction with
 | _ i ih =>
  intro cs r h;rw [aT] at h;split at h
  ·cases h
  ·rename_i h1;split at h
   ·cases h;exact ⟨Nat.le_refl _,ac,rfl⟩
   ·split at h
    ·have hm:=f8 p i;have:=ih (cH p i) (by show p.size - cH p i < p.size - i;omega) h;rw [i6] at this;exact ⟨ac,this.2⟩
    ·cases h
theorem Ar (p:ByteArray) (i:Nat):i≤setJ p i:=by unfold setJ;split<;>omega
theorem kM {p:ByteArray} {i:Nat} {r:List Bool × Nat} (h:bY p i=some r):i < r.2∧r.2≤p.size∧r.1.length=127:=by
 unfold bY at h;split at h
 ·cases h
 ·cases hg:aT p (setJ p i) dn with
  | none=>rw [hg] at h;cases h
  | some q =>
   rw [hg] at h;have:=tH hg;have hj:=Ar p i;cases h;have hl:q.1.length=127:=by rw [this.2.2];rfl
   refine ⟨by show i < q.2+1;omega,by show q.2+1≤p.size;omega,?_⟩;show (if jA p i=true then q8 q.1 else q.1).length=127;split
   ·unfold q8;rw [i7];exact hl
   ·exact hl
def kN:El:=⟨0,true,fA⟩
def ra:El:=⟨0,false,fA⟩
def rb (b:UInt8):El:=⟨b.toNat,false,dn.set b.toNat true⟩
def bE (p:ByteArray) (i:Nat) (l:List (List El)) (x:List El):Option (List (List El)) :=
 if h:p.size≤i then some (l++[x])
 else if byt p i=124 then bE p (i+1) (l++[x]) []
 else if byt p i=42 then bE p (i+1) l (x++[kN])
 else if byt p i=63 then bE p (i+1) l (x++[ra])
 else if byt p i=91 then match hs:bY p (i+1) with
  | none=>none
  | some r=>bE p r.2 l (x++[⟨0,false,r.1⟩])
 else bE p (i+1) l (x++[rb (byt p i)])
termination_by p.size - i
decreasing_by all_goals first|omega|(have:=kM hs;omega)
def eH (p:ByteArray):Option (List (List El)):=bE p 0 [] []
def cA (p:ByteArray):Int:=if 256 < p.size then 21 else if !(p.data.toList.all bR) then 20 else match eH p with|none=>20|some _=>0
def bH (p s:ByteArray):Bool:=decide (cA p=0) && (s.data.toList.all bR) && match eH p with|none=>false|some l=>l.any fun x=>mat x s.data.toList
theorem lz {w:World} {Γ:G}:∀ {vs xs:List Value},ay (RP w Γ) (vs.map fun v=>.c (.v v)) xs → xs=vs
 | [],_,h=>by rw [List.map_nil,ay.nil_l] at h;exact h
 | v :: vs,xs,h=>by
  rw [List.map_cons,ay.cons_l] at h;obtain ⟨y,m,rfl,h1,h2⟩:=h;rw [lz h2,h1.1]
theorem gq {w w':World} (hB:Below w.heap.size w w'):Ext No w w':=⟨hB.os,hB.tape,hB.output,hB.size,fun k hk _=>hB.block k hk⟩
theorem da {P:Program} {g:FuncId} (vs:List Value) (v:Value) (hv:v.oneCell'=true) (h:∀ w,Pin w → Calls P g vs.toArray w fun e w'=>e = .returned v∧Below w.heap.size w w') :
  ah P g (vs.map fun v=>.c (.v v)) [] fun r os=>r = .c (.v v)∧os=[]:=fun Γ w xs hm hx=>by
 rw [lz hx];refine (h w hm.pin.1).mono ?_;rintro e w' ⟨rfl,hB⟩;have hE:=gq hB;exact ⟨_,[],Γ,_,rfl,⟨rfl,rfl⟩,⟨rfl,hv⟩,Nat.le_refl _,hm.same (bS.of_ext hE),ep hE⟩
theorem sC {P:Program} {g:FuncId} (vs:List Value) (v u:Value) (hv:v.oneCell'=true) (hu:u.oneCell'=true) (h:∀ w,Pin w → Calls P g vs.toArray w fun e w'=>e = .returned (.tuple #[v,u])∧Below w.heap.size w w') :
  ah P g (vs.map fun v=>.c (.v v)) [] fun r os=>r = .two (.c (.v v)) (.c (.v u))∧os=[]:=fun Γ w xs hm hx=>by
 rw [lz hx];refine (h w hm.pin.1).mono ?_;rintro e w' ⟨rfl,hB⟩;have hE:=gq hB;exact ⟨_,[],Γ,_,rfl,⟨rfl,rfl⟩,⟨_,_,rfl,⟨rfl,hv⟩,⟨rfl,hu⟩⟩,Nat.le_refl _,hm.same (bS.of_ext hE),ep hE⟩
theorem yv {P:Program} {g:FuncId} (vs:List Value) (T:TypeId) (rows:List (List D)) (cells:List Value) (sz:Nat) (hsz:0 < sz) (hr:∀ r ∈ rows,r.length=sz) (hn:0 < rows.length) (hc:∀ w I,ay (RD w I) rows.flatten cells)
  (h:∀ w,Pin w → Calls P g vs.toArray w fun e w'=>∃ v,e = .returned v∧w'.ownsRow w.heap.size T sz v rows.length cells∧Below w.heap.size w w') :
  ah P g (vs.map fun v=>.c (.v v)) [] fun r os=>r = .c (.own 0 rows.length)∧os=[.arr T sz rows]:=fun Γ w xs hm hx=>by
 rw [lz hx];refine (h w hm.pin.1).mono ?_;rintro e w' ⟨v,rfl,hrow,hB⟩;have hE:=gq hB;have hS:=bS.of_ext hE;have hn0:Γ.n=0:=hm.n;obtain ⟨b,c,rfl,h4,h5,h6,h7,h8,h9⟩:=jr (k:=Γ.n) (Γ:=Γ) (rows:=rows) hrow hn hsz hr rfl;have hro:=h9 (Γ.push b c) (by simp [G.push,ax]) (by simp [G.push,ax]) (hc _ _);refine ⟨_,_,Γ.push b c,_,rfl,⟨rfl,rfl⟩,?_,by simp,hm.push hS _ b c hro (fun _=>h6),cz hm hE b c (fun _=>h6) (Nat.zero_le _)⟩;have hrep:iJ (Γ.push b c) Γ.n rows.length (.slice (some ⟨b,0,none⟩) rows.length c):=.inr ⟨by simp [G.push,ax,h4],by simp [G.push,ax],by simp [G.push,ax];exact h5⟩;rw [hn0] at hrep;exact ⟨by simp [G.push,hn0],hrep⟩
end
section
open Go.Shelf
set_option maxHeartbeats 1000000
def pi:Go.Shelf.Ren:=⟨fun|159=>166|165=>171|166=>172|167=>204|169=>173|230=>205|204=>206|240=>210|241=>211|197=>227|118=>230|168=>231|270=>232|262=>233|276=>235|277=>236|260=>253|242=>254|313=>255|278=>263|274=>264|275=>265|n=>n,fun|9=>9|4=>4|3=>3|5=>5|72=>216|0=>0|76=>220|75=>219|107=>244|70=>213|20=>20|37=>214|127=>247|21=>21|105=>252|164=>258|162=>270|203=>268|119=>275|46=>248|139=>278|138=>277|51=>279|160=>280|208=>288|206=>286|80=>222|n=>n,fun|13=>1|3=>2|4=>3|n=>n⟩
theorem Ha:Go.Proofs.Lays.n159 prog pi:={
 mixed:=aj
 f118:=az func230
 f159:=az func166
 f165:=az func171
 f166:=az func172
 f167:=az func204
 f168:=az func231
 f169:=az func173
 f197:=az func227
 f204:=az func206
 f230:=az func205
 f240:=az func210
 f241:=az func211
 f242:=az func254
 f260:=az func253
 f262:=az func233
 f270:=az func232
 f274:=az func264
 f275:=az func265
 f276:=az func235
 f277:=az func236
 f278:=az func263
 f313:=az func255
 t0:=underlying0
 a0:=isAgg0
 z0:=sizeOf0
 v0:=zeroValue0
 t3:=underlying3
 a3:=isAgg3
 z3:=sizeOf3
 v3:=zeroValue3
 t4:=underlying4
 a4:=isAgg4
 z4:=sizeOf4
 v4:=zeroValue4
 t5:=underlying5
 a5:=isAgg5
 z5:=sizeOf5
 v5:=zeroValue5
 t9:=underlying9
 a9:=isAgg9
 z9:=sizeOf9
 v9:=zeroValue9
 t20:=underlying20
 a20:=isAgg20
 z20:=sizeOf20
 v20:=zeroValue20
 t21:=underlying21
 a21:=isAgg21
 z21:=sizeOf21
 v21:=zeroValue21
 t37:=underlying214
 a37:=isAgg214
 z37:=sizeOf214
 v37:=zeroValue214
 t46:=underlying248
 a46:=isAgg248
 z46:=sizeOf248
 v46:=zeroValue248
 t51:=underlying279
 a51:=isAgg279
 z51:=sizeOf279
 v51:=zeroValue279
 t70:=underlying213
 a70:=isAgg213
 z70:=sizeOf213
 v70:=zeroValue213
 t72:=underlying216
 a72:=isAgg216
 z72:=sizeOf216
 v72:=zeroValue216
 t75:=underlying219
 a75:=isAgg219
 z75:=sizeOf219
 v75:=zeroValue219
 t76:=underlying220
 a76:=isAgg220
 z76:=sizeOf220
 v76:=zeroValue220
 t105:=underlying252
 a105:=isAgg252
 z105:=sizeOf252
 v105:=zeroValue252
 t107:=underlying244
 a107:=isAgg244
 z107:=sizeOf244
 v107:=zeroValue244
 t119:=underlying275
 a119:=isAgg275
 z119:=sizeOf275
 t127:=underlying247
 a127:=isAgg247
 z127:=sizeOf247
 v127:=zeroValue247
 t138:=underlying277
 a138:=isAgg277
 z138:=sizeOf277
 v138:=zeroValue277
 t139:=underlying278
 a139:=isAgg278
 z139:=sizeOf278
 v139:=zeroValue278
 t160:=underlying280
 a160:=isAgg280
 z160:=sizeOf280
 v160:=zeroValue280
 t162:=underlying270
 a162:=isAgg270
 z162:=sizeOf270
 v162:=zeroValue270
 t164:=underlying258
 a164:=isAgg258
 z164:=sizeOf258
 v164:=zeroValue258
 t203:=underlying268
 a203:=isAgg268
 z203:=sizeOf268
 v203:=zeroValue268
 t206:=underlying286
 a206:=isAgg286
 z206:=sizeOf286
 v206:=zeroValue286
 t208:=underlying288
 a208:=isAgg288
 z208:=sizeOf288
 v208:=zeroValue288
 g3:=aj
 g4:=aj
 g13:=by kernel_rfl }
theorem ng:Builder.Extra prog pi:={
 sizeBuilder:=aj
 liesBuilder:=aj
 t5:=underlying5
 a5:=isAgg5
 z5:=sizeOf5
 v5:=zeroValue5
 infoByte:=aj
 cellsByte:=aj
 sizeByte:=aj
 neB5:=by decide }
open Go.RowKit in
theorem strings_ToLower_ascii (s:ByteArray) (w:World) (hs:s.size≤140737488355328) (hascii:∀ (j:Nat) (b:UInt8),s.data.toList[j]? = some b → b.toNat < 128) :
  Calls prog 166 #[.string s] w fun e w'=>e = .returned (.string ⟨(Lib.toLowerA s.data.toList).toArray⟩)∧Below w.heap.size w w':=Any.strings_ToLower_ascii Ha ng s w hs hascii
def pj:Go.Shelf.Ren:=⟨fun|156=>132|165=>171|166=>172|169=>173|240=>210|241=>211|276=>235|277=>236|n=>n,fun|31=>31|9=>9|3=>3|4=>4|0=>0|20=>20|72=>216|76=>220|70=>213|37=>214|75=>219|127=>247|164=>258|5=>5|80=>222|n=>n,fun|n=>n⟩
theorem He:Go.Proofs.Lays.n156 prog pj:={
 mixed:=aj
 f156:=az func132
 f165:=az func171
 f166:=az func172
 f169:=az func173
 f240:=az func210
 f241:=az func211
 f276:=az func235
 f277:=az func236
 t0:=underlying0
 a0:=isAgg0
 z0:=sizeOf0
 v0:=zeroValue0
 t3:=underlying3
 a3:=isAgg3
 z3:=sizeOf3
 v3:=zeroValue3
 t4:=underlying4
 a4:=isAgg4
 z4:=sizeOf4
 v4:=zeroValue4
 t9:=underlying9
 a9:=isAgg9
 z9:=sizeOf9
 v9:=zeroValue9
 t20:=underlying20
 a20:=isAgg20
 z20:=sizeOf20
 v20:=zeroValue20
 t31:=underlying31
 a31:=isAgg31
 z31:=sizeOf31
 v31:=zeroValue31
 t37:=underlying214
 a37:=isAgg214
 z37:=sizeOf214
 v37:=zeroValue214
 t70:=underlying213
 a70:=isAgg213
 z70:=sizeOf213
 v70:=zeroValue213
 t72:=underlying216
 a72:=isAgg216
 z72:=sizeOf216
 v72:=zeroValue216
 t75:=underlying219
 a75:=isAgg219
 z75:=sizeOf219
 v75:=zeroValue219
 t76:=underlying220
 a76:=isAgg220
 z76:=sizeOf220
 v76:=zeroValue220
 t127:=underlying247
 a127:=isAgg247
 z127:=sizeOf247
 v127:=zeroValue247
 t164:=underlying258
 a164:=isAgg258
 z164:=sizeOf258
 v164:=zeroValue258 }
theorem nh:Builder.Extra prog pj:={
 sizeBuilder:=aj
 liesBuilder:=aj
 t5:=underlying5
 a5:=isAgg5
 z5:=sizeOf5
 v5:=zeroValue5
 infoByte:=aj
 cellsByte:=aj
 sizeByte:=aj
 neB5:=by decide }
open Go.RowKit in
theorem strings_Join (bk o c:Nat) (xs:List ByteArray) (sep:ByteArray) (w:World) (hcells:∀ (j:Nat) x,xs[j]? = some x → w.cell? ⟨bk,o+j,none⟩=some (.string x)) (hbk:bk < w.heap.size) (hN:xs.length≤140737488355328) (hcap:xs.length≤c) (hlen:(Lib.join (xs.map (·.data.toList)) sep.data.toList).length≤140737488355328) :
  Calls prog 132 #[.slice (some ⟨bk,o,none⟩) xs.length c,.string sep] w fun e w'=>e = .returned (.string ⟨(Lib.join (xs.map (·.data.toList)) sep.data.toList).toArray⟩)∧Below w.heap.size w w':=Any.strings_Join He nh bk o c xs sep w hcells hbk hN hcap hlen
def wE:Go.Shelf.Ren:=⟨fun|106=>183|213=>215|265=>238|n=>n,fun|9=>9|3=>3|n=>n,fun|n=>n⟩
theorem Hf:Go.Proofs.Lays.n106 prog wE:={
 mixed:=aj
 f106:=az func183
 f213:=az func215
 f265:=az func238
 t3:=underlying3
 a3:=isAgg3
 z3:=sizeOf3
 v3:=zeroValue3
 t9:=underlying9
 a9:=isAgg9
 z9:=sizeOf9
 v9:=zeroValue9 }
open Go.RowKit in
theorem strings_Compare (a b:ByteArray) (w:World) :
  Calls prog 183 #[.string a,.string b] w fun e w'=>e = .returned (.int .i64 (Lib.compareBytes a.data.toList b.data.toList))∧w'=w:=Any.strings_Compare Hf a b w
def wF:Go.Shelf.Ren:=⟨fun|137=>167|217=>207|266=>234|n=>n,fun|9=>9|5=>5|3=>3|n=>n,fun|n=>n⟩
theorem Hg:Go.Proofs.Lays.n137 prog wF:={
 mixed:=aj
 f137:=az func167
 f217:=az func207
 f266:=az func234
 t3:=underlying3
 a3:=isAgg3
 z3:=sizeOf3
 v3:=zeroValue3
 t5:=underlying5
 a5:=isAgg5
 z5:=sizeOf5
 v5:=zeroValue5
 t9:=underlying9
 a9:=isAgg9
 z9:=sizeOf9
 v9:=zeroValue9 }
open Go.RowKit in
theorem strings_IndexByte (s:ByteArray) (c:Int) (w:World) :
  Calls prog 167 #[.string s,.int .u8 c] w fun e w'=>e = .returned (.int .i64 (Lib.indexByte s.data.toList c.toNat.toUInt8))∧w'=w:=Any.strings_IndexByte Hg s c w
def wG:Go.Shelf.Ren:=⟨fun|103=>163|210=>202|206=>217|n=>n,fun|9=>9|4=>4|24=>124|3=>3|n=>n,fun|n=>n⟩
theorem Hh:Go.Proofs.Lays.n103 prog wG:={
 mixed:=aj
 f103:=az func163
 f206:=az func217
 f210:=az func202
 t3:=underlying3
 a3:=isAgg3
 z3:=sizeOf3
 v3:=zeroValue3
 t4:=underlying4
 a4:=isAgg4
 z4:=sizeOf4
 v4:=zeroValue4
 t9:=underlying9
 a9:=isAgg9
 z9:=sizeOf9
 v9:=zeroValue9
 t24:=underlying124
 a24:=isAgg124
 z24:=sizeOf124
 v24:=zeroValue124 }
open Go.RowKit in
theorem strings_CutPrefix (s p:ByteArray) (w:World) :
  Calls prog 163 #[.string s,.string p] w fun e w'=>e = .returned (.tuple #[.string ⟨(Lib.trimPrefix s.data.toList p.data.toList).toArray⟩,.bool (Lib.hasPrefix s.data.toList p.data.toList)])∧w'=w:=Any.strings_CutPrefix Hh s p w
def wH:Go.Shelf.Ren:=⟨fun|144=>257|143=>226|219=>252|217=>207|225=>261|224=>260|267=>262|266=>234|314=>266|n=>n,fun|9=>9|4=>4|3=>3|5=>5|46=>248|146=>283|51=>279|n=>n,fun|1=>0|n=>n⟩
theorem Hi:Go.Proofs.Lays.n144 prog wH:={
 mixed:=aj
 f143:=az func226
 f144:=az func257
 f217:=az func207
 f219:=az func252
 f224:=az func260
 f225:=az func261
 f266:=az func234
 f267:=az func262
 f314:=az func266
 t3:=underlying3
 a3:=isAgg3
 z3:=sizeOf3
 v3:=zeroValue3
 t4:=underlying4
 a4:=isAgg4
 z4:=sizeOf4
 v4:=zeroValue4
 t5:=underlying5
 a5:=isAgg5
 z5:=sizeOf5
 v5:=zeroValue5
 t9:=underlying9
 a9:=isAgg9
 z9:=sizeOf9
 v9:=zeroValue9
 t46:=underlying248
 a46:=isAgg248
 z46:=sizeOf248
 v46:=zeroValue248
 t51:=underlying279
 a51:=isAgg279
 z51:=sizeOf279
 v51:=zeroValue279
 t146:=underlying283
 a146:=isAgg283
 z146:=sizeOf283
 v146:=zeroValue283
 g1:=by kernel_rfl }
open Go.RowKit Go.Lib in
theorem strings_Contains (s sub:ByteArray) (m:Int) (w:World) (hs:s.size < 4294967281) (hm:w.cell? ⟨0,0,none⟩=some (.int .i64 m)) :
  Calls prog 257 #[.string s,.string sub] w fun e w'=>e = .returned (.bool (Lib.contains s.data.toList sub.data.toList))∧w'=w:=Any.strings_Contains Hi s sub m w hs hm
def yw:Go.Shelf.Ren:=⟨fun|99=>185|206=>217|n=>n,fun|9=>9|4=>4|3=>3|n=>n,fun|n=>n⟩
theorem Jp:Go.Proofs.Lays.n99 prog yw:={
 mixed:=aj
 f99:=az func185
 f206:=az func217
 t3:=underlying3
 a3:=isAgg3
 z3:=sizeOf3
 v3:=zeroValue3
 t4:=underlying4
 a4:=isAgg4
 z4:=sizeOf4
 v4:=zeroValue4
 t9:=underlying9
 a9:=isAgg9
 z9:=sizeOf9
 v9:=zeroValue9 }
open Go.RowKit Go.Lib in
theorem strings_HasPrefix (s p:ByteArray) (w:World) :
  Calls prog 185 #[.string s,.string p] w fun e w'=>e = .returned (.bool (Lib.hasPrefix s.data.toList p.data.toList))∧w'=w:=Any.strings_HasPrefix Jp s p w
def wI:Go.Shelf.Ren:=⟨fun|146=>161|221=>201|268=>228|138=>225|143=>226|195=>250|197=>227|218=>251|219=>252|260=>253|217=>207|225=>261|224=>260|267=>262|266=>234|314=>266|n=>n,fun|9=>9|31=>31|3=>3|4=>4|0=>0|105=>252|21=>21|5=>5|46=>248|119=>275|139=>278|138=>277|146=>283|51=>279|n=>n,fun|1=>0|3=>2|4=>3|n=>n⟩
theorem Hj:Go.Proofs.Lays.n146 prog wI:={
 mixed:=aj
 f138:=az func225
 f143:=az func226
 f146:=az func161
 f195:=az func250
 f197:=az func227
 f217:=az func207
 f218:=az func251
 f219:=az func252
 f221:=az func201
 f224:=az func260
 f225:=az func261
 f260:=az func253
 f266:=az func234
 f267:=az func262
 f268:=az func228
 f314:=az func266
 t0:=underlying0
 a0:=isAgg0
 z0:=sizeOf0
 v0:=zeroValue0
 t3:=underlying3
 a3:=isAgg3
 z3:=sizeOf3
 v3:=zeroValue3
 t4:=underlying4
 a4:=isAgg4
 z4:=sizeOf4
 v4:=zeroValue4
 t5:=underlying5
 a5:=isAgg5
 z5:=sizeOf5
 v5:=zeroValue5
 t9:=underlying9
 a9:=isAgg9
 z9:=sizeOf9
 v9:=zeroValue9
 t21:=underlying21
 a21:=isAgg21
 z21:=sizeOf21
 v21:=zeroValue21
 t31:=underlying31
 a31:=isAgg31
 z31:=sizeOf31
 v31:=zeroValue31
 t46:=underlying248
 a46:=isAgg248
 z46:=sizeOf248
 v46:=zeroValue248
 t51:=underlying279
 a51:=isAgg279
 z51:=sizeOf279
 v51:=zeroValue279
 t105:=underlying252
 a105:=isAgg252
 z105:=sizeOf252
 v105:=zeroValue252
 t119:=underlying275
 a119:=isAgg275
 z119:=sizeOf275
 t138:=underlying277
 a138:=isAgg277
 z138:=sizeOf277
 v138:=zeroValue277
 t139:=underlying278
 a139:=isAgg278
 z139:=sizeOf278
 v139:=zeroValue278
 t146:=underlying283
 a146:=isAgg283
 z146:=sizeOf283
 v146:=zeroValue283
 g1:=aj
 g3:=aj
 g4:=by kernel_rfl }
open Go.RowKit Go.Lib in
theorem strings_Split (s sep:ByteArray) (m:Int) (w:World) (hs:s.size < 4294967281) (hm:w.cell? ⟨0,0,none⟩=some (.int .i64 m)) (h1:1≤sep.size) :
  Calls prog 161 #[.string s,.string sep] w fun e w' =>
   e = .returned (.slice (some ⟨w.heap.size,0,none⟩) (Lib.countB s sep+1) (Lib.countB s sep+1))∧w'=w.alloc (.cells ((Lib.splitB sep 0 (Lib.countB s sep) s).map Value.string).toArray 9):=Any.strings_Split Hj aj s sep m w hs hm h1
def pm:Go.Shelf.Ren:=⟨fun|155=>158|154=>199|138=>225|165=>171|143=>226|166=>172|197=>227|169=>173|195=>250|218=>251|240=>210|241=>211|219=>252|260=>253|276=>235|277=>236|217=>207|225=>261|224=>260|267=>262|266=>234|314=>266|n=>n,fun|9=>9|3=>3|4=>4|72=>216|0=>0|76=>220|105=>252|21=>21|5=>5|70=>213|20=>20|37=>214|75=>219|127=>247|164=>258|46=>248|119=>275|139=>278|138=>277|146=>283|51=>279|80=>222|n=>n,fun|1=>0|3=>2|4=>3|n=>n⟩
theorem Hk:Go.Proofs.Lays.n155 prog pm:={
 mixed:=aj
 f138:=az func225
 f143:=az func226
 f154:=az func199
 f155:=az func158
 f165:=az func171
 f166:=az func172
 f169:=az func173
 f195:=az func250
 f197:=az func227
 f217:=az func207
 f218:=az func251
 f219:=az func252
 f224:=az func260
 f225:=az func261
 f240:=az func210
 f241:=az func211
 f260:=az func253
 f266:=az func234
 f267:=az func262
 f276:=az func235
 f277:=az func236
 f314:=az func266
 t0:=underlying0
 a0:=isAgg0
 z0:=sizeOf0
 v0:=zeroValue0
 t3:=underlying3
 a3:=isAgg3
 z3:=sizeOf3
 v3:=zeroValue3
 t4:=underlying4
 a4:=isAgg4
 z4:=sizeOf4
 v4:=zeroValue4
 t5:=underlying5
 a5:=isAgg5
 z5:=sizeOf5
 v5:=zeroValue5
 t9:=underlying9
 a9:=isAgg9
 z9:=sizeOf9
 v9:=zeroValue9
 t20:=underlying20
 a20:=isAgg20
 z20:=sizeOf20
 v20:=zeroValue20
 t21:=underlying21
 a21:=isAgg21
 z21:=sizeOf21
 v21:=zeroValue21
 t37:=underlying214
 a37:=isAgg214
 z37:=sizeOf214
 v37:=zeroValue214
 t46:=underlying248
 a46:=isAgg248
 z46:=sizeOf248
 v46:=zeroValue248
 t51:=underlying279
 a51:=isAgg279
 z51:=sizeOf279
 v51:=zeroValue279
 t70:=underlying213
 a70:=isAgg213
 z70:=sizeOf213
 v70:=zeroValue213
 t72:=underlying216
 a72:=isAgg216
 z72:=sizeOf216
 v72:=zeroValue216
 t75:=underlying219
 a75:=isAgg219
 z75:=sizeOf219
 v75:=zeroValue219
 t76:=underlying220
 a76:=isAgg220
 z76:=sizeOf220
 v76:=zeroValue220
 t105:=underlying252
 a105:=isAgg252
 z105:=sizeOf252
 v105:=zeroValue252
 t119:=underlying275
 a119:=isAgg275
 z119:=sizeOf275
 t127:=underlying247
 a127:=isAgg247
 z127:=sizeOf247
 v127:=zeroValue247
 t138:=underlying277
 a138:=isAgg277
 z138:=sizeOf277
 v138:=zeroValue277
 t139:=underlying278
 a139:=isAgg278
 z139:=sizeOf278
 v139:=zeroValue278
 t146:=underlying283
 a146:=isAgg283
 z146:=sizeOf283
 v146:=zeroValue283
 t164:=underlying258
 a164:=isAgg258
 z164:=sizeOf258
 v164:=zeroValue258
 g1:=aj
 g3:=aj
 g4:=by kernel_rfl }
theorem ni:Builder.Extra prog pm:={
 sizeBuilder:=aj
 liesBuilder:=aj
 t5:=underlying5
 a5:=isAgg5
 z5:=sizeOf5
 v5:=zeroValue5
 infoByte:=aj
 cellsByte:=aj
 sizeByte:=aj
 neB5:=by decide }
open Go.RowKit Go.Lib in
theorem strings_ReplaceAll (s old new:ByteArray) (m:Int) (w:World) (hs:s.size < 4294967281) (hm:w.cell? ⟨0,0,none⟩=some (.int .i64 m)) (h1:1≤old.size) (hlen:s.size+Lib.countB s old * new.size≤140737488355328) :
  Calls prog 158 #[.string s,.string old,.string new] w fun e w' =>
   e = .returned (.string ⟨(Lib.replaceAll s.data.toList old.data.toList new.data.toList).toArray⟩)∧Below w.heap.size w w':=Any.strings_ReplaceAll Hk ni s old new m w hs hm h1 hlen
def wJ:Go.Shelf.Ren:=⟨fun|150=>197|153=>224|152=>246|226=>247|227=>248|228=>249|137=>167|119=>259|224=>260|225=>261|217=>207|266=>234|n=>n,fun|9=>9|4=>4|3=>3|5=>5|21=>21|117=>265|116=>264|0=>0|46=>248|124=>274|n=>n,fun|n=>n⟩
theorem Hl:Go.Proofs.Lays.n150 prog wJ:={
 mixed:=aj
 f119:=az func259
 f137:=az func167
 f150:=az func197
 f152:=az func246
 f153:=az func224
 f217:=az func207
 f224:=az func260
 f225:=az func261
 f226:=az func247
 f227:=az func248
 f228:=az func249
 f266:=az func234
 t0:=underlying0
 a0:=isAgg0
 z0:=sizeOf0
 v0:=zeroValue0
 t3:=underlying3
 a3:=isAgg3
 z3:=sizeOf3
 v3:=zeroValue3
 t4:=underlying4
 a4:=isAgg4
 z4:=sizeOf4
 v4:=zeroValue4
 t5:=underlying5
 a5:=isAgg5
 z5:=sizeOf5
 v5:=zeroValue5
 t9:=underlying9
 a9:=isAgg9
 z9:=sizeOf9
 v9:=zeroValue9
 t21:=underlying21
 a21:=isAgg21
 z21:=sizeOf21
 v21:=zeroValue21
 t46:=underlying248
 a46:=isAgg248
 z46:=sizeOf248
 v46:=zeroValue248
 t116:=underlying264
 a116:=isAgg264
 z116:=sizeOf264
 t117:=underlying265
 a117:=isAgg265
 z117:=sizeOf265
 v117:=zeroValue265
 t124:=underlying274
 a124:=isAgg274
 z124:=sizeOf274
 v124:=zeroValue274 }
open Go.RowKit Go.Lib in
theorem strings_ContainsAny_laid (s chars:ByteArray) (w:World) (hs:s.size < 4294967281) (hcs:chars.size < 4294967281) (has:∀ (j:Nat) b,s.data.toList[j]? = some b → b.toNat < 128) (hac:∀ (j:Nat) b,chars.data.toList[j]? = some b → b.toNat < 128) :
  Calls prog 197 #[.string s,.string chars] w fun e w'=>e = .returned (.bool (Lib.containsAny s.data.toList chars.data.toList))∧Below w.heap.size w w':=Any.strings_ContainsAny_laid Hl aj s chars w hs hcs has hac
end
end Go.Proofs.YtmbbkfffcflfcaaGreatDoor
