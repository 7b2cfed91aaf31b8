/- What the program computes, and the plain laws of it, part 16. -/
import Derived.Lib.SplitLaws
import Derived.Lib.IndexBytes
import Derived.Lib.ReplaceLaws
import Derived.Shelf.Strings.Builder1
import Derived.Shelf.Strings.Builder2
import Derived.Shelf.Strings.OnBuilder
import Derived.Shelf.Small.Utf8
import Derived.Shelf.Small.Strs
import Derived.Shelf.Strings.Search1
import Derived.Shelf.Sort.Plain
import Derived.Shelf.Strings.Prefix
import Derived.Shelf.Unicode.Latin
import Derived.Shelf.Unicode.Decode
import Derived.Shelf.Unicode.DecodeSlow
import Derived.Shelf.Unicode.DecodeAny
import Derived.Shelf.Unicode.CaseLookup
import Derived.Shelf.Unicode.CaseConvert
import Derived.Shelf.Unicode.CaseTo
import Derived.Shelf.Unicode.CaseLaid
import Derived.Shelf.Slices.Turned
import Derived.Shelf.Slices.CompactS
import Derived.Shelf.Slices.Cells
import Derived.Shelf.Slices.In.SortNone
import Derived.Test.YthhfpcbpiphfiaaGreatDoorProg
import Derived.Lib.IndexAny
import Derived.Test.YthhfpcbpiphfiaaGreatDoorR14
namespace Go.Proofs.YthhfpcbpiphfiaaGreatDoor
open Go.RowKit
open IntWalk renaming iteOmega → iO, toNatUp → tN
set_option linter.unusedVariables false
set_option linter.unusedSimpArgs false
structure El where
 lit:Nat
 star:Bool
 set:List Bool
 deriving DecidableEq,Inhabited
def El.has (e:El) (b:UInt8):Bool:=e.set.getD b.toNat false
def anyTail (f:List UInt8 → Bool):List UInt8 → Bool
 | []=>f []
 | b :: s=>f (b :: s) || anyTail f s
def oneHead (e:El) (f:List UInt8 → Bool):List UInt8 → Bool
 | []=>false
 | b :: s=>e.has b && f s
def mat:List El → List UInt8 → Bool
 | [],s=>s.isEmpty
 | e :: l,s=>if e.star then anyTail (mat l) s else oneHead e (mat l) s
theorem anyTail_iff (f:List UInt8 → Bool):∀ s:List UInt8,anyTail f s=true ↔ ∃ j,j≤s.length∧f (s.drop j)=true
 | []=>by
  constructor
  ·intro h;exact ⟨0,Nat.le_refl _,h⟩
  ·rintro ⟨j,hj,h⟩
   have:j=0:=by simpa using hj
   subst this;exact h
 | b :: s=>by
  rw [anyTail,Bool.or_eq_true,anyTail_iff f s]
  constructor
  ·rintro (h|⟨j,hj,h⟩)
   ·exact ⟨0,Nat.zero_le _,h⟩
   ·exact ⟨j+1,by simp only [List.length_cons];omega,by simpa using h⟩
  ·rintro ⟨j,hj,h⟩
   cases j with
   | zero=>exact .inl h
   | succ j=>exact .inr ⟨j,by simp only [List.length_cons] at hj;omega,by simpa using h⟩
theorem mat_star {e:El} {l:List El} {s:List UInt8} (he:e.star=true):mat (e :: l) s=true ↔ ∃ j,j≤s.length∧mat l (s.drop j)=true:=by
 rw [mat,if_pos he,anyTail_iff]
theorem mat_one {e:El} {l:List El} {b:UInt8} {s:List UInt8} (he:e.star=false):mat (e :: l) (b :: s)=(e.has b && mat l s):=by
 rw [mat,if_neg (by simp [he]),oneHead]
theorem mat_end {e:El} {l:List El} (he:e.star=false):mat (e :: l) []=false:=by
 rw [mat,if_neg (by simp [he]),oneHead]
theorem mat_pre:∀ {p r:List El} {t:List UInt8},(∀ e ∈ p,e.star=false) → mat (p++r) t=true → p.length≤t.length∧mat r (t.drop p.length)=true
 | [],r,t,_,h=>⟨Nat.zero_le _,by simpa using h⟩
 | e :: p,r,[],hp,h=>by rw [List.cons_append,mat_end (hp e (by simp))] at h;cases h
 | e :: p,r,b :: t,hp,h=>by
  rw [List.cons_append,mat_one (hp e (by simp)),Bool.and_eq_true] at h
  have ih:=mat_pre (fun x hx=>hp x (by simp [hx])) h.2
  exact ⟨by simp only [List.length_cons];omega,by simpa using ih.2⟩
structure Way (l:List El) (s:List UInt8) (at_ i st f:Nat):Prop where
 hat:at_≤l.length
 hi:i≤s.length
 hf:f≤i
 hst:st≤at_
 h0:st=0 → (mat l s=true ↔ mat (l.drop at_) (s.drop i)=true)
 h1:0 < st → i - f=at_ - st∧(∀ e ∈ (l.drop st).take (at_ - st),e.star=false)∧(mat l s=true ↔ (mat (l.drop at_) (s.drop i)=true∨∃ j,f < j∧j≤s.length∧mat (l.drop st) (s.drop j)=true))
theorem Way.start (l:List El) (s:List UInt8):Way l s 0 0 0 0:=⟨Nat.zero_le _,Nat.zero_le _,Nat.le_refl _,Nat.le_refl _,fun _=>by simp,fun h=>absurd h (by omega)⟩
theorem drop_at {l:List El} {k:Nat} (h:k < l.length):l.drop k=l[k] :: l.drop (k+1):=List.drop_eq_getElem_cons h
theorem drop_byte {s:List UInt8} {k:Nat} (h:k < s.length):s.drop k=s[k] :: s.drop (k+1):=List.drop_eq_getElem_cons h
theorem Way.star {l:List El} {s:List UInt8} {at_ i st f:Nat} (w:Way l s at_ i st f) (h:at_ < l.length) (hs:l[at_].star=true):Way l s (at_+1) i (at_+1) i:=by
 refine ⟨by omega,w.hi,Nat.le_refl _,Nat.le_refl _,fun h=>by omega,fun _=>⟨by omega,by simp,?_⟩⟩
 have e1:mat (l.drop at_) (s.drop i)=true ↔ (mat (l.drop (at_+1)) (s.drop i)=true∨∃ j,i < j∧j≤s.length∧mat (l.drop (at_+1)) (s.drop j)=true):=by
  rw [drop_at h,mat_star hs]
  constructor
  ·rintro ⟨j,hj,hm⟩
   rw [List.drop_drop] at hm
   rw [List.length_drop] at hj
   cases j with
   | zero=>exact .inl (by simpa using hm)
   | succ j=>exact .inr ⟨i+(j+1),by omega,by have:=w.hi;omega,hm⟩
  ·rintro (hm|⟨j,h1,h2,hm⟩)
   ·exact ⟨0,Nat.zero_le _,by simpa using hm⟩
   ·exact ⟨j - i,by rw [List.length_drop];omega,by rw [List.drop_drop];rwa [show i+(j - i)=j by omega]⟩
 by_cases h0:st=0
 ·rw [w.h0 h0,e1]
 ·obtain ⟨k1,k2,k3⟩:=w.h1 (by omega)
  rw [k3,e1]
  constructor
  ·rintro (hm|⟨j,h1,h2,hm⟩)
   ·exact hm
   ·right
    have hsp:l.drop st=(l.drop st).take (at_ - st)++l.drop at_:=by
     conv=>lhs;rw [← List.take_append_drop (at_ - st) (l.drop st)]
     rw [List.drop_drop,show st+(at_ - st)=at_ by have:=w.hst;omega]
    rw [hsp] at hm
    obtain ⟨m1,m2⟩:=mat_pre k2 hm
    have hlen:((l.drop st).take (at_ - st)).length=at_ - st:=by rw [List.length_take,List.length_drop];omega
    rw [hlen] at m1 m2
    rw [List.length_drop] at m1
    rw [List.drop_drop,drop_at h,mat_star hs] at m2
    obtain ⟨q,hq,hm2⟩:=m2
    rw [List.length_drop] at hq
    rw [List.drop_drop] at hm2
    have:=w.hf
    exact ⟨j+(at_ - st)+q,by omega,by omega,hm2⟩
  ·exact .inl
theorem Way.step {l:List El} {s:List UInt8} {at_ i st f:Nat} (w:Way l s at_ i st f) (h:at_ < l.length) (hi:i < s.length) (hs:l[at_].star=false) (hh:l[at_].has s[i]=true):Way l s (at_+1) (i+1) st f:=by
 have e1:mat (l.drop at_) (s.drop i)=mat (l.drop (at_+1)) (s.drop (i+1)):=by rw [drop_at h,drop_byte hi,mat_one hs,hh,Bool.true_and]
 refine ⟨by omega,by omega,by have:=w.hf;omega,by have:=w.hst;omega,fun h0=>by rw [w.h0 h0,e1],fun h0=>?_⟩
 obtain ⟨k1,k2,k3⟩:=w.h1 h0
 have hst:=w.hst
 have hf:=w.hf
 refine ⟨by omega,fun e he=>?_,by rw [k3,e1]⟩
 rw [show at_+1 - st=(at_ - st)+1 by omega,List.take_add_one,List.mem_append] at he
 rcases he with he|he
 ·exact k2 e he
 ·rw [List.getElem?_drop,show st+(at_ - st)=at_ by omega,List.getElem?_eq_getElem h] at he
  simp at he
  rw [he];exact hs
theorem Way.back {l:List El} {s:List UInt8} {at_ i st f:Nat} (w:Way l s at_ i st f) (hi:i < s.length) (h0:0 < st) (hno:mat (l.drop at_) (s.drop i)=false):Way l s st (f+1) st (f+1):=by
 obtain ⟨k1,k2,k3⟩:=w.h1 h0
 have hst:=w.hst
 have hf:=w.hf
 have hat:=w.hat
 refine ⟨by omega,by omega,Nat.le_refl _,Nat.le_refl _,fun h=>by omega,fun _=>⟨by omega,by simp,?_⟩⟩
 rw [k3,hno]
 constructor
 ·rintro (h|⟨j,h1,h2,hm⟩)
  ·cases h
  ·by_cases e:j=f+1
   ·subst e;exact .inl hm
   ·exact .inr ⟨j,by omega,h2,hm⟩
 ·rintro (hm|⟨j,h1,h2,hm⟩)
  ·exact .inr ⟨f+1,by omega,by omega,hm⟩
  ·exact .inr ⟨j,by omega,h2,hm⟩
theorem Way.none {l:List El} {s:List UInt8} {at_ i f:Nat} (w:Way l s at_ i 0 f) (hno:mat (l.drop at_) (s.drop i)=false):mat l s=false:=by
 have:=w.h0 rfl
 rw [hno] at this
 simpa using this
theorem Way.fin {l:List El} {s:List UInt8} {at_ st f:Nat} (w:Way l s at_ s.length st f):mat l s=mat (l.drop at_) []:=by
 have hst:=w.hst
 have hf:=w.hf
 have hat:=w.hat
 rw [Bool.eq_iff_iff]
 by_cases h0:st=0
 ·rw [w.h0 h0,List.drop_length]
 ·obtain ⟨k1,k2,k3⟩:=w.h1 (by omega)
  rw [k3,List.drop_length]
  constructor
  ·rintro (h|⟨j,h1,h2,hm⟩)
   ·exact h
   ·exfalso
    have hsp:l.drop st=(l.drop st).take (at_ - st)++l.drop at_:=by
     conv=>lhs;rw [← List.take_append_drop (at_ - st) (l.drop st)]
     rw [List.drop_drop,show st+(at_ - st)=at_ by omega]
    rw [hsp] at hm
    have m1:=(mat_pre k2 hm).1
    rw [List.length_take,List.length_drop,List.length_drop] at m1
    omega
  ·exact .inl
theorem mat_miss {l:List El} {s:List UInt8} {at_ i:Nat} (hi:i < s.length) (h:at_ < l.length → (∃ h:at_ < l.length,l[at_].star=false∧l[at_].has s[i]=false)):mat (l.drop at_) (s.drop i)=false:=by
 by_cases ha:at_ < l.length
 ·obtain ⟨_,h1,h2⟩:=h ha
  rw [drop_at ha,drop_byte hi,mat_one h1,h2];rfl
 ·rw [List.drop_eq_nil_of_le (by omega),drop_byte hi];rfl
theorem mat_stars:∀ l:List El,mat l []=l.all (·.star)
 | []=>rfl
 | e :: l=>by
  cases he:e.star with
  | true =>
   rw [List.all_cons,he,Bool.true_and,← mat_stars l,Bool.eq_iff_iff,mat_star he]
   constructor
   ·rintro ⟨j,_,h⟩;simpa using h
   ·intro h;exact ⟨0,Nat.le_refl _,by simpa using h⟩
  | false=>rw [mat_end he,List.all_cons,he];rfl
def wayM (L S at_ st f:Nat):Nat:=(L - st) * ((S+1) * (L+2))+(S - f) * (L+2)+(L - at_)
def plusL (cs:List Bool) (t:List UInt8):List Bool:=t.foldl (fun cs b=>cs.set b.toNat true) cs
theorem plusL_len:∀ (t:List UInt8) (cs:List Bool),(plusL cs t).length=cs.length
 | [],_=>rfl
 | b :: t,cs=>by have:=plusL_len t (cs.set b.toNat true);rw [List.length_set] at this;exact this
theorem plusL_get:∀ (t:List UInt8) (cs:List Bool) (b:UInt8),cs.length=256 → (plusL cs t).getD b.toNat false=(cs.getD b.toNat false || t.contains b)
 | [],cs,b,_=>by simp [plusL]
 | a :: t,cs,b,h=>by
  have hb:=b.toNat_lt
  have:=plusL_get t (cs.set a.toNat true) b (by rw [List.length_set];exact h)
  rw [show plusL cs (a :: t)=plusL (cs.set a.toNat true) t from rfl,this,List.contains_cons]
  by_cases e:b=a
  ·subst e
   have:(cs.set b.toNat true).getD b.toNat false=true:=by rw [List.getD_eq_getElem?_getD,List.getElem?_set_self (by omega)];rfl
   rw [this];simp
  ·have hne:a.toNat≠b.toNat:=fun h=>e (UInt8.toNat_inj.1 h.symm)
   have:(cs.set a.toNat true).getD b.toNat false=cs.getD b.toNat false:=by rw [List.getD_eq_getElem?_getD,List.getElem?_set_ne hne,← List.getD_eq_getElem?_getD]
   rw [this,show (b == a)=false by simpa using e,Bool.false_or]
theorem plusL_snoc (cs:List Bool) (t:List UInt8) (b:UInt8):plusL cs (t++[b])=(plusL cs t).set b.toNat true:=by simp [plusL]
def upperT:List UInt8:=[65,66,67,68,69,70,71,72,73,74,75,76,77,78,79,80,81,82,83,84,85,86,87,88,89,90]
def lowerT:List UInt8:=[97,98,99,100,101,102,103,104,105,106,107,108,109,110,111,112,113,114,115,116,117,118,119,120,121,122]
def digitT:List UInt8:=[48,49,50,51,52,53,54,55,56,57]
def moreT:List UInt8:=[95,46,58,43,45]
def noneL:List Bool:=List.replicate 256 false
def commonL:List Bool:=plusL (plusL (plusL (plusL noneL upperT) lowerT) digitT) moreT
theorem noneL_len:noneL.length=256:=List.length_replicate
theorem commonL_len:commonL.length=256:=by rw [commonL,plusL_len,plusL_len,plusL_len,plusL_len,noneL_len]
def nameT:List UInt8:=upperT++lowerT++digitT++moreT++[33]
def nameB (b:UInt8):Bool:=nameT.contains b
theorem nameL_get (b:UInt8):(plusL commonL [33]).getD b.toNat false=nameB b:=by
 have h0:noneL.getD b.toNat false=false:=by unfold noneL;rw [List.getD_eq_getElem?_getD,List.getElem?_replicate];split<;>rfl
 rw [plusL_get _ _ _ commonL_len,commonL,plusL_get _ _ _ (by rw [plusL_len,plusL_len,plusL_len,noneL_len]),plusL_get _ _ _ (by rw [plusL_len,plusL_len,noneL_len]),plusL_get _ _ _ (by rw [plusL_len,noneL_len]),plusL_get _ _ _ noneL_len,h0]
 rw [Bool.eq_iff_iff]
 simp only [nameB,nameT,Bool.or_eq_true,List.contains_iff_mem,List.mem_append,Bool.false_eq_true,false_or]
def hasL (cs:List Bool) (s:ByteArray):Bool:=s.data.toList.all fun b=>cs.getD b.toNat false
def dotsS (s:ByteArray):Bool:=decide (s=⟨#[46]⟩) || decide (s=⟨#[46,46]⟩)
def validS (s:ByteArray):Bool:=(((decide (s≠⟨#[]⟩) && decide (s.size≤32)) && !dotsS s) && s.data.toList.all nameB)
theorem has_name (s:ByteArray):hasL (plusL commonL [33]) s=s.data.toList.all nameB:=by unfold hasL;simp only [nameL_get]
def spl:List UInt8 → List (List UInt8)
 | []=>[[]]
 | b :: l=>if b=47 then [] :: spl l else match spl l with
  | []=>[[b]]
  | h :: t=>(b :: h) :: t
def unT (l:List UInt8):ByteArray:=⟨l.toArray⟩
def parts (s:ByteArray):List ByteArray:=(spl s.data.toList).map unT
def slashS (s:ByteArray):Bool:=Lib.hasPrefix s.data.toList [47]
def restS (s:ByteArray):ByteArray:=if slashS s=true then s.extract 1 s.size else s
def splitP (s:ByteArray):Option (List ByteArray):=if slashS s=true∧(parts (restS s)).all validS=true then some (parts (restS s)) else none
def cmpS (a b:ByteArray):Int:=if bless a b=true then -1 else if bless b a=true then 1 else 0
def cmpL:List ByteArray → List ByteArray → Int
 | [],[]=>0
 | [],_ :: _ => -1
 | _ :: _,[]=>1
 | a :: l,b :: m=>if a=b then cmpL l m else cmpS a b
def textB (b:UInt8):Bool:=decide (32≤b.toNat) && decide (b.toNat≤126)
def textS (s:ByteArray):Bool:=s.data.toList.all textB && decide (s.size≤256)
theorem getD_byte {s:ByteArray} {k:Nat} (h:k < s.size):∃ h':k < s.data.toList.length,s.data.toList.getD k 0=s.data.toList[k]:=⟨h,by rw [List.getD_eq_getElem?_getD,List.getElem?_eq_getElem (show k < s.data.toList.length from h)];rfl⟩
theorem all_next {p:UInt8 → Bool} {s:ByteArray} {k:Nat} (h:k < s.size) (ha:(s.data.toList.take k).all p=true) (hp:p (s.data.toList.getD k 0)=true):(s.data.toList.take (k+1)).all p=true:=by
 obtain ⟨h',e⟩:=getD_byte h
 rw [List.take_succ_eq_append_getElem h',List.all_append,ha,← e,List.all_cons,hp];rfl
theorem all_not {p:UInt8 → Bool} {s:ByteArray} {k:Nat} (h:k < s.size) (hp:p (s.data.toList.getD k 0)=false):s.data.toList.all p=false:=by
 obtain ⟨h',e⟩:=getD_byte h
 exact List.all_eq_false.2 ⟨s.data.toList.getD k 0,by rw [e];exact List.getElem_mem _,by rw [hp];decide⟩
def byt (p:ByteArray) (i:Nat):UInt8:=p.data.toList.getD i 0
def fillN (cs:List Bool) (a:Nat):Nat → List Bool
 | 0=>cs
 | k+1=>(fillN cs a k).set (a+k) true
theorem fillN_len (cs:List Bool) (a:Nat):∀ n,(fillN cs a n).length=cs.length
 | 0=>rfl
 | n+1=>by rw [fillN,List.length_set,fillN_len cs a n]
theorem fillN_get (cs:List Bool) (a i:Nat):∀ n,(fillN cs a n).getD i false=(cs.getD i false || (decide (a≤i∧i < a+n) && decide (i < cs.length)))
 | 0=>by
  have:¬(a≤i∧i < a+0):=by omega
  rw [fillN,decide_eq_false this];simp
 | n+1=>by
  rw [fillN]
  by_cases h:a+n=i
  ·subst h
   by_cases hl:a+n < cs.length
   ·rw [List.getD_eq_getElem?_getD,List.getElem?_set_self (by rw [fillN_len];exact hl)]
    rw [decide_eq_true hl,decide_eq_true (by omega:a≤a+n∧a+n < a+(n+1))];simp
   ·have e:(fillN cs a n).set (a+n) true=fillN cs a n:=List.set_eq_of_length_le (by rw [fillN_len];omega)
    rw [e,fillN_get cs a (a+n) n,decide_eq_false hl];simp
  ·rw [List.getD_eq_getElem?_getD,List.getElem?_set_ne h,← List.getD_eq_getElem?_getD,fillN_get cs a i n]
   by_cases h2:a≤i∧i < a+n
   ·rw [decide_eq_true h2,decide_eq_true (by omega:a≤i∧i < a+(n+1))]
   ·rw [decide_eq_false h2,decide_eq_false (by omega:¬(a≤i∧i < a+(n+1)))]
def noneS:List Bool:=List.replicate 127 false
def everyL:List Bool:=fillN noneS 32 95
def rngQ (p:ByteArray) (i:Nat):Bool:=decide (i+2 < p.size) && (byt p (i+1) == 45) && (byt p (i+2) != 93)
def memTo (p:ByteArray) (i:Nat):UInt8:=if rngQ p i then byt p (i+2) else byt p i
def memAt (p:ByteArray) (i:Nat):Nat:=if rngQ p i then i+3 else i+1
def memS (p:ByteArray) (i:Nat) (cs:List Bool):List Bool:=fillN cs (byt p i).toNat ((memTo p i).toNat+1 - (byt p i).toNat)
theorem memAt_lt (p:ByteArray) (i:Nat):i < memAt p i:=by unfold memAt;split<;>omega
theorem memAt_le {p:ByteArray} {i:Nat} (h:i < p.size):memAt p i≤p.size:=by
 unfold memAt rngQ;split
 ·rename_i h2;simp only [Bool.and_eq_true,decide_eq_true_eq] at h2;omega
 ·omega
theorem memS_len (p:ByteArray) (i:Nat) (cs:List Bool):(memS p i cs).length=cs.length:=fillN_len _ _ _
def bsetGo (p:ByteArray) (i:Nat) (cs:List Bool):Option (List Bool × Nat) :=
 if h:p.size≤i then none
 else if byt p i=93 then some (cs,i)
 else if byt p i≤memTo p i then bsetGo p (memAt p i) (memS p i cs) else none
termination_by p.size - i
decreasing_by have:=memAt_lt p i;omega
def notN (cs:List Bool):Nat → List Bool
 | 0=>cs
 | k+1=>(notN cs k).set (32+k) (everyL.getD (32+k) false && !(notN cs k).getD (32+k) false)
theorem notN_len (cs:List Bool):∀ n,(notN cs n).length=cs.length
 | 0=>rfl
 | n+1=>by rw [notN,List.length_set,notN_len cs n]
def notS (cs:List Bool):List Bool:=notN cs 95
theorem everyL_get {k:Nat} (h:k < 95):everyL.getD (32+k) false=true:=by
 unfold everyL
 rw [fillN_get,decide_eq_true (by omega:32≤32+k∧32+k < 32+95),decide_eq_true (by show 32+k < 127;omega)]
 simp
theorem everyL_len:everyL.length=127:=by unfold everyL;rw [fillN_len];rfl
def notQ (p:ByteArray) (i:Nat):Bool:=decide (i < p.size) && (byt p i == 33)
def setJ (p:ByteArray) (i:Nat):Nat:=if notQ p i then i+1 else i
def bsetM (p:ByteArray) (i:Nat):Option (List Bool × Nat) :=
 if p.size≤setJ p i∨byt p (setJ p i)=93 then none
 else match bsetGo p (setJ p i) noneS with
  | none=>none
  | some r=>some (if notQ p i then notS r.1 else r.1,r.2+1)
theorem bsetGo_gt {p:ByteArray}:∀ {i:Nat} {cs:List Bool} {r:List Bool × Nat},bsetGo p i cs=some r → i≤r.2∧r.2 < p.size∧r.1.length=cs.length:=by
 intro i
 induction i using (measure fun i=>p.size - i).wf.induction with
 | _ i ih =>
  intro cs r h
  rw [bsetGo] at h
  split at h
  ·cases h
  ·rename_i h1
   split at h
   ·cases h;exact ⟨Nat.le_refl _,by omega,rfl⟩
   ·split at h
    ·have hm:=memAt_lt p i
     have:=ih (memAt p i) (by show p.size - memAt p i < p.size - i;omega) h
     rw [memS_len] at this
     exact ⟨by omega,this.2⟩
    ·cases h
theorem setJ_le (p:ByteArray) (i:Nat):i≤setJ p i:=by unfold setJ;split<;>omega
theorem bsetM_gt {p:ByteArray} {i:Nat} {r:List Bool × Nat} (h:bsetM p i=some r):i < r.2∧r.2≤p.size∧r.1.length=127:=by
 unfold bsetM at h
 split at h
 ·cases h
 ·cases hg:bsetGo p (setJ p i) noneS with
  | none=>rw [hg] at h;cases h
  | some q =>
   rw [hg] at h
   have:=bsetGo_gt hg
   have hj:=setJ_le p i
   cases h
   have hl:q.1.length=127:=by rw [this.2.2];rfl
   refine ⟨by show i < q.2+1;omega,by show q.2+1≤p.size;omega,?_⟩
   show (if notQ p i=true then notS q.1 else q.1).length=127
   split
   ·unfold notS;rw [notN_len];exact hl
   ·exact hl
def starEl:El:=⟨0,true,everyL⟩
def askEl:El:=⟨0,false,everyL⟩
def litEl (b:UInt8):El:=⟨b.toNat,false,noneS.set b.toNat true⟩
def altGo (p:ByteArray) (i:Nat) (l:List (List El)) (x:List El):Option (List (List El)) :=
 if h:p.size≤i then some (l++[x])
 else if byt p i=124 then altGo p (i+1) (l++[x]) []
 else if byt p i=42 then altGo p (i+1) l (x++[starEl])
 else if byt p i=63 then altGo p (i+1) l (x++[askEl])
 else if byt p i=91 then match hs:bsetM p (i+1) with
  | none=>none
  | some r=>altGo p r.2 l (x++[⟨0,false,r.1⟩])
 else altGo p (i+1) l (x++[litEl (byt p i)])
termination_by p.size - i
decreasing_by all_goals first|omega|(have:=bsetM_gt hs;omega)
def altsM (p:ByteArray):Option (List (List El)):=altGo p 0 [] []
def globM (p:ByteArray):Int:=if 256 < p.size then 21 else if !(p.data.toList.all textB) then 20 else match altsM p with|none=>20|some _=>0
def matchM (p s:ByteArray):Bool:=decide (globM p=0) && (s.data.toList.all textB) && match altsM p with|none=>false|some l=>l.any fun x=>mat x s.data.toList
theorem rp_vals {w:World} {Γ:G}:∀ {vs xs:List Value},All2 (RP w Γ) (vs.map fun v=>.c (.v v)) xs → xs=vs
 | [],_,h=>by rw [List.map_nil,All2.nil_l] at h;exact h
 | v :: vs,xs,h=>by
  rw [List.map_cons,All2.cons_l] at h
  obtain ⟨y,m,rfl,h1,h2⟩:=h
  rw [rp_vals h2,h1.1]
theorem ext_of_below {w w':World} (hB:Below w.heap.size w w'):Ext No w w':=⟨hB.os,hB.tape,hB.output,hB.size,fun k hk _=>hB.block k hk⟩
theorem pcalls_plain {P:Program} {g:FuncId} (vs:List Value) (v:Value) (hv:v.oneCell'=true) (h:∀ w,Pin w → Calls P g vs.toArray w fun e w'=>e = .returned v∧Below w.heap.size w w') :
  PCalls P g (vs.map fun v=>.c (.v v)) [] fun r os=>r = .c (.v v)∧os=[]:=fun Γ w xs hm hx=>by
 rw [rp_vals hx]
 refine (h w hm.pin.1).mono ?_
 rintro e w' ⟨rfl,hB⟩
 have hE:=ext_of_below hB
 exact ⟨_,[],Γ,_,rfl,⟨rfl,rfl⟩,⟨rfl,hv⟩,Nat.le_refl _,hm.same (Same.of_ext hE),ext_grow hE⟩
end Go.Proofs.YthhfpcbpiphfiaaGreatDoor
namespace Go.Proofs.YthhfpcbpiphfiaaGreatDoor
open Go.Shelf
set_option maxHeartbeats 1000000
def lays159_ren:Go.Shelf.Ren:=⟨fun|159=>82|165=>93|166=>94|167=>95|169=>96|230=>97|204=>98|240=>102|241=>103|197=>104|118=>105|168=>106|270=>107|262=>108|276=>109|277=>110|260=>111|242=>112|313=>113|278=>114|274=>115|275=>116|n=>n,fun|9=>9|4=>4|3=>3|5=>5|72=>171|0=>0|76=>174|75=>173|107=>179|70=>169|20=>20|37=>84|127=>183|21=>21|105=>184|164=>190|162=>196|203=>194|119=>197|46=>125|139=>200|138=>199|51=>156|160=>201|208=>207|206=>205|80=>177|n=>n,fun|13=>1|3=>2|4=>3|n=>n⟩
theorem lays159:Go.Proofs.Lays.n159 Tryz.prog lays159_ren:={
 mixed:=by kernel_rfl
 f118:=Tryz.func105.trans (congrArg some (by kernel_rfl))
 f159:=Tryz.func82.trans (congrArg some (by kernel_rfl))
 f165:=Tryz.func93.trans (congrArg some (by kernel_rfl))
 f166:=Tryz.func94.trans (congrArg some (by kernel_rfl))
 f167:=Tryz.func95.trans (congrArg some (by kernel_rfl))
 f168:=Tryz.func106.trans (congrArg some (by kernel_rfl))
 f169:=Tryz.func96.trans (congrArg some (by kernel_rfl))
 f197:=Tryz.func104.trans (congrArg some (by kernel_rfl))
 f204:=Tryz.func98.trans (congrArg some (by kernel_rfl))
 f230:=Tryz.func97.trans (congrArg some (by kernel_rfl))
 f240:=Tryz.func102.trans (congrArg some (by kernel_rfl))
 f241:=Tryz.func103.trans (congrArg some (by kernel_rfl))
 f242:=Tryz.func112.trans (congrArg some (by kernel_rfl))
 f260:=Tryz.func111.trans (congrArg some (by kernel_rfl))
 f262:=Tryz.func108.trans (congrArg some (by kernel_rfl))
 f270:=Tryz.func107.trans (congrArg some (by kernel_rfl))
 f274:=Tryz.func115.trans (congrArg some (by kernel_rfl))
 f275:=Tryz.func116.trans (congrArg some (by kernel_rfl))
 f276:=Tryz.func109.trans (congrArg some (by kernel_rfl))
 f277:=Tryz.func110.trans (congrArg some (by kernel_rfl))
 f278:=Tryz.func114.trans (congrArg some (by kernel_rfl))
 f313:=Tryz.func113.trans (congrArg some (by kernel_rfl))
 t0:=Tryz.underlying0
 a0:=Tryz.isAgg0
 z0:=Tryz.sizeOf0
 v0:=Tryz.zeroValue0
 t3:=Tryz.underlying3
 a3:=Tryz.isAgg3
 z3:=Tryz.sizeOf3
 v3:=Tryz.zeroValue3
 t4:=Tryz.underlying4
 a4:=Tryz.isAgg4
 z4:=Tryz.sizeOf4
 v4:=Tryz.zeroValue4
 t5:=Tryz.underlying5
 a5:=Tryz.isAgg5
 z5:=Tryz.sizeOf5
 v5:=Tryz.zeroValue5
 t9:=Tryz.underlying9
 a9:=Tryz.isAgg9
 z9:=Tryz.sizeOf9
 v9:=Tryz.zeroValue9
 t20:=Tryz.underlying20
 a20:=Tryz.isAgg20
 z20:=Tryz.sizeOf20
 v20:=Tryz.zeroValue20
 t21:=Tryz.underlying21
 a21:=Tryz.isAgg21
 z21:=Tryz.sizeOf21
 v21:=Tryz.zeroValue21
 t37:=Tryz.underlying84
 a37:=Tryz.isAgg84
 z37:=Tryz.sizeOf84
 v37:=Tryz.zeroValue84
 t46:=Tryz.underlying125
 a46:=Tryz.isAgg125
 z46:=Tryz.sizeOf125
 v46:=Tryz.zeroValue125
 t51:=Tryz.underlying156
 a51:=Tryz.isAgg156
 z51:=Tryz.sizeOf156
 v51:=Tryz.zeroValue156
 t70:=Tryz.underlying169
 a70:=Tryz.isAgg169
 z70:=Tryz.sizeOf169
 v70:=Tryz.zeroValue169
 t72:=Tryz.underlying171
 a72:=Tryz.isAgg171
 z72:=Tryz.sizeOf171
 v72:=Tryz.zeroValue171
 t75:=Tryz.underlying173
 a75:=Tryz.isAgg173
 z75:=Tryz.sizeOf173
 v75:=Tryz.zeroValue173
 t76:=Tryz.underlying174
 a76:=Tryz.isAgg174
 z76:=Tryz.sizeOf174
 v76:=Tryz.zeroValue174
 t105:=Tryz.underlying184
 a105:=Tryz.isAgg184
 z105:=Tryz.sizeOf184
 v105:=Tryz.zeroValue184
 t107:=Tryz.underlying179
 a107:=Tryz.isAgg179
 z107:=Tryz.sizeOf179
 v107:=Tryz.zeroValue179
 t119:=Tryz.underlying197
 a119:=Tryz.isAgg197
 z119:=Tryz.sizeOf197
 t127:=Tryz.underlying183
 a127:=Tryz.isAgg183
 z127:=Tryz.sizeOf183
 v127:=Tryz.zeroValue183
 t138:=Tryz.underlying199
 a138:=Tryz.isAgg199
 z138:=Tryz.sizeOf199
 v138:=Tryz.zeroValue199
 t139:=Tryz.underlying200
 a139:=Tryz.isAgg200
 z139:=Tryz.sizeOf200
 v139:=Tryz.zeroValue200
 t160:=Tryz.underlying201
 a160:=Tryz.isAgg201
 z160:=Tryz.sizeOf201
 v160:=Tryz.zeroValue201
 t162:=Tryz.underlying196
 a162:=Tryz.isAgg196
 z162:=Tryz.sizeOf196
 v162:=Tryz.zeroValue196
 t164:=Tryz.underlying190
 a164:=Tryz.isAgg190
 z164:=Tryz.sizeOf190
 v164:=Tryz.zeroValue190
 t203:=Tryz.underlying194
 a203:=Tryz.isAgg194
 z203:=Tryz.sizeOf194
 v203:=Tryz.zeroValue194
 t206:=Tryz.underlying205
 a206:=Tryz.isAgg205
 z206:=Tryz.sizeOf205
 v206:=Tryz.zeroValue205
 t208:=Tryz.underlying207
 a208:=Tryz.isAgg207
 z208:=Tryz.sizeOf207
 v208:=Tryz.zeroValue207
 g3:=by kernel_rfl
 g4:=by kernel_rfl
 g13:=by kernel_rfl }
theorem Builder_Extra_159:Builder.Extra Tryz.prog lays159_ren:={
 sizeBuilder:=by kernel_rfl
 liesBuilder:=by kernel_rfl
 t5:=Tryz.underlying5
 a5:=Tryz.isAgg5
 z5:=Tryz.sizeOf5
 v5:=Tryz.zeroValue5
 infoByte:=by kernel_rfl
 cellsByte:=by kernel_rfl
 sizeByte:=by kernel_rfl
 neB5:=by decide }
open Go.RowKit in
theorem strings_ToLower_ascii (s:ByteArray) (w:World) (hs:s.size≤140737488355328) (hascii:∀ (j:Nat) (b:UInt8),s.data.toList[j]? = some b → b.toNat < 128) :
  Calls Tryz.prog 82 #[.string s] w fun e w'=>e = .returned (.string ⟨(Lib.toLowerA s.data.toList).toArray⟩)∧Below w.heap.size w w':=Any.strings_ToLower_ascii lays159 Builder_Extra_159 s w hs hascii
def lays137_ren:Go.Shelf.Ren:=⟨fun|137=>63|217=>83|266=>99|n=>n,fun|9=>9|5=>5|3=>3|n=>n,fun|n=>n⟩
theorem lays137:Go.Proofs.Lays.n137 Tryz.prog lays137_ren:={
 mixed:=by kernel_rfl
 f137:=Tryz.func63.trans (congrArg some (by kernel_rfl))
 f217:=Tryz.func83.trans (congrArg some (by kernel_rfl))
 f266:=Tryz.func99.trans (congrArg some (by kernel_rfl))
 t3:=Tryz.underlying3
 a3:=Tryz.isAgg3
 z3:=Tryz.sizeOf3
 v3:=Tryz.zeroValue3
 t5:=Tryz.underlying5
 a5:=Tryz.isAgg5
 z5:=Tryz.sizeOf5
 v5:=Tryz.zeroValue5
 t9:=Tryz.underlying9
 a9:=Tryz.isAgg9
 z9:=Tryz.sizeOf9
 v9:=Tryz.zeroValue9 }
open Go.RowKit in
theorem strings_IndexByte (s:ByteArray) (c:Int) (w:World) :
  Calls Tryz.prog 63 #[.string s,.int .u8 c] w fun e w'=>e = .returned (.int .i64 (Lib.indexByte s.data.toList c.toNat.toUInt8))∧w'=w:=Any.strings_IndexByte lays137 s c w
def lays190_ren:Go.Shelf.Ren:=⟨fun|190=>35|125=>56|258=>55|128=>80|129=>81|302=>71|303=>72|304=>73|305=>74|306=>75|307=>76|308=>77|309=>78|310=>79|333=>87|329=>88|330=>89|334=>90|335=>91|336=>92|344=>101|n=>n,fun|31=>23|9=>9|3=>3|46=>125|0=>0|51=>156|53=>158|4=>4|183=>150|182=>149|131=>110|5=>5|218=>163|222=>167|228=>180|229=>181|n=>n,fun|n=>n⟩
theorem lays190:Go.Proofs.Lays.n190 Tryz.prog lays190_ren:={
 mixed:=by kernel_rfl
 f125:=Tryz.func56.trans (congrArg some (by kernel_rfl))
 f128:=Tryz.func80.trans (congrArg some (by kernel_rfl))
 f129:=Tryz.func81.trans (congrArg some (by kernel_rfl))
 f190:=Tryz.func35.trans (congrArg some (by kernel_rfl))
 f258:=Tryz.func55.trans (congrArg some (by kernel_rfl))
 f302:=Tryz.func71.trans (congrArg some (by kernel_rfl))
 f303:=Tryz.func72.trans (congrArg some (by kernel_rfl))
 f304:=Tryz.func73.trans (congrArg some (by kernel_rfl))
 f305:=Tryz.func74.trans (congrArg some (by kernel_rfl))
 f306:=Tryz.func75.trans (congrArg some (by kernel_rfl))
 f307:=Tryz.func76.trans (congrArg some (by kernel_rfl))
 f308:=Tryz.func77.trans (congrArg some (by kernel_rfl))
 f309:=Tryz.func78.trans (congrArg some (by kernel_rfl))
 f310:=Tryz.func79.trans (congrArg some (by kernel_rfl))
 f329:=Tryz.func88.trans (congrArg some (by kernel_rfl))
 f330:=Tryz.func89.trans (congrArg some (by kernel_rfl))
 f333:=Tryz.func87.trans (congrArg some (by kernel_rfl))
 f334:=Tryz.func90.trans (congrArg some (by kernel_rfl))
 f335:=Tryz.func91.trans (congrArg some (by kernel_rfl))
 f336:=Tryz.func92.trans (congrArg some (by kernel_rfl))
 f344:=Tryz.func101.trans (congrArg some (by kernel_rfl))
 t0:=Tryz.underlying0
 a0:=Tryz.isAgg0
 z0:=Tryz.sizeOf0
 v0:=Tryz.zeroValue0
 t3:=Tryz.underlying3
 a3:=Tryz.isAgg3
 z3:=Tryz.sizeOf3
 v3:=Tryz.zeroValue3
 t4:=Tryz.underlying4
 a4:=Tryz.isAgg4
 z4:=Tryz.sizeOf4
 v4:=Tryz.zeroValue4
 t5:=Tryz.underlying5
 a5:=Tryz.isAgg5
 z5:=Tryz.sizeOf5
 v5:=Tryz.zeroValue5
 t9:=Tryz.underlying9
 a9:=Tryz.isAgg9
 z9:=Tryz.sizeOf9
 v9:=Tryz.zeroValue9
 t31:=Tryz.underlying23
 a31:=Tryz.isAgg23
 z31:=Tryz.sizeOf23
 v31:=Tryz.zeroValue23
 t46:=Tryz.underlying125
 a46:=Tryz.isAgg125
 z46:=Tryz.sizeOf125
 v46:=Tryz.zeroValue125
 t51:=Tryz.underlying156
 a51:=Tryz.isAgg156
 z51:=Tryz.sizeOf156
 v51:=Tryz.zeroValue156
 t53:=Tryz.underlying158
 a53:=Tryz.isAgg158
 z53:=Tryz.sizeOf158
 v53:=Tryz.zeroValue158
 t131:=Tryz.underlying110
 a131:=Tryz.isAgg110
 z131:=Tryz.sizeOf110
 v131:=Tryz.zeroValue110
 t182:=Tryz.underlying149
 a182:=Tryz.isAgg149
 z182:=Tryz.sizeOf149
 v182:=Tryz.zeroValue149
 t183:=Tryz.underlying150
 a183:=Tryz.isAgg150
 z183:=Tryz.sizeOf150
 v183:=Tryz.zeroValue150
 t218:=Tryz.underlying163
 a218:=Tryz.isAgg163
 z218:=Tryz.sizeOf163
 v218:=Tryz.zeroValue163
 t222:=Tryz.underlying167
 a222:=Tryz.isAgg167
 z222:=Tryz.sizeOf167
 v222:=Tryz.zeroValue167
 t228:=Tryz.underlying180
 a228:=Tryz.isAgg180
 z228:=Tryz.sizeOf180
 v228:=Tryz.zeroValue180
 t229:=Tryz.underlying181
 a229:=Tryz.isAgg181
 z229:=Tryz.sizeOf181
 v229:=Tryz.zeroValue181 }
def lays99_ren:Go.Shelf.Ren:=⟨fun|99=>85|206=>100|n=>n,fun|9=>9|4=>4|3=>3|n=>n,fun|n=>n⟩
theorem lays99:Go.Proofs.Lays.n99 Tryz.prog lays99_ren:={
 mixed:=by kernel_rfl
 f99:=Tryz.func85.trans (congrArg some (by kernel_rfl))
 f206:=Tryz.func100.trans (congrArg some (by kernel_rfl))
 t3:=Tryz.underlying3
 a3:=Tryz.isAgg3
 z3:=Tryz.sizeOf3
 v3:=Tryz.zeroValue3
 t4:=Tryz.underlying4
 a4:=Tryz.isAgg4
 z4:=Tryz.sizeOf4
 v4:=Tryz.zeroValue4
 t9:=Tryz.underlying9
 a9:=Tryz.isAgg9
 z9:=Tryz.sizeOf9
 v9:=Tryz.zeroValue9 }
open Go.RowKit Go.Lib in
theorem strings_HasPrefix (s p:ByteArray) (w:World) :
  Calls Tryz.prog 85 #[.string s,.string p] w fun e w'=>e = .returned (.bool (Lib.hasPrefix s.data.toList p.data.toList))∧w'=w:=Any.strings_HasPrefix lays99 s p w
def lays194_ren:Go.Shelf.Ren:=⟨fun|194=>36|n=>n,fun|31=>23|9=>9|3=>3|4=>4|0=>0|n=>n,fun|n=>n⟩
theorem lays194:Go.Proofs.Lays.n194 Tryz.prog lays194_ren:={
 mixed:=by kernel_rfl
 f194:=Tryz.func36.trans (congrArg some (by kernel_rfl))
 t0:=Tryz.underlying0
 a0:=Tryz.isAgg0
 z0:=Tryz.sizeOf0
 v0:=Tryz.zeroValue0
 t3:=Tryz.underlying3
 a3:=Tryz.isAgg3
 z3:=Tryz.sizeOf3
 v3:=Tryz.zeroValue3
 t4:=Tryz.underlying4
 a4:=Tryz.isAgg4
 z4:=Tryz.sizeOf4
 v4:=Tryz.zeroValue4
 t9:=Tryz.underlying9
 a9:=Tryz.isAgg9
 z9:=Tryz.sizeOf9
 v9:=Tryz.zeroValue9
 t31:=Tryz.underlying23
 a31:=Tryz.isAgg23
 z31:=Tryz.sizeOf23
 v31:=Tryz.zeroValue23 }
open Go.RowKit Go.Lib Go.Sort in
theorem slices_Compact_string (blk off cap:Nat) (zs:List (List UInt8)) (w:World) (hH:Holds encStr w blk off zs.toArray) (hsz:zs.length≤9223372036854775807) (hcap:zs.length≤cap) :
  Calls Tryz.prog 36 #[.slice (some ⟨blk,off,none⟩) zs.length cap] w fun e w'=>e = .returned (.slice (some ⟨blk,off,none⟩) (Lib.compact zs).length cap)∧∃ q,w'=putRow encStr (Sort.ahead w q) blk off (Lib.compact zs++List.replicate (zs.length - (Lib.compact zs).length) []).toArray:=Any.slices_Compact_string lays194 blk off cap zs w hH hsz hcap
open Go.RowKit Go.Lib Go.Sort in
theorem slices_Compact_string_empty (a:Option Addr) (cap:Nat) (w:World) :
  Calls Tryz.prog 36 #[.slice a 0 cap] w fun e w'=>e = .returned (.slice a 0 cap)∧w'=w:=Any.slices_Compact_string_empty lays194 a cap w
end Go.Proofs.YthhfpcbpiphfiaaGreatDoor
namespace Go.Proofs.YthhfpcbpiphfiaaGreatDoor
open Go.RowKit
open IntWalk renaming iteOmega → iO, toNatUp → tN
set_option linter.unusedVariables false
set_option linter.unusedSimpArgs false
theorem lower_pure:PCalls Tryz.prog 82 [.c (.v (.string ⟨upperT.toArray⟩))] [] fun r os=>r = .c (.v (.string ⟨lowerT.toArray⟩))∧os=[] :=
 pcalls_plain [.string ⟨upperT.toArray⟩] _ rfl fun w _=>(strings_ToLower_ascii ⟨upperT.toArray⟩ w (by decide) (fun j b hb=>by
  have:∀ b ∈ upperT,b.toNat < 128:=by decide
  exact this b (List.mem_of_getElem? hb))).mono fun e w' ⟨he,hw⟩=>by
  rw [he]
  exact ⟨by congr,hw⟩
theorem idxb_pure (s:ByteArray) (c:Int):PCalls Tryz.prog 63 [.c (.v (.string s)),.c (.v (.int .u8 c))] [] fun r os=>r = .c (.v (.int .i64 (Lib.indexByte s.data.toList c.toNat.toUInt8)))∧os=[] :=
 pcalls_plain [.string s,.int .u8 c] _ rfl fun w _=>(strings_IndexByte s c w).mono fun e w' ⟨he,hw⟩=>by rw [he,hw];exact ⟨rfl,Below.refl _ _⟩
end Go.Proofs.YthhfpcbpiphfiaaGreatDoor
