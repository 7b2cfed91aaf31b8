/- What the program computes, and the plain laws of it, part 18. -/
import Derived.Lib.SplitLaws
import Derived.Lib.IndexBytes
import Derived.Lib.ReplaceLaws
import Derived.Test.YtmbbkfffcflfcaaGreatDoorS17
namespace Go.Proofs.YtmbbkfffcflfcaaGreatDoor
open Go.RowKit
open IntWalk renaming iteOmega → O, toNatUp → U
set_option linter.unusedVariables false
set_option linter.unusedSimpArgs false
def plusL (cs:List Bool) (t:List UInt8):List Bool:=t.foldl (fun cs b=>cs.set b.toNat true) cs
theorem plusL_len:∀ (t:List UInt8) (cs:List Bool),(plusL cs t).length=cs.length
 | [],_=>rfl
 | b :: t,cs=>by have:=plusL_len t (cs.set b.toNat true);rw [List.length_set] at this;exact this
theorem plusL_get:∀ (t:List UInt8) (cs:List Bool) (b:UInt8),cs.length=256 → (plusL cs t).getD b.toNat false=(cs.getD b.toNat false || t.contains b)
 | [],cs,b,_=>by simp [plusL]
 | a :: t,cs,b,h=>by
  have hb:=b.toNat_lt
  have:=plusL_get t (cs.set a.toNat true) b (by rw [List.length_set];exact h)
  rw [show plusL cs (a :: t)=plusL (cs.set a.toNat true) t from rfl,this,List.contains_cons]
  by_cases e:b=a
  ·subst e
   have:(cs.set b.toNat true).getD b.toNat false=true:=by rw [List.getD_eq_getElem?_getD,List.getElem?_set_self (by omega)];rfl
   rw [this];simp
  ·have hne:a.toNat≠b.toNat:=fun h=>e (UInt8.toNat_inj.1 h.symm)
   have:(cs.set a.toNat true).getD b.toNat false=cs.getD b.toNat false:=by rw [List.getD_eq_getElem?_getD,List.getElem?_set_ne hne,← List.getD_eq_getElem?_getD]
   rw [this,show (b == a)=false by simpa using e,Bool.false_or]
theorem plusL_snoc (cs:List Bool) (t:List UInt8) (b:UInt8):plusL cs (t++[b])=(plusL cs t).set b.toNat true:=by simp [plusL]
def upperT:List UInt8:=[65,66,67,68,69,70,71,72,73,74,75,76,77,78,79,80,81,82,83,84,85,86,87,88,89,90]
def lowerT:List UInt8:=[97,98,99,100,101,102,103,104,105,106,107,108,109,110,111,112,113,114,115,116,117,118,119,120,121,122]
def digitT:List UInt8:=[48,49,50,51,52,53,54,55,56,57]
def moreT:List UInt8:=[95,46,58,43,45]
def noneL:List Bool:=List.replicate 256 false
def commonL:List Bool:=plusL (plusL (plusL (plusL noneL upperT) lowerT) digitT) moreT
theorem noneL_len:noneL.length=256:=List.length_replicate
theorem commonL_len:commonL.length=256:=by rw [commonL,plusL_len,plusL_len,plusL_len,plusL_len,noneL_len]
def nameT:List UInt8:=upperT++lowerT++digitT++moreT++[33]
def nameB (b:UInt8):Bool:=nameT.contains b
theorem nameL_get (b:UInt8):(plusL commonL [33]).getD b.toNat false=nameB b:=by
 have h0:noneL.getD b.toNat false=false:=by unfold noneL;rw [List.getD_eq_getElem?_getD,List.getElem?_replicate];split<;>rfl
 rw [plusL_get _ _ _ commonL_len,commonL,plusL_get _ _ _ (by rw [plusL_len,plusL_len,plusL_len,noneL_len]),plusL_get _ _ _ (by rw [plusL_len,plusL_len,noneL_len]),plusL_get _ _ _ (by rw [plusL_len,noneL_len]),plusL_get _ _ _ noneL_len,h0]
 rw [Bool.eq_iff_iff]
 simp only [nameB,nameT,Bool.or_eq_true,List.contains_iff_mem,List.mem_append,Bool.false_eq_true,false_or]
def hasL (cs:List Bool) (s:ByteArray):Bool:=s.data.toList.all fun b=>cs.getD b.toNat false
def dotsS (s:ByteArray):Bool:=decide (s=⟨#[46]⟩) || decide (s=⟨#[46,46]⟩)
def validS (s:ByteArray):Bool:=(((decide (s≠⟨#[]⟩) && decide (s.size≤32)) && !dotsS s) && s.data.toList.all nameB)
theorem has_name (s:ByteArray):hasL (plusL commonL [33]) s=s.data.toList.all nameB:=by unfold hasL;simp only [nameL_get]
def spl:List UInt8 → List (List UInt8)
 | []=>[[]]
 | b :: l=>if b=47 then [] :: spl l else match spl l with
  | []=>[[b]]
  | h :: t=>(b :: h) :: t
theorem spl_ne (l:List UInt8):spl l≠[]:=by
 cases l with
 | nil=>simp [spl]
 | cons b l=>rw [spl];split;simp;split<;>simp
theorem spl_none:∀ {l:List UInt8},(47:UInt8) ∉ l → spl l=[l]
 | [],_=>rfl
 | b :: l,h=>by
  simp only [List.mem_cons,not_or] at h
  rw [spl,if_neg (fun e=>h.1 e.symm),spl_none h.2]
theorem spl_app:∀ {a:List UInt8} (r:List UInt8),(47:UInt8) ∉ a → spl (a++47 :: r)=a :: spl r
 | [],r,_=>by rw [List.nil_append,spl,if_pos rfl]
 | b :: a,r,h=>by
  simp only [List.mem_cons,not_or] at h
  rw [List.cons_append,spl,if_neg (fun e=>h.1 e.symm),spl_app r h.2]
theorem splitK_spl:∀ (k:Nat) (s:List UInt8),s.count 47=k → Lib.splitK [47] 0 k s=spl s
 | 0,s,h=>by rw [spl_none (List.count_eq_zero.1 h)];rfl
 | k+1,s,h=>by
  have hmem:(47:UInt8) ∈ s:=List.count_pos_iff.1 (by omega)
  obtain ⟨a,r,rfl,ha⟩:∃ a r,s=a++47 :: r∧(47:UInt8) ∉ a:=by
   clear h
   induction s with
   | nil=>simp at hmem
   | cons b s ih =>
    by_cases e:b=47
    ·subst e;exact ⟨[],s,rfl,by simp⟩
    ·obtain ⟨a,r,rfl,ha⟩:=ih (by simpa [Ne.symm e] using hmem)
     exact ⟨b :: a,r,rfl,by simp [ha,Ne.symm e]⟩
  have hi:Lib.index (a++47 :: r) [47]=(a.length:Int):=by
   rw [Lib.index_one]
   clear h
   induction a with
   | nil=>simp [Lib.indexByte]
   | cons b a ih =>
    simp only [List.mem_cons,not_or] at ha
    have:=ih ha.2 (by simp)
    rw [List.cons_append,Lib.indexByte,if_neg (by simpa using Ne.symm ha.1),this,if_neg (by simp)]
    simp
  have hc:r.count 47=k:=by
   rw [List.count_append,List.count_cons_self,List.count_eq_zero.2 ha] at h
   omega
  rw [Lib.splitK,hi,if_neg (by simp),spl_app r ha]
  simp only [Int.toNat_natCast,Nat.add_zero,List.length_cons,List.length_nil,Nat.zero_add]
  rw [List.take_left,List.drop_append,List.drop_eq_nil_of_le (by omega),List.nil_append,show a.length+1 - a.length=1 by omega]
  simp only [List.drop_succ_cons,List.drop_zero]
  rw [splitK_spl k r hc]
def unT (l:List UInt8):ByteArray:=⟨l.toArray⟩
theorem unT_data (s:ByteArray):unT s.data.toList=s:=rfl
def parts (s:ByteArray):List ByteArray:=(spl s.data.toList).map unT
theorem parts_ne (s:ByteArray):0 < (parts s).length:=by
 unfold parts;rw [List.length_map];exact List.length_pos_iff.2 (spl_ne _)
theorem splitB_parts (s:ByteArray):Lib.splitB ⟨#[47]⟩ 0 (Lib.countB s ⟨#[47]⟩) s=parts s:=by
 have h:=Lib.splitB_data ⟨#[47]⟩ 0 (Lib.countB s ⟨#[47]⟩) s
 have hc:Lib.countB s ⟨#[47]⟩=s.data.toList.count 47:=Lib.count_one 47 s.data.toList
 have h2:=splitK_spl _ s.data.toList hc.symm
 have e:(⟨#[47]⟩:ByteArray).data.toList=[47]:=rfl
 rw [e,h2] at h
 unfold parts
 rw [← h,List.map_map]
 conv=>lhs;rw [← List.map_id (Lib.splitB _ _ _ _)]
 exact List.map_congr_left fun x _=>rfl
def slashS (s:ByteArray):Bool:=Lib.hasPrefix s.data.toList [47]
def restS (s:ByteArray):ByteArray:=if slashS s=true then s.extract 1 s.size else s
def splitP (s:ByteArray):Option (List ByteArray):=if slashS s=true∧(parts (restS s)).all validS=true then some (parts (restS s)) else none
theorem parts_size:∀ {s:ByteArray},(parts s).length≤s.size+1:=by
 intro s
 unfold parts
 rw [List.length_map]
 have:∀ l:List UInt8,(spl l).length≤l.length+1:=by
  intro l
  induction l with
  | nil=>simp [spl]
  | cons b l ih =>
   rw [spl]
   split
   ·simp only [List.length_cons];omega
   ·split
    ·simp
    ·rename_i h t e;rw [e] at ih;simp only [List.length_cons] at ih ⊢;omega
 have h:=this s.data.toList
 rwa [show s.data.toList.length=s.size from rfl] at h
def cmpS (a b:ByteArray):Int:=if bless a b=true then -1 else if bless b a=true then 1 else 0
def cmpL:List ByteArray → List ByteArray → Int
 | [],[]=>0
 | [],_ :: _ => -1
 | _ :: _,[]=>1
 | a :: l,b :: m=>if a=b then cmpL l m else cmpS a b
theorem cmpS_eq {a b:ByteArray}:cmpS a b=0 ↔ a=b:=by
 unfold cmpS
 constructor
 ·intro h
  split at h
  ·omega
  ·split at h
   ·omega
   ·rename_i h1 h2;exact bless_total (by simpa using h1) (by simpa using h2)
 ·rintro rfl;rw [if_neg (fun h=>bless_ne h rfl),if_neg (fun h=>bless_ne h rfl)]
theorem cmpS_anti (a b:ByteArray):cmpS b a = -cmpS a b:=by
 unfold cmpS
 by_cases h1:bless a b=true
 ·have:=bless_asymm h1;rw [if_pos h1,this];simp [h1]
 ·by_cases h2:bless b a=true
  ·rw [if_pos h2,if_neg h1,if_pos h2]
  ·rw [if_neg h2,if_neg h1,if_neg h1,if_neg h2];rfl
theorem cmpL_eq:∀ {l m:List ByteArray},cmpL l m=0 ↔ l=m
 | [],[]=>by simp [cmpL]
 | [],_ :: _=>by simp [cmpL]
 | _ :: _,[]=>by simp [cmpL]
 | a :: l,b :: m=>by
  rw [cmpL]
  split
  ·rename_i e;subst e;rw [cmpL_eq];simp
  ·rename_i e;rw [cmpS_eq];simp [e]
theorem cmpL_anti:∀ (l m:List ByteArray),cmpL m l = -cmpL l m
 | [],[]=>rfl
 | [],_ :: _=>rfl
 | _ :: _,[]=>rfl
 | a :: l,b :: m=>by
  rw [cmpL,cmpL]
  by_cases e:a=b
  ·subst e;rw [if_pos rfl,if_pos rfl];exact cmpL_anti l m
  ·rw [if_neg e,if_neg (Ne.symm e)];exact cmpS_anti a b
theorem cmpS_lt {a b:ByteArray}:cmpS a b < 0 ↔ bless a b=true:=by
 unfold cmpS
 split
 ·rename_i h;simp [h]
 ·rename_i h;split<;>simp [h]
theorem cmpL_trans:∀ {l m n:List ByteArray},cmpL l m < 0 → cmpL m n < 0 → cmpL l n < 0
 | [],[],_,h,_=>by simp [cmpL] at h
 | _ :: _,[],_,h,_=>by simp [cmpL] at h
 | _,_ :: _,[],_,h=>by simp [cmpL] at h
 | [],_ :: _,_ :: _,_,_=>by simp [cmpL]
 | a :: l,b :: m,c :: n,h1,h2=>by
  rw [cmpL] at h1 h2 ⊢
  by_cases e1:a=b
  ·subst e1
   rw [if_pos rfl] at h1
   by_cases e2:a=c
   ·subst e2;rw [if_pos rfl] at h2 ⊢;exact cmpL_trans h1 h2
   ·rw [if_neg e2] at h2 ⊢;exact h2
  ·rw [if_neg e1] at h1
   by_cases e2:b=c
   ·subst e2;rw [if_neg e1];exact h1
   ·rw [if_neg e2] at h2
    have h3:=bless_trans (cmpS_lt.1 h1) (cmpS_lt.1 h2)
    rw [if_neg (bless_ne h3)]
    exact cmpS_lt.2 h3
def nodeS (s:ByteArray):ByteArray:=⟨(Lib.replaceAll s.data.toList [33] [47]).toArray⟩
def textB (b:UInt8):Bool:=decide (32≤b.toNat) && decide (b.toNat≤126)
def textS (s:ByteArray):Bool:=s.data.toList.all textB && decide (s.size≤256)
theorem getD_byte {s:ByteArray} {k:Nat} (h:k < s.size):∃ h':k < s.data.toList.length,s.data.toList.getD k 0=s.data.toList[k]:=⟨h,by rw [List.getD_eq_getElem?_getD,List.getElem?_eq_getElem (show k < s.data.toList.length from h)];rfl⟩
theorem all_next {p:UInt8 → Bool} {s:ByteArray} {k:Nat} (h:k < s.size) (ha:(s.data.toList.take k).all p=true) (hp:p (s.data.toList.getD k 0)=true):(s.data.toList.take (k+1)).all p=true:=by
 obtain ⟨h',e⟩:=getD_byte h
 rw [List.take_succ_eq_append_getElem h',List.all_append,ha,← e,List.all_cons,hp];rfl
theorem all_not {p:UInt8 → Bool} {s:ByteArray} {k:Nat} (h:k < s.size) (hp:p (s.data.toList.getD k 0)=false):s.data.toList.all p=false:=by
 obtain ⟨h',e⟩:=getD_byte h
 exact List.all_eq_false.2 ⟨s.data.toList.getD k 0,by rw [e];exact List.getElem_mem _,by rw [hp];decide⟩
def ifaceS (s:ByteArray):Bool:=(validS s && decide (s.size≤15)) && !(s.data.toList.contains 58 || s.data.toList.contains 33)
theorem nameB_ascii (b:UInt8) (h:nameB b=true):b.toNat < 128:=by
 have:∀ b ∈ nameT,b.toNat < 128:=by decide
 exact this b (by unfold nameB at h;exact List.contains_iff_mem.1 h)
theorem valid_ascii {s:ByteArray} (h:validS s=true):∀ (j:Nat) b,s.data.toList[j]? = some b → b.toNat < 128:=fun j b hb=>by
 unfold validS at h
 simp only [Bool.and_eq_true] at h
 exact nameB_ascii b (List.all_eq_true.1 h.2 b (List.mem_of_getElem? hb))
theorem valid_size {s:ByteArray} (h:validS s=true):s.size≤32:=by
 unfold validS at h
 simp only [Bool.and_eq_true,decide_eq_true_eq] at h
 exact h.1.1.2
def linkL:List Bool:=plusL commonL [64,35,61,37]
theorem linkL_len:linkL.length=256:=by rw [linkL,plusL_len,commonL_len]
def linkP (s:ByteArray):Bool:=(decide (s≠⟨#[]⟩) && !dotsS s) && hasL linkL s
def linkS (s:ByteArray):Bool:=decide (s.size≤256) && (parts s).all linkP
theorem part_size {s x:ByteArray} (h:x ∈ parts s):x.size≤s.size:=by
 have spl_mem:∀ {l x:List UInt8},x ∈ spl l → x.length≤l.length:=by
  intro l
  induction l with
  | nil=>intro x h;simp [spl] at h;subst h;simp
  | cons b l ih =>
   intro x h
   rw [spl] at h
   split at h
   ·rcases List.mem_cons.1 h with rfl|h
    ·simp
    ·have:=ih h;simp only [List.length_cons];omega
   ·split at h
    ·rename_i e;simp at h;subst h;simp
    ·rename_i y t e
     have hy:y ∈ spl l:=by rw [e];simp
     rcases List.mem_cons.1 h with rfl|h
     ·have:=ih hy;simp only [List.length_cons];omega
     ·have hx:x ∈ spl l:=by rw [e];simp [h]
      have:=ih hx;simp only [List.length_cons];omega
 unfold parts at h
 obtain ⟨y,hy,rfl⟩:=List.mem_map.1 h
 exact spl_mem hy
def byt (p:ByteArray) (i:Nat):UInt8:=p.data.toList.getD i 0
def fillN (cs:List Bool) (a:Nat):Nat → List Bool
 | 0=>cs
 | k+1=>(fillN cs a k).set (a+k) true
theorem fillN_len (cs:List Bool) (a:Nat):∀ n,(fillN cs a n).length=cs.length
 | 0=>rfl
 | n+1=>by rw [fillN,List.length_set,fillN_len cs a n]
theorem fillN_get (cs:List Bool) (a i:Nat):∀ n,(fillN cs a n).getD i false=(cs.getD i false || (decide (a≤i∧i < a+n) && decide (i < cs.length)))
 | 0=>by
  have:¬(a≤i∧i < a+0):=by omega
  rw [fillN,decide_eq_false this];simp
 | n+1=>by
  rw [fillN]
  by_cases h:a+n=i
  ·subst h
   by_cases hl:a+n < cs.length
   ·rw [List.getD_eq_getElem?_getD,List.getElem?_set_self (by rw [fillN_len];exact hl)]
    rw [decide_eq_true hl,decide_eq_true (by omega:a≤a+n∧a+n < a+(n+1))];simp
   ·have e:(fillN cs a n).set (a+n) true=fillN cs a n:=List.set_eq_of_length_le (by rw [fillN_len];omega)
    rw [e,fillN_get cs a (a+n) n,decide_eq_false hl];simp
  ·rw [List.getD_eq_getElem?_getD,List.getElem?_set_ne h,← List.getD_eq_getElem?_getD,fillN_get cs a i n]
   by_cases h2:a≤i∧i < a+n
   ·rw [decide_eq_true h2,decide_eq_true (by omega:a≤i∧i < a+(n+1))]
   ·rw [decide_eq_false h2,decide_eq_false (by omega:¬(a≤i∧i < a+(n+1)))]
def noneS:List Bool:=List.replicate 127 false
def everyL:List Bool:=fillN noneS 32 95
def rngQ (p:ByteArray) (i:Nat):Bool:=decide (i+2 < p.size) && (byt p (i+1) == 45) && (byt p (i+2) != 93)
def memTo (p:ByteArray) (i:Nat):UInt8:=if rngQ p i then byt p (i+2) else byt p i
def memAt (p:ByteArray) (i:Nat):Nat:=if rngQ p i then i+3 else i+1
def memS (p:ByteArray) (i:Nat) (cs:List Bool):List Bool:=fillN cs (byt p i).toNat ((memTo p i).toNat+1 - (byt p i).toNat)
theorem memAt_lt (p:ByteArray) (i:Nat):i < memAt p i:=by unfold memAt;split<;>omega
theorem memAt_le {p:ByteArray} {i:Nat} (h:i < p.size):memAt p i≤p.size:=by
 unfold memAt rngQ;split
 ·rename_i h2;simp only [Bool.and_eq_true,decide_eq_true_eq] at h2;omega
 ·omega
theorem memS_len (p:ByteArray) (i:Nat) (cs:List Bool):(memS p i cs).length=cs.length:=fillN_len _ _ _
def bsetGo (p:ByteArray) (i:Nat) (cs:List Bool):Option (List Bool × Nat) :=
 if h:p.size≤i then none
 else if byt p i=93 then some (cs,i)
 else if byt p i≤memTo p i then bsetGo p (memAt p i) (memS p i cs) else none
termination_by p.size - i
decreasing_by have:=memAt_lt p i;omega
def notN (cs:List Bool):Nat → List Bool
 | 0=>cs
 | k+1=>(notN cs k).set (32+k) (everyL.getD (32+k) false && !(notN cs k).getD (32+k) false)
theorem notN_len (cs:List Bool):∀ n,(notN cs n).length=cs.length
 | 0=>rfl
 | n+1=>by rw [notN,List.length_set,notN_len cs n]
def notS (cs:List Bool):List Bool:=notN cs 95
theorem everyL_get {k:Nat} (h:k < 95):everyL.getD (32+k) false=true:=by
 unfold everyL
 rw [fillN_get,decide_eq_true (by omega:32≤32+k∧32+k < 32+95),decide_eq_true (by show 32+k < 127;omega)]
 simp
theorem everyL_len:everyL.length=127:=by unfold everyL;rw [fillN_len];rfl
def notQ (p:ByteArray) (i:Nat):Bool:=decide (i < p.size) && (byt p i == 33)
def setJ (p:ByteArray) (i:Nat):Nat:=if notQ p i then i+1 else i
def bsetM (p:ByteArray) (i:Nat):Option (List Bool × Nat) :=
 if p.size≤setJ p i∨byt p (setJ p i)=93 then none
 else match bsetGo p (setJ p i) noneS with
  | none=>none
  | some r=>some (if notQ p i then notS r.1 else r.1,r.2+1)
theorem bsetGo_gt {p:ByteArray}:∀ {i:Nat} {cs:List Bool} {r:List Bool × Nat},bsetGo p i cs=some r → i≤r.2∧r.2 < p.size∧r.1.length=cs.length:=by
 intro i
 induction i using (measure fun i=>p.size - i).wf.induction with
 | _ i ih =>
  intro cs r h
  rw [bsetGo] at h
  split at h
  ·cases h
  ·rename_i h1
   split at h
   ·cases h;exact ⟨Nat.le_refl _,by omega,rfl⟩
   ·split at h
    ·have hm:=memAt_lt p i
     have:=ih (memAt p i) (by show p.size - memAt p i < p.size - i;omega) h
     rw [memS_len] at this
     exact ⟨by omega,this.2⟩
    ·cases h
theorem setJ_le (p:ByteArray) (i:Nat):i≤setJ p i:=by unfold setJ;split<;>omega
theorem bsetM_gt {p:ByteArray} {i:Nat} {r:List Bool × Nat} (h:bsetM p i=some r):i < r.2∧r.2≤p.size∧r.1.length=127:=by
 unfold bsetM at h
 split at h
 ·cases h
 ·cases hg:bsetGo p (setJ p i) noneS with
  | none=>rw [hg] at h;cases h
  | some q =>
   rw [hg] at h
   have:=bsetGo_gt hg
   have hj:=setJ_le p i
   cases h
   have hl:q.1.length=127:=by rw [this.2.2];rfl
   refine ⟨by show i < q.2+1;omega,by show q.2+1≤p.size;omega,?_⟩
   show (if notQ p i=true then notS q.1 else q.1).length=127
   split
   ·unfold notS;rw [notN_len];exact hl
   ·exact hl
def starEl:El:=⟨0,true,everyL⟩
def askEl:El:=⟨0,false,everyL⟩
def litEl (b:UInt8):El:=⟨b.toNat,false,noneS.set b.toNat true⟩
def altGo (p:ByteArray) (i:Nat) (l:List (List El)) (x:List El):Option (List (List El)) :=
 if h:p.size≤i then some (l++[x])
 else if byt p i=124 then altGo p (i+1) (l++[x]) []
 else if byt p i=42 then altGo p (i+1) l (x++[starEl])
 else if byt p i=63 then altGo p (i+1) l (x++[askEl])
 else if byt p i=91 then match hs:bsetM p (i+1) with
  | none=>none
  | some r=>altGo p r.2 l (x++[⟨0,false,r.1⟩])
 else altGo p (i+1) l (x++[litEl (byt p i)])
termination_by p.size - i
decreasing_by all_goals first|omega|(have:=bsetM_gt hs;omega)
def altsM (p:ByteArray):Option (List (List El)):=altGo p 0 [] []
def globM (p:ByteArray):Int:=if 256 < p.size then 21 else if !(p.data.toList.all textB) then 20 else match altsM p with|none=>20|some _=>0
def matchM (p s:ByteArray):Bool:=decide (globM p=0) && (s.data.toList.all textB) && match altsM p with|none=>false|some l=>l.any fun x=>mat x s.data.toList
theorem rp_vals {w:World} {Γ:G}:∀ {vs xs:List Value},All2 (RP w Γ) (vs.map fun v=>.c (.v v)) xs → xs=vs
 | [],_,h=>by rw [List.map_nil,All2.nil_l] at h;exact h
 | v :: vs,xs,h=>by
  rw [List.map_cons,All2.cons_l] at h
  obtain ⟨y,m,rfl,h1,h2⟩:=h
  rw [rp_vals h2,h1.1]
theorem ext_of_below {w w':World} (hB:Below w.heap.size w w'):Ext No w w':=⟨hB.os,hB.tape,hB.output,hB.size,fun k hk _=>hB.block k hk⟩
theorem pcalls_plain {P:Program} {g:FuncId} (vs:List Value) (v:Value) (hv:v.oneCell'=true) (h:∀ w,Pin w → Calls P g vs.toArray w fun e w'=>e = .returned v∧Below w.heap.size w w') :
  PCalls P g (vs.map fun v=>.c (.v v)) [] fun r os=>r = .c (.v v)∧os=[]:=fun Γ w xs hm hx=>by
 rw [rp_vals hx]
 refine (h w hm.pin.1).mono ?_
 rintro e w' ⟨rfl,hB⟩
 have hE:=ext_of_below hB
 exact ⟨_,[],Γ,_,rfl,⟨rfl,rfl⟩,⟨rfl,hv⟩,Nat.le_refl _,hm.same (Same.of_ext hE),ext_grow hE⟩
theorem pcalls_plain2 {P:Program} {g:FuncId} (vs:List Value) (v u:Value) (hv:v.oneCell'=true) (hu:u.oneCell'=true) (h:∀ w,Pin w → Calls P g vs.toArray w fun e w'=>e = .returned (.tuple #[v,u])∧Below w.heap.size w w') :
  PCalls P g (vs.map fun v=>.c (.v v)) [] fun r os=>r = .two (.c (.v v)) (.c (.v u))∧os=[]:=fun Γ w xs hm hx=>by
 rw [rp_vals hx]
 refine (h w hm.pin.1).mono ?_
 rintro e w' ⟨rfl,hB⟩
 have hE:=ext_of_below hB
 exact ⟨_,[],Γ,_,rfl,⟨rfl,rfl⟩,⟨_,_,rfl,⟨rfl,hv⟩,⟨rfl,hu⟩⟩,Nat.le_refl _,hm.same (Same.of_ext hE),ext_grow hE⟩
theorem pcalls_row {P:Program} {g:FuncId} (vs:List Value) (T:TypeId) (rows:List (List D)) (cells:List Value) (sz:Nat) (hsz:0 < sz) (hr:∀ r ∈ rows,r.length=sz) (hn:0 < rows.length) (hc:∀ w I,All2 (RD w I) rows.flatten cells)
  (h:∀ w,Pin w → Calls P g vs.toArray w fun e w'=>∃ v,e = .returned v∧w'.ownsRow w.heap.size T sz v rows.length cells∧Below w.heap.size w w') :
  PCalls P g (vs.map fun v=>.c (.v v)) [] fun r os=>r = .c (.own 0 rows.length)∧os=[.arr T sz rows]:=fun Γ w xs hm hx=>by
 rw [rp_vals hx]
 refine (h w hm.pin.1).mono ?_
 rintro e w' ⟨v,rfl,hrow,hB⟩
 have hE:=ext_of_below hB
 have hS:=Same.of_ext hE
 have hn0:Γ.n=0:=hm.n
 obtain ⟨b,c,rfl,h4,h5,h6,h7,h8,h9⟩:=arr_of_own (k:=Γ.n) (Γ:=Γ) (rows:=rows) hrow hn hsz hr rfl
 have hro:=h9 (Γ.push b c) (by simp [G.push,upd_same]) (by simp [G.push,upd_same]) (hc _ _)
 refine ⟨_,_,Γ.push b c,_,rfl,⟨rfl,rfl⟩,?_,by simp,hm.push hS _ b c hro (fun _=>h6),grow_push hm hE b c (fun _=>h6) (Nat.zero_le _)⟩
 have hrep:OwnRep (Γ.push b c) Γ.n rows.length (.slice (some ⟨b,0,none⟩) rows.length c):=.inr ⟨by simp [G.push,upd_same,h4],by simp [G.push,upd_same],by simp [G.push,upd_same];exact h5⟩
 rw [hn0] at hrep
 exact ⟨by simp [G.push,hn0],hrep⟩
end Go.Proofs.YtmbbkfffcflfcaaGreatDoor
