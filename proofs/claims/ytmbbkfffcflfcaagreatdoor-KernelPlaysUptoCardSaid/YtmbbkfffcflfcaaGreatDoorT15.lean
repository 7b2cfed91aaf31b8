/- What the program computes, and the plain laws of it, part 15. -/
import Derived.Lib.IndexAny
import Derived.Test.YtmbbkfffcflfcaaGreatDoorT14
namespace Go.Proofs.YtmbbkfffcflfcaaGreatDoor
open List renaming reduceReplicate → rR
open Go.Proofs.Tryz
set_option linter.unusedSimpArgs false
set_option linter.unusedVariables false
open Go.RowKit
open IntWalk renaming iteOmega → O, toNatUp → U
theorem yx:ah prog 166 [.c (.v (.string ⟨upperT.toArray⟩))] [] fun r os=>r = .c (.v (.string ⟨lowerT.toArray⟩))∧os=[] :=
 da [.string ⟨upperT.toArray⟩] _ rfl fun w _=>(strings_ToLower_ascii ⟨upperT.toArray⟩ w af (fun j b hb=>by
  have:∀ b ∈ upperT,b.toNat < 128:=af;exact this b (List.mem_of_getElem? hb))).mono fun e w' ⟨he,hw⟩=>by
  rw [he];exact ⟨by congr,hw⟩
theorem Bz (s:ByteArray) (c:Int):ah prog 167 [.c (.v (.string s)),.c (.v (.int .u8 c))] [] fun r os=>r = .c (.v (.int .i64 (Lib.indexByte s.data.toList c.toNat.toUInt8)))∧os=[] :=
 da [.string s,.int .u8 c] _ rfl fun w _=>(strings_IndexByte s c w).mono fun e w' ⟨he,hw⟩=>by rw [he,hw];exact ⟨rfl,Below.refl _ _⟩
theorem Hm (a b:ByteArray):Lib.compareBytes a.data.toList b.data.toList=iZ a b:=by
 have h1:=qu a.data.toList b.data.toList;have h2:=qw a.data.toList b.data.toList;have h3:∀ x y:List UInt8,Lib.compareBytes x y = -1∨Lib.compareBytes x y=0∨Lib.compareBytes x y=1:=by
  intro x;induction x with
  | nil=>intro y;cases y<;>simp [Lib.compareBytes]
  | cons a x ih =>
   intro y;cases y with
   | nil=>simp [Lib.compareBytes]
   | cons b y=>rw [Lib.compareBytes];split;simp;split;simp;exact ih y
 have h4:=h3 a.data.toList b.data.toList;have hb:Op.bytesLess a.data.toList b.data.toList=bh a b:=by unfold bh;rw [Lib.toList_data,Lib.toList_data]
 rw [hb] at h1;unfold iZ;by_cases e1:bh a b=true
 ·rw [if_pos e1];have:=h1.2 e1;omega
 ·rw [if_neg e1];by_cases e2:bh b a=true
  ·rw [if_pos e2];have hn:¬ Lib.compareBytes a.data.toList b.data.toList=0:=fun h=>by
    have he:=h2.1 h;have:a=b:=by cases a;cases b;simp only at he;congr;exact Array.toList_inj.1 he
    exact dJ e2 this.symm
   have:¬ Lib.compareBytes a.data.toList b.data.toList < 0:=fun h=>e1 (h1.1 h)
   omega
  ·rw [if_neg e2];have:a=b:=ip (by simpa using e1) (by simpa using e2);rw [h2,this]
theorem tI (a b:ByteArray):ah prog 183 [.c (.v (.string a)),.c (.v (.string b))] [] fun r os=>r = .c (.v (.int .i64 (iZ a b)))∧os=[] :=
 da [.string a,.string b] _ rfl fun w _=>(strings_Compare a b w).mono fun e w' ⟨he,hw⟩=>by rw [he,hw,Hm];exact ⟨rfl,Below.refl _ _⟩
theorem tJ (s:ByteArray) (hs:s.size < 4294967281):ah prog 158 [.c (.v (.string s)),.c (.v (.string ⟨#[33]⟩)),.c (.v (.string ⟨#[47]⟩))] [] fun r os=>r = .c (.v (.string (m9 s)))∧os=[] :=
 da [.string s,.string ⟨#[33]⟩,.string ⟨#[47]⟩] _ rfl fun w hp=>by
  obtain ⟨m,hm⟩:=hp;refine (strings_ReplaceAll s ⟨#[33]⟩ ⟨#[47]⟩ m w hs hm af (by
   have h:=Lib.countB_le ⟨#[33]⟩ af _ s (Nat.le_refl _);show _+_ * 1≤_;omega)).mono fun e w' ⟨he,hw⟩=>?_
  exact ⟨he,hw⟩
theorem sD (c:UInt8):∀ l:List UInt8,Lib.contains l [c]=l.contains c:=by
 have key:∀ l:List UInt8,Lib.index l [c]=Lib.indexByte l c:=by
  intro l;induction l with
  | nil=>rfl
  | cons b l ih =>
   rw [Lib.index,Lib.indexByte,ih];by_cases h:b=c
   ·subst h;simp
   ·simp [h,Ne.symm h]
 intro l;rw [Lib.contains,key,Lib.contains_iff_indexByte]
theorem lT (s:ByteArray) (c:UInt8) (hs:s.size < 4294967281):ah prog 257 [.c (.v (.string s)),.c (.v (.string ⟨#[c]⟩))] [] fun r os=>r = .c (.v (.bool (s.data.toList.contains c)))∧os=[] :=
 da [.string s,.string ⟨#[c]⟩] _ rfl fun w hp=>by
  obtain ⟨m,hm⟩:=hp;refine (strings_Contains s ⟨#[c]⟩ m w hs hm).mono fun e w' ⟨he,hw⟩=>?_
  rw [he,hw];exact ⟨by rw [show (⟨#[c]⟩:ByteArray).data.toList=[c] from rfl,sD],Below.refl _ _⟩
theorem rc (w:World) (I:Nat → Prop):∀ l:List ByteArray,ay (RD w I) (l.map aU).flatten (l.map Value.string)
 | []=>trivial
 | a :: l=>⟨by rw [RD];exact ⟨rfl,rfl⟩,rc w I l⟩
theorem mf (s:ByteArray) (hs:s.size < 4294967281):ah prog 161 [.c (.v (.string s)),.c (.v (.string ⟨#[47]⟩))] [] fun r os=>r = .c (.own 0 (parts s).length)∧os=[.arr 9 1 ((parts s).map aU)]:=by
 have h:=yv (P:=prog) (g:=161) [.string s,.string ⟨#[47]⟩] 9 ((parts s).map aU) ((parts s).map Value.string) 1 ac (fun r hr=>by obtain ⟨z,_,rfl⟩:=List.mem_map.1 hr;rfl) (by rw [List.length_map];exact EC s) (fun w I=>rc w I _)
  (fun w hp=>by
   obtain ⟨m,hm⟩:=hp;refine (strings_Split s ⟨#[47]⟩ m w hs hm af).mono fun e w' ⟨he,hw⟩=>?_
   have hlen:Lib.countB s ⟨#[47]⟩+1=(parts s).length:=by rw [← m6,Lib.splitB_all _ af 0 _ s rfl]
   rw [m6] at hw;rw [hlen] at he;refine ⟨_,he,?_,by rw [hw];exact (Below.refl _ _).alloc (Nat.le_refl _) _⟩;rw [hw,List.length_map];have:=uw (base:=w.heap.size) (n:=(parts s).length) (cap:=(parts s).length) (size:=1) (Blk.new w 9 ((parts s).map Value.string).toArray) (Nat.le_refl _) (by simp) (Nat.le_refl _) (by have:=gU (s:=s);unfold maxLen;omega)
   rwa [List.toList_toArray,List.take_of_length_le (by simp)] at this)
 simpa using h
section
attribute [local irreducible] PL QL aL ah bg La aV PA
set_option maxRecDepth 20000
abbrev aN (b:Bool):E:=.v (.bool b)
theorem ED (m n:Nat) (x:Value):(List.replicate m (E.v x)).all (kE n)=true:=List.all_eq_true.2 fun e he=>by rw [List.eq_of_mem_replicate he];rfl
theorem BA (cs:List Bool):plusL cs []=cs:=rfl
theorem yy (v:Bool) (os:List Ob) (ks:List Nat) (m:Nat) (x:Value):ei v os ks (List.replicate m (E.v x))=some (List.replicate m (E.v x)):=by
 have:=qS v os ks (fun _:Unit=>x) (List.replicate m ());simpa only [List.map_replicate] using this
attribute [push_cast] yy ED BA List.drop_replicate Nat.sub_self List.replicate_zero List.append_nil
theorem jB (cs:List Bool) (i:Nat) (hi:i < cs.length):(cs.map aN).drop i = .v (.bool (cs.getD i false)) :: (cs.map aN).drop (i+1):=by
 have h:i < (cs.map aN).length:=by rw [List.length_map];exact hi
 rw [List.drop_eq_getElem_cons h,List.getElem_map,List.getD_eq_getElem?_getD,List.getElem?_eq_getElem hi];rfl
theorem yz {cs:List Bool} {t:List UInt8} {k:Nat} (hk:k < t.length):plusL cs (t.take (k+1))=(plusL cs (t.take k)).set (t.getD k 0).toNat true:=by
 rw [List.take_succ_eq_append_getElem hk,yu,List.getD_eq_getElem?_getD,List.getElem?_eq_getElem hk];rfl
set_option maxRecDepth 20000 in
set_option maxHeartbeats 1000000 in
theorem gC (cs:List Bool) (t:ByteArray) (hc:cs.length=256) (ht:t.size≤1000000) :
  ah prog 126 [.agg (cs.map aN),.c (.v (.string t))] [] fun r os=>r = .agg ((plusL cs t.data.toList).map aN)∧os=[]:=by
 refine aw func126 ntmps126 results126 ?_;push_cast [O,U];have cB:aH 9 []:=trivial;repeat' ((first|refine ae ?_|refine pif ?_ ?_<;>intro h<;>try exact pN h)<;>push_cast [O,U])
 (apply ap (α:=Nat) 9 [] (fun k=>[(8,.c (.v (.int .i64 k)))]) (fun k=>[(0,.box 174 ((plusL cs (t.data.toList.take k)).map aN))]) (fun k=>k≤t.size) (fun k=>t.size - k) (0);(focus ((try push_cast [O,U]);rfl));(focus exact ac);(focus ((refine weak_fg ?_;try push_cast [O,U]))));intro k hk;push_cast [O,U];have hlen:(plusL cs (t.data.toList.take k)).length=256:=by rw [aX,hc]
 by_cases hlt:k < t.size
 ·have hs:=yz (cs:=cs) (t:=t.data.toList) (k:=k) hlt;have hb:=(t.data.toList.getD k 0).toNat_lt;repeat' ((first|refine ae ?_|refine pif ?_ ?_<;>intro h<;>try exact pN h)<;>push_cast [O,U,hlen])
  have hs2:(List.map aN (plusL cs (t.data.toList.take k))).set (t.data.toList.getD k 0).toNat (.v (.bool true))=(plusL cs (t.data.toList.take (k+1))).map aN:=by rw [hs,List.map_set]
  exact ⟨k+1,ac,by (refine weak_fg ?_;push_cast [O,U,hs2]),ac⟩
 ·have hk2:k=t.size:=ac;subst hk2;have he:t.data.toList.take t.size=t.data.toList:=List.take_of_length_le (Nat.le_refl _);rw [he] at hlen ⊢;repeat' ((first|refine ae ?_|refine pif ?_ ?_<;>intro h<;>try exact pN h)<;>push_cast [O,U,hlen])
  (refine K9 [] ?_;push_cast [O,U,hlen])
set_option maxRecDepth 20000 in
set_option maxHeartbeats 1000000 in
theorem wK (cs:List Bool) (t:ByteArray) (hc:cs.length=256) (ht:t.size≤1000000) :
  ah prog 127 [.agg (cs.map aN),.c (.v (.string t))] [] fun r os=>r = .c (.v (.bool (ik cs t)))∧os=[]:=by
 refine aw func127 ntmps127 results127 ?_;push_cast [O,U];have cB:aH 9 []:=trivial;repeat' ((first|refine ae ?_|refine pif ?_ ?_<;>intro h<;>try exact pN h)<;>push_cast [O,U])
 (apply ap (α:=Nat) 9 [] (fun k=>[(8,.c (.v (.int .i64 k)))]) (fun k=>[]) (fun k=>k≤t.size∧(t.data.toList.take k).all (fun b=>cs.getD b.toNat false)=true) (fun k=>t.size - k) (0);(focus ((try push_cast [O,U]);rfl));(focus exact ⟨ac,rfl⟩);(focus ((refine weak_fg ?_;try push_cast [O,U]))));rintro k ⟨hk,ha⟩;push_cast [O,U];by_cases hlt:k < t.size
 ·have hb:=(t.data.toList.getD k 0).toNat_lt;have hst:(t.data.toList.take (k+1)).all (fun b=>cs.getD b.toNat false)=cs.getD (t.data.toList.getD k 0).toNat false:=by
   have hk2:k < t.data.toList.length:=hlt;rw [List.take_succ_eq_append_getElem hk2,List.all_append,ha,List.getD_eq_getElem?_getD,List.getD_eq_getElem?_getD (l:=t.data.toList),List.getElem?_eq_getElem hk2];simp
  have hd:=jB cs (t.data.toList.getD k 0).toNat ac;cases hv:cs.getD (t.data.toList.getD k 0).toNat false
  ·rw [hv] at hd;repeat' ((first|refine ae ?_|refine pif ?_ ?_<;>intro h<;>try exact pN h)<;>push_cast [O,U,hc,hd])
   (refine K9 [] ?_;push_cast [O,U]);rw [ik,List.all_eq_false.2];refine ⟨t.data.toList.getD k 0,?_,by rw [hv];decide⟩;have hk2:k < t.data.toList.length:=hlt;rw [List.getD_eq_getElem?_getD,List.getElem?_eq_getElem hk2];exact List.getElem_mem _
  ·rw [hv] at hd;repeat' ((first|refine ae ?_|refine pif ?_ ?_<;>intro h<;>try exact pN h)<;>push_cast [O,U,hc,hd])
   exact ⟨k+1,⟨ac,by rw [hst,hv]⟩,aA,ac⟩
 ·have hk2:k=t.size:=ac;subst hk2;have he:t.data.toList.take t.size=t.data.toList:=List.take_of_length_le (Nat.le_refl _);rw [he] at ha;repeat' ((first|refine ae ?_|refine pif ?_ ?_<;>intro h<;>try exact pN h)<;>push_cast [O,U])
  (refine K9 [] ?_;push_cast [O,U]);rw [ik,ha]
theorem EE:noneL.map aN=List.replicate 256 (E.v (.bool false)):=List.map_replicate
set_option maxRecDepth 20000 in
set_option maxHeartbeats 1000000 in
theorem pn:ah prog 125 [] [] fun r os=>r = .agg (commonL.map aN)∧os=[]:=by
 have h1:=gC noneL ⟨#[65,66,67,68,69,70,71,72,73,74,75,76,77,78,79,80,81,82,83,84,85,86,87,88,89,90]⟩ cQ af;have h2:=gC (plusL noneL upperT) ⟨#[97,98,99,100,101,102,103,104,105,106,107,108,109,110,111,112,113,114,115,116,117,118,119,120,121,122]⟩ (by rw [aX,cQ]) af;have h3:=gC (plusL (plusL noneL upperT) lowerT) ⟨#[48,49,50,51,52,53,54,55,56,57]⟩ (by rw [aX,aX,cQ]) af;have h4:=gC (plusL (plusL (plusL noneL upperT) lowerT) digitT) ⟨#[95,46,58,43,45]⟩ (by rw [aX,aX,aX,cQ]) af;have hl:=yx;rw [EE] at h1;simp only [List.toList_toArray] at h1 h2 h3 h4;change ah _ _ _ _ fun r os=>r = .agg ((plusL noneL upperT).map aN)∧os=[] at h1
 change ah _ _ _ _ fun r os=>r = .agg ((plusL (plusL noneL upperT) lowerT).map aN)∧os=[] at h2
 change ah _ _ _ _ fun r os=>r = .agg ((plusL (plusL (plusL noneL upperT) lowerT) digitT).map aN)∧os=[] at h3
 change ah _ _ _ _ fun r os=>r = .agg (commonL.map aN)∧os=[] at h4
 change ah prog 166 [.c (.v (.string (⟨#[65,66,67,68,69,70,71,72,73,74,75,76,77,78,79,80,81,82,83,84,85,86,87,88,89,90]⟩)))] [] fun r os=>r = .c (.v (.string (⟨#[97,98,99,100,101,102,103,104,105,106,107,108,109,110,111,112,113,114,115,116,117,118,119,120,121,122]⟩)))∧os=[] at hl
 have hcl:=fk;generalize plusL noneL upperT=s1 at h1 h2 h3 h4;generalize plusL s1 lowerT=s2 at h2 h3 h4;generalize plusL s2 digitT=s3 at h3 h4;refine aw func125 ntmps125 results125 ?_;push_cast [O,U];have cB:aH 1 []:=trivial;repeat' ((first|refine aK [] h1 ?_|refine aK [] hl ?_|refine aK [] h2 ?_|refine aK [] h3 ?_|refine aK [] h4 ?_|refine ae ?_|refine pif ?_ ?_<;>intro h<;>try exact pN h)<;>push_cast [O,U])
 (refine K9 [] ?_;push_cast [O,U,hcl])
theorem tK (s:ByteArray):ah prog 124 [.c (.v (.string s))] [] fun r os=>r = .c (.v (.bool (fH s)))∧os=[]:=by
 refine aw func124 ntmps124 results124 ?_;unfold fH;by_cases h1:s=⟨#[46]⟩
 ·have e1:=eq_true h1;push_cast [O,U];repeat' ((first|refine au ?_|refine pif ?_ ?_<;>intro h<;>try exact pN h)<;>push_cast [O,U,e1])
  exact am []
 ·by_cases h2:s=⟨#[46,46]⟩
  ·have e2:=eq_true h2;push_cast [O,U];repeat' ((first|refine au ?_|refine pif ?_ ?_<;>intro h<;>try exact pN h)<;>push_cast [O,U,h1,e2])
   exact am []
  ·push_cast [O,U];repeat' ((first|refine au ?_|refine pif ?_ ?_<;>intro h<;>try exact pN h)<;>push_cast [O,U,h1,h2])
   exact am []
set_option maxRecDepth 20000 in
set_option maxHeartbeats 1000000 in
theorem dt (s:ByteArray) (hs:s.size≤9223372036854775807):ah prog 76 [.c (.v (.string s))] [] fun r os=>r = .c (.v (.bool (validS s)))∧os=[]:=by
 have hp:=gC commonL ⟨#[33]⟩ fk af;simp only [List.toList_toArray] at hp;have hd:=tK s;have hv:validS s=(((decide (s≠⟨#[]⟩) && decide (s.size≤32)) && !fH s) && ik (plusL commonL [33]) s):=by rw [EA,validS]
 have hl:(plusL commonL [33]).length=256:=by rw [aX,fk]
 rw [hv];generalize plusL commonL [33]=cs at hp hl ⊢;refine aw func76 ntmps76 results76 ?_;by_cases h1:s=⟨#[]⟩
 ·have e1:=eq_true h1;push_cast [O,U];repeat' ((first|refine au ?_|refine pif ?_ ?_<;>intro h<;>try exact pN h)<;>push_cast [O,U,e1,ne_eq,not_true_eq_false])
  exact am []
 ·by_cases h2:s.size≤32
  ·have h2':(s.size:Int)≤32:=ac;obtain ⟨b,hb⟩:∃ b,fH s=b:=⟨_,rfl⟩
   rw [hb] at hd ⊢;have hh:=wK cs s hl ac;obtain ⟨c,hc⟩:∃ c,ik cs s=c:=⟨_,rfl⟩
   rw [hc] at hh ⊢;cases b;all_goals push_cast [O,U]
   all_goals repeat' ((first|refine plE [] hd ?_ ?_;focus (push_cast [O,U,h1,h2',ne_eq,not_false_eq_true];done)|refine plE [] pn ?_ ?_;focus (push_cast [O,U,h1,h2',ne_eq,not_false_eq_true];done)|refine plE [] hp ?_ ?_;focus (push_cast [O,U,h1,h2',ne_eq,not_false_eq_true];done)|refine plE [] hh ?_ ?_;focus (push_cast [O,U,h1,h2',ne_eq,not_false_eq_true];done)|refine au ?_|refine pif ?_ ?_<;>intro h<;>try exact pN h)<;>push_cast [O,U,h1,h2',ne_eq,not_false_eq_true])
   all_goals (refine K9 [] ?_;push_cast [O,U])
   all_goals simp [h1,h2]
  ·have h2':¬ (s.size:Int)≤32:=ac;push_cast [O,U];repeat' ((first|refine au ?_|refine pif ?_ ?_<;>intro h<;>try exact pN h)<;>push_cast [O,U,h1,h2',ne_eq,not_false_eq_true])
   (refine K9 [] ?_;push_cast [O,U]);simp [h2]
set_option maxRecDepth 20000
theorem di:dn.map aN=List.replicate 127 (E.v (.bool false)):=List.map_replicate
set_option maxRecDepth 20000 in
set_option maxHeartbeats 1000000 in
theorem rf:ah prog 147 [] [] fun r os=>r = .agg (fA.map aN)∧os=[]:=by
 refine aw func147 ntmps147 results147 ?_;push_cast [-rR,O,U];have cB:aH 3 []:=trivial;repeat' ((first|refine ae ?_|refine pif ?_ ?_<;>intro h<;>try exact pN h)<;>push_cast [-rR,O,U])
 (apply ap (α:=Nat) 3 [] (fun k=>[(2,.c (.v (.int .i64 (32+k))))]) (fun k=>[(1,.box 160 ((br dn 32 k).map aN))]) (fun k=>k≤95) (fun k=>95 - k) (0);(focus ((try push_cast [-rR,O,U]);rfl));(focus exact ac);(focus ((refine weak_fg ?_;try push_cast [-rR,O,U]);(try (exact bT _)))));intro k hk;push_cast [-rR,O,U];have hlen:(br dn 32 k).length=127:=by rw [cR];rfl
 by_cases hlt:k < 95
 ·repeat' ((first|refine ae ?_|refine pif ?_ ?_<;>intro h<;>try exact pN h)<;>push_cast [-rR,O,U,hlen])
  have hs2:(List.map aN (br dn 32 k)).set (32+k) (.v (.bool true))=(br dn 32 (k+1)).map aN:=by rw [br,List.map_set]
  have hk3:(32+(k:Int)+1)=32+((k:Int)+1):=ac;exact ⟨k+1,ac,by (refine weak_fg ?_;push_cast [-rR,O,U,hs2,hk3]),ac⟩
 ·have hk2:k=95:=ac;subst hk2;have hst:List.take 127 ((br dn 32 95).map aN)=fA.map aN:=List.take_of_length_le (by rw [List.length_map,hlen];exact Nat.le_refl _);repeat' ((first|refine ae ?_|refine pif ?_ ?_<;>intro h<;>try exact pN h)<;>push_cast [-rR,O,U,hlen])
  (refine K9 [] ?_;push_cast [-rR,O,U,hlen,hst]);exact bT _
theorem uU {p:ByteArray} {i:Nat} (k:Nat) (h:i≤p.size):(p.extract i p.size).data.toList.getD k 0=byt p (i+k):=by
 have e:(p.extract i p.size).data.toList=p.data.toList.drop i:=by rw [ByteArray.data_extract,Array.toList_extract,List.extract_eq_take_drop];exact List.take_of_length_le (by rw [List.length_drop];exact Nat.le_refl _)
 unfold byt;rw [e,List.getD_eq_getElem?_getD,List.getElem?_drop,← List.getD_eq_getElem?_getD]
abbrev rdE (p:ByteArray) (i:Nat):List E:=[.v (.string p),.v (.int .i64 i)]
set_option maxRecDepth 20000 in
set_option maxHeartbeats 1000000 in
theorem iw (p:ByteArray) (i:Nat) (cs:List Bool) (h:i=p.size) (hp:p.size≤1000000) :
  ah prog 186 [.c (.ptr 0 0),.c (.ptr 1 0)] [.box 156 (rdE p i),.box 160 (cs.map aN)] fun r os=>r = .c (.v (.bool false))∧os=[.box 156 (rdE p i),.box 160 (cs.map aN)]:=by
 have hx:p.extract i p.size=⟨#[]⟩:=by
  apply ByteArray.ext;rw [ByteArray.data_extract];exact Array.extract_empty_of_stop_le_start ac
 have hx2:((⟨#[]⟩:ByteArray)=⟨#[]⟩)=True:=eq_self _;refine aw func186 ntmps186 results186 ?_;push_cast [-rR,O,U];have cB:aH 9 []:=trivial;repeat' ((first|refine ae ?_|refine pif ?_ ?_<;>intro h<;>try exact pN h)<;>push_cast [-rR,O,U,hx])
 (refine K9 [0,1] ?_;push_cast [-rR,O,U])
set_option maxRecDepth 20000 in
set_option maxHeartbeats 2000000 in
theorem iy (p:ByteArray) (i:Nat) (cs:List Bool) (h:i < p.size) (hp:p.size≤1000000) (hcs:cs.length=127) (hb:∀ k,byt p k≤126) :
  ah prog 186 [.c (.ptr 0 0),.c (.ptr 1 0)] [.box 156 (rdE p i),.box 160 (cs.map aN)] fun r os=>r = .c (.v (.bool (decide (byt p i≤dq p i))))∧os=[.box 156 (rdE p (cH p i)),.box 160 ((eR p i cs).map aN)]:=by
 have hsz:(p.extract i p.size).size=p.size - i:=by rw [ByteArray.size_extract];omega
 have hx:¬ p.extract i p.size=⟨#[]⟩:=fun e=>by rw [e] at hsz;have:(0:Nat)=p.size - i:=hsz;omega
 have b0:(p.extract i p.size).data.toList.getD 0 0=byt p i:=uU (p:=p) (i:=i) 0 ac;have b1:=uU (p:=p) (i:=i) 1 ac;have b2:=uU (p:=p) (i:=i) 2 ac;have g0:0 < (p.extract i p.size).size:=ac;refine aw func186 ntmps186 results186 ?_;push_cast [-rR,O,U];have cB:aH 9 []:=trivial;by_cases h2:i+2 < p.size
 case neg =>
  have h2':¬ (2:Int) < ((p.extract i p.size).size:Int):=ac;have hq:jz p i=false:=by unfold jz;rw [decide_eq_false h2];rfl
  have hm:cH p i=i+1:=by unfold cH;rw [hq];rfl
  have ht:dq p i=byt p i:=by unfold dq;rw [hq];rfl
  obtain ⟨A,hA⟩:∃ A,(byt p i).toNat=A:=⟨_,rfl⟩
  obtain ⟨T,hT⟩:∃ T,(dq p i).toNat=T:=⟨_,rfl⟩
  have hAT:A=T:=by rw [← hA,← hT,ht]
  have hT1:T≤126:=by rw [← hAT,← hA];exact UInt8.le_iff_toNat_le.1 (hb i)
  repeat' ((first|refine ae ?_|refine pif ?_ ?_<;>intro h<;>try exact pN h)<;>push_cast [-rR,O,U,hx,g0,b0,h2',hA])
  have hS:eR p i cs=br cs A (T+1 - A):=by unfold eR;rw [hA,hT]
  (apply ap (α:=Nat) 9 [] (fun k=>[(8,.c (.v (.int .u8 ((A+k:Nat):Int))))]) (fun k=>[(1,.box 160 ((br cs A k).map aN))]) (fun k=>k≤T+1 - A) (fun k=>(T+1 - A) - k) (0);(focus ((try push_cast [-rR,O,U]);rfl));(focus exact ac);(focus ((refine weak_fg ?_;try push_cast [-rR,O,U]);(try (exact ⟨(Int.add_zero _).symm,bT _⟩)))));intro k hk;push_cast [-rR,O,U];have hlen:(br cs A k).length=127:=by rw [cR,hcs]
  by_cases hlt:k < T+1 - A
  ·have hc:(A:Int)+(k:Int)≤(T:Int):=ac;repeat' ((first|refine ae ?_|refine pif ?_ ?_<;>intro h<;>try exact pN h)<;>push_cast [-rR,O,U,hlen,hc])
   have hs2:(List.map aN (br cs A k)).set (A+k) (.v (.bool true))=(br cs A (k+1)).map aN:=by rw [br,List.map_set]
   have hk3:((A:Int)+(k:Int)+1)=(A:Int)+((k:Int)+1):=ac;exact ⟨k+1,ac,by (refine weak_fg ?_;push_cast [-rR,O,U,hs2,hk3]),ac⟩
  ·have hk2:k=T+1 - A:=ac;have hc:¬ (A:Int)+(k:Int)≤(T:Int):=ac;repeat' ((first|refine ae ?_|refine pif ?_ ?_<;>intro h<;>try exact pN h)<;>push_cast [-rR,O,U,hlen,hc])
   subst hk2;(refine K9 [0,1] ?_;push_cast [-rR,O,U]);refine ⟨decide_eq_decide.2 ?_,by rw [hm];push_cast;try rfl,by rw [hS];exact bT _⟩;rw [UInt8.le_iff_toNat_le,hA,hT];omega
 have h2':(2:Int) < ((p.extract i p.size).size:Int):=ac;have g1:1 < (p.extract i p.size).size:=ac;have g2:2 < (p.extract i p.size).size:=ac;by_cases h3:byt p (i+1)=45
 case neg =>
  have h3':¬ (byt p (i+1)).toNat=45:=fun e=>h3 (UInt8.toNat_inj.1 e)
  have hq:jz p i=false:=by unfold jz;rw [beq_eq_false_iff_ne.2 h3];simp
  have hm:cH p i=i+1:=by unfold cH;rw [hq];rfl
  have ht:dq p i=byt p i:=by unfold dq;rw [hq];rfl
  obtain ⟨A,hA⟩:∃ A,(byt p i).toNat=A:=⟨_,rfl⟩
  obtain ⟨T,hT⟩:∃ T,(dq p i).toNat=T:=⟨_,rfl⟩
  have hAT:A=T:=by rw [← hA,← hT,ht]
  have hT1:T≤126:=by rw [← hAT,← hA];exact UInt8.le_iff_toNat_le.1 (hb i)
  repeat' ((first|refine ae ?_|refine pif ?_ ?_<;>intro h<;>try exact pN h)<;>push_cast [-rR,O,U,hx,g0,b0,g1,b1,h2',hA,h3',h3])
  have hS:eR p i cs=br cs A (T+1 - A):=by unfold eR;rw [hA,hT]
  (apply ap (α:=Nat) 9 [] (fun k=>[(8,.c (.v (.int .u8 ((A+k:Nat):Int))))]) (fun k=>[(1,.box 160 ((br cs A k).map aN))]) (fun k=>k≤T+1 - A) (fun k=>(T+1 - A) - k) (0);(focus ((try push_cast [-rR,O,U]);rfl));(focus exact ac);(focus ((refine weak_fg ?_;try push_cast [-rR,O,U]);(try (exact ⟨(Int.add_zero _).symm,bT _⟩)))));intro k hk;push_cast [-rR,O,U];have hlen:(br cs A k).length=127:=by rw [cR,hcs]
  by_cases hlt:k < T+1 - A
  ·have hc:(A:Int)+(k:Int)≤(T:Int):=ac;repeat' ((first|refine ae ?_|refine pif ?_ ?_<;>intro h<;>try exact pN h)<;>push_cast [-rR,O,U,hlen,hc])
   have hs2:(List.map aN (br cs A k)).set (A+k) (.v (.bool true))=(br cs A (k+1)).map aN:=by rw [br,List.map_set]
   have hk3:((A:Int)+(k:Int)+1)=(A:Int)+((k:Int)+1):=ac;exact ⟨k+1,ac,by (refine weak_fg ?_;push_cast [-rR,O,U,hs2,hk3]),ac⟩
  ·have hk2:k=T+1 - A:=ac;have hc:¬ (A:Int)+(k:Int)≤(T:Int):=ac;repeat' ((first|refine ae ?_|refine pif ?_ ?_<;>intro h<;>try exact pN h)<;>push_cast [-rR,O,U,hlen,hc])
   subst hk2;(refine K9 [0,1] ?_;push_cast [-rR,O,U]);refine ⟨decide_eq_decide.2 ?_,by rw [hm];push_cast;try rfl,by rw [hS];exact bT _⟩;rw [UInt8.le_iff_toNat_le,hA,hT];omega
 by_cases h4:byt p (i+2)=93
 case pos =>
  have hq:jz p i=false:=by unfold jz;rw [h4];simp
  have hm:cH p i=i+1:=by unfold cH;rw [hq];rfl
  have ht:dq p i=byt p i:=by unfold dq;rw [hq];rfl
  obtain ⟨A,hA⟩:∃ A,(byt p i).toNat=A:=⟨_,rfl⟩
  obtain ⟨T,hT⟩:∃ T,(dq p i).toNat=T:=⟨_,rfl⟩
  have hAT:A=T:=by rw [← hA,← hT,ht]
  have hT1:T≤126:=by rw [← hAT,← hA];exact UInt8.le_iff_toNat_le.1 (hb i)
  repeat' ((first|refine ae ?_|refine pif ?_ ?_<;>intro h<;>try exact pN h)<;>push_cast [-rR,O,U,hx,g0,b0,g1,b1,g2,b2,h2',hA,h3,h4])
  have hS:eR p i cs=br cs A (T+1 - A):=by unfold eR;rw [hA,hT]
  (apply ap (α:=Nat) 9 [] (fun k=>[(8,.c (.v (.int .u8 ((A+k:Nat):Int))))]) (fun k=>[(1,.box 160 ((br cs A k).map aN))]) (fun k=>k≤T+1 - A) (fun k=>(T+1 - A) - k) (0);(focus ((try push_cast [-rR,O,U]);rfl));(focus exact ac);(focus ((refine weak_fg ?_;try push_cast [-rR,O,U]);(try (exact ⟨(Int.add_zero _).symm,bT _⟩)))));intro k hk;push_cast [-rR,O,U];have hlen:(br cs A k).length=127:=by rw [cR,hcs]
  by_cases hlt:k < T+1 - A
  ·have hc:(A:Int)+(k:Int)≤(T:Int):=ac;repeat' ((first|refine ae ?_|refine pif ?_ ?_<;>intro h<;>try exact pN h)<;>push_cast [-rR,O,U,hlen,hc])
   have hs2:(List.map aN (br cs A k)).set (A+k) (.v (.bool true))=(br cs A (k+1)).map aN:=by rw [br,List.map_set]
   have hk3:((A:Int)+(k:Int)+1)=(A:Int)+((k:Int)+1):=ac;exact ⟨k+1,ac,by (refine weak_fg ?_;push_cast [-rR,O,U,hs2,hk3]),ac⟩
  ·have hk2:k=T+1 - A:=ac;have hc:¬ (A:Int)+(k:Int)≤(T:Int):=ac;repeat' ((first|refine ae ?_|refine pif ?_ ?_<;>intro h<;>try exact pN h)<;>push_cast [-rR,O,U,hlen,hc])
   subst hk2;(refine K9 [0,1] ?_;push_cast [-rR,O,U]);refine ⟨decide_eq_decide.2 ?_,by rw [hm];push_cast;try rfl,by rw [hS];exact bT _⟩;rw [UInt8.le_iff_toNat_le,hA,hT];omega
 have h4':¬ (byt p (i+2)).toNat=93:=fun e=>h4 (UInt8.toNat_inj.1 e)
 have hq:jz p i=true:=by unfold jz;rw [h3,decide_eq_true h2];simp [h4]
 have hm:cH p i=i+3:=by unfold cH;rw [hq];rfl
 have ht:dq p i=byt p (i+2):=by unfold dq;rw [hq];rfl
 obtain ⟨A,hA⟩:∃ A,(byt p i).toNat=A:=⟨_,rfl⟩
 obtain ⟨T,hT⟩:∃ T,(dq p i).toNat=T:=⟨_,rfl⟩
 have hTT:(byt p (i+2)).toNat=T:=by rw [← hT,ht]
 have hT1:T≤126:=by rw [← hTT];exact UInt8.le_iff_toNat_le.1 (hb _)
 have hA1:A≤126:=by rw [← hA];exact UInt8.le_iff_toNat_le.1 (hb _)
 repeat' ((first|refine ae ?_|refine pif ?_ ?_<;>intro h<;>try exact pN h)<;>push_cast [-rR,O,U,hx,g0,b0,g1,b1,g2,b2,h2',hA,h3,h4,h4',hTT])
 have hS:eR p i cs=br cs A (T+1 - A):=by unfold eR;rw [hA,hT]
 (apply ap (α:=Nat) 9 [] (fun k=>[(8,.c (.v (.int .u8 ((A+k:Nat):Int))))]) (fun k=>[(1,.box 160 ((br cs A k).map aN))]) (fun k=>k≤T+1 - A) (fun k=>(T+1 - A) - k) (0);(focus ((try push_cast [-rR,O,U]);rfl));(focus exact ac);(focus ((refine weak_fg ?_;try push_cast [-rR,O,U]);(try (exact ⟨(Int.add_zero _).symm,bT _⟩)))));intro k hk;push_cast [-rR,O,U];have hlen:(br cs A k).length=127:=by rw [cR,hcs]
 by_cases hlt:k < T+1 - A
 ·have hc:(A:Int)+(k:Int)≤(T:Int):=ac;repeat' ((first|refine ae ?_|refine pif ?_ ?_<;>intro h<;>try exact pN h)<;>push_cast [-rR,O,U,hlen,hc])
  have hs2:(List.map aN (br cs A k)).set (A+k) (.v (.bool true))=(br cs A (k+1)).map aN:=by rw [br,List.map_set]
  have hk3:((A:Int)+(k:Int)+1)=(A:Int)+((k:Int)+1):=ac;exact ⟨k+1,ac,by (refine weak_fg ?_;push_cast [-rR,O,U,hs2,hk3]),ac⟩
 ·have hk2:k=T+1 - A:=ac;have hc:¬ (A:Int)+(k:Int)≤(T:Int):=ac;repeat' ((first|refine ae ?_|refine pif ?_ ?_<;>intro h<;>try exact pN h)<;>push_cast [-rR,O,U,hlen,hc])
  subst hk2;(refine K9 [0,1] ?_;push_cast [-rR,O,U]);refine ⟨decide_eq_decide.2 ?_,by rw [hm];push_cast;try rfl,by rw [hS];exact bT _⟩;rw [UInt8.le_iff_toNat_le,hA,hT];omega
set_option maxRecDepth 20000
theorem As:∀ (l:List UInt8) (c:UInt8),Lib.indexByte l c < 0 ↔ l.contains c=false
 | [],c=>by simp [Lib.indexByte]
 | b :: l,c=>by
  have ih:=As l c;have hg:=Lib.indexByte_ge l c;rw [Lib.indexByte,List.contains_cons];by_cases h:b=c
  ·subst h;simp
  ·rw [if_neg (by simpa using h),show (c == b)=false by simpa using Ne.symm h,Bool.false_or,← ih];split
   ·rename_i h1;simp at h1;omega
   ·rename_i h1;simp at h1;omega
theorem BB (b:UInt8):((b.toNat:Int)).toNat.toUInt8=b:=by simp
def inT (s t:ByteArray):Bool:=s.data.toList.all fun b=>t.data.toList.contains b
set_option maxHeartbeats 1000000 in
theorem wL (s t:ByteArray) (hs:s.size≤1000000000) :
  ah prog 129 [.c (.v (.string s)),.c (.v (.string t))] [] fun r os=>r = .c (.v (.bool (inT s t)))∧os=[]:=by
 refine aw func129 ntmps129 results129 ?_;push_cast [O,U];have cB:aH 6 []:=trivial;repeat' ((first|refine ae ?_|refine pif ?_ ?_<;>intro h<;>try exact pN h)<;>push_cast [O,U])
 (apply ap (α:=Nat) 6 [] (fun k=>[(5,.c (.v (.int .i64 k)))]) (fun k=>[]) (fun k=>k≤s.size∧(s.data.toList.take k).all (fun b=>t.data.toList.contains b)=true) (fun k=>s.size - k) (0);(focus ((try push_cast [O,U]);rfl));(focus exact ⟨ac,rfl⟩);(focus ((refine weak_fg ?_;try push_cast [O,U]))));rintro k ⟨hk,ha⟩;push_cast [O,U];by_cases hlt:k < s.size
 ·have hk2:k < s.data.toList.length:=hlt;have eg:s.data.toList.getD k 0=s.data.toList[k]:=by rw [List.getD_eq_getElem?_getD,List.getElem?_eq_getElem hk2];rfl
  have hix:=As t.data.toList (s.data.toList.getD k 0);have hc:=Bz t ((s.data.toList.getD k 0).toNat:Int);rw [BB] at hc;cases hv:t.data.toList.contains (s.data.toList.getD k 0)
  ·have hl:=hix.2 hv;repeat' ((first|refine plE [] hc ?_ ?_|refine ae ?_|refine pif ?_ ?_<;>intro h<;>try exact pN h)<;>push_cast [O,U,hl])
   (refine K9 [] ?_;push_cast [O,U]);rw [inT,List.all_eq_false.2];exact ⟨s.data.toList.getD k 0,by rw [eg];exact List.getElem_mem _,by rw [hv];decide⟩
  ·have hl:¬ Lib.indexByte t.data.toList (s.data.toList.getD k 0) < 0:=fun h=>by rw [hix.1 h] at hv;cases hv
   repeat' ((first|refine plE [] hc ?_ ?_|refine ae ?_|refine pif ?_ ?_<;>intro h<;>try exact pN h)<;>push_cast [O,U,hl])
   refine ⟨k+1,⟨ac,?_⟩,aA,ac⟩;rw [List.take_succ_eq_append_getElem hk2,List.all_append,ha,← eg,List.all_cons,hv];rfl
 ·have hk2:k=s.size:=ac;subst hk2;have he:s.data.toList.take s.size=s.data.toList:=List.take_of_length_le (Nat.le_refl _);rw [he] at ha;repeat' ((first|refine ae ?_|refine pif ?_ ?_<;>intro h<;>try exact pN h)<;>push_cast [O,U])
  (refine K9 [] ?_;push_cast [O,U]);rw [inT,ha]
def rh:ByteArray:=⟨#[65,66,67,68,69,70,71,72,73,74,75,76,77,78,79,80,81,82,83,84,85,86,87,88,89,90,97,98,99,100,101,102,103,104,105,106,107,108,109,110,111,112,113,114,115,116,117,118,119,120,121,122,48,49,50,51,52,53,54,55,56,57,95,46,58,43,45,33]⟩
theorem Hn (s:ByteArray):inT s rh=s.data.toList.all qX:=by
 unfold inT;congr
set_option maxHeartbeats 1000000 in
theorem de (s:ByteArray) (hs:s.size≤9223372036854775807):ah prog 79 [.c (.v (.string s))] [] fun r os=>r = .c (.v (.bool (validS s)))∧os=[]:=by
 have hv:validS s=(((decide (s≠⟨#[]⟩) && decide (s.size≤32)) && !fH s) && inT s rh):=by rw [Hn,validS]
 rw [hv];unfold fH;refine aw func79 ntmps79 results79 ?_;by_cases h1:s=⟨#[]⟩
 ·have e1:=eq_true h1;push_cast [O,U];repeat' ((first|refine au ?_|refine pif ?_ ?_<;>intro h<;>try exact pN h)<;>push_cast [O,U,e1,ne_eq,not_true_eq_false])
  exact am []
 ·by_cases h2:s.size≤32
  ·have h2':(s.size:Int)≤32:=ac;have hh:=wL s rh ac;obtain ⟨c,hc⟩:∃ c,inT s rh=c:=⟨_,rfl⟩
   rw [hc] at hh ⊢;unfold rh at hh;obtain ⟨d1,hd1⟩:∃ d1,(s=⟨#[46]⟩)=d1:=⟨_,rfl⟩
   obtain ⟨d2,hd2⟩:∃ d2,(s=⟨#[46,46]⟩)=d2:=⟨_,rfl⟩
   by_cases e3:s=⟨#[46]⟩
   ·have e4:=eq_true e3;cases c;all_goals push_cast [O,U]
    all_goals repeat' ((first|refine plE [] hh ?_ ?_|refine au ?_|refine pif ?_ ?_<;>intro h<;>try exact pN h)<;>push_cast [O,U,h1,h2',e4,ne_eq,not_false_eq_true,not_true_eq_false])
    all_goals (refine K9 [] ?_;push_cast [O,U])
    all_goals simp [e3]
   ·by_cases e5:s=⟨#[46,46]⟩
    ·have e6:=eq_true e5;cases c;all_goals push_cast [O,U]
     all_goals repeat' ((first|refine plE [] hh ?_ ?_|refine au ?_|refine pif ?_ ?_<;>intro h<;>try exact pN h)<;>push_cast [O,U,h1,h2',e3,e6,ne_eq,not_false_eq_true,not_true_eq_false])
     all_goals (refine K9 [] ?_;push_cast [O,U])
     all_goals simp [e5]
    ·cases c;all_goals push_cast [O,U]
     all_goals repeat' ((first|refine plE [] hh ?_ ?_|refine au ?_|refine pif ?_ ?_<;>intro h<;>try exact pN h)<;>push_cast [O,U,h1,h2',e3,e5,ne_eq,not_false_eq_true,not_true_eq_false])
     all_goals (refine K9 [] ?_;push_cast [O,U])
     all_goals simp [h1,h2,e3,e5]
  ·have h2':¬ (s.size:Int)≤32:=ac;push_cast [O,U];repeat' ((first|refine au ?_|refine pif ?_ ?_<;>intro h<;>try exact pN h)<;>push_cast [O,U,h1,h2',ne_eq,not_false_eq_true])
   (refine K9 [] ?_;push_cast [O,U]);simp [h2]
end
end Go.Proofs.YtmbbkfffcflfcaaGreatDoor
