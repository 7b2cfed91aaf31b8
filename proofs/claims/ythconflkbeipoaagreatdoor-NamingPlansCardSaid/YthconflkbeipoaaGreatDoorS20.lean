/- What the program computes, and the plain laws of it, part 20. -/
import Derived.Lib.Join
import Derived.Test.YthconflkbeipoaaGreatDoorS19
namespace Go.Proofs.YthconflkbeipoaaGreatDoor
attribute [local irreducible] PL QL PWPr PCalls Weak RetK Kontr PA
open Go.RowKit
open IntWalk renaming iteOmega → iO, toNatUp → tN
set_option linter.unusedVariables false
set_option linter.unusedSimpArgs false
set_option maxRecDepth 20000
set_option maxHeartbeats 1000000 in
theorem rchain_pure (l:List Dev) (n:Int) (hl:l.length≤1000000) :
  PCalls Tryz.prog 130 [.agg (trE l),.c (.v (.int .i64 n))] [] fun r os=>r = .c (.sl 10 ((chainM l n).map Dev.d))∧os=[]:=by
 refine pcalls_of Tryz.func130 rfl (by simp [Tryz.ntmps130]) ?_
 rw [Tryz.ntmps130,Tryz.results130]
 push_cast [iO,tN]
 have cB:CutB 8 []:=trivial
 repeat' (first|((first|refine pC ?_|refine pQC ?_|refine pU ?_);push_cast [iO,tN])|(refine pif (fun h=>?_) (fun h=>?_)<;>first|exact pN h|push_cast [iO,tN]))
 refine pwp_weak (weak_adopt 5 49 10 (by omega) (by push_cast [iO,tN])) ?_
 push_cast [iO,tN]
 (apply pwp_loop3 (α:=List Dev × Int) 8 [] (fun x=>[(1,.c (.v (.int .i64 x.2))),(5,.c (.own 1 (x.1.length)))]) (fun x=>[(1,.arr 49 10 (x.1.map Dev.d))]) (fun x=>x.1++chainGo l (l.length - x.1.length) x.2=chainM l n∧x.1.length≤l.length) (fun x=>l.length - x.1.length) (([],n));(focus ((try push_cast [iO,tN]);rfl));(focus exact ⟨by simp [chainM],by simp⟩);(focus ((refine weak_fg ?_;try push_cast [iO,tN]))))
 rintro ⟨acc,m⟩ ⟨h1,h2⟩
 simp only at h1 h2
 push_cast [iO,tN]
 by_cases hlt:acc.length < l.length
 ·have hf:=rfind_pure l m (by omega)
  obtain ⟨k,hk⟩:∃ k,l.length - acc.length=k+1:=⟨l.length - acc.length - 1,by omega⟩
  rw [hk] at h1
  cases hx:findD l m with
  | none =>
   simp only [hx,Option.getD_none,Option.isSome_none] at hf
   rw [chainGo,hx] at h1
   simp only [List.append_nil] at h1
   repeat' (first |  (refine plc [] (hf) ?_ ?_;push_cast [iO,tN];rintro r os ⟨rfl,rfl⟩;push_cast [iO,tN])  | ((first|refine pC ?_|refine pQC ?_|refine pU ?_);push_cast [iO,tN])|(refine pif (fun h=>?_) (fun h=>?_)<;>first|exact pN h|push_cast [iO,tN]))
   (refine retK_of [] ?_;push_cast [iO,tN])
   all_goals rw [h1]
  | some d =>
   simp only [hx,Option.getD_some,Option.isSome_some] at hf
   rw [chainGo_some hx] at h1
   repeat' (first |  (refine plc [] (hf) ?_ ?_;push_cast [iO,tN];rintro r os ⟨rfl,rfl⟩;push_cast [iO,tN])  | ((first|refine pC ?_|refine pQC ?_|refine pU ?_);push_cast [iO,tN])|(refine pif (fun h=>?_) (fun h=>?_)<;>first|exact pN h|push_cast [iO,tN]))
   refine ⟨(acc++[d],d.parent),⟨?_,by simp only [List.length_append,List.length_cons,List.length_nil];omega⟩,by (refine weak_fg ?_;push_cast [iO,tN]),by simp only [List.length_append,List.length_cons,List.length_nil];omega⟩
   simp only [List.length_append,List.length_cons,List.length_nil,List.append_assoc,List.singleton_append]
   rw [show l.length - (acc.length+(0+1))=k by omega]
   exact h1
 ·have hk:l.length - acc.length=0:=by omega
  rw [hk,chainGo,List.append_nil] at h1
  repeat' (first|((first|refine pC ?_|refine pQC ?_|refine pU ?_);push_cast [iO,tN])|(refine pif (fun h=>?_) (fun h=>?_)<;>first|exact pN h|push_cast [iO,tN]))
  (refine retK_of [] ?_;push_cast [iO,tN])
  all_goals rw [h1]
set_option maxHeartbeats 1000000 in
theorem rorigin_pure (l:List Dev) (n:Int) (hl:l.length≤1000000) :
  PCalls Tryz.prog 93 [.agg (trE l),.c (.v (.int .i64 n))] [] fun r os=>r = .c (.own 0 ((origM l n).length))∧os=[.arr 9 1 ((origM l n).map strD)]:=by
 have hc:=rchain_pure l n hl
 have hcl:=chain_len l n
 unfold origM
 obtain ⟨c,hcc⟩:∃ c,chainM l n=c:=⟨_,rfl⟩
 rw [hcc] at hc hcl ⊢
 refine pcalls_of Tryz.func93 rfl (by simp [Tryz.ntmps93]) ?_
 rw [Tryz.ntmps93,Tryz.results93]
 push_cast [iO,tN]
 have cB:CutB 8 []:=trivial
 repeat' (first |  (refine plc [] (hc) ?_ ?_;push_cast [iO,tN];rintro r os ⟨rfl,rfl⟩;push_cast [iO,tN])  | ((first|refine pC ?_|refine pQC ?_|refine pU ?_);push_cast [iO,tN])|(refine pif (fun h=>?_) (fun h=>?_)<;>first|exact pN h|push_cast [iO,tN]))
 refine pwp_weak (weak_adopt 5 9 1 (by omega) (by push_cast [iO,tN])) ?_
 push_cast [iO,tN]
 (apply pwp_loop3 (α:=Nat × List ByteArray) 8 [] (fun x=>[(7,.c (.v (.int .i64 ((x.1:Int) - 1)))),(5,.c (.own 1 (x.2.length)))]) (fun x=>[(1,.arr 9 1 (x.2.map strD))]) (fun x=>x.1≤c.length∧x.2=((c.drop x.1).map Dev.original).reverse) (fun x=>x.1) ((c.length,[]));(focus ((try push_cast [iO,tN]);rfl));(focus exact ⟨Nat.le_refl _,by simp⟩);(focus ((refine weak_fg ?_;try push_cast [iO,tN]))))
 rintro ⟨k,out⟩ ⟨hk,ho⟩
 simp only at hk ho
 have hol:out.length≤c.length:=by rw [ho,List.length_reverse,List.length_map,List.length_drop];omega
 cases k with
 | zero =>
  rw [List.drop_zero] at ho
  push_cast [iO,tN]
  repeat' (first|((first|refine pC ?_|refine pQC ?_|refine pU ?_);push_cast [iO,tN])|(refine pif (fun h=>?_) (fun h=>?_)<;>first|exact pN h|push_cast [iO,tN]))
  (refine retK_of [1] ?_;push_cast [iO,tN])
  all_goals rw [ho]
  all_goals simp
 | succ k =>
  have hlt:k < c.length:=by omega
  have hd:out++[(c.getD k default).original]=((c.drop k).map Dev.original).reverse:=by
   rw [ho,List.drop_eq_getElem_cons hlt,getD_lt c hlt,List.map_cons,List.reverse_cons]
  have hi:((k+1:Nat):Int) - 1=(k:Int):=by omega
  simp only [hi]
  push_cast [iO,tN]
  repeat' (first|((first|refine pC ?_|refine pQC ?_|refine pU ?_);push_cast [iO,tN])|(refine pif (fun h=>?_) (fun h=>?_)<;>first|exact pN h|push_cast [iO,tN]))
  exact ⟨(k,out++[(c.getD k default).original]),⟨by simp only;omega,hd⟩,by (refine weak_fg ?_;push_cast [iO,tN]),by simp only;omega⟩
set_option maxRecDepth 20000
abbrev boolE (b:Bool):E:=.v (.bool b)
theorem plusL_nil (cs:List Bool):plusL cs []=cs:=rfl
attribute [push_cast] plusL_nil List.drop_replicate Nat.sub_self List.replicate_zero List.append_nil
theorem drop_bools (cs:List Bool) (i:Nat) (hi:i < cs.length):(cs.map boolE).drop i = .v (.bool (cs.getD i false)) :: (cs.map boolE).drop (i+1):=by
 have h:i < (cs.map boolE).length:=by rw [List.length_map];exact hi
 rw [List.drop_eq_getElem_cons h,List.getElem_map,List.getD_eq_getElem?_getD,List.getElem?_eq_getElem hi];rfl
theorem plusL_take {cs:List Bool} {t:List UInt8} {k:Nat} (hk:k < t.length):plusL cs (t.take (k+1))=(plusL cs (t.take k)).set (t.getD k 0).toNat true:=by
 rw [List.take_succ_eq_append_getElem hk,plusL_snoc,List.getD_eq_getElem?_getD,List.getElem?_eq_getElem hk];rfl
set_option maxRecDepth 20000 in
set_option maxHeartbeats 1000000 in
theorem plus_pure (cs:List Bool) (t:ByteArray) (hc:cs.length=256) (ht:t.size≤1000000) :
  PCalls Tryz.prog 149 [.agg (cs.map boolE),.c (.v (.string t))] [] fun r os=>r = .agg ((plusL cs t.data.toList).map boolE)∧os=[]:=by
 refine pcalls_of Tryz.func149 rfl (by simp [Tryz.ntmps149]) ?_
 rw [Tryz.ntmps149,Tryz.results149]
 push_cast [iO,tN]
 have cB:CutB 9 []:=trivial
 repeat' (first|((first|refine pC ?_|refine pQC ?_|refine pU ?_);push_cast [iO,tN])|(refine pif (fun h=>?_) (fun h=>?_)<;>first|exact pN h|push_cast [iO,tN]))
 (apply pwp_loop3 (α:=Nat) 9 [] (fun k=>[(8,.c (.v (.int .i64 k)))]) (fun k=>[(0,.box 167 ((plusL cs (t.data.toList.take k)).map boolE))]) (fun k=>k≤t.size) (fun k=>t.size - k) (0);(focus ((try push_cast [iO,tN]);rfl));(focus exact (by omega));(focus ((refine weak_fg ?_;try push_cast [iO,tN]))))
 intro k hk
 push_cast [iO,tN]
 have hlen:(plusL cs (t.data.toList.take k)).length=256:=by rw [plusL_len,hc]
 by_cases hlt:k < t.size
 ·have hs:=plusL_take (cs:=cs) (t:=t.data.toList) (k:=k) hlt
  have hb:=(t.data.toList.getD k 0).toNat_lt
  repeat' (first|((first|refine pC ?_|refine pQC ?_|refine pU ?_);push_cast [iO,tN,hlen])|(refine pif (fun h=>?_) (fun h=>?_)<;>first|exact pN h|push_cast [iO,tN,hlen]))
  have hs2:(List.map boolE (plusL cs (t.data.toList.take k))).set (t.data.toList.getD k 0).toNat (.v (.bool true))=(plusL cs (t.data.toList.take (k+1))).map boolE:=by rw [hs,List.map_set]
  exact ⟨k+1,by omega,by (refine weak_fg ?_;push_cast [iO,tN,hs2]),by omega⟩
 ·have hk2:k=t.size:=by omega
  subst hk2
  have he:t.data.toList.take t.size=t.data.toList:=List.take_of_length_le (Nat.le_refl _)
  rw [he] at hlen ⊢
  repeat' (first|((first|refine pC ?_|refine pQC ?_|refine pU ?_);push_cast [iO,tN,hlen])|(refine pif (fun h=>?_) (fun h=>?_)<;>first|exact pN h|push_cast [iO,tN,hlen]))
  (refine retK_of [] ?_;push_cast [iO,tN,hlen])
set_option maxRecDepth 20000 in
set_option maxHeartbeats 1000000 in
theorem has_pure (cs:List Bool) (t:ByteArray) (hc:cs.length=256) (ht:t.size≤1000000) :
  PCalls Tryz.prog 142 [.agg (cs.map boolE),.c (.v (.string t))] [] fun r os=>r = .c (.v (.bool (hasL cs t)))∧os=[]:=by
 refine pcalls_of Tryz.func142 rfl (by simp [Tryz.ntmps142]) ?_
 rw [Tryz.ntmps142,Tryz.results142]
 push_cast [iO,tN]
 have cB:CutB 9 []:=trivial
 repeat' (first|((first|refine pC ?_|refine pQC ?_|refine pU ?_);push_cast [iO,tN])|(refine pif (fun h=>?_) (fun h=>?_)<;>first|exact pN h|push_cast [iO,tN]))
 (apply pwp_loop3 (α:=Nat) 9 [] (fun k=>[(8,.c (.v (.int .i64 k)))]) (fun k=>[]) (fun k=>k≤t.size∧(t.data.toList.take k).all (fun b=>cs.getD b.toNat false)=true) (fun k=>t.size - k) (0);(focus ((try push_cast [iO,tN]);rfl));(focus exact ⟨by omega,rfl⟩);(focus ((refine weak_fg ?_;try push_cast [iO,tN]))))
 rintro k ⟨hk,ha⟩
 push_cast [iO,tN]
 by_cases hlt:k < t.size
 ·have hb:=(t.data.toList.getD k 0).toNat_lt
  have hst:(t.data.toList.take (k+1)).all (fun b=>cs.getD b.toNat false)=cs.getD (t.data.toList.getD k 0).toNat false:=by
   have hk2:k < t.data.toList.length:=hlt
   rw [List.take_succ_eq_append_getElem hk2,List.all_append,ha,List.getD_eq_getElem?_getD,List.getD_eq_getElem?_getD (l:=t.data.toList),List.getElem?_eq_getElem hk2];simp
  have hd:=drop_bools cs (t.data.toList.getD k 0).toNat (by omega)
  cases hv:cs.getD (t.data.toList.getD k 0).toNat false
  ·rw [hv] at hd
   repeat' (first|((first|refine pC ?_|refine pQC ?_|refine pU ?_);push_cast [iO,tN,hc,hd])|(refine pif (fun h=>?_) (fun h=>?_)<;>first|exact pN h|push_cast [iO,tN,hc,hd]))
   (refine retK_of [] ?_;push_cast [iO,tN])
   rw [hasL,List.all_eq_false.2]
   refine ⟨t.data.toList.getD k 0,?_,by rw [hv];decide⟩
   have hk2:k < t.data.toList.length:=hlt
   rw [List.getD_eq_getElem?_getD,List.getElem?_eq_getElem hk2]
   exact List.getElem_mem _
  ·rw [hv] at hd
   repeat' (first|((first|refine pC ?_|refine pQC ?_|refine pU ?_);push_cast [iO,tN,hc,hd])|(refine pif (fun h=>?_) (fun h=>?_)<;>first|exact pN h|push_cast [iO,tN,hc,hd]))
   exact ⟨k+1,⟨by omega,by rw [hst,hv]⟩,by (refine weak_fg ?_;push_cast [iO,tN]),by omega⟩
 ·have hk2:k=t.size:=by omega
  subst hk2
  have he:t.data.toList.take t.size=t.data.toList:=List.take_of_length_le (Nat.le_refl _)
  rw [he] at ha
  repeat' (first|((first|refine pC ?_|refine pQC ?_|refine pU ?_);push_cast [iO,tN])|(refine pif (fun h=>?_) (fun h=>?_)<;>first|exact pN h|push_cast [iO,tN]))
  (refine retK_of [] ?_;push_cast [iO,tN])
  rw [hasL,ha]
theorem none_rep:noneL.map boolE=List.replicate 256 (E.v (.bool false)):=List.map_replicate
set_option maxRecDepth 20000 in
set_option maxHeartbeats 1000000 in
theorem common_pure:PCalls Tryz.prog 148 [] [] fun r os=>r = .agg (commonL.map boolE)∧os=[]:=by
 have h1:=plus_pure noneL ⟨#[65,66,67,68,69,70,71,72,73,74,75,76,77,78,79,80,81,82,83,84,85,86,87,88,89,90]⟩ noneL_len (by decide)
 have h2:=plus_pure (plusL noneL upperT) ⟨#[97,98,99,100,101,102,103,104,105,106,107,108,109,110,111,112,113,114,115,116,117,118,119,120,121,122]⟩ (by rw [plusL_len,noneL_len]) (by decide)
 have h3:=plus_pure (plusL (plusL noneL upperT) lowerT) ⟨#[48,49,50,51,52,53,54,55,56,57]⟩ (by rw [plusL_len,plusL_len,noneL_len]) (by decide)
 have h4:=plus_pure (plusL (plusL (plusL noneL upperT) lowerT) digitT) ⟨#[95,46,58,43,45]⟩ (by rw [plusL_len,plusL_len,plusL_len,noneL_len]) (by decide)
 have hl:=lower_pure
 rw [none_rep] at h1
 simp only [List.toList_toArray] at h1 h2 h3 h4
 change PCalls _ _ _ _ fun r os=>r = .agg ((plusL noneL upperT).map boolE)∧os=[] at h1
 change PCalls _ _ _ _ fun r os=>r = .agg ((plusL (plusL noneL upperT) lowerT).map boolE)∧os=[] at h2
 change PCalls _ _ _ _ fun r os=>r = .agg ((plusL (plusL (plusL noneL upperT) lowerT) digitT).map boolE)∧os=[] at h3
 change PCalls _ _ _ _ fun r os=>r = .agg (commonL.map boolE)∧os=[] at h4
 change PCalls Tryz.prog 172 [.c (.v (.string (⟨#[65,66,67,68,69,70,71,72,73,74,75,76,77,78,79,80,81,82,83,84,85,86,87,88,89,90]⟩)))] [] fun r os=>r = .c (.v (.string (⟨#[97,98,99,100,101,102,103,104,105,106,107,108,109,110,111,112,113,114,115,116,117,118,119,120,121,122]⟩)))∧os=[] at hl
 have hcl:=commonL_len
 generalize plusL noneL upperT=s1 at h1 h2 h3 h4
 generalize plusL s1 lowerT=s2 at h2 h3 h4
 generalize plusL s2 digitT=s3 at h3 h4
 refine pcalls_of Tryz.func148 rfl (by simp [Tryz.ntmps148]) ?_
 rw [Tryz.ntmps148,Tryz.results148]
 push_cast [iO,tN]
 have cB:CutB 1 []:=trivial
 repeat' (first |  (refine plc [] (h1) ?_ ?_;push_cast [iO,tN];rintro r os ⟨rfl,rfl⟩;push_cast [iO,tN])|(refine plc [] (hl) ?_ ?_;push_cast [iO,tN];rintro r os ⟨rfl,rfl⟩;push_cast [iO,tN])|(refine plc [] (h2) ?_ ?_;push_cast [iO,tN];rintro r os ⟨rfl,rfl⟩;push_cast [iO,tN])|(refine plc [] (h3) ?_ ?_;push_cast [iO,tN];rintro r os ⟨rfl,rfl⟩;push_cast [iO,tN])|(refine plc [] (h4) ?_ ?_;push_cast [iO,tN];rintro r os ⟨rfl,rfl⟩;push_cast [iO,tN])  | ((first|refine pC ?_|refine pQC ?_|refine pU ?_);push_cast [iO,tN])|(refine pif (fun h=>?_) (fun h=>?_)<;>first|exact pN h|push_cast [iO,tN]))
 (refine retK_of [] ?_;push_cast [iO,tN,hcl])
theorem dots_pure (s:ByteArray):PCalls Tryz.prog 141 [.c (.v (.string s))] [] fun r os=>r = .c (.v (.bool (dotsS s)))∧os=[]:=by
 refine pcalls_of Tryz.func141 rfl (by simp [Tryz.ntmps141]) ?_
 rw [Tryz.ntmps141,Tryz.results141]
 unfold dotsS
 by_cases h1:s=⟨#[46]⟩
 ·have e1:=eq_true h1
  push_cast [iO,tN]
  repeat' (first|((first|refine pG ?_|refine pQ ?_|refine pU ?_);push_cast [iO,tN,e1])|(refine pif (fun h=>?_) (fun h=>?_)<;>first|exact pN h|push_cast [iO,tN,e1]))
  (refine retK_of [] ?_;push_cast [iO,tN])
 ·by_cases h2:s=⟨#[46,46]⟩
  ·have e2:=eq_true h2
   push_cast [iO,tN]
   repeat' (first|((first|refine pG ?_|refine pQ ?_|refine pU ?_);push_cast [iO,tN,h1,e2])|(refine pif (fun h=>?_) (fun h=>?_)<;>first|exact pN h|push_cast [iO,tN,h1,e2]))
   (refine retK_of [] ?_;push_cast [iO,tN])
  ·push_cast [iO,tN]
   repeat' (first|((first|refine pG ?_|refine pQ ?_|refine pU ?_);push_cast [iO,tN,h1,h2])|(refine pif (fun h=>?_) (fun h=>?_)<;>first|exact pN h|push_cast [iO,tN,h1,h2]))
   (refine retK_of [] ?_;push_cast [iO,tN])
set_option maxRecDepth 20000 in
set_option maxHeartbeats 1000000 in
theorem valid_pure (s:ByteArray) (hs:s.size≤9223372036854775807):PCalls Tryz.prog 117 [.c (.v (.string s))] [] fun r os=>r = .c (.v (.bool (validS s)))∧os=[]:=by
 have hp:=plus_pure commonL ⟨#[33]⟩ commonL_len (by decide)
 simp only [List.toList_toArray] at hp
 have hd:=dots_pure s
 have hv:validS s=(((decide (s≠⟨#[]⟩) && decide (s.size≤32)) && !dotsS s) && hasL (plusL commonL [33]) s):=by rw [has_name,validS]
 have hl:(plusL commonL [33]).length=256:=by rw [plusL_len,commonL_len]
 rw [hv]
 generalize plusL commonL [33]=cs at hp hl ⊢
 refine pcalls_of Tryz.func117 rfl (by simp [Tryz.ntmps117]) ?_
 rw [Tryz.ntmps117,Tryz.results117]
 by_cases h1:s=⟨#[]⟩
 ·have e1:=eq_true h1
  push_cast [iO,tN]
  repeat' (first|((first|refine pG ?_|refine pQ ?_|refine pU ?_);push_cast [iO,tN,e1,ne_eq,not_true_eq_false])|(refine pif (fun h=>?_) (fun h=>?_)<;>first|exact pN h|push_cast [iO,tN,e1,ne_eq,not_true_eq_false]))
  (refine retK_of [] ?_;push_cast [iO,tN])
 ·by_cases h2:s.size≤32
  ·have h2':(s.size:Int)≤32:=by omega
   obtain ⟨b,hb⟩:∃ b,dotsS s=b:=⟨_,rfl⟩
   rw [hb] at hd ⊢
   have hh:=has_pure cs s hl (by omega)
   obtain ⟨c,hc⟩:∃ c,hasL cs s=c:=⟨_,rfl⟩
   rw [hc] at hh ⊢
   cases b
   all_goals push_cast [iO,tN]
   all_goals repeat' (first|(refine plc [] (hd) ?_ ?_;push_cast [iO,tN,h1,h2',ne_eq,not_false_eq_true];rintro r os ⟨rfl,rfl⟩;push_cast [iO,tN,h1,h2',ne_eq,not_false_eq_true])|(refine plc [] (common_pure) ?_ ?_;push_cast [iO,tN,h1,h2',ne_eq,not_false_eq_true];rintro r os ⟨rfl,rfl⟩;push_cast [iO,tN,h1,h2',ne_eq,not_false_eq_true])|(refine plc [] (hp) ?_ ?_;push_cast [iO,tN,h1,h2',ne_eq,not_false_eq_true];rintro r os ⟨rfl,rfl⟩;push_cast [iO,tN,h1,h2',ne_eq,not_false_eq_true])|(refine plc [] (hh) ?_ ?_;push_cast [iO,tN,h1,h2',ne_eq,not_false_eq_true];rintro r os ⟨rfl,rfl⟩;push_cast [iO,tN,h1,h2',ne_eq,not_false_eq_true])|((first|refine pG ?_|refine pQ ?_|refine pU ?_);push_cast [iO,tN,h1,h2',ne_eq,not_false_eq_true])|(refine pif (fun h=>?_) (fun h=>?_)<;>first|exact pN h|push_cast [iO,tN,h1,h2',ne_eq,not_false_eq_true]))
   all_goals (refine retK_of [] ?_;push_cast [iO,tN])
   all_goals simp [h1,h2]
  ·have h2':¬ (s.size:Int)≤32:=by omega
   push_cast [iO,tN]
   repeat' (first|((first|refine pG ?_|refine pQ ?_|refine pU ?_);push_cast [iO,tN,h1,h2',ne_eq,not_false_eq_true])|(refine pif (fun h=>?_) (fun h=>?_)<;>first|exact pN h|push_cast [iO,tN,h1,h2',ne_eq,not_false_eq_true]))
   (refine retK_of [] ?_;push_cast [iO,tN])
   simp [h2]
set_option maxRecDepth 20000
theorem idxb_lt:∀ (l:List UInt8) (c:UInt8),Lib.indexByte l c < 0 ↔ l.contains c=false
 | [],c=>by simp [Lib.indexByte]
 | b :: l,c=>by
  have ih:=idxb_lt l c
  have hg:=Lib.indexByte_ge l c
  rw [Lib.indexByte,List.contains_cons]
  by_cases h:b=c
  ·subst h;simp
  ·rw [if_neg (by simpa using h),show (c == b)=false by simpa using Ne.symm h,Bool.false_or,← ih]
   split
   ·rename_i h1;simp at h1;omega
   ·rename_i h1;simp at h1;omega
theorem byte_back (b:UInt8):((b.toNat:Int)).toNat.toUInt8=b:=by simp
def inT (s t:ByteArray):Bool:=s.data.toList.all fun b=>t.data.toList.contains b
set_option maxHeartbeats 1000000 in
theorem rin_pure (s t:ByteArray) (hs:s.size≤1000000000) :
  PCalls Tryz.prog 132 [.c (.v (.string s)),.c (.v (.string t))] [] fun r os=>r = .c (.v (.bool (inT s t)))∧os=[]:=by
 refine pcalls_of Tryz.func132 rfl (by simp [Tryz.ntmps132]) ?_
 rw [Tryz.ntmps132,Tryz.results132]
 push_cast [iO,tN]
 have cB:CutB 6 []:=trivial
 repeat' (first|((first|refine pC ?_|refine pQC ?_|refine pU ?_);push_cast [iO,tN])|(refine pif (fun h=>?_) (fun h=>?_)<;>first|exact pN h|push_cast [iO,tN]))
 (apply pwp_loop3 (α:=Nat) 6 [] (fun k=>[(5,.c (.v (.int .i64 k)))]) (fun k=>[]) (fun k=>k≤s.size∧(s.data.toList.take k).all (fun b=>t.data.toList.contains b)=true) (fun k=>s.size - k) (0);(focus ((try push_cast [iO,tN]);rfl));(focus exact ⟨by omega,rfl⟩);(focus ((refine weak_fg ?_;try push_cast [iO,tN]))))
 rintro k ⟨hk,ha⟩
 push_cast [iO,tN]
 by_cases hlt:k < s.size
 ·have hk2:k < s.data.toList.length:=hlt
  have eg:s.data.toList.getD k 0=s.data.toList[k]:=by rw [List.getD_eq_getElem?_getD,List.getElem?_eq_getElem hk2];rfl
  have hix:=idxb_lt t.data.toList (s.data.toList.getD k 0)
  have hc:=idxb_pure t ((s.data.toList.getD k 0).toNat:Int)
  rw [byte_back] at hc
  cases hv:t.data.toList.contains (s.data.toList.getD k 0)
  ·have hl:=hix.2 hv
   repeat' (first|(refine plc [] (hc) ?_ ?_;push_cast [iO,tN,hl];rintro r os ⟨rfl,rfl⟩;push_cast [iO,tN,hl])|((first|refine pC ?_|refine pQC ?_|refine pU ?_);push_cast [iO,tN,hl])|(refine pif (fun h=>?_) (fun h=>?_)<;>first|exact pN h|push_cast [iO,tN,hl]))
   (refine retK_of [] ?_;push_cast [iO,tN])
   rw [inT,List.all_eq_false.2]
   exact ⟨s.data.toList.getD k 0,by rw [eg];exact List.getElem_mem _,by rw [hv];decide⟩
  ·have hl:¬ Lib.indexByte t.data.toList (s.data.toList.getD k 0) < 0:=fun h=>by rw [hix.1 h] at hv;cases hv
   repeat' (first|(refine plc [] (hc) ?_ ?_;push_cast [iO,tN,hl];rintro r os ⟨rfl,rfl⟩;push_cast [iO,tN,hl])|((first|refine pC ?_|refine pQC ?_|refine pU ?_);push_cast [iO,tN,hl])|(refine pif (fun h=>?_) (fun h=>?_)<;>first|exact pN h|push_cast [iO,tN,hl]))
   refine ⟨k+1,⟨by omega,?_⟩,by (refine weak_fg ?_;push_cast [iO,tN]),by omega⟩
   rw [List.take_succ_eq_append_getElem hk2,List.all_append,ha,← eg,List.all_cons,hv];rfl
 ·have hk2:k=s.size:=by omega
  subst hk2
  have he:s.data.toList.take s.size=s.data.toList:=List.take_of_length_le (Nat.le_refl _)
  rw [he] at ha
  repeat' (first|((first|refine pC ?_|refine pQC ?_|refine pU ?_);push_cast [iO,tN])|(refine pif (fun h=>?_) (fun h=>?_)<;>first|exact pN h|push_cast [iO,tN]))
  (refine retK_of [] ?_;push_cast [iO,tN])
  rw [inT,ha]
def refSet:ByteArray:=⟨#[65,66,67,68,69,70,71,72,73,74,75,76,77,78,79,80,81,82,83,84,85,86,87,88,89,90,97,98,99,100,101,102,103,104,105,106,107,108,109,110,111,112,113,114,115,116,117,118,119,120,121,122,48,49,50,51,52,53,54,55,56,57,95,46,58,43,45,33]⟩
theorem in_name (s:ByteArray):inT s refSet=s.data.toList.all nameB:=by
 unfold inT
 congr
set_option maxHeartbeats 1000000 in
theorem rvalid_pure (s:ByteArray) (hs:s.size≤9223372036854775807):PCalls Tryz.prog 95 [.c (.v (.string s))] [] fun r os=>r = .c (.v (.bool (validS s)))∧os=[]:=by
 have hv:validS s=(((decide (s≠⟨#[]⟩) && decide (s.size≤32)) && !dotsS s) && inT s refSet):=by rw [in_name,validS]
 rw [hv]
 unfold dotsS
 refine pcalls_of Tryz.func95 rfl (by simp [Tryz.ntmps95]) ?_
 rw [Tryz.ntmps95,Tryz.results95]
 by_cases h1:s=⟨#[]⟩
 ·have e1:=eq_true h1
  push_cast [iO,tN]
  repeat' (first|((first|refine pG ?_|refine pQ ?_|refine pU ?_);push_cast [iO,tN,e1,ne_eq,not_true_eq_false])|(refine pif (fun h=>?_) (fun h=>?_)<;>first|exact pN h|push_cast [iO,tN,e1,ne_eq,not_true_eq_false]))
  (refine retK_of [] ?_;push_cast [iO,tN])
 ·by_cases h2:s.size≤32
  ·have h2':(s.size:Int)≤32:=by omega
   have hh:=rin_pure s refSet (by omega)
   obtain ⟨c,hc⟩:∃ c,inT s refSet=c:=⟨_,rfl⟩
   rw [hc] at hh ⊢
   unfold refSet at hh
   obtain ⟨d1,hd1⟩:∃ d1,(s=⟨#[46]⟩)=d1:=⟨_,rfl⟩
   obtain ⟨d2,hd2⟩:∃ d2,(s=⟨#[46,46]⟩)=d2:=⟨_,rfl⟩
   by_cases e3:s=⟨#[46]⟩
   ·have e4:=eq_true e3
    cases c
    all_goals push_cast [iO,tN]
    all_goals repeat' (first|(refine plc [] (hh) ?_ ?_;push_cast [iO,tN,h1,h2',e4,ne_eq,not_false_eq_true,not_true_eq_false];rintro r os ⟨rfl,rfl⟩;push_cast [iO,tN,h1,h2',e4,ne_eq,not_false_eq_true,not_true_eq_false])|((first|refine pG ?_|refine pQ ?_|refine pU ?_);push_cast [iO,tN,h1,h2',e4,ne_eq,not_false_eq_true,not_true_eq_false])|(refine pif (fun h=>?_) (fun h=>?_)<;>first|exact pN h|push_cast [iO,tN,h1,h2',e4,ne_eq,not_false_eq_true,not_true_eq_false]))
    all_goals (refine retK_of [] ?_;push_cast [iO,tN])
    all_goals simp [e3]
   ·by_cases e5:s=⟨#[46,46]⟩
    ·have e6:=eq_true e5
     cases c
     all_goals push_cast [iO,tN]
     all_goals repeat' (first|(refine plc [] (hh) ?_ ?_;push_cast [iO,tN,h1,h2',e3,e6,ne_eq,not_false_eq_true,not_true_eq_false];rintro r os ⟨rfl,rfl⟩;push_cast [iO,tN,h1,h2',e3,e6,ne_eq,not_false_eq_true,not_true_eq_false])|((first|refine pG ?_|refine pQ ?_|refine pU ?_);push_cast [iO,tN,h1,h2',e3,e6,ne_eq,not_false_eq_true,not_true_eq_false])|(refine pif (fun h=>?_) (fun h=>?_)<;>first|exact pN h|push_cast [iO,tN,h1,h2',e3,e6,ne_eq,not_false_eq_true,not_true_eq_false]))
     all_goals (refine retK_of [] ?_;push_cast [iO,tN])
     all_goals simp [e5]
    ·cases c
     all_goals push_cast [iO,tN]
     all_goals repeat' (first|(refine plc [] (hh) ?_ ?_;push_cast [iO,tN,h1,h2',e3,e5,ne_eq,not_false_eq_true,not_true_eq_false];rintro r os ⟨rfl,rfl⟩;push_cast [iO,tN,h1,h2',e3,e5,ne_eq,not_false_eq_true,not_true_eq_false])|((first|refine pG ?_|refine pQ ?_|refine pU ?_);push_cast [iO,tN,h1,h2',e3,e5,ne_eq,not_false_eq_true,not_true_eq_false])|(refine pif (fun h=>?_) (fun h=>?_)<;>first|exact pN h|push_cast [iO,tN,h1,h2',e3,e5,ne_eq,not_false_eq_true,not_true_eq_false]))
     all_goals (refine retK_of [] ?_;push_cast [iO,tN])
     all_goals simp [h1,h2,e3,e5]
  ·have h2':¬ (s.size:Int)≤32:=by omega
   push_cast [iO,tN]
   repeat' (first|((first|refine pG ?_|refine pQ ?_|refine pU ?_);push_cast [iO,tN,h1,h2',ne_eq,not_false_eq_true])|(refine pif (fun h=>?_) (fun h=>?_)<;>first|exact pN h|push_cast [iO,tN,h1,h2',ne_eq,not_false_eq_true]))
   (refine retK_of [] ?_;push_cast [iO,tN])
   simp [h2]
set_option maxRecDepth 20000
set_option maxHeartbeats 1000000 in
theorem rprint_pure (s:ByteArray) (hs:s.size≤9223372036854775807):PCalls Tryz.prog 184 [.c (.v (.string s))] [] fun r os=>r = .c (.v (.bool (s.data.toList.all textB)))∧os=[]:=by
 refine pcalls_of Tryz.func184 rfl (by simp [Tryz.ntmps184]) ?_
 rw [Tryz.ntmps184,Tryz.results184]
 push_cast [iO,tN]
 have cB:CutB 4 []:=trivial
 repeat' (first|((first|refine pC ?_|refine pQC ?_|refine pU ?_);push_cast [iO,tN])|(refine pif (fun h=>?_) (fun h=>?_)<;>first|exact pN h|push_cast [iO,tN]))
 (apply pwp_loop3 (α:=Nat) 4 [] (fun k=>[(3,.c (.v (.int .i64 k)))]) (fun k=>[]) (fun k=>k≤s.size∧(s.data.toList.take k).all textB=true) (fun k=>s.size - k) (0);(focus ((try push_cast [iO,tN]);rfl));(focus exact ⟨by omega,rfl⟩);(focus ((refine weak_fg ?_;try push_cast [iO,tN]))))
 rintro k ⟨hk,ha⟩
 push_cast [iO,tN]
 by_cases hlt:k < s.size
 ·by_cases h1:((s.data.toList.getD k 0).toNat:Int) < 32
  ·have e:=all_not hlt (p:=textB) (by unfold textB;rw [decide_eq_false (by omega)];rfl)
   repeat' (first|((first|refine pC ?_|refine pQC ?_|refine pU ?_);push_cast [iO,tN,h1])|(refine pif (fun h=>?_) (fun h=>?_)<;>first|exact pN h|push_cast [iO,tN,h1]))
   (refine retK_of [] ?_;push_cast [iO,tN])
   rw [e]
  ·by_cases h2:(126:Int) < ((s.data.toList.getD k 0).toNat:Int)
   ·have e:=all_not hlt (p:=textB) (by unfold textB;rw [decide_eq_false (p:=(s.data.toList.getD k 0).toNat≤126) (by omega),Bool.and_false])
    repeat' (first|((first|refine pC ?_|refine pQC ?_|refine pU ?_);push_cast [iO,tN,h1,h2])|(refine pif (fun h=>?_) (fun h=>?_)<;>first|exact pN h|push_cast [iO,tN,h1,h2]))
    (refine retK_of [] ?_;push_cast [iO,tN])
    rw [e]
   ·have e:=all_next hlt ha (by unfold textB;rw [decide_eq_true (by omega),decide_eq_true (by omega)];rfl)
    repeat' (first|((first|refine pC ?_|refine pQC ?_|refine pU ?_);push_cast [iO,tN,h1,h2])|(refine pif (fun h=>?_) (fun h=>?_)<;>first|exact pN h|push_cast [iO,tN,h1,h2]))
    exact ⟨k+1,⟨by omega,e⟩,by (refine weak_fg ?_;push_cast [iO,tN]),by omega⟩
 ·have hk2:k=s.size:=by omega
  subst hk2
  have he:s.data.toList.take s.size=s.data.toList:=List.take_of_length_le (Nat.le_refl _)
  rw [he] at ha
  repeat' (first|((first|refine pC ?_|refine pQC ?_|refine pU ?_);push_cast [iO,tN])|(refine pif (fun h=>?_) (fun h=>?_)<;>first|exact pN h|push_cast [iO,tN]))
  (refine retK_of [] ?_;push_cast [iO,tN])
  rw [ha]
theorem rtext_pure (s:ByteArray) (hs:s.size≤9223372036854775807):PCalls Tryz.prog 157 [.c (.v (.string s))] [] fun r os=>r = .c (.v (.bool (textS s)))∧os=[]:=by
 have hp:=rprint_pure s hs
 unfold textS
 obtain ⟨b,hb⟩:∃ b,s.data.toList.all textB=b:=⟨_,rfl⟩
 rw [hb] at hp ⊢
 have hd:decide ((s.size:Int)≤256)=decide (s.size≤256):=decide_eq_decide.2 (by omega)
 rw [← hd]
 refine pcalls_of Tryz.func157 rfl (by simp [Tryz.ntmps157]) ?_
 rw [Tryz.ntmps157,Tryz.results157]
 cases b
 all_goals push_cast [iO,tN]
 all_goals repeat' (first |  (refine plc [] (hp) ?_ ?_;push_cast [iO,tN];rintro r os ⟨rfl,rfl⟩;push_cast [iO,tN])  | ((first|refine pG ?_|refine pQ ?_|refine pU ?_);push_cast [iO,tN])|(refine pif (fun h=>?_) (fun h=>?_)<;>first|exact pN h|push_cast [iO,tN]))
 all_goals (refine retK_of [] ?_;push_cast [iO,tN])
set_option maxHeartbeats 1000000 in
theorem riface_pure (s:ByteArray) (hs:s.size≤9223372036854775807):PCalls Tryz.prog 48 [.c (.v (.string s))] [] fun r os=>r = .c (.v (.bool (ifaceS s)))∧os=[]:=by
 have hv:=rvalid_pure s hs
 have hz:=valid_size (s:=s)
 unfold ifaceS
 obtain ⟨b,hb⟩:∃ b,validS s=b:=⟨_,rfl⟩
 rw [hb] at hv hz ⊢
 refine pcalls_of Tryz.func48 rfl (by simp [Tryz.ntmps48]) ?_
 rw [Tryz.ntmps48,Tryz.results48]
 cases b
 ·push_cast [iO,tN]
  repeat' (first |  (refine plc [] (hv) ?_ ?_;push_cast [iO,tN];rintro r os ⟨rfl,rfl⟩;push_cast [iO,tN])  | ((first|refine pG ?_|refine pQ ?_|refine pU ?_);push_cast [iO,tN])|(refine pif (fun h=>?_) (fun h=>?_)<;>first|exact pN h|push_cast [iO,tN]))
  (refine retK_of [] ?_;push_cast [iO,tN])
  all_goals rfl
 ·by_cases h1:s.size≤15
  ·have h1':(s.size:Int)≤15:=by omega
   have hc:=contains_pure s 58 (by omega)
   have hd:=contains_pure s 33 (by omega)
   obtain ⟨c,hc'⟩:∃ c,s.data.toList.contains 58=c:=⟨_,rfl⟩
   rw [hc'] at hc ⊢
   cases c
   ·push_cast [iO,tN]
    repeat' (first|(refine plc [] (hv) ?_ ?_;push_cast [iO,tN,h1'];rintro r os ⟨rfl,rfl⟩;push_cast [iO,tN,h1'])|(refine plc [] (hc) ?_ ?_;push_cast [iO,tN,h1'];rintro r os ⟨rfl,rfl⟩;push_cast [iO,tN,h1'])|(refine plc [] (hd) ?_ ?_;push_cast [iO,tN,h1'];rintro r os ⟨rfl,rfl⟩;push_cast [iO,tN,h1'])|((first|refine pG ?_|refine pQ ?_|refine pU ?_);push_cast [iO,tN,h1'])|(refine pif (fun h=>?_) (fun h=>?_)<;>first|exact pN h|push_cast [iO,tN,h1']))
    (refine retK_of [] ?_;push_cast [iO,tN])
    all_goals simp [h1]
   ·push_cast [iO,tN]
    repeat' (first|(refine plc [] (hv) ?_ ?_;push_cast [iO,tN,h1'];rintro r os ⟨rfl,rfl⟩;push_cast [iO,tN,h1'])|(refine plc [] (hc) ?_ ?_;push_cast [iO,tN,h1'];rintro r os ⟨rfl,rfl⟩;push_cast [iO,tN,h1'])|((first|refine pG ?_|refine pQ ?_|refine pU ?_);push_cast [iO,tN,h1'])|(refine pif (fun h=>?_) (fun h=>?_)<;>first|exact pN h|push_cast [iO,tN,h1']))
    (refine retK_of [] ?_;push_cast [iO,tN])
    all_goals simp [h1]
  ·have h1':¬ (s.size:Int)≤15:=by omega
   push_cast [iO,tN]
   repeat' (first|(refine plc [] (hv) ?_ ?_;push_cast [iO,tN,h1'];rintro r os ⟨rfl,rfl⟩;push_cast [iO,tN,h1'])|((first|refine pG ?_|refine pQ ?_|refine pU ?_);push_cast [iO,tN,h1'])|(refine pif (fun h=>?_) (fun h=>?_)<;>first|exact pN h|push_cast [iO,tN,h1']))
   (refine retK_of [] ?_;push_cast [iO,tN])
   all_goals simp [h1]
def refLetters:ByteArray:=⟨#[65,66,67,68,69,70,71,72,73,74,75,76,77,78,79,80,81,82,83,84,85,86,87,88,89,90,97,98,99,100,101,102,103,104,105,106,107,108,109,110,111,112,113,114,115,116,117,118,119,120,121,122,48,49,50,51,52,53,54,55,56,57,95,46,58,43,45,64,35,61,37]⟩
theorem linkL_get (b:UInt8):linkL.getD b.toNat false=refLetters.data.toList.contains b:=by
 unfold linkL commonL
 rw [plusL_get _ _ _ (by rw [plusL_len,plusL_len,plusL_len,plusL_len,noneL_len]),plusL_get _ _ _ (by rw [plusL_len,plusL_len,plusL_len,noneL_len]),plusL_get _ _ _ (by rw [plusL_len,plusL_len,noneL_len]),plusL_get _ _ _ (by rw [plusL_len,noneL_len]),plusL_get _ _ _ noneL_len]
 have h0:noneL.getD b.toNat false=false:=by unfold noneL;rw [List.getD_eq_getElem?_getD,List.getElem?_replicate];split<;>rfl
 rw [h0,Bool.false_or]
 have e:refLetters.data.toList=upperT++lowerT++digitT++moreT++[64,35,61,37]:=by decide
 rw [e]
 simp only [List.contains_eq_mem,List.mem_append,Bool.decide_or]
theorem in_link (s:ByteArray):inT s refLetters=hasL linkL s:=by
 unfold inT hasL
 congr 1
 funext b
 rw [linkL_get]
set_option maxHeartbeats 2000000 in
theorem rlink_pure (s:ByteArray) (hs:s.size≤1000000000):PCalls Tryz.prog 159 [.c (.v (.string s))] [] fun r os=>r = .c (.v (.bool (linkS s)))∧os=[]:=by
 have hps:=parts_size (s:=s)
 have hpm:=fun x hx=>part_size (s:=s) (x:=x) hx
 have hsp:=split_pure s (by omega)
 unfold linkS
 obtain ⟨l,hl⟩:∃ l,parts s=l:=⟨_,rfl⟩
 rw [hl] at hps hsp ⊢
 simp only [hl] at hpm
 have htk:=List.take_of_length_le (l:=l.map strD) (i:=l.length) (by simp)
 refine pcalls_of Tryz.func159 rfl (by simp [Tryz.ntmps159]) ?_
 rw [Tryz.ntmps159,Tryz.results159]
 push_cast [iO,tN]
 have cB:CutB 5 []:=trivial
 repeat' (first |  (refine plc [] (hsp) ?_ ?_;push_cast [iO,tN];rintro r os ⟨rfl,rfl⟩;push_cast [iO,tN])  | ((first|refine pC ?_|refine pQC ?_|refine pU ?_);push_cast [iO,tN])|(refine pif (fun h=>?_) (fun h=>?_)<;>first|exact pN h|push_cast [iO,tN]))
 refine pwp_weak (weak_frz 0 (by omega)) ?_
 push_cast [iO,tN,htk]
 (apply pwp_loop3 (α:=Nat) 5 [] (fun k=>[(4,.c (.v (.int .i64 k)))]) (fun k=>[]) (fun k=>k≤l.length∧(l.take k).all linkP=true) (fun k=>l.length - k) (0);(focus ((try push_cast [iO,tN]);rfl));(focus exact ⟨by omega,rfl⟩);(focus ((refine weak_fg ?_;try push_cast [iO,tN]))))
 rintro k ⟨hk,ha⟩
 push_cast [iO,tN]
 by_cases hlt:k < l.length
 ·have hm:l.getD k default ∈ l:=by rw [getD_lt l hlt];exact List.getElem_mem _
  have hi:=rin_pure (l.getD k default) refLetters (by have:=hpm _ hm;omega)
  rw [in_link] at hi
  have hno:linkP (l.getD k default)=false → (decide (s.size≤256) && l.all linkP)=false:=fun h=>by
   rw [List.all_eq_false.2 ⟨_,hm,by rw [h];decide⟩,Bool.and_false]
  have hyes:linkP (l.getD k default)=true → (l.take (k+1)).all linkP=true:=fun h=>by
   rw [List.take_succ_eq_append_getElem hlt,List.all_append,ha,← getD_lt l hlt,List.all_cons,h];rfl
  unfold refLetters at hi
  obtain ⟨x,hx⟩:∃ x,l.getD k default=x:=⟨_,rfl⟩
  rw [hx] at hi hno hyes
  have lp:linkP x=((decide (x≠⟨#[]⟩) && !(decide (x=⟨#[46]⟩) || decide (x=⟨#[46,46]⟩))) && hasL linkL x):=rfl
  by_cases h1:x=⟨#[]⟩
  ·have e1:=eq_true h1
   have e:=hno (by rw [lp];simp [h1])
   repeat' (first|((first|refine pC ?_|refine pQC ?_|refine pU ?_);push_cast [iO,tN,hx,e1])|(refine pif (fun h=>?_) (fun h=>?_)<;>first|exact pN h|push_cast [iO,tN,hx,e1]))
   (refine retK_of [] ?_;push_cast [iO,tN])
   rw [e]
  ·by_cases h2:x=⟨#[46]⟩
   ·have e2:=eq_true h2
    have e:=hno (by rw [lp];simp [h2])
    repeat' (first|((first|refine pC ?_|refine pQC ?_|refine pU ?_);push_cast [iO,tN,hx,h1,e2])|(refine pif (fun h=>?_) (fun h=>?_)<;>first|exact pN h|push_cast [iO,tN,hx,h1,e2]))
    (refine retK_of [] ?_;push_cast [iO,tN])
    rw [e]
   ·by_cases h3:x=⟨#[46,46]⟩
    ·have e3:=eq_true h3
     have e:=hno (by rw [lp];simp [h3])
     repeat' (first|((first|refine pC ?_|refine pQC ?_|refine pU ?_);push_cast [iO,tN,hx,h1,h2,e3])|(refine pif (fun h=>?_) (fun h=>?_)<;>first|exact pN h|push_cast [iO,tN,hx,h1,h2,e3]))
     (refine retK_of [] ?_;push_cast [iO,tN])
     rw [e]
    ·obtain ⟨c,hc⟩:∃ c,hasL linkL x=c:=⟨_,rfl⟩
     rw [hc] at hi lp
     cases c
     ·have e:=hno (by rw [lp];simp)
      repeat' (first|(refine plc [] (hi) ?_ ?_;push_cast [iO,tN,hx,h1,h2,h3];rintro r os ⟨rfl,rfl⟩;push_cast [iO,tN,hx,h1,h2,h3])|((first|refine pC ?_|refine pQC ?_|refine pU ?_);push_cast [iO,tN,hx,h1,h2,h3])|(refine pif (fun h=>?_) (fun h=>?_)<;>first|exact pN h|push_cast [iO,tN,hx,h1,h2,h3]))
      (refine retK_of [] ?_;push_cast [iO,tN])
      rw [e]
     ·have e:=hyes (by rw [lp];simp [h1,h2,h3])
      repeat' (first|(refine plc [] (hi) ?_ ?_;push_cast [iO,tN,hx,h1,h2,h3];rintro r os ⟨rfl,rfl⟩;push_cast [iO,tN,hx,h1,h2,h3])|((first|refine pC ?_|refine pQC ?_|refine pU ?_);push_cast [iO,tN,hx,h1,h2,h3])|(refine pif (fun h=>?_) (fun h=>?_)<;>first|exact pN h|push_cast [iO,tN,hx,h1,h2,h3]))
      exact ⟨k+1,⟨by omega,e⟩,by (refine weak_fg ?_;push_cast [iO,tN]),by omega⟩
 ·rw [List.take_of_length_le (by omega)] at ha
  have hd:decide ((s.size:Int)≤256)=decide (s.size≤256):=decide_eq_decide.2 (by omega)
  repeat' (first|((first|refine pC ?_|refine pQC ?_|refine pU ?_);push_cast [iO,tN])|(refine pif (fun h=>?_) (fun h=>?_)<;>first|exact pN h|push_cast [iO,tN]))
  (refine retK_of [] ?_;push_cast [iO,tN])
  rw [ha,Bool.and_true,← hd]
end Go.Proofs.YthconflkbeipoaaGreatDoor
