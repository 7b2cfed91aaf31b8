/- What the program computes, and the plain laws of it, part 17. -/
import Derived.Test.YthhfpcbpiphfiaaGreatDoorR16
namespace Go.Proofs.YthhfpcbpiphfiaaGreatDoor
attribute [local irreducible] PL QL PWPr PCalls Weak RetK Kontr PA
open Go.RowKit
open IntWalk renaming iteOmega → iO, toNatUp → tN
set_option linter.unusedVariables false
set_option linter.unusedSimpArgs false
set_option maxRecDepth 20000
abbrev boolE (b:Bool):E:=.v (.bool b)
theorem all_repl (m n:Nat) (x:Value):(List.replicate m (E.v x)).all (keyOk n)=true:=List.all_eq_true.2 fun e he=>by rw [List.eq_of_mem_replicate he];rfl
theorem plusL_nil (cs:List Bool):plusL cs []=cs:=rfl
theorem seeEs_repl (v:Bool) (os:List Ob) (ks:List Nat) (m:Nat) (x:Value):seeEs v os ks (List.replicate m (E.v x))=some (List.replicate m (E.v x)):=by
 have:=seeEs_mapv v os ks (fun _:Unit=>x) (List.replicate m ())
 simpa only [List.map_replicate] using this
attribute [push_cast] seeEs_repl all_repl plusL_nil List.drop_replicate Nat.sub_self List.replicate_zero List.append_nil
theorem drop_bools (cs:List Bool) (i:Nat) (hi:i < cs.length):(cs.map boolE).drop i = .v (.bool (cs.getD i false)) :: (cs.map boolE).drop (i+1):=by
 have h:i < (cs.map boolE).length:=by rw [List.length_map];exact hi
 rw [List.drop_eq_getElem_cons h,List.getElem_map,List.getD_eq_getElem?_getD,List.getElem?_eq_getElem hi];rfl
theorem plusL_take {cs:List Bool} {t:List UInt8} {k:Nat} (hk:k < t.length):plusL cs (t.take (k+1))=(plusL cs (t.take k)).set (t.getD k 0).toNat true:=by
 rw [List.take_succ_eq_append_getElem hk,plusL_snoc,List.getD_eq_getElem?_getD,List.getElem?_eq_getElem hk];rfl
set_option maxRecDepth 20000 in
set_option maxHeartbeats 1000000 in
theorem plus_pure (cs:List Bool) (t:ByteArray) (hc:cs.length=256) (ht:t.size≤1000000) :
  PCalls Tryz.prog 60 [.agg (cs.map boolE),.c (.v (.string t))] [] fun r os=>r = .agg ((plusL cs t.data.toList).map boolE)∧os=[]:=by
 refine pcalls_of Tryz.func60 rfl (by simp [Tryz.ntmps60]) ?_
 rw [Tryz.ntmps60,Tryz.results60]
 push_cast [iO,tN]
 have cB:CutB 9 []:=trivial
 repeat' (first|((first|refine pC ?_|refine pQC ?_|refine pU ?_);push_cast [iO,tN])|(refine pif (fun h=>?_) (fun h=>?_)<;>first|exact pN h|push_cast [iO,tN]))
 (apply pwp_loop3 (α:=Nat) 9 [] (fun k=>[(8,.c (.v (.int .i64 k)))]) (fun k=>[(0,.box 128 ((plusL cs (t.data.toList.take k)).map boolE))]) (fun k=>k≤t.size) (fun k=>t.size - k) (0);(focus ((try push_cast [iO,tN]);rfl));(focus exact (by omega));(focus ((refine weak_fg ?_;try push_cast [iO,tN]))))
 intro k hk
 push_cast [iO,tN]
 have hlen:(plusL cs (t.data.toList.take k)).length=256:=by rw [plusL_len,hc]
 by_cases hlt:k < t.size
 ·have hs:=plusL_take (cs:=cs) (t:=t.data.toList) (k:=k) hlt
  have hb:=(t.data.toList.getD k 0).toNat_lt
  repeat' (first|((first|refine pC ?_|refine pQC ?_|refine pU ?_);push_cast [iO,tN,hlen])|(refine pif (fun h=>?_) (fun h=>?_)<;>first|exact pN h|push_cast [iO,tN,hlen]))
  have hs2:(List.map boolE (plusL cs (t.data.toList.take k))).set (t.data.toList.getD k 0).toNat (.v (.bool true))=(plusL cs (t.data.toList.take (k+1))).map boolE:=by rw [hs,List.map_set]
  exact ⟨k+1,by omega,by (refine weak_fg ?_;push_cast [iO,tN,hs2]),by omega⟩
 ·have hk2:k=t.size:=by omega
  subst hk2
  have he:t.data.toList.take t.size=t.data.toList:=List.take_of_length_le (Nat.le_refl _)
  rw [he] at hlen ⊢
  repeat' (first|((first|refine pC ?_|refine pQC ?_|refine pU ?_);push_cast [iO,tN,hlen])|(refine pif (fun h=>?_) (fun h=>?_)<;>first|exact pN h|push_cast [iO,tN,hlen]))
  (refine retK_of [] ?_;push_cast [iO,tN,hlen])
set_option maxRecDepth 20000 in
set_option maxHeartbeats 1000000 in
theorem has_pure (cs:List Bool) (t:ByteArray) (hc:cs.length=256) (ht:t.size≤1000000) :
  PCalls Tryz.prog 61 [.agg (cs.map boolE),.c (.v (.string t))] [] fun r os=>r = .c (.v (.bool (hasL cs t)))∧os=[]:=by
 refine pcalls_of Tryz.func61 rfl (by simp [Tryz.ntmps61]) ?_
 rw [Tryz.ntmps61,Tryz.results61]
 push_cast [iO,tN]
 have cB:CutB 9 []:=trivial
 repeat' (first|((first|refine pC ?_|refine pQC ?_|refine pU ?_);push_cast [iO,tN])|(refine pif (fun h=>?_) (fun h=>?_)<;>first|exact pN h|push_cast [iO,tN]))
 (apply pwp_loop3 (α:=Nat) 9 [] (fun k=>[(8,.c (.v (.int .i64 k)))]) (fun k=>[]) (fun k=>k≤t.size∧(t.data.toList.take k).all (fun b=>cs.getD b.toNat false)=true) (fun k=>t.size - k) (0);(focus ((try push_cast [iO,tN]);rfl));(focus exact ⟨by omega,rfl⟩);(focus ((refine weak_fg ?_;try push_cast [iO,tN]))))
 rintro k ⟨hk,ha⟩
 push_cast [iO,tN]
 by_cases hlt:k < t.size
 ·have hb:=(t.data.toList.getD k 0).toNat_lt
  have hst:(t.data.toList.take (k+1)).all (fun b=>cs.getD b.toNat false)=cs.getD (t.data.toList.getD k 0).toNat false:=by
   have hk2:k < t.data.toList.length:=hlt
   rw [List.take_succ_eq_append_getElem hk2,List.all_append,ha,List.getD_eq_getElem?_getD,List.getD_eq_getElem?_getD (l:=t.data.toList),List.getElem?_eq_getElem hk2];simp
  have hd:=drop_bools cs (t.data.toList.getD k 0).toNat (by omega)
  cases hv:cs.getD (t.data.toList.getD k 0).toNat false
  ·rw [hv] at hd
   repeat' (first|((first|refine pC ?_|refine pQC ?_|refine pU ?_);push_cast [iO,tN,hc,hd])|(refine pif (fun h=>?_) (fun h=>?_)<;>first|exact pN h|push_cast [iO,tN,hc,hd]))
   (refine retK_of [] ?_;push_cast [iO,tN])
   rw [hasL,List.all_eq_false.2]
   refine ⟨t.data.toList.getD k 0,?_,by rw [hv];decide⟩
   have hk2:k < t.data.toList.length:=hlt
   rw [List.getD_eq_getElem?_getD,List.getElem?_eq_getElem hk2]
   exact List.getElem_mem _
  ·rw [hv] at hd
   repeat' (first|((first|refine pC ?_|refine pQC ?_|refine pU ?_);push_cast [iO,tN,hc,hd])|(refine pif (fun h=>?_) (fun h=>?_)<;>first|exact pN h|push_cast [iO,tN,hc,hd]))
   exact ⟨k+1,⟨by omega,by rw [hst,hv]⟩,by (refine weak_fg ?_;push_cast [iO,tN]),by omega⟩
 ·have hk2:k=t.size:=by omega
  subst hk2
  have he:t.data.toList.take t.size=t.data.toList:=List.take_of_length_le (Nat.le_refl _)
  rw [he] at ha
  repeat' (first|((first|refine pC ?_|refine pQC ?_|refine pU ?_);push_cast [iO,tN])|(refine pif (fun h=>?_) (fun h=>?_)<;>first|exact pN h|push_cast [iO,tN]))
  (refine retK_of [] ?_;push_cast [iO,tN])
  rw [hasL,ha]
theorem none_rep:noneL.map boolE=List.replicate 256 (E.v (.bool false)):=List.map_replicate
set_option maxRecDepth 20000 in
set_option maxHeartbeats 1000000 in
theorem common_pure:PCalls Tryz.prog 59 [] [] fun r os=>r = .agg (commonL.map boolE)∧os=[]:=by
 have h1:=plus_pure noneL ⟨#[65,66,67,68,69,70,71,72,73,74,75,76,77,78,79,80,81,82,83,84,85,86,87,88,89,90]⟩ noneL_len (by decide)
 have h2:=plus_pure (plusL noneL upperT) ⟨#[97,98,99,100,101,102,103,104,105,106,107,108,109,110,111,112,113,114,115,116,117,118,119,120,121,122]⟩ (by rw [plusL_len,noneL_len]) (by decide)
 have h3:=plus_pure (plusL (plusL noneL upperT) lowerT) ⟨#[48,49,50,51,52,53,54,55,56,57]⟩ (by rw [plusL_len,plusL_len,noneL_len]) (by decide)
 have h4:=plus_pure (plusL (plusL (plusL noneL upperT) lowerT) digitT) ⟨#[95,46,58,43,45]⟩ (by rw [plusL_len,plusL_len,plusL_len,noneL_len]) (by decide)
 have hl:=lower_pure
 rw [none_rep] at h1
 simp only [List.toList_toArray] at h1 h2 h3 h4
 change PCalls _ _ _ _ fun r os=>r = .agg ((plusL noneL upperT).map boolE)∧os=[] at h1
 change PCalls _ _ _ _ fun r os=>r = .agg ((plusL (plusL noneL upperT) lowerT).map boolE)∧os=[] at h2
 change PCalls _ _ _ _ fun r os=>r = .agg ((plusL (plusL (plusL noneL upperT) lowerT) digitT).map boolE)∧os=[] at h3
 change PCalls _ _ _ _ fun r os=>r = .agg (commonL.map boolE)∧os=[] at h4
 change PCalls Tryz.prog 82 [.c (.v (.string (⟨#[65,66,67,68,69,70,71,72,73,74,75,76,77,78,79,80,81,82,83,84,85,86,87,88,89,90]⟩)))] [] fun r os=>r = .c (.v (.string (⟨#[97,98,99,100,101,102,103,104,105,106,107,108,109,110,111,112,113,114,115,116,117,118,119,120,121,122]⟩)))∧os=[] at hl
 have hcl:=commonL_len
 generalize plusL noneL upperT=s1 at h1 h2 h3 h4
 generalize plusL s1 lowerT=s2 at h2 h3 h4
 generalize plusL s2 digitT=s3 at h3 h4
 refine pcalls_of Tryz.func59 rfl (by simp [Tryz.ntmps59]) ?_
 rw [Tryz.ntmps59,Tryz.results59]
 push_cast [iO,tN]
 have cB:CutB 1 []:=trivial
 repeat' (first |  (refine plc [] (h1) ?_ ?_;push_cast [iO,tN];rintro r os ⟨rfl,rfl⟩;push_cast [iO,tN])|(refine plc [] (hl) ?_ ?_;push_cast [iO,tN];rintro r os ⟨rfl,rfl⟩;push_cast [iO,tN])|(refine plc [] (h2) ?_ ?_;push_cast [iO,tN];rintro r os ⟨rfl,rfl⟩;push_cast [iO,tN])|(refine plc [] (h3) ?_ ?_;push_cast [iO,tN];rintro r os ⟨rfl,rfl⟩;push_cast [iO,tN])|(refine plc [] (h4) ?_ ?_;push_cast [iO,tN];rintro r os ⟨rfl,rfl⟩;push_cast [iO,tN])  | ((first|refine pC ?_|refine pQC ?_|refine pU ?_);push_cast [iO,tN])|(refine pif (fun h=>?_) (fun h=>?_)<;>first|exact pN h|push_cast [iO,tN]))
 (refine retK_of [] ?_;push_cast [iO,tN,hcl])
theorem dots_pure (s:ByteArray):PCalls Tryz.prog 58 [.c (.v (.string s))] [] fun r os=>r = .c (.v (.bool (dotsS s)))∧os=[]:=by
 refine pcalls_of Tryz.func58 rfl (by simp [Tryz.ntmps58]) ?_
 rw [Tryz.ntmps58,Tryz.results58]
 unfold dotsS
 by_cases h1:s=⟨#[46]⟩
 ·have e1:=eq_true h1
  push_cast [iO,tN]
  repeat' (first|((first|refine pG ?_|refine pQ ?_|refine pU ?_);push_cast [iO,tN,e1])|(refine pif (fun h=>?_) (fun h=>?_)<;>first|exact pN h|push_cast [iO,tN,e1]))
  (refine retK_of [] ?_;push_cast [iO,tN])
 ·by_cases h2:s=⟨#[46,46]⟩
  ·have e2:=eq_true h2
   push_cast [iO,tN]
   repeat' (first|((first|refine pG ?_|refine pQ ?_|refine pU ?_);push_cast [iO,tN,h1,e2])|(refine pif (fun h=>?_) (fun h=>?_)<;>first|exact pN h|push_cast [iO,tN,h1,e2]))
   (refine retK_of [] ?_;push_cast [iO,tN])
  ·push_cast [iO,tN]
   repeat' (first|((first|refine pG ?_|refine pQ ?_|refine pU ?_);push_cast [iO,tN,h1,h2])|(refine pif (fun h=>?_) (fun h=>?_)<;>first|exact pN h|push_cast [iO,tN,h1,h2]))
   (refine retK_of [] ?_;push_cast [iO,tN])
set_option maxRecDepth 20000 in
set_option maxHeartbeats 1000000 in
theorem valid_pure (s:ByteArray) (hs:s.size≤9223372036854775807):PCalls Tryz.prog 42 [.c (.v (.string s))] [] fun r os=>r = .c (.v (.bool (validS s)))∧os=[]:=by
 have hp:=plus_pure commonL ⟨#[33]⟩ commonL_len (by decide)
 simp only [List.toList_toArray] at hp
 have hd:=dots_pure s
 have hv:validS s=(((decide (s≠⟨#[]⟩) && decide (s.size≤32)) && !dotsS s) && hasL (plusL commonL [33]) s):=by rw [has_name,validS]
 have hl:(plusL commonL [33]).length=256:=by rw [plusL_len,commonL_len]
 rw [hv]
 generalize plusL commonL [33]=cs at hp hl ⊢
 refine pcalls_of Tryz.func42 rfl (by simp [Tryz.ntmps42]) ?_
 rw [Tryz.ntmps42,Tryz.results42]
 by_cases h1:s=⟨#[]⟩
 ·have e1:=eq_true h1
  push_cast [iO,tN]
  repeat' (first|((first|refine pG ?_|refine pQ ?_|refine pU ?_);push_cast [iO,tN,e1,ne_eq,not_true_eq_false])|(refine pif (fun h=>?_) (fun h=>?_)<;>first|exact pN h|push_cast [iO,tN,e1,ne_eq,not_true_eq_false]))
  (refine retK_of [] ?_;push_cast [iO,tN])
 ·by_cases h2:s.size≤32
  ·have h2':(s.size:Int)≤32:=by omega
   obtain ⟨b,hb⟩:∃ b,dotsS s=b:=⟨_,rfl⟩
   rw [hb] at hd ⊢
   have hh:=has_pure cs s hl (by omega)
   obtain ⟨c,hc⟩:∃ c,hasL cs s=c:=⟨_,rfl⟩
   rw [hc] at hh ⊢
   cases b
   all_goals push_cast [iO,tN]
   all_goals repeat' (first|(refine plc [] (hd) ?_ ?_;push_cast [iO,tN,h1,h2',ne_eq,not_false_eq_true];rintro r os ⟨rfl,rfl⟩;push_cast [iO,tN,h1,h2',ne_eq,not_false_eq_true])|(refine plc [] (common_pure) ?_ ?_;push_cast [iO,tN,h1,h2',ne_eq,not_false_eq_true];rintro r os ⟨rfl,rfl⟩;push_cast [iO,tN,h1,h2',ne_eq,not_false_eq_true])|(refine plc [] (hp) ?_ ?_;push_cast [iO,tN,h1,h2',ne_eq,not_false_eq_true];rintro r os ⟨rfl,rfl⟩;push_cast [iO,tN,h1,h2',ne_eq,not_false_eq_true])|(refine plc [] (hh) ?_ ?_;push_cast [iO,tN,h1,h2',ne_eq,not_false_eq_true];rintro r os ⟨rfl,rfl⟩;push_cast [iO,tN,h1,h2',ne_eq,not_false_eq_true])|((first|refine pG ?_|refine pQ ?_|refine pU ?_);push_cast [iO,tN,h1,h2',ne_eq,not_false_eq_true])|(refine pif (fun h=>?_) (fun h=>?_)<;>first|exact pN h|push_cast [iO,tN,h1,h2',ne_eq,not_false_eq_true]))
   all_goals (refine retK_of [] ?_;push_cast [iO,tN])
   all_goals simp [h1,h2]
  ·have h2':¬ (s.size:Int)≤32:=by omega
   push_cast [iO,tN]
   repeat' (first|((first|refine pG ?_|refine pQ ?_|refine pU ?_);push_cast [iO,tN,h1,h2',ne_eq,not_false_eq_true])|(refine pif (fun h=>?_) (fun h=>?_)<;>first|exact pN h|push_cast [iO,tN,h1,h2',ne_eq,not_false_eq_true]))
   (refine retK_of [] ?_;push_cast [iO,tN])
   simp [h2]
set_option maxRecDepth 20000
theorem noneS_rep:noneS.map boolE=List.replicate 127 (E.v (.bool false)):=List.map_replicate
set_option maxRecDepth 20000 in
set_option maxHeartbeats 1000000 in
theorem every_pure:PCalls Tryz.prog 66 [] [] fun r os=>r = .agg (everyL.map boolE)∧os=[]:=by
 refine pcalls_of Tryz.func66 rfl (by simp [Tryz.ntmps66]) ?_
 rw [Tryz.ntmps66,Tryz.results66]
 push_cast [-List.reduceReplicate,iO,tN]
 have cB:CutB 3 []:=trivial
 repeat' (first|((first|refine pC ?_|refine pQC ?_|refine pU ?_);push_cast [-List.reduceReplicate,iO,tN])|(refine pif (fun h=>?_) (fun h=>?_)<;>first|exact pN h|push_cast [-List.reduceReplicate,iO,tN]))
 (apply pwp_loop3 (α:=Nat) 3 [] (fun k=>[(2,.c (.v (.int .i64 (32+k))))]) (fun k=>[(1,.box 115 ((fillN noneS 32 k).map boolE))]) (fun k=>k≤95) (fun k=>95 - k) (0);(focus ((try push_cast [-List.reduceReplicate,iO,tN]);rfl));(focus exact (by omega));(focus ((refine weak_fg ?_;try push_cast [-List.reduceReplicate,iO,tN]);(try (exact leEs_refl _)))))
 intro k hk
 push_cast [-List.reduceReplicate,iO,tN]
 have hlen:(fillN noneS 32 k).length=127:=by rw [fillN_len];rfl
 by_cases hlt:k < 95
 ·repeat' (first|((first|refine pC ?_|refine pQC ?_|refine pU ?_);push_cast [-List.reduceReplicate,iO,tN,hlen])|(refine pif (fun h=>?_) (fun h=>?_)<;>first|exact pN h|push_cast [-List.reduceReplicate,iO,tN,hlen]))
  have hs2:(List.map boolE (fillN noneS 32 k)).set (32+k) (.v (.bool true))=(fillN noneS 32 (k+1)).map boolE:=by rw [fillN,List.map_set]
  have hk3:(32+(k:Int)+1)=32+((k:Int)+1):=by omega
  exact ⟨k+1,by omega,by (refine weak_fg ?_;push_cast [-List.reduceReplicate,iO,tN,hs2,hk3]),by omega⟩
 ·have hk2:k=95:=by omega
  subst hk2
  have hst:List.take 127 ((fillN noneS 32 95).map boolE)=everyL.map boolE:=List.take_of_length_le (by rw [List.length_map,hlen];exact Nat.le_refl _)
  repeat' (first|((first|refine pC ?_|refine pQC ?_|refine pU ?_);push_cast [-List.reduceReplicate,iO,tN,hlen])|(refine pif (fun h=>?_) (fun h=>?_)<;>first|exact pN h|push_cast [-List.reduceReplicate,iO,tN,hlen]))
  (refine retK_of [] ?_;push_cast [-List.reduceReplicate,iO,tN,hlen,hst])
  exact leEs_refl _
theorem byt_sub {p:ByteArray} {i:Nat} (k:Nat) (h:i≤p.size):(p.extract i p.size).data.toList.getD k 0=byt p (i+k):=by
 have e:(p.extract i p.size).data.toList=p.data.toList.drop i:=by rw [ByteArray.data_extract,Array.toList_extract,List.extract_eq_take_drop];exact List.take_of_length_le (by rw [List.length_drop];exact Nat.le_refl _)
 unfold byt
 rw [e,List.getD_eq_getElem?_getD,List.getElem?_drop,← List.getD_eq_getElem?_getD]
abbrev rdE (p:ByteArray) (i:Nat):List E:=[.v (.string p),.v (.int .i64 i)]
set_option maxRecDepth 20000 in
set_option maxHeartbeats 1000000 in
theorem member_none (p:ByteArray) (i:Nat) (cs:List Bool) (h:i=p.size) (hp:p.size≤1000000) :
  PCalls Tryz.prog 86 [.c (.ptr 0 0),.c (.ptr 1 0)] [.box 107 (rdE p i),.box 115 (cs.map boolE)] fun r os=>r = .c (.v (.bool false))∧os=[.box 107 (rdE p i),.box 115 (cs.map boolE)]:=by
 have hx:p.extract i p.size=⟨#[]⟩:=by
  apply ByteArray.ext
  rw [ByteArray.data_extract]
  exact Array.extract_empty_of_stop_le_start (by omega)
 have hx2:((⟨#[]⟩:ByteArray)=⟨#[]⟩)=True:=eq_self _
 refine pcalls_of Tryz.func86 rfl (by simp [Tryz.ntmps86]) ?_
 rw [Tryz.ntmps86,Tryz.results86]
 push_cast [-List.reduceReplicate,iO,tN]
 have cB:CutB 9 []:=trivial
 repeat' (first|((first|refine pC ?_|refine pQC ?_|refine pU ?_);push_cast [-List.reduceReplicate,iO,tN,hx])|(refine pif (fun h=>?_) (fun h=>?_)<;>first|exact pN h|push_cast [-List.reduceReplicate,iO,tN,hx]))
 (refine retK_of [0,1] ?_;push_cast [-List.reduceReplicate,iO,tN])
set_option maxRecDepth 20000 in
set_option maxHeartbeats 2000000 in
theorem member_pure (p:ByteArray) (i:Nat) (cs:List Bool) (h:i < p.size) (hp:p.size≤1000000) (hcs:cs.length=127) (hb:∀ k,byt p k≤126) :
  PCalls Tryz.prog 86 [.c (.ptr 0 0),.c (.ptr 1 0)] [.box 107 (rdE p i),.box 115 (cs.map boolE)] fun r os=>r = .c (.v (.bool (decide (byt p i≤memTo p i))))∧os=[.box 107 (rdE p (memAt p i)),.box 115 ((memS p i cs).map boolE)]:=by
 have hsz:(p.extract i p.size).size=p.size - i:=by rw [ByteArray.size_extract];omega
 have hx:¬ p.extract i p.size=⟨#[]⟩:=fun e=>by rw [e] at hsz;have:(0:Nat)=p.size - i:=hsz;omega
 have b0:(p.extract i p.size).data.toList.getD 0 0=byt p i:=byt_sub (p:=p) (i:=i) 0 (by omega)
 have b1:=byt_sub (p:=p) (i:=i) 1 (by omega)
 have b2:=byt_sub (p:=p) (i:=i) 2 (by omega)
 have g0:0 < (p.extract i p.size).size:=by omega
 refine pcalls_of Tryz.func86 rfl (by simp [Tryz.ntmps86]) ?_
 rw [Tryz.ntmps86,Tryz.results86]
 push_cast [-List.reduceReplicate,iO,tN]
 have cB:CutB 9 []:=trivial
 by_cases h2:i+2 < p.size
 case neg =>
  have h2':¬ (2:Int) < ((p.extract i p.size).size:Int):=by omega
  have hq:rngQ p i=false:=by unfold rngQ;rw [decide_eq_false h2];rfl
  have hm:memAt p i=i+1:=by unfold memAt;rw [hq];rfl
  have ht:memTo p i=byt p i:=by unfold memTo;rw [hq];rfl
  obtain ⟨A,hA⟩:∃ A,(byt p i).toNat=A:=⟨_,rfl⟩
  obtain ⟨T,hT⟩:∃ T,(memTo p i).toNat=T:=⟨_,rfl⟩
  have hAT:A=T:=by rw [← hA,← hT,ht]
  have hT1:T≤126:=by rw [← hAT,← hA];exact UInt8.le_iff_toNat_le.1 (hb i)
  repeat' (first|((first|refine pC ?_|refine pQC ?_|refine pU ?_);push_cast [-List.reduceReplicate,iO,tN,hx,g0,b0,h2',hA])|(refine pif (fun h=>?_) (fun h=>?_)<;>first|exact pN h|push_cast [-List.reduceReplicate,iO,tN,hx,g0,b0,h2',hA]))
  have hS:memS p i cs=fillN cs A (T+1 - A):=by unfold memS;rw [hA,hT]
  (apply pwp_loop3 (α:=Nat) 9 [] (fun k=>[(8,.c (.v (.int .u8 ((A+k:Nat):Int))))]) (fun k=>[(1,.box 115 ((fillN cs A k).map boolE))]) (fun k=>k≤T+1 - A) (fun k=>(T+1 - A) - k) (0);(focus ((try push_cast [-List.reduceReplicate,iO,tN]);rfl));(focus exact (by omega));(focus ((refine weak_fg ?_;try push_cast [-List.reduceReplicate,iO,tN]);(try (exact ⟨(Int.add_zero _).symm,leEs_refl _⟩)))))
  intro k hk
  push_cast [-List.reduceReplicate,iO,tN]
  have hlen:(fillN cs A k).length=127:=by rw [fillN_len,hcs]
  by_cases hlt:k < T+1 - A
  ·have hc:(A:Int)+(k:Int)≤(T:Int):=by omega
   repeat' (first|((first|refine pC ?_|refine pQC ?_|refine pU ?_);push_cast [-List.reduceReplicate,iO,tN,hlen,hc])|(refine pif (fun h=>?_) (fun h=>?_)<;>first|exact pN h|push_cast [-List.reduceReplicate,iO,tN,hlen,hc]))
   have hs2:(List.map boolE (fillN cs A k)).set (A+k) (.v (.bool true))=(fillN cs A (k+1)).map boolE:=by rw [fillN,List.map_set]
   have hk3:((A:Int)+(k:Int)+1)=(A:Int)+((k:Int)+1):=by omega
   exact ⟨k+1,by omega,by (refine weak_fg ?_;push_cast [-List.reduceReplicate,iO,tN,hs2,hk3]),by omega⟩
  ·have hk2:k=T+1 - A:=by omega
   have hc:¬ (A:Int)+(k:Int)≤(T:Int):=by omega
   repeat' (first|((first|refine pC ?_|refine pQC ?_|refine pU ?_);push_cast [-List.reduceReplicate,iO,tN,hlen,hc])|(refine pif (fun h=>?_) (fun h=>?_)<;>first|exact pN h|push_cast [-List.reduceReplicate,iO,tN,hlen,hc]))
   subst hk2
   (refine retK_of [0,1] ?_;push_cast [-List.reduceReplicate,iO,tN])
   refine ⟨decide_eq_decide.2 ?_,by rw [hm];push_cast;try rfl,by rw [hS];exact leEs_refl _⟩
   rw [UInt8.le_iff_toNat_le,hA,hT];omega
 have h2':(2:Int) < ((p.extract i p.size).size:Int):=by omega
 have g1:1 < (p.extract i p.size).size:=by omega
 have g2:2 < (p.extract i p.size).size:=by omega
 by_cases h3:byt p (i+1)=45
 case neg =>
  have h3':¬ (byt p (i+1)).toNat=45:=fun e=>h3 (UInt8.toNat_inj.1 e)
  have hq:rngQ p i=false:=by unfold rngQ;rw [beq_eq_false_iff_ne.2 h3];simp
  have hm:memAt p i=i+1:=by unfold memAt;rw [hq];rfl
  have ht:memTo p i=byt p i:=by unfold memTo;rw [hq];rfl
  obtain ⟨A,hA⟩:∃ A,(byt p i).toNat=A:=⟨_,rfl⟩
  obtain ⟨T,hT⟩:∃ T,(memTo p i).toNat=T:=⟨_,rfl⟩
  have hAT:A=T:=by rw [← hA,← hT,ht]
  have hT1:T≤126:=by rw [← hAT,← hA];exact UInt8.le_iff_toNat_le.1 (hb i)
  repeat' (first|((first|refine pC ?_|refine pQC ?_|refine pU ?_);push_cast [-List.reduceReplicate,iO,tN,hx,g0,b0,g1,b1,h2',hA,h3',h3])|(refine pif (fun h=>?_) (fun h=>?_)<;>first|exact pN h|push_cast [-List.reduceReplicate,iO,tN,hx,g0,b0,g1,b1,h2',hA,h3',h3]))
  have hS:memS p i cs=fillN cs A (T+1 - A):=by unfold memS;rw [hA,hT]
  (apply pwp_loop3 (α:=Nat) 9 [] (fun k=>[(8,.c (.v (.int .u8 ((A+k:Nat):Int))))]) (fun k=>[(1,.box 115 ((fillN cs A k).map boolE))]) (fun k=>k≤T+1 - A) (fun k=>(T+1 - A) - k) (0);(focus ((try push_cast [-List.reduceReplicate,iO,tN]);rfl));(focus exact (by omega));(focus ((refine weak_fg ?_;try push_cast [-List.reduceReplicate,iO,tN]);(try (exact ⟨(Int.add_zero _).symm,leEs_refl _⟩)))))
  intro k hk
  push_cast [-List.reduceReplicate,iO,tN]
  have hlen:(fillN cs A k).length=127:=by rw [fillN_len,hcs]
  by_cases hlt:k < T+1 - A
  ·have hc:(A:Int)+(k:Int)≤(T:Int):=by omega
   repeat' (first|((first|refine pC ?_|refine pQC ?_|refine pU ?_);push_cast [-List.reduceReplicate,iO,tN,hlen,hc])|(refine pif (fun h=>?_) (fun h=>?_)<;>first|exact pN h|push_cast [-List.reduceReplicate,iO,tN,hlen,hc]))
   have hs2:(List.map boolE (fillN cs A k)).set (A+k) (.v (.bool true))=(fillN cs A (k+1)).map boolE:=by rw [fillN,List.map_set]
   have hk3:((A:Int)+(k:Int)+1)=(A:Int)+((k:Int)+1):=by omega
   exact ⟨k+1,by omega,by (refine weak_fg ?_;push_cast [-List.reduceReplicate,iO,tN,hs2,hk3]),by omega⟩
  ·have hk2:k=T+1 - A:=by omega
   have hc:¬ (A:Int)+(k:Int)≤(T:Int):=by omega
   repeat' (first|((first|refine pC ?_|refine pQC ?_|refine pU ?_);push_cast [-List.reduceReplicate,iO,tN,hlen,hc])|(refine pif (fun h=>?_) (fun h=>?_)<;>first|exact pN h|push_cast [-List.reduceReplicate,iO,tN,hlen,hc]))
   subst hk2
   (refine retK_of [0,1] ?_;push_cast [-List.reduceReplicate,iO,tN])
   refine ⟨decide_eq_decide.2 ?_,by rw [hm];push_cast;try rfl,by rw [hS];exact leEs_refl _⟩
   rw [UInt8.le_iff_toNat_le,hA,hT];omega
 by_cases h4:byt p (i+2)=93
 case pos =>
  have hq:rngQ p i=false:=by unfold rngQ;rw [h4];simp
  have hm:memAt p i=i+1:=by unfold memAt;rw [hq];rfl
  have ht:memTo p i=byt p i:=by unfold memTo;rw [hq];rfl
  obtain ⟨A,hA⟩:∃ A,(byt p i).toNat=A:=⟨_,rfl⟩
  obtain ⟨T,hT⟩:∃ T,(memTo p i).toNat=T:=⟨_,rfl⟩
  have hAT:A=T:=by rw [← hA,← hT,ht]
  have hT1:T≤126:=by rw [← hAT,← hA];exact UInt8.le_iff_toNat_le.1 (hb i)
  repeat' (first|((first|refine pC ?_|refine pQC ?_|refine pU ?_);push_cast [-List.reduceReplicate,iO,tN,hx,g0,b0,g1,b1,g2,b2,h2',hA,h3,h4])|(refine pif (fun h=>?_) (fun h=>?_)<;>first|exact pN h|push_cast [-List.reduceReplicate,iO,tN,hx,g0,b0,g1,b1,g2,b2,h2',hA,h3,h4]))
  have hS:memS p i cs=fillN cs A (T+1 - A):=by unfold memS;rw [hA,hT]
  (apply pwp_loop3 (α:=Nat) 9 [] (fun k=>[(8,.c (.v (.int .u8 ((A+k:Nat):Int))))]) (fun k=>[(1,.box 115 ((fillN cs A k).map boolE))]) (fun k=>k≤T+1 - A) (fun k=>(T+1 - A) - k) (0);(focus ((try push_cast [-List.reduceReplicate,iO,tN]);rfl));(focus exact (by omega));(focus ((refine weak_fg ?_;try push_cast [-List.reduceReplicate,iO,tN]);(try (exact ⟨(Int.add_zero _).symm,leEs_refl _⟩)))))
  intro k hk
  push_cast [-List.reduceReplicate,iO,tN]
  have hlen:(fillN cs A k).length=127:=by rw [fillN_len,hcs]
  by_cases hlt:k < T+1 - A
  ·have hc:(A:Int)+(k:Int)≤(T:Int):=by omega
   repeat' (first|((first|refine pC ?_|refine pQC ?_|refine pU ?_);push_cast [-List.reduceReplicate,iO,tN,hlen,hc])|(refine pif (fun h=>?_) (fun h=>?_)<;>first|exact pN h|push_cast [-List.reduceReplicate,iO,tN,hlen,hc]))
   have hs2:(List.map boolE (fillN cs A k)).set (A+k) (.v (.bool true))=(fillN cs A (k+1)).map boolE:=by rw [fillN,List.map_set]
   have hk3:((A:Int)+(k:Int)+1)=(A:Int)+((k:Int)+1):=by omega
   exact ⟨k+1,by omega,by (refine weak_fg ?_;push_cast [-List.reduceReplicate,iO,tN,hs2,hk3]),by omega⟩
  ·have hk2:k=T+1 - A:=by omega
   have hc:¬ (A:Int)+(k:Int)≤(T:Int):=by omega
   repeat' (first|((first|refine pC ?_|refine pQC ?_|refine pU ?_);push_cast [-List.reduceReplicate,iO,tN,hlen,hc])|(refine pif (fun h=>?_) (fun h=>?_)<;>first|exact pN h|push_cast [-List.reduceReplicate,iO,tN,hlen,hc]))
   subst hk2
   (refine retK_of [0,1] ?_;push_cast [-List.reduceReplicate,iO,tN])
   refine ⟨decide_eq_decide.2 ?_,by rw [hm];push_cast;try rfl,by rw [hS];exact leEs_refl _⟩
   rw [UInt8.le_iff_toNat_le,hA,hT];omega
 have h4':¬ (byt p (i+2)).toNat=93:=fun e=>h4 (UInt8.toNat_inj.1 e)
 have hq:rngQ p i=true:=by unfold rngQ;rw [h3,decide_eq_true h2];simp [h4]
 have hm:memAt p i=i+3:=by unfold memAt;rw [hq];rfl
 have ht:memTo p i=byt p (i+2):=by unfold memTo;rw [hq];rfl
 obtain ⟨A,hA⟩:∃ A,(byt p i).toNat=A:=⟨_,rfl⟩
 obtain ⟨T,hT⟩:∃ T,(memTo p i).toNat=T:=⟨_,rfl⟩
 have hTT:(byt p (i+2)).toNat=T:=by rw [← hT,ht]
 have hT1:T≤126:=by rw [← hTT];exact UInt8.le_iff_toNat_le.1 (hb _)
 have hA1:A≤126:=by rw [← hA];exact UInt8.le_iff_toNat_le.1 (hb _)
 repeat' (first|((first|refine pC ?_|refine pQC ?_|refine pU ?_);push_cast [-List.reduceReplicate,iO,tN,hx,g0,b0,g1,b1,g2,b2,h2',hA,h3,h4,h4',hTT])|(refine pif (fun h=>?_) (fun h=>?_)<;>first|exact pN h|push_cast [-List.reduceReplicate,iO,tN,hx,g0,b0,g1,b1,g2,b2,h2',hA,h3,h4,h4',hTT]))
 have hS:memS p i cs=fillN cs A (T+1 - A):=by unfold memS;rw [hA,hT]
 (apply pwp_loop3 (α:=Nat) 9 [] (fun k=>[(8,.c (.v (.int .u8 ((A+k:Nat):Int))))]) (fun k=>[(1,.box 115 ((fillN cs A k).map boolE))]) (fun k=>k≤T+1 - A) (fun k=>(T+1 - A) - k) (0);(focus ((try push_cast [-List.reduceReplicate,iO,tN]);rfl));(focus exact (by omega));(focus ((refine weak_fg ?_;try push_cast [-List.reduceReplicate,iO,tN]);(try (exact ⟨(Int.add_zero _).symm,leEs_refl _⟩)))))
 intro k hk
 push_cast [-List.reduceReplicate,iO,tN]
 have hlen:(fillN cs A k).length=127:=by rw [fillN_len,hcs]
 by_cases hlt:k < T+1 - A
 ·have hc:(A:Int)+(k:Int)≤(T:Int):=by omega
  repeat' (first|((first|refine pC ?_|refine pQC ?_|refine pU ?_);push_cast [-List.reduceReplicate,iO,tN,hlen,hc])|(refine pif (fun h=>?_) (fun h=>?_)<;>first|exact pN h|push_cast [-List.reduceReplicate,iO,tN,hlen,hc]))
  have hs2:(List.map boolE (fillN cs A k)).set (A+k) (.v (.bool true))=(fillN cs A (k+1)).map boolE:=by rw [fillN,List.map_set]
  have hk3:((A:Int)+(k:Int)+1)=(A:Int)+((k:Int)+1):=by omega
  exact ⟨k+1,by omega,by (refine weak_fg ?_;push_cast [-List.reduceReplicate,iO,tN,hs2,hk3]),by omega⟩
 ·have hk2:k=T+1 - A:=by omega
  have hc:¬ (A:Int)+(k:Int)≤(T:Int):=by omega
  repeat' (first|((first|refine pC ?_|refine pQC ?_|refine pU ?_);push_cast [-List.reduceReplicate,iO,tN,hlen,hc])|(refine pif (fun h=>?_) (fun h=>?_)<;>first|exact pN h|push_cast [-List.reduceReplicate,iO,tN,hlen,hc]))
  subst hk2
  (refine retK_of [0,1] ?_;push_cast [-List.reduceReplicate,iO,tN])
  refine ⟨decide_eq_decide.2 ?_,by rw [hm];push_cast;try rfl,by rw [hS];exact leEs_refl _⟩
  rw [UInt8.le_iff_toNat_le,hA,hT];omega
set_option maxRecDepth 20000
theorem idxb_lt:∀ (l:List UInt8) (c:UInt8),Lib.indexByte l c < 0 ↔ l.contains c=false
 | [],c=>by simp [Lib.indexByte]
 | b :: l,c=>by
  have ih:=idxb_lt l c
  have hg:=Lib.indexByte_ge l c
  rw [Lib.indexByte,List.contains_cons]
  by_cases h:b=c
  ·subst h;simp
  ·rw [if_neg (by simpa using h),show (c == b)=false by simpa using Ne.symm h,Bool.false_or,← ih]
   split
   ·rename_i h1;simp at h1;omega
   ·rename_i h1;simp at h1;omega
theorem byte_back (b:UInt8):((b.toNat:Int)).toNat.toUInt8=b:=by simp
def inT (s t:ByteArray):Bool:=s.data.toList.all fun b=>t.data.toList.contains b
set_option maxHeartbeats 1000000 in
theorem rin_pure (s t:ByteArray) (hs:s.size≤1000000000) :
  PCalls Tryz.prog 45 [.c (.v (.string s)),.c (.v (.string t))] [] fun r os=>r = .c (.v (.bool (inT s t)))∧os=[]:=by
 refine pcalls_of Tryz.func45 rfl (by simp [Tryz.ntmps45]) ?_
 rw [Tryz.ntmps45,Tryz.results45]
 push_cast [iO,tN]
 have cB:CutB 6 []:=trivial
 repeat' (first|((first|refine pC ?_|refine pQC ?_|refine pU ?_);push_cast [iO,tN])|(refine pif (fun h=>?_) (fun h=>?_)<;>first|exact pN h|push_cast [iO,tN]))
 (apply pwp_loop3 (α:=Nat) 6 [] (fun k=>[(5,.c (.v (.int .i64 k)))]) (fun k=>[]) (fun k=>k≤s.size∧(s.data.toList.take k).all (fun b=>t.data.toList.contains b)=true) (fun k=>s.size - k) (0);(focus ((try push_cast [iO,tN]);rfl));(focus exact ⟨by omega,rfl⟩);(focus ((refine weak_fg ?_;try push_cast [iO,tN]))))
 rintro k ⟨hk,ha⟩
 push_cast [iO,tN]
 by_cases hlt:k < s.size
 ·have hk2:k < s.data.toList.length:=hlt
  have eg:s.data.toList.getD k 0=s.data.toList[k]:=by rw [List.getD_eq_getElem?_getD,List.getElem?_eq_getElem hk2];rfl
  have hix:=idxb_lt t.data.toList (s.data.toList.getD k 0)
  have hc:=idxb_pure t ((s.data.toList.getD k 0).toNat:Int)
  rw [byte_back] at hc
  cases hv:t.data.toList.contains (s.data.toList.getD k 0)
  ·have hl:=hix.2 hv
   repeat' (first|(refine plc [] (hc) ?_ ?_;push_cast [iO,tN,hl];rintro r os ⟨rfl,rfl⟩;push_cast [iO,tN,hl])|((first|refine pC ?_|refine pQC ?_|refine pU ?_);push_cast [iO,tN,hl])|(refine pif (fun h=>?_) (fun h=>?_)<;>first|exact pN h|push_cast [iO,tN,hl]))
   (refine retK_of [] ?_;push_cast [iO,tN])
   rw [inT,List.all_eq_false.2]
   exact ⟨s.data.toList.getD k 0,by rw [eg];exact List.getElem_mem _,by rw [hv];decide⟩
  ·have hl:¬ Lib.indexByte t.data.toList (s.data.toList.getD k 0) < 0:=fun h=>by rw [hix.1 h] at hv;cases hv
   repeat' (first|(refine plc [] (hc) ?_ ?_;push_cast [iO,tN,hl];rintro r os ⟨rfl,rfl⟩;push_cast [iO,tN,hl])|((first|refine pC ?_|refine pQC ?_|refine pU ?_);push_cast [iO,tN,hl])|(refine pif (fun h=>?_) (fun h=>?_)<;>first|exact pN h|push_cast [iO,tN,hl]))
   refine ⟨k+1,⟨by omega,?_⟩,by (refine weak_fg ?_;push_cast [iO,tN]),by omega⟩
   rw [List.take_succ_eq_append_getElem hk2,List.all_append,ha,← eg,List.all_cons,hv];rfl
 ·have hk2:k=s.size:=by omega
  subst hk2
  have he:s.data.toList.take s.size=s.data.toList:=List.take_of_length_le (Nat.le_refl _)
  rw [he] at ha
  repeat' (first|((first|refine pC ?_|refine pQC ?_|refine pU ?_);push_cast [iO,tN])|(refine pif (fun h=>?_) (fun h=>?_)<;>first|exact pN h|push_cast [iO,tN]))
  (refine retK_of [] ?_;push_cast [iO,tN])
  rw [inT,ha]
def refSet:ByteArray:=⟨#[65,66,67,68,69,70,71,72,73,74,75,76,77,78,79,80,81,82,83,84,85,86,87,88,89,90,97,98,99,100,101,102,103,104,105,106,107,108,109,110,111,112,113,114,115,116,117,118,119,120,121,122,48,49,50,51,52,53,54,55,56,57,95,46,58,43,45,33]⟩
theorem in_name (s:ByteArray):inT s refSet=s.data.toList.all nameB:=by
 unfold inT
 congr
set_option maxHeartbeats 1000000 in
theorem rvalid_pure (s:ByteArray) (hs:s.size≤9223372036854775807):PCalls Tryz.prog 25 [.c (.v (.string s))] [] fun r os=>r = .c (.v (.bool (validS s)))∧os=[]:=by
 have hv:validS s=(((decide (s≠⟨#[]⟩) && decide (s.size≤32)) && !dotsS s) && inT s refSet):=by rw [in_name,validS]
 rw [hv]
 unfold dotsS
 refine pcalls_of Tryz.func25 rfl (by simp [Tryz.ntmps25]) ?_
 rw [Tryz.ntmps25,Tryz.results25]
 by_cases h1:s=⟨#[]⟩
 ·have e1:=eq_true h1
  push_cast [iO,tN]
  repeat' (first|((first|refine pG ?_|refine pQ ?_|refine pU ?_);push_cast [iO,tN,e1,ne_eq,not_true_eq_false])|(refine pif (fun h=>?_) (fun h=>?_)<;>first|exact pN h|push_cast [iO,tN,e1,ne_eq,not_true_eq_false]))
  (refine retK_of [] ?_;push_cast [iO,tN])
 ·by_cases h2:s.size≤32
  ·have h2':(s.size:Int)≤32:=by omega
   have hh:=rin_pure s refSet (by omega)
   obtain ⟨c,hc⟩:∃ c,inT s refSet=c:=⟨_,rfl⟩
   rw [hc] at hh ⊢
   unfold refSet at hh
   obtain ⟨d1,hd1⟩:∃ d1,(s=⟨#[46]⟩)=d1:=⟨_,rfl⟩
   obtain ⟨d2,hd2⟩:∃ d2,(s=⟨#[46,46]⟩)=d2:=⟨_,rfl⟩
   by_cases e3:s=⟨#[46]⟩
   ·have e4:=eq_true e3
    cases c
    all_goals push_cast [iO,tN]
    all_goals repeat' (first|(refine plc [] (hh) ?_ ?_;push_cast [iO,tN,h1,h2',e4,ne_eq,not_false_eq_true,not_true_eq_false];rintro r os ⟨rfl,rfl⟩;push_cast [iO,tN,h1,h2',e4,ne_eq,not_false_eq_true,not_true_eq_false])|((first|refine pG ?_|refine pQ ?_|refine pU ?_);push_cast [iO,tN,h1,h2',e4,ne_eq,not_false_eq_true,not_true_eq_false])|(refine pif (fun h=>?_) (fun h=>?_)<;>first|exact pN h|push_cast [iO,tN,h1,h2',e4,ne_eq,not_false_eq_true,not_true_eq_false]))
    all_goals (refine retK_of [] ?_;push_cast [iO,tN])
    all_goals simp [e3]
   ·by_cases e5:s=⟨#[46,46]⟩
    ·have e6:=eq_true e5
     cases c
     all_goals push_cast [iO,tN]
     all_goals repeat' (first|(refine plc [] (hh) ?_ ?_;push_cast [iO,tN,h1,h2',e3,e6,ne_eq,not_false_eq_true,not_true_eq_false];rintro r os ⟨rfl,rfl⟩;push_cast [iO,tN,h1,h2',e3,e6,ne_eq,not_false_eq_true,not_true_eq_false])|((first|refine pG ?_|refine pQ ?_|refine pU ?_);push_cast [iO,tN,h1,h2',e3,e6,ne_eq,not_false_eq_true,not_true_eq_false])|(refine pif (fun h=>?_) (fun h=>?_)<;>first|exact pN h|push_cast [iO,tN,h1,h2',e3,e6,ne_eq,not_false_eq_true,not_true_eq_false]))
     all_goals (refine retK_of [] ?_;push_cast [iO,tN])
     all_goals simp [e5]
    ·cases c
     all_goals push_cast [iO,tN]
     all_goals repeat' (first|(refine plc [] (hh) ?_ ?_;push_cast [iO,tN,h1,h2',e3,e5,ne_eq,not_false_eq_true,not_true_eq_false];rintro r os ⟨rfl,rfl⟩;push_cast [iO,tN,h1,h2',e3,e5,ne_eq,not_false_eq_true,not_true_eq_false])|((first|refine pG ?_|refine pQ ?_|refine pU ?_);push_cast [iO,tN,h1,h2',e3,e5,ne_eq,not_false_eq_true,not_true_eq_false])|(refine pif (fun h=>?_) (fun h=>?_)<;>first|exact pN h|push_cast [iO,tN,h1,h2',e3,e5,ne_eq,not_false_eq_true,not_true_eq_false]))
     all_goals (refine retK_of [] ?_;push_cast [iO,tN])
     all_goals simp [h1,h2,e3,e5]
  ·have h2':¬ (s.size:Int)≤32:=by omega
   push_cast [iO,tN]
   repeat' (first|((first|refine pG ?_|refine pQ ?_|refine pU ?_);push_cast [iO,tN,h1,h2',ne_eq,not_false_eq_true])|(refine pif (fun h=>?_) (fun h=>?_)<;>first|exact pN h|push_cast [iO,tN,h1,h2',ne_eq,not_false_eq_true]))
   (refine retK_of [] ?_;push_cast [iO,tN])
   simp [h2]
set_option maxRecDepth 20000
end Go.Proofs.YthhfpcbpiphfiaaGreatDoor
