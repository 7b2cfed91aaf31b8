/- What the program computes, and the plain laws of it, part 20. -/
import Derived.Test.YtgijigkfmbiifaaGreatDoorR19
namespace Go.Proofs.YtgijigkfmbiifaaGreatDoor
attribute [local irreducible] PL QL PWPr PCalls Weak RetK Kontr PA
open Go.RowKit
open IntWalk renaming iteOmega → iO, toNatUp → tN
set_option linter.unusedVariables false
set_option linter.unusedSimpArgs false
set_option maxRecDepth 20000
abbrev boolE (b:Bool):E:=.v (.bool b)
theorem all_repl (m n:Nat) (x:Value):(List.replicate m (E.v x)).all (keyOk n)=true:=List.all_eq_true.2 fun e he=>by rw [List.eq_of_mem_replicate he];rfl
theorem plusL_nil (cs:List Bool):plusL cs []=cs:=rfl
theorem seeEs_repl (v:Bool) (os:List Ob) (ks:List Nat) (m:Nat) (x:Value):seeEs v os ks (List.replicate m (E.v x))=some (List.replicate m (E.v x)):=by
 have:=seeEs_mapv v os ks (fun _:Unit=>x) (List.replicate m ())
 simpa only [List.map_replicate] using this
attribute [push_cast] seeEs_repl all_repl plusL_nil List.drop_replicate Nat.sub_self List.replicate_zero List.append_nil
theorem drop_bools (cs:List Bool) (i:Nat) (hi:i < cs.length):(cs.map boolE).drop i = .v (.bool (cs.getD i false)) :: (cs.map boolE).drop (i+1):=by
 have h:i < (cs.map boolE).length:=by rw [List.length_map];exact hi
 rw [List.drop_eq_getElem_cons h,List.getElem_map,List.getD_eq_getElem?_getD,List.getElem?_eq_getElem hi];rfl
theorem plusL_take {cs:List Bool} {t:List UInt8} {k:Nat} (hk:k < t.length):plusL cs (t.take (k+1))=(plusL cs (t.take k)).set (t.getD k 0).toNat true:=by
 rw [List.take_succ_eq_append_getElem hk,plusL_snoc,List.getD_eq_getElem?_getD,List.getElem?_eq_getElem hk];rfl
set_option maxRecDepth 20000 in
set_option maxHeartbeats 1000000 in
theorem plus_pure (cs:List Bool) (t:ByteArray) (hc:cs.length=256) (ht:t.size≤1000000) :
  PCalls Tryz.prog 91 [.agg (cs.map boolE),.c (.v (.string t))] [] fun r os=>r = .agg ((plusL cs t.data.toList).map boolE)∧os=[]:=by
 refine pcalls_of Tryz.func91 rfl (by simp [Tryz.ntmps91]) ?_
 rw [Tryz.ntmps91,Tryz.results91]
 push_cast [iO,tN]
 have cB:CutB 9 []:=trivial
 repeat' (first|((first|refine pC ?_|refine pQC ?_|refine pU ?_);push_cast [iO,tN])|(refine pif (fun h=>?_) (fun h=>?_)<;>first|exact pN h|push_cast [iO,tN]))
 (apply pwp_loop3 (α:=Nat) 9 [] (fun k=>[(8,.c (.v (.int .i64 k)))]) (fun k=>[(0,.box 137 ((plusL cs (t.data.toList.take k)).map boolE))]) (fun k=>k≤t.size) (fun k=>t.size - k) (0);(focus ((try push_cast [iO,tN]);rfl));(focus exact (by omega));(focus ((refine weak_fg ?_;try push_cast [iO,tN]))))
 intro k hk
 push_cast [iO,tN]
 have hlen:(plusL cs (t.data.toList.take k)).length=256:=by rw [plusL_len,hc]
 by_cases hlt:k < t.size
 ·have hs:=plusL_take (cs:=cs) (t:=t.data.toList) (k:=k) hlt
  have hb:=(t.data.toList.getD k 0).toNat_lt
  repeat' (first|((first|refine pC ?_|refine pQC ?_|refine pU ?_);push_cast [iO,tN,hlen])|(refine pif (fun h=>?_) (fun h=>?_)<;>first|exact pN h|push_cast [iO,tN,hlen]))
  have hs2:(List.map boolE (plusL cs (t.data.toList.take k))).set (t.data.toList.getD k 0).toNat (.v (.bool true))=(plusL cs (t.data.toList.take (k+1))).map boolE:=by rw [hs,List.map_set]
  exact ⟨k+1,by omega,by (refine weak_fg ?_;push_cast [iO,tN,hs2]),by omega⟩
 ·have hk2:k=t.size:=by omega
  subst hk2
  have he:t.data.toList.take t.size=t.data.toList:=List.take_of_length_le (Nat.le_refl _)
  rw [he] at hlen ⊢
  repeat' (first|((first|refine pC ?_|refine pQC ?_|refine pU ?_);push_cast [iO,tN,hlen])|(refine pif (fun h=>?_) (fun h=>?_)<;>first|exact pN h|push_cast [iO,tN,hlen]))
  (refine retK_of [] ?_;push_cast [iO,tN,hlen])
set_option maxRecDepth 20000 in
set_option maxHeartbeats 1000000 in
theorem has_pure (cs:List Bool) (t:ByteArray) (hc:cs.length=256) (ht:t.size≤1000000) :
  PCalls Tryz.prog 92 [.agg (cs.map boolE),.c (.v (.string t))] [] fun r os=>r = .c (.v (.bool (hasL cs t)))∧os=[]:=by
 refine pcalls_of Tryz.func92 rfl (by simp [Tryz.ntmps92]) ?_
 rw [Tryz.ntmps92,Tryz.results92]
 push_cast [iO,tN]
 have cB:CutB 9 []:=trivial
 repeat' (first|((first|refine pC ?_|refine pQC ?_|refine pU ?_);push_cast [iO,tN])|(refine pif (fun h=>?_) (fun h=>?_)<;>first|exact pN h|push_cast [iO,tN]))
 (apply pwp_loop3 (α:=Nat) 9 [] (fun k=>[(8,.c (.v (.int .i64 k)))]) (fun k=>[]) (fun k=>k≤t.size∧(t.data.toList.take k).all (fun b=>cs.getD b.toNat false)=true) (fun k=>t.size - k) (0);(focus ((try push_cast [iO,tN]);rfl));(focus exact ⟨by omega,rfl⟩);(focus ((refine weak_fg ?_;try push_cast [iO,tN]))))
 rintro k ⟨hk,ha⟩
 push_cast [iO,tN]
 by_cases hlt:k < t.size
 ·have hb:=(t.data.toList.getD k 0).toNat_lt
  have hst:(t.data.toList.take (k+1)).all (fun b=>cs.getD b.toNat false)=cs.getD (t.data.toList.getD k 0).toNat false:=by
   have hk2:k < t.data.toList.length:=hlt
   rw [List.take_succ_eq_append_getElem hk2,List.all_append,ha,List.getD_eq_getElem?_getD,List.getD_eq_getElem?_getD (l:=t.data.toList),List.getElem?_eq_getElem hk2];simp
  have hd:=drop_bools cs (t.data.toList.getD k 0).toNat (by omega)
  cases hv:cs.getD (t.data.toList.getD k 0).toNat false
  ·rw [hv] at hd
   repeat' (first|((first|refine pC ?_|refine pQC ?_|refine pU ?_);push_cast [iO,tN,hc,hd])|(refine pif (fun h=>?_) (fun h=>?_)<;>first|exact pN h|push_cast [iO,tN,hc,hd]))
   (refine retK_of [] ?_;push_cast [iO,tN])
   rw [hasL,List.all_eq_false.2]
   refine ⟨t.data.toList.getD k 0,?_,by rw [hv];decide⟩
   have hk2:k < t.data.toList.length:=hlt
   rw [List.getD_eq_getElem?_getD,List.getElem?_eq_getElem hk2]
   exact List.getElem_mem _
  ·rw [hv] at hd
   repeat' (first|((first|refine pC ?_|refine pQC ?_|refine pU ?_);push_cast [iO,tN,hc,hd])|(refine pif (fun h=>?_) (fun h=>?_)<;>first|exact pN h|push_cast [iO,tN,hc,hd]))
   exact ⟨k+1,⟨by omega,by rw [hst,hv]⟩,by (refine weak_fg ?_;push_cast [iO,tN]),by omega⟩
 ·have hk2:k=t.size:=by omega
  subst hk2
  have he:t.data.toList.take t.size=t.data.toList:=List.take_of_length_le (Nat.le_refl _)
  rw [he] at ha
  repeat' (first|((first|refine pC ?_|refine pQC ?_|refine pU ?_);push_cast [iO,tN])|(refine pif (fun h=>?_) (fun h=>?_)<;>first|exact pN h|push_cast [iO,tN]))
  (refine retK_of [] ?_;push_cast [iO,tN])
  rw [hasL,ha]
theorem none_rep:noneL.map boolE=List.replicate 256 (E.v (.bool false)):=List.map_replicate
set_option maxRecDepth 20000 in
set_option maxHeartbeats 1000000 in
theorem common_pure:PCalls Tryz.prog 90 [] [] fun r os=>r = .agg (commonL.map boolE)∧os=[]:=by
 have h1:=plus_pure noneL ⟨#[65,66,67,68,69,70,71,72,73,74,75,76,77,78,79,80,81,82,83,84,85,86,87,88,89,90]⟩ noneL_len (by decide)
 have h2:=plus_pure (plusL noneL upperT) ⟨#[97,98,99,100,101,102,103,104,105,106,107,108,109,110,111,112,113,114,115,116,117,118,119,120,121,122]⟩ (by rw [plusL_len,noneL_len]) (by decide)
 have h3:=plus_pure (plusL (plusL noneL upperT) lowerT) ⟨#[48,49,50,51,52,53,54,55,56,57]⟩ (by rw [plusL_len,plusL_len,noneL_len]) (by decide)
 have h4:=plus_pure (plusL (plusL (plusL noneL upperT) lowerT) digitT) ⟨#[95,46,58,43,45]⟩ (by rw [plusL_len,plusL_len,plusL_len,noneL_len]) (by decide)
 have hl:=lower_pure
 rw [none_rep] at h1
 simp only [List.toList_toArray] at h1 h2 h3 h4
 change PCalls _ _ _ _ fun r os=>r = .agg ((plusL noneL upperT).map boolE)∧os=[] at h1
 change PCalls _ _ _ _ fun r os=>r = .agg ((plusL (plusL noneL upperT) lowerT).map boolE)∧os=[] at h2
 change PCalls _ _ _ _ fun r os=>r = .agg ((plusL (plusL (plusL noneL upperT) lowerT) digitT).map boolE)∧os=[] at h3
 change PCalls _ _ _ _ fun r os=>r = .agg (commonL.map boolE)∧os=[] at h4
 change PCalls Tryz.prog 122 [.c (.v (.string (⟨#[65,66,67,68,69,70,71,72,73,74,75,76,77,78,79,80,81,82,83,84,85,86,87,88,89,90]⟩)))] [] fun r os=>r = .c (.v (.string (⟨#[97,98,99,100,101,102,103,104,105,106,107,108,109,110,111,112,113,114,115,116,117,118,119,120,121,122]⟩)))∧os=[] at hl
 have hcl:=commonL_len
 generalize plusL noneL upperT=s1 at h1 h2 h3 h4
 generalize plusL s1 lowerT=s2 at h2 h3 h4
 generalize plusL s2 digitT=s3 at h3 h4
 refine pcalls_of Tryz.func90 rfl (by simp [Tryz.ntmps90]) ?_
 rw [Tryz.ntmps90,Tryz.results90]
 push_cast [iO,tN]
 have cB:CutB 1 []:=trivial
 repeat' (first |  (refine plc [] (h1) ?_ ?_;push_cast [iO,tN];rintro r os ⟨rfl,rfl⟩;push_cast [iO,tN])|(refine plc [] (hl) ?_ ?_;push_cast [iO,tN];rintro r os ⟨rfl,rfl⟩;push_cast [iO,tN])|(refine plc [] (h2) ?_ ?_;push_cast [iO,tN];rintro r os ⟨rfl,rfl⟩;push_cast [iO,tN])|(refine plc [] (h3) ?_ ?_;push_cast [iO,tN];rintro r os ⟨rfl,rfl⟩;push_cast [iO,tN])|(refine plc [] (h4) ?_ ?_;push_cast [iO,tN];rintro r os ⟨rfl,rfl⟩;push_cast [iO,tN])  | ((first|refine pC ?_|refine pQC ?_|refine pU ?_);push_cast [iO,tN])|(refine pif (fun h=>?_) (fun h=>?_)<;>first|exact pN h|push_cast [iO,tN]))
 (refine retK_of [] ?_;push_cast [iO,tN,hcl])
theorem dots_pure (s:ByteArray):PCalls Tryz.prog 89 [.c (.v (.string s))] [] fun r os=>r = .c (.v (.bool (dotsS s)))∧os=[]:=by
 refine pcalls_of Tryz.func89 rfl (by simp [Tryz.ntmps89]) ?_
 rw [Tryz.ntmps89,Tryz.results89]
 unfold dotsS
 by_cases h1:s=⟨#[46]⟩
 ·have e1:=eq_true h1
  push_cast [iO,tN]
  repeat' (first|((first|refine pG ?_|refine pQ ?_|refine pU ?_);push_cast [iO,tN,e1])|(refine pif (fun h=>?_) (fun h=>?_)<;>first|exact pN h|push_cast [iO,tN,e1]))
  (refine retK_of [] ?_;push_cast [iO,tN])
 ·by_cases h2:s=⟨#[46,46]⟩
  ·have e2:=eq_true h2
   push_cast [iO,tN]
   repeat' (first|((first|refine pG ?_|refine pQ ?_|refine pU ?_);push_cast [iO,tN,h1,e2])|(refine pif (fun h=>?_) (fun h=>?_)<;>first|exact pN h|push_cast [iO,tN,h1,e2]))
   (refine retK_of [] ?_;push_cast [iO,tN])
  ·push_cast [iO,tN]
   repeat' (first|((first|refine pG ?_|refine pQ ?_|refine pU ?_);push_cast [iO,tN,h1,h2])|(refine pif (fun h=>?_) (fun h=>?_)<;>first|exact pN h|push_cast [iO,tN,h1,h2]))
   (refine retK_of [] ?_;push_cast [iO,tN])
set_option maxRecDepth 20000 in
set_option maxHeartbeats 1000000 in
theorem valid_pure (s:ByteArray) (hs:s.size≤9223372036854775807):PCalls Tryz.prog 56 [.c (.v (.string s))] [] fun r os=>r = .c (.v (.bool (validS s)))∧os=[]:=by
 have hp:=plus_pure commonL ⟨#[33]⟩ commonL_len (by decide)
 simp only [List.toList_toArray] at hp
 have hd:=dots_pure s
 have hv:validS s=(((decide (s≠⟨#[]⟩) && decide (s.size≤32)) && !dotsS s) && hasL (plusL commonL [33]) s):=by rw [has_name,validS]
 have hl:(plusL commonL [33]).length=256:=by rw [plusL_len,commonL_len]
 rw [hv]
 generalize plusL commonL [33]=cs at hp hl ⊢
 refine pcalls_of Tryz.func56 rfl (by simp [Tryz.ntmps56]) ?_
 rw [Tryz.ntmps56,Tryz.results56]
 by_cases h1:s=⟨#[]⟩
 ·have e1:=eq_true h1
  push_cast [iO,tN]
  repeat' (first|((first|refine pG ?_|refine pQ ?_|refine pU ?_);push_cast [iO,tN,e1,ne_eq,not_true_eq_false])|(refine pif (fun h=>?_) (fun h=>?_)<;>first|exact pN h|push_cast [iO,tN,e1,ne_eq,not_true_eq_false]))
  (refine retK_of [] ?_;push_cast [iO,tN])
 ·by_cases h2:s.size≤32
  ·have h2':(s.size:Int)≤32:=by omega
   obtain ⟨b,hb⟩:∃ b,dotsS s=b:=⟨_,rfl⟩
   rw [hb] at hd ⊢
   have hh:=has_pure cs s hl (by omega)
   obtain ⟨c,hc⟩:∃ c,hasL cs s=c:=⟨_,rfl⟩
   rw [hc] at hh ⊢
   cases b
   all_goals push_cast [iO,tN]
   all_goals repeat' (first|(refine plc [] (hd) ?_ ?_;push_cast [iO,tN,h1,h2',ne_eq,not_false_eq_true];rintro r os ⟨rfl,rfl⟩;push_cast [iO,tN,h1,h2',ne_eq,not_false_eq_true])|(refine plc [] (common_pure) ?_ ?_;push_cast [iO,tN,h1,h2',ne_eq,not_false_eq_true];rintro r os ⟨rfl,rfl⟩;push_cast [iO,tN,h1,h2',ne_eq,not_false_eq_true])|(refine plc [] (hp) ?_ ?_;push_cast [iO,tN,h1,h2',ne_eq,not_false_eq_true];rintro r os ⟨rfl,rfl⟩;push_cast [iO,tN,h1,h2',ne_eq,not_false_eq_true])|(refine plc [] (hh) ?_ ?_;push_cast [iO,tN,h1,h2',ne_eq,not_false_eq_true];rintro r os ⟨rfl,rfl⟩;push_cast [iO,tN,h1,h2',ne_eq,not_false_eq_true])|((first|refine pG ?_|refine pQ ?_|refine pU ?_);push_cast [iO,tN,h1,h2',ne_eq,not_false_eq_true])|(refine pif (fun h=>?_) (fun h=>?_)<;>first|exact pN h|push_cast [iO,tN,h1,h2',ne_eq,not_false_eq_true]))
   all_goals (refine retK_of [] ?_;push_cast [iO,tN])
   all_goals simp [h1,h2]
  ·have h2':¬ (s.size:Int)≤32:=by omega
   push_cast [iO,tN]
   repeat' (first|((first|refine pG ?_|refine pQ ?_|refine pU ?_);push_cast [iO,tN,h1,h2',ne_eq,not_false_eq_true])|(refine pif (fun h=>?_) (fun h=>?_)<;>first|exact pN h|push_cast [iO,tN,h1,h2',ne_eq,not_false_eq_true]))
   (refine retK_of [] ?_;push_cast [iO,tN])
   simp [h2]
set_option maxRecDepth 20000
theorem noneS_rep:noneS.map boolE=List.replicate 127 (E.v (.bool false)):=List.map_replicate
set_option maxRecDepth 20000 in
set_option maxHeartbeats 1000000 in
theorem every_pure:PCalls Tryz.prog 150 [] [] fun r os=>r = .agg (everyL.map boolE)∧os=[]:=by
 refine pcalls_of Tryz.func150 rfl (by simp [Tryz.ntmps150]) ?_
 rw [Tryz.ntmps150,Tryz.results150]
 push_cast [-List.reduceReplicate,iO,tN]
 have cB:CutB 3 []:=trivial
 repeat' (first|((first|refine pC ?_|refine pQC ?_|refine pU ?_);push_cast [-List.reduceReplicate,iO,tN])|(refine pif (fun h=>?_) (fun h=>?_)<;>first|exact pN h|push_cast [-List.reduceReplicate,iO,tN]))
 (apply pwp_loop3 (α:=Nat) 3 [] (fun k=>[(2,.c (.v (.int .i64 (32+k))))]) (fun k=>[(1,.box 197 ((fillN noneS 32 k).map boolE))]) (fun k=>k≤95) (fun k=>95 - k) (0);(focus ((try push_cast [-List.reduceReplicate,iO,tN]);rfl));(focus exact (by omega));(focus ((refine weak_fg ?_;try push_cast [-List.reduceReplicate,iO,tN]);(try (exact leEs_refl _)))))
 intro k hk
 push_cast [-List.reduceReplicate,iO,tN]
 have hlen:(fillN noneS 32 k).length=127:=by rw [fillN_len];rfl
 by_cases hlt:k < 95
 ·repeat' (first|((first|refine pC ?_|refine pQC ?_|refine pU ?_);push_cast [-List.reduceReplicate,iO,tN,hlen])|(refine pif (fun h=>?_) (fun h=>?_)<;>first|exact pN h|push_cast [-List.reduceReplicate,iO,tN,hlen]))
  have hs2:(List.map boolE (fillN noneS 32 k)).set (32+k) (.v (.bool true))=(fillN noneS 32 (k+1)).map boolE:=by rw [fillN,List.map_set]
  have hk3:(32+(k:Int)+1)=32+((k:Int)+1):=by omega
  exact ⟨k+1,by omega,by (refine weak_fg ?_;push_cast [-List.reduceReplicate,iO,tN,hs2,hk3]),by omega⟩
 ·have hk2:k=95:=by omega
  subst hk2
  have hst:List.take 127 ((fillN noneS 32 95).map boolE)=everyL.map boolE:=List.take_of_length_le (by rw [List.length_map,hlen];exact Nat.le_refl _)
  repeat' (first|((first|refine pC ?_|refine pQC ?_|refine pU ?_);push_cast [-List.reduceReplicate,iO,tN,hlen])|(refine pif (fun h=>?_) (fun h=>?_)<;>first|exact pN h|push_cast [-List.reduceReplicate,iO,tN,hlen]))
  (refine retK_of [] ?_;push_cast [-List.reduceReplicate,iO,tN,hlen,hst])
  exact leEs_refl _
theorem byt_sub {p:ByteArray} {i:Nat} (k:Nat) (h:i≤p.size):(p.extract i p.size).data.toList.getD k 0=byt p (i+k):=by
 have e:(p.extract i p.size).data.toList=p.data.toList.drop i:=by rw [ByteArray.data_extract,Array.toList_extract,List.extract_eq_take_drop];exact List.take_of_length_le (by rw [List.length_drop];exact Nat.le_refl _)
 unfold byt
 rw [e,List.getD_eq_getElem?_getD,List.getElem?_drop,← List.getD_eq_getElem?_getD]
abbrev rdE (p:ByteArray) (i:Nat):List E:=[.v (.string p),.v (.int .i64 i)]
set_option maxRecDepth 20000 in
set_option maxHeartbeats 1000000 in
theorem member_none (p:ByteArray) (i:Nat) (cs:List Bool) (h:i=p.size) (hp:p.size≤1000000) :
  PCalls Tryz.prog 179 [.c (.ptr 0 0),.c (.ptr 1 0)] [.box 166 (rdE p i),.box 197 (cs.map boolE)] fun r os=>r = .c (.v (.bool false))∧os=[.box 166 (rdE p i),.box 197 (cs.map boolE)]:=by
 have hx:p.extract i p.size=⟨#[]⟩:=by
  apply ByteArray.ext
  rw [ByteArray.data_extract]
  exact Array.extract_empty_of_stop_le_start (by omega)
 have hx2:((⟨#[]⟩:ByteArray)=⟨#[]⟩)=True:=eq_self _
 refine pcalls_of Tryz.func179 rfl (by simp [Tryz.ntmps179]) ?_
 rw [Tryz.ntmps179,Tryz.results179]
 push_cast [-List.reduceReplicate,iO,tN]
 have cB:CutB 9 []:=trivial
 repeat' (first|((first|refine pC ?_|refine pQC ?_|refine pU ?_);push_cast [-List.reduceReplicate,iO,tN,hx])|(refine pif (fun h=>?_) (fun h=>?_)<;>first|exact pN h|push_cast [-List.reduceReplicate,iO,tN,hx]))
 (refine retK_of [0,1] ?_;push_cast [-List.reduceReplicate,iO,tN])
set_option maxRecDepth 20000 in
set_option maxHeartbeats 2000000 in
theorem member_pure (p:ByteArray) (i:Nat) (cs:List Bool) (h:i < p.size) (hp:p.size≤1000000) (hcs:cs.length=127) (hb:∀ k,byt p k≤126) :
  PCalls Tryz.prog 179 [.c (.ptr 0 0),.c (.ptr 1 0)] [.box 166 (rdE p i),.box 197 (cs.map boolE)] fun r os=>r = .c (.v (.bool (decide (byt p i≤memTo p i))))∧os=[.box 166 (rdE p (memAt p i)),.box 197 ((memS p i cs).map boolE)]:=by
 have hsz:(p.extract i p.size).size=p.size - i:=by rw [ByteArray.size_extract];omega
 have hx:¬ p.extract i p.size=⟨#[]⟩:=fun e=>by rw [e] at hsz;have:(0:Nat)=p.size - i:=hsz;omega
 have b0:(p.extract i p.size).data.toList.getD 0 0=byt p i:=byt_sub (p:=p) (i:=i) 0 (by omega)
 have b1:=byt_sub (p:=p) (i:=i) 1 (by omega)
 have b2:=byt_sub (p:=p) (i:=i) 2 (by omega)
 have g0:0 < (p.extract i p.size).size:=by omega
 refine pcalls_of Tryz.func179 rfl (by simp [Tryz.ntmps179]) ?_
 rw [Tryz.ntmps179,Tryz.results179]
 push_cast [-List.reduceReplicate,iO,tN]
 have cB:CutB 9 []:=trivial
 by_cases h2:i+2 < p.size
 case neg =>
  have h2':¬ (2:Int) < ((p.extract i p.size).size:Int):=by omega
  have hq:rngQ p i=false:=by unfold rngQ;rw [decide_eq_false h2];rfl
  have hm:memAt p i=i+1:=by unfold memAt;rw [hq];rfl
  have ht:memTo p i=byt p i:=by unfold memTo;rw [hq];rfl
  obtain ⟨A,hA⟩:∃ A,(byt p i).toNat=A:=⟨_,rfl⟩
  obtain ⟨T,hT⟩:∃ T,(memTo p i).toNat=T:=⟨_,rfl⟩
  have hAT:A=T:=by rw [← hA,← hT,ht]
  have hT1:T≤126:=by rw [← hAT,← hA];exact UInt8.le_iff_toNat_le.1 (hb i)
  repeat' (first|((first|refine pC ?_|refine pQC ?_|refine pU ?_);push_cast [-List.reduceReplicate,iO,tN,hx,g0,b0,h2',hA])|(refine pif (fun h=>?_) (fun h=>?_)<;>first|exact pN h|push_cast [-List.reduceReplicate,iO,tN,hx,g0,b0,h2',hA]))
  have hS:memS p i cs=fillN cs A (T+1 - A):=by unfold memS;rw [hA,hT]
  (apply pwp_loop3 (α:=Nat) 9 [] (fun k=>[(8,.c (.v (.int .u8 ((A+k:Nat):Int))))]) (fun k=>[(1,.box 197 ((fillN cs A k).map boolE))]) (fun k=>k≤T+1 - A) (fun k=>(T+1 - A) - k) (0);(focus ((try push_cast [-List.reduceReplicate,iO,tN]);rfl));(focus exact (by omega));(focus ((refine weak_fg ?_;try push_cast [-List.reduceReplicate,iO,tN]);(try (exact ⟨(Int.add_zero _).symm,leEs_refl _⟩)))))
  intro k hk
  push_cast [-List.reduceReplicate,iO,tN]
  have hlen:(fillN cs A k).length=127:=by rw [fillN_len,hcs]
  by_cases hlt:k < T+1 - A
  ·have hc:(A:Int)+(k:Int)≤(T:Int):=by omega
   repeat' (first|((first|refine pC ?_|refine pQC ?_|refine pU ?_);push_cast [-List.reduceReplicate,iO,tN,hlen,hc])|(refine pif (fun h=>?_) (fun h=>?_)<;>first|exact pN h|push_cast [-List.reduceReplicate,iO,tN,hlen,hc]))
   have hs2:(List.map boolE (fillN cs A k)).set (A+k) (.v (.bool true))=(fillN cs A (k+1)).map boolE:=by rw [fillN,List.map_set]
   have hk3:((A:Int)+(k:Int)+1)=(A:Int)+((k:Int)+1):=by omega
   exact ⟨k+1,by omega,by (refine weak_fg ?_;push_cast [-List.reduceReplicate,iO,tN,hs2,hk3]),by omega⟩
  ·have hk2:k=T+1 - A:=by omega
   have hc:¬ (A:Int)+(k:Int)≤(T:Int):=by omega
   repeat' (first|((first|refine pC ?_|refine pQC ?_|refine pU ?_);push_cast [-List.reduceReplicate,iO,tN,hlen,hc])|(refine pif (fun h=>?_) (fun h=>?_)<;>first|exact pN h|push_cast [-List.reduceReplicate,iO,tN,hlen,hc]))
   subst hk2
   (refine retK_of [0,1] ?_;push_cast [-List.reduceReplicate,iO,tN])
   refine ⟨decide_eq_decide.2 ?_,by rw [hm];push_cast;try rfl,by rw [hS];exact leEs_refl _⟩
   rw [UInt8.le_iff_toNat_le,hA,hT];omega
 have h2':(2:Int) < ((p.extract i p.size).size:Int):=by omega
 have g1:1 < (p.extract i p.size).size:=by omega
 have g2:2 < (p.extract i p.size).size:=by omega
 by_cases h3:byt p (i+1)=45
 case neg =>
  have h3':¬ (byt p (i+1)).toNat=45:=fun e=>h3 (UInt8.toNat_inj.1 e)
  have hq:rngQ p i=false:=by unfold rngQ;rw [beq_eq_false_iff_ne.2 h3];simp
  have hm:memAt p i=i+1:=by unfold memAt;rw [hq];rfl
  have ht:memTo p i=byt p i:=by unfold memTo;rw [hq];rfl
  obtain ⟨A,hA⟩:∃ A,(byt p i).toNat=A:=⟨_,rfl⟩
  obtain ⟨T,hT⟩:∃ T,(memTo p i).toNat=T:=⟨_,rfl⟩
  have hAT:A=T:=by rw [← hA,← hT,ht]
  have hT1:T≤126:=by rw [← hAT,← hA];exact UInt8.le_iff_toNat_le.1 (hb i)
  repeat' (first|((first|refine pC ?_|refine pQC ?_|refine pU ?_);push_cast [-List.reduceReplicate,iO,tN,hx,g0,b0,g1,b1,h2',hA,h3',h3])|(refine pif (fun h=>?_) (fun h=>?_)<;>first|exact pN h|push_cast [-List.reduceReplicate,iO,tN,hx,g0,b0,g1,b1,h2',hA,h3',h3]))
  have hS:memS p i cs=fillN cs A (T+1 - A):=by unfold memS;rw [hA,hT]
  (apply pwp_loop3 (α:=Nat) 9 [] (fun k=>[(8,.c (.v (.int .u8 ((A+k:Nat):Int))))]) (fun k=>[(1,.box 197 ((fillN cs A k).map boolE))]) (fun k=>k≤T+1 - A) (fun k=>(T+1 - A) - k) (0);(focus ((try push_cast [-List.reduceReplicate,iO,tN]);rfl));(focus exact (by omega));(focus ((refine weak_fg ?_;try push_cast [-List.reduceReplicate,iO,tN]);(try (exact ⟨(Int.add_zero _).symm,leEs_refl _⟩)))))
  intro k hk
  push_cast [-List.reduceReplicate,iO,tN]
  have hlen:(fillN cs A k).length=127:=by rw [fillN_len,hcs]
  by_cases hlt:k < T+1 - A
  ·have hc:(A:Int)+(k:Int)≤(T:Int):=by omega
   repeat' (first|((first|refine pC ?_|refine pQC ?_|refine pU ?_);push_cast [-List.reduceReplicate,iO,tN,hlen,hc])|(refine pif (fun h=>?_) (fun h=>?_)<;>first|exact pN h|push_cast [-List.reduceReplicate,iO,tN,hlen,hc]))
   have hs2:(List.map boolE (fillN cs A k)).set (A+k) (.v (.bool true))=(fillN cs A (k+1)).map boolE:=by rw [fillN,List.map_set]
   have hk3:((A:Int)+(k:Int)+1)=(A:Int)+((k:Int)+1):=by omega
   exact ⟨k+1,by omega,by (refine weak_fg ?_;push_cast [-List.reduceReplicate,iO,tN,hs2,hk3]),by omega⟩
  ·have hk2:k=T+1 - A:=by omega
   have hc:¬ (A:Int)+(k:Int)≤(T:Int):=by omega
   repeat' (first|((first|refine pC ?_|refine pQC ?_|refine pU ?_);push_cast [-List.reduceReplicate,iO,tN,hlen,hc])|(refine pif (fun h=>?_) (fun h=>?_)<;>first|exact pN h|push_cast [-List.reduceReplicate,iO,tN,hlen,hc]))
   subst hk2
   (refine retK_of [0,1] ?_;push_cast [-List.reduceReplicate,iO,tN])
   refine ⟨decide_eq_decide.2 ?_,by rw [hm];push_cast;try rfl,by rw [hS];exact leEs_refl _⟩
   rw [UInt8.le_iff_toNat_le,hA,hT];omega
 by_cases h4:byt p (i+2)=93
 case pos =>
  have hq:rngQ p i=false:=by unfold rngQ;rw [h4];simp
  have hm:memAt p i=i+1:=by unfold memAt;rw [hq];rfl
  have ht:memTo p i=byt p i:=by unfold memTo;rw [hq];rfl
  obtain ⟨A,hA⟩:∃ A,(byt p i).toNat=A:=⟨_,rfl⟩
  obtain ⟨T,hT⟩:∃ T,(memTo p i).toNat=T:=⟨_,rfl⟩
  have hAT:A=T:=by rw [← hA,← hT,ht]
  have hT1:T≤126:=by rw [← hAT,← hA];exact UInt8.le_iff_toNat_le.1 (hb i)
  repeat' (first|((first|refine pC ?_|refine pQC ?_|refine pU ?_);push_cast [-List.reduceReplicate,iO,tN,hx,g0,b0,g1,b1,g2,b2,h2',hA,h3,h4])|(refine pif (fun h=>?_) (fun h=>?_)<;>first|exact pN h|push_cast [-List.reduceReplicate,iO,tN,hx,g0,b0,g1,b1,g2,b2,h2',hA,h3,h4]))
  have hS:memS p i cs=fillN cs A (T+1 - A):=by unfold memS;rw [hA,hT]
  (apply pwp_loop3 (α:=Nat) 9 [] (fun k=>[(8,.c (.v (.int .u8 ((A+k:Nat):Int))))]) (fun k=>[(1,.box 197 ((fillN cs A k).map boolE))]) (fun k=>k≤T+1 - A) (fun k=>(T+1 - A) - k) (0);(focus ((try push_cast [-List.reduceReplicate,iO,tN]);rfl));(focus exact (by omega));(focus ((refine weak_fg ?_;try push_cast [-List.reduceReplicate,iO,tN]);(try (exact ⟨(Int.add_zero _).symm,leEs_refl _⟩)))))
  intro k hk
  push_cast [-List.reduceReplicate,iO,tN]
  have hlen:(fillN cs A k).length=127:=by rw [fillN_len,hcs]
  by_cases hlt:k < T+1 - A
  ·have hc:(A:Int)+(k:Int)≤(T:Int):=by omega
   repeat' (first|((first|refine pC ?_|refine pQC ?_|refine pU ?_);push_cast [-List.reduceReplicate,iO,tN,hlen,hc])|(refine pif (fun h=>?_) (fun h=>?_)<;>first|exact pN h|push_cast [-List.reduceReplicate,iO,tN,hlen,hc]))
   have hs2:(List.map boolE (fillN cs A k)).set (A+k) (.v (.bool true))=(fillN cs A (k+1)).map boolE:=by rw [fillN,List.map_set]
   have hk3:((A:Int)+(k:Int)+1)=(A:Int)+((k:Int)+1):=by omega
   exact ⟨k+1,by omega,by (refine weak_fg ?_;push_cast [-List.reduceReplicate,iO,tN,hs2,hk3]),by omega⟩
  ·have hk2:k=T+1 - A:=by omega
   have hc:¬ (A:Int)+(k:Int)≤(T:Int):=by omega
   repeat' (first|((first|refine pC ?_|refine pQC ?_|refine pU ?_);push_cast [-List.reduceReplicate,iO,tN,hlen,hc])|(refine pif (fun h=>?_) (fun h=>?_)<;>first|exact pN h|push_cast [-List.reduceReplicate,iO,tN,hlen,hc]))
   subst hk2
   (refine retK_of [0,1] ?_;push_cast [-List.reduceReplicate,iO,tN])
   refine ⟨decide_eq_decide.2 ?_,by rw [hm];push_cast;try rfl,by rw [hS];exact leEs_refl _⟩
   rw [UInt8.le_iff_toNat_le,hA,hT];omega
 have h4':¬ (byt p (i+2)).toNat=93:=fun e=>h4 (UInt8.toNat_inj.1 e)
 have hq:rngQ p i=true:=by unfold rngQ;rw [h3,decide_eq_true h2];simp [h4]
 have hm:memAt p i=i+3:=by unfold memAt;rw [hq];rfl
 have ht:memTo p i=byt p (i+2):=by unfold memTo;rw [hq];rfl
 obtain ⟨A,hA⟩:∃ A,(byt p i).toNat=A:=⟨_,rfl⟩
 obtain ⟨T,hT⟩:∃ T,(memTo p i).toNat=T:=⟨_,rfl⟩
 have hTT:(byt p (i+2)).toNat=T:=by rw [← hT,ht]
 have hT1:T≤126:=by rw [← hTT];exact UInt8.le_iff_toNat_le.1 (hb _)
 have hA1:A≤126:=by rw [← hA];exact UInt8.le_iff_toNat_le.1 (hb _)
 repeat' (first|((first|refine pC ?_|refine pQC ?_|refine pU ?_);push_cast [-List.reduceReplicate,iO,tN,hx,g0,b0,g1,b1,g2,b2,h2',hA,h3,h4,h4',hTT])|(refine pif (fun h=>?_) (fun h=>?_)<;>first|exact pN h|push_cast [-List.reduceReplicate,iO,tN,hx,g0,b0,g1,b1,g2,b2,h2',hA,h3,h4,h4',hTT]))
 have hS:memS p i cs=fillN cs A (T+1 - A):=by unfold memS;rw [hA,hT]
 (apply pwp_loop3 (α:=Nat) 9 [] (fun k=>[(8,.c (.v (.int .u8 ((A+k:Nat):Int))))]) (fun k=>[(1,.box 197 ((fillN cs A k).map boolE))]) (fun k=>k≤T+1 - A) (fun k=>(T+1 - A) - k) (0);(focus ((try push_cast [-List.reduceReplicate,iO,tN]);rfl));(focus exact (by omega));(focus ((refine weak_fg ?_;try push_cast [-List.reduceReplicate,iO,tN]);(try (exact ⟨(Int.add_zero _).symm,leEs_refl _⟩)))))
 intro k hk
 push_cast [-List.reduceReplicate,iO,tN]
 have hlen:(fillN cs A k).length=127:=by rw [fillN_len,hcs]
 by_cases hlt:k < T+1 - A
 ·have hc:(A:Int)+(k:Int)≤(T:Int):=by omega
  repeat' (first|((first|refine pC ?_|refine pQC ?_|refine pU ?_);push_cast [-List.reduceReplicate,iO,tN,hlen,hc])|(refine pif (fun h=>?_) (fun h=>?_)<;>first|exact pN h|push_cast [-List.reduceReplicate,iO,tN,hlen,hc]))
  have hs2:(List.map boolE (fillN cs A k)).set (A+k) (.v (.bool true))=(fillN cs A (k+1)).map boolE:=by rw [fillN,List.map_set]
  have hk3:((A:Int)+(k:Int)+1)=(A:Int)+((k:Int)+1):=by omega
  exact ⟨k+1,by omega,by (refine weak_fg ?_;push_cast [-List.reduceReplicate,iO,tN,hs2,hk3]),by omega⟩
 ·have hk2:k=T+1 - A:=by omega
  have hc:¬ (A:Int)+(k:Int)≤(T:Int):=by omega
  repeat' (first|((first|refine pC ?_|refine pQC ?_|refine pU ?_);push_cast [-List.reduceReplicate,iO,tN,hlen,hc])|(refine pif (fun h=>?_) (fun h=>?_)<;>first|exact pN h|push_cast [-List.reduceReplicate,iO,tN,hlen,hc]))
  subst hk2
  (refine retK_of [0,1] ?_;push_cast [-List.reduceReplicate,iO,tN])
  refine ⟨decide_eq_decide.2 ?_,by rw [hm];push_cast;try rfl,by rw [hS];exact leEs_refl _⟩
  rw [UInt8.le_iff_toNat_le,hA,hT];omega
set_option maxRecDepth 20000
set_option maxRecDepth 20000
set_option maxRecDepth 20000
end Go.Proofs.YtgijigkfmbiifaaGreatDoor
namespace Go.Proofs.YtgijigkfmbiifaaGreatDoor
open Go.RowKit
open IntWalk renaming iteOmega → iO, toNatUp → tN
set_option linter.unusedVariables false
set_option linter.unusedSimpArgs false
theorem text_byt {p:ByteArray} (h:p.data.toList.all textB=true) (k:Nat):byt p k≤126:=by
 unfold byt
 by_cases hk:k < p.data.toList.length
 ·rw [List.getD_eq_getElem?_getD,List.getElem?_eq_getElem hk]
  have:=List.all_eq_true.1 h _ (List.getElem_mem hk)
  unfold textB at this
  simp only [Bool.and_eq_true,decide_eq_true_eq] at this
  exact UInt8.le_iff_toNat_le.2 this.2
 ·rw [List.getD_eq_getElem?_getD,List.getElem?_eq_none (by omega)];decide
end Go.Proofs.YtgijigkfmbiifaaGreatDoor
namespace Go.Proofs.YtgijigkfmbiifaaGreatDoor
attribute [local irreducible] PL QL PWPr PCalls Weak RetK Kontr PA
open Go.RowKit
open IntWalk renaming iteOmega → iO, toNatUp → tN
theorem hasp_pure (s p:ByteArray):PCalls Tryz.prog 178 [.c (.v (.string s)),.c (.v (.string p))] [] fun r os=>r = .c (.v (.bool (Lib.hasPrefix s.data.toList p.data.toList)))∧os=[] :=
 pcalls_plain [.string s,.string p] _ rfl fun w _=>(strings_HasPrefix s p w).mono fun e w' ⟨he,hw⟩=>by rw [he,hw];exact ⟨rfl,Below.refl _ _⟩
end Go.Proofs.YtgijigkfmbiifaaGreatDoor
namespace Go.Proofs.YtgijigkfmbiifaaGreatDoor
open Go.RowKit
open IntWalk renaming iteOmega → iO, toNatUp → tN
set_option linter.unusedVariables false
set_option linter.unusedSimpArgs false
def nestE {α:Type} (sz:Nat) (f:α → List D) (asv:List (List α)) (x:E) (m:Nat):List E:=asv.map (fun a=>E.sl sz (a.map f))++x :: List.replicate m .any
section
variable {α:Type} {sz:Nat} {f:α → List D}
theorem nest_len (asv:List (List α)) (x:E) (m:Nat):(nestE sz f asv x m).length=asv.length+(m+1):=by simp [nestE]
theorem nest_get (asv:List (List α)) (x:E) (m:Nat):(nestE sz f asv x m)[asv.length]? = some x:=by simp [nestE]
theorem nest_set (asv:List (List α)) (x y:E) (m:Nat):(nestE sz f asv x m).set asv.length y=nestE sz f asv y m:=by simp [nestE]
theorem nest_drop (asv:List (List α)) (x:E) (m:Nat):(nestE sz f asv x m).drop asv.length=x :: List.replicate m .any:=by
 unfold nestE
 rw [List.drop_left' (by simp)]
theorem nest_put (asv:List (List α)) (x y:E) (m:Nat):(nestE sz f asv x m).take asv.length++y :: (nestE sz f asv x m).drop (asv.length+1)=nestE sz f asv y m:=by
 unfold nestE
 rw [List.take_left' (by simp),← List.drop_drop,List.drop_left' (by simp)]
 rfl
theorem nest_kill (asv:List (List α)) (x:E) (m k:Nat):(nestE sz f asv x m).map (E.kill k)=nestE sz f asv (x.kill k) m:=by
 simp [nestE,E.kill,Function.comp_def]
theorem nest_frz (asv:List (List α)) (x:E) (m k z:Nat) (rows:List (List D)):(nestE sz f asv x m).map (E.frz k z rows)=nestE sz f asv (x.frz k z rows) m:=by
 simp [nestE,E.frz,Function.comp_def]
theorem nest_app (asv:List (List α)) (cur:List α) (y:E) (m m' k:Nat):((nestE sz f asv (.sl sz (cur.map f)) m).take (asv.length+1)).map (E.kill k)++y :: List.replicate m' .any=nestE sz f (asv++[cur]) y m':=by
 have e:(nestE sz f asv (.sl sz (cur.map f)) m).take (asv.length+1)=asv.map (fun a=>E.sl sz (a.map f))++[.sl sz (cur.map f)]:=by
  unfold nestE
  rw [show asv.map (fun a=>E.sl sz (a.map f))++E.sl sz (cur.map f) :: List.replicate m .any=(asv.map (fun a=>E.sl sz (a.map f))++[.sl sz (cur.map f)])++List.replicate m .any by simp]
  exact List.take_left' (by simp)
 rw [e]
 simp [nestE,E.kill,Function.comp_def]
theorem toDs_sl (asv:List (List α)):toDs (asv.map fun a=>E.sl sz (a.map f))=some (asv.map fun a=>D.sl sz (a.map f)):=by
 induction asv with
 | nil=>rfl
 | cons a asv ih=>simp only [List.map_cons,toDs,toD,ih]
theorem nest_toDs (asv:List (List α)) (cur:List α) (m:Nat):toDs ((nestE sz f asv (.sl sz (cur.map f)) m).take (asv.length+1))=some ((asv++[cur]).map fun a=>D.sl sz (a.map f)):=by
 unfold nestE
 rw [show asv.map (fun a=>E.sl sz (a.map f))++E.sl sz (cur.map f) :: List.replicate m .any=((asv++[cur]).map fun a=>E.sl sz (a.map f))++List.replicate m .any by simp]
 rw [List.take_left' (by simp),toDs_sl]
theorem nest_one (x:E):[x]=nestE sz f [] x 0:=by simp [nestE]
theorem seeEs_app (v:Bool) (os:List Ob) (ks:List Nat):∀ (a b:List E),seeEs v os ks (a++b)=(seeEs v os ks a).bind fun a'=>(seeEs v os ks b).map fun b'=>a'++b'
 | [],b=>by simp [seeEs]
 | x :: a,b=>by
  simp only [List.cons_append,seeEs,seeEs_app v os ks a b]
  cases seeE v os ks x<;>cases seeEs v os ks a<;>cases seeEs v os ks b<;>rfl
theorem seeEs_sl (v:Bool) (os:List Ob) (ks:List Nat) (asv:List (List α)):seeEs v os ks (asv.map fun a=>E.sl sz (a.map f))=some (asv.map fun a=>E.sl sz (a.map f)):=by
 induction asv with
 | nil=>rfl
 | cons a asv ih=>simp only [List.map_cons,seeEs,seeE,ih]
theorem seeEs_any (v:Bool) (os:List Ob) (ks:List Nat):∀ m,seeEs v os ks (List.replicate m .any)=some (List.replicate m .any)
 | 0=>rfl
 | m+1=>by simp only [List.replicate_succ,seeEs,seeE,seeEs_any v os ks m]
theorem nest_see (v:Bool) (os:List Ob) (ks:List Nat) (asv:List (List α)) (x:E) (m:Nat):seeEs v os ks (nestE sz f asv x m)=(seeE v os ks x).map fun y=>nestE sz f asv y m:=by
 unfold nestE
 rw [seeEs_app,seeEs_sl]
 simp only [seeEs,seeEs_any,Option.bind_some]
 cases seeE v os ks x<;>rfl
theorem nest_ok (n:Nat) (asv:List (List α)) (x:E) (m:Nat):(nestE sz f asv x m).all (keyOk n)=keyOk n x:=by
 unfold nestE
 rw [List.all_append,List.all_cons]
 have h1:(asv.map fun a=>E.sl sz (a.map f)).all (keyOk n)=true:=by rw [List.all_eq_true];intro e he;obtain ⟨a,_,rfl⟩:=List.mem_map.1 he;rfl
 have h2:(List.replicate m E.any).all (keyOk n)=true:=by rw [List.all_eq_true];intro e he;rw [List.mem_replicate] at he;rw [he.2];rfl
 rw [h1,h2];simp
end
attribute [push_cast] Nat.add_zero nest_drop nest_len nest_get nest_set nest_put nest_kill nest_frz nest_see nest_ok nest_app
theorem two_put (c0 c1:E) (l:List E) (k:Nat) (x:E) (h:k < l.length):(c0 :: c1 :: l).take (2+k)++x :: (c0 :: c1 :: l).drop (2+k+1)=c0 :: c1 :: l.set k x:=by
 rw [show 2+k=k+2 by omega,show k+2+1=(k+1)+2 by omega]
 simp only [List.take_succ_cons,List.drop_succ_cons,List.cons_append]
 congr 2
 rw [List.set_eq_take_append_cons_drop,if_pos h]
end Go.Proofs.YtgijigkfmbiifaaGreatDoor
namespace Go.Proofs.YtgijigkfmbiifaaGreatDoor
attribute [local irreducible] PL QL PWPr PCalls Weak RetK Kontr PA
open Go.RowKit
open IntWalk renaming iteOmega → iO, toNatUp → tN
set_option linter.unusedVariables false
set_option linter.unusedSimpArgs false
set_option maxRecDepth 20000
end Go.Proofs.YtgijigkfmbiifaaGreatDoor
