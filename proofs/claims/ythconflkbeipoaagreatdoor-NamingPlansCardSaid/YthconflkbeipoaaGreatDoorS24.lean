/- What the program computes, and the plain laws of it, part 24. -/
import Derived.Test.YthconflkbeipoaaGreatDoorS20
namespace Go.Proofs.YthconflkbeipoaaGreatDoor
attribute [local irreducible] PL QL PWPr PCalls Weak RetK Kontr PA
open Go.RowKit
open IntWalk renaming iteOmega → iO, toNatUp → tN
set_option linter.unusedVariables false
set_option linter.unusedSimpArgs false
set_option maxRecDepth 20000
set_option maxHeartbeats 1000000 in
theorem text_pure (s:ByteArray) (hs:s.size≤9223372036854775807):PCalls Tryz.prog 135 [.c (.v (.string s))] [] fun r os=>r = .c (.v (.bool (textS s)))∧os=[]:=by
 refine pcalls_of Tryz.func135 rfl (by simp [Tryz.ntmps135]) ?_
 rw [Tryz.ntmps135,Tryz.results135]
 push_cast [iO,tN]
 have cB:CutB 7 []:=trivial
 repeat' (first|((first|refine pC ?_|refine pQC ?_|refine pU ?_);push_cast [iO,tN])|(refine pif (fun h=>?_) (fun h=>?_)<;>first|exact pN h|push_cast [iO,tN]))
 (apply pwp_loop3 (α:=Nat) 7 [] (fun k=>[(6,.c (.v (.int .i64 k)))]) (fun k=>[]) (fun k=>k≤s.size∧(s.data.toList.take k).all textB=true) (fun k=>s.size - k) (0);(focus ((try push_cast [iO,tN]);rfl));(focus exact ⟨by omega,rfl⟩);(focus ((refine weak_fg ?_;try push_cast [iO,tN]))))
 rintro k ⟨hk,ha⟩
 push_cast [iO,tN]
 by_cases hlt:k < s.size
 ·by_cases h1:((s.data.toList.getD k 0).toNat:Int) < 32
  ·have e:=all_not hlt (p:=textB) (by unfold textB;rw [decide_eq_false (by omega)];rfl)
   repeat' (first|((first|refine pC ?_|refine pQC ?_|refine pU ?_);push_cast [iO,tN,h1])|(refine pif (fun h=>?_) (fun h=>?_)<;>first|exact pN h|push_cast [iO,tN,h1]))
   (refine retK_of [] ?_;push_cast [iO,tN])
   rw [textS,e];rfl
  ·by_cases h2:(126:Int) < ((s.data.toList.getD k 0).toNat:Int)
   ·have e:=all_not hlt (p:=textB) (by unfold textB;rw [decide_eq_false (p:=(s.data.toList.getD k 0).toNat≤126) (by omega),Bool.and_false])
    repeat' (first|((first|refine pC ?_|refine pQC ?_|refine pU ?_);push_cast [iO,tN,h1,h2])|(refine pif (fun h=>?_) (fun h=>?_)<;>first|exact pN h|push_cast [iO,tN,h1,h2]))
    (refine retK_of [] ?_;push_cast [iO,tN])
    rw [textS,e];rfl
   ·have e:=all_next hlt ha (by unfold textB;rw [decide_eq_true (by omega),decide_eq_true (by omega)];rfl)
    repeat' (first|((first|refine pC ?_|refine pQC ?_|refine pU ?_);push_cast [iO,tN,h1,h2])|(refine pif (fun h=>?_) (fun h=>?_)<;>first|exact pN h|push_cast [iO,tN,h1,h2]))
    exact ⟨k+1,⟨by omega,e⟩,by (refine weak_fg ?_;push_cast [iO,tN]),by omega⟩
 ·have hk2:k=s.size:=by omega
  subst hk2
  have he:s.data.toList.take s.size=s.data.toList:=List.take_of_length_le (Nat.le_refl _)
  rw [he] at ha
  have hd:decide ((s.size:Int)≤256)=decide (s.size≤256):=decide_eq_decide.2 (by omega)
  repeat' (first|((first|refine pC ?_|refine pQC ?_|refine pU ?_);push_cast [iO,tN])|(refine pif (fun h=>?_) (fun h=>?_)<;>first|exact pN h|push_cast [iO,tN]))
  (refine retK_of [] ?_;push_cast [iO,tN])
  rw [textS,ha,Bool.true_and,← hd]
set_option maxRecDepth 20000
def PredS (P:Program) (g:FuncId) (ks:List Nat) (os:List Ob) (l:List ByteArray) (q:ByteArray → Bool):Prop:=bodyOk P g=true∧∀ x ∈ l,PCalls P g (.c (.v (.string x)) :: ks.map fun k=>.c (.ptr k 0)) os fun r os'=>r = .c (.v (.bool (q x)))∧os'=os
def idxS (q:ByteArray → Bool) (l:List ByteArray) (k:Int):Prop:=(k = -1∧∀ x ∈ l,q x=false)∨∃ i:Nat,k=i∧i < l.length∧q (l.getD i default)=true∧∀ x ∈ l.take i,q x=false
theorem allSomeS:∀ ks:List Nat,allSome (ks.map fun k=>some (PV.c (.ptr k 0))) (ks.map fun k=>PV.c (.ptr k 0))
 | []=>trivial
 | k :: ks=>⟨leP_refl _,allSomeS ks⟩
theorem indexFuncS_pure (l:List ByteArray) (hl:l.length≤1000000000) (g:FuncId) (ks:List Nat) (os:List Ob) (q:ByteArray → Bool) (hp:PredS Tryz.prog g ks os l q) :
  PCalls Tryz.prog 171 [.c (.sl 1 (l.map strD)),.c (.fn (.func g) [] ks)] os fun r os'=>∃ k,idxS q l k∧r = .c (.v (.int .i64 k))∧os'=os:=by
 refine pcalls_of_all Tryz.func171 rfl (by simp [Tryz.ntmps171]) ?_
 rw [Tryz.ntmps171,Tryz.results171]
 push_cast [iO,tN]
 repeat' (first|((first|refine pG ?_|refine pQ ?_|refine pU ?_);push_cast [iO,tN])|(refine pif (fun h=>?_) (fun h=>?_)<;>first|exact pN h|push_cast [iO,tN]))
 refine pwp_loop2 (α:=Nat) (fun k=>k≤l.length∧∀ x ∈ l.take k,q x=false) (fun k=>⟨[(8,.c (.v (.int .i64 k))),(7,.c (.v (.int .i64 l.length))),(6,.c (.sl 1 (l.map strD))),(0,.c (.sl 1 (l.map strD))),(1,.c (.fn (.func g) [] ks))],os⟩) (fun k=>l.length - k) 0 ⟨by omega,by simp⟩ (weak_slots (by push_cast [iO,tN]) rfl) ?_
 rintro k ⟨hk,hpre⟩
 by_cases hlt:k < l.length
 ·have hm:l.getD k default ∈ l:=by rw [getD_lt l hlt];exact List.getElem_mem _
  have hc:=hp.2 _ hm
  have hpre2:q (l.getD k default)=false → ∀ x ∈ l.take (k+1),q x=false:=fun h x hx=>by
   rw [List.take_succ_eq_append_getElem hlt] at hx
   rcases List.mem_append.1 hx with hx|hx
   ·exact hpre x hx
   ·simp at hx;subst hx;rw [← getD_lt l hlt];exact h
  cases hq:q (l.getD k default)
  all_goals rw [hq] at hc
  all_goals repeat' (first |  (refine pl_call_all rfl (by push_cast [iO,tN]) rfl hp.1 (by push_cast [iO,tN]) ?_ hc ?_;(focus (unfold callArgs;push_cast [iO,tN];exact allSomeS ks));rintro r os ⟨rfl,rfl⟩;refine pl_of_pops ?_;push_cast [iO,tN])  | ((first|refine pG ?_|refine pQ ?_|refine pU ?_);push_cast [iO,tN])|(refine pif (fun h=>?_) (fun h=>?_)<;>first|exact pN h|push_cast [iO,tN]))
  ·exact ⟨k+1,⟨by omega,hpre2 hq⟩,weak_slots (by push_cast [iO,tN]) rfl,by omega⟩
  ·exact ⟨_,rfl,by push_cast [iO,tN],k,.inr ⟨k,rfl,hlt,hq,hpre⟩,rfl,rfl⟩
 ·rw [List.take_of_length_le (by omega)] at hpre
  repeat' (first|((first|refine pG ?_|refine pQ ?_|refine pU ?_);push_cast [iO,tN])|(refine pif (fun h=>?_) (fun h=>?_)<;>first|exact pN h|push_cast [iO,tN]))
  exact ⟨_,rfl,by push_cast [iO,tN],-1,.inl ⟨rfl,hpre⟩,rfl,rfl⟩
theorem containsFuncS_pure (l:List ByteArray) (hl:l.length≤1000000000) (g:FuncId) (ks:List Nat) (os:List Ob) (q:ByteArray → Bool) (hp:PredS Tryz.prog g ks os l q) :
  PCalls Tryz.prog 146 [.c (.sl 1 (l.map strD)),.c (.fn (.func g) [] ks)] os fun r os'=>r = .c (.v (.bool (l.any q)))∧os'=os:=by
 refine pcalls_of_all Tryz.func146 rfl (by simp [Tryz.ntmps146]) ?_
 rw [Tryz.ntmps146,Tryz.results146]
 push_cast [iO,tN]
 repeat' (first |  (refine pl_call_all rfl (by push_cast [iO,tN]) rfl (by kernel_rfl) (by push_cast [iO,tN]) ?_ (indexFuncS_pure l hl g ks os q hp) ?_;(focus (unfold callArgs;push_cast [iO,tN]));rintro r os ⟨k,hk,rfl,rfl⟩;refine pl_of_pops ?_;push_cast [iO,tN])  | ((first|refine pG ?_|refine pQ ?_|refine pU ?_);push_cast [iO,tN])|(refine pif (fun h=>?_) (fun h=>?_)<;>first|exact pN h|push_cast [iO,tN]))
 refine ⟨_,rfl,by push_cast [iO,tN],?_,rfl⟩
 rcases hk with ⟨rfl,h⟩|⟨i,rfl,hi,hq,_⟩
 ·have:l.any q=false:=by rw [List.any_eq_false];intro x hx;simp [h x hx]
  rw [this];rfl
 ·have:l.any q=true:=List.any_eq_true.2 ⟨l.getD i default,by rw [getD_lt l hi];exact List.getElem_mem _,hq⟩
  rw [this];simp
end Go.Proofs.YthconflkbeipoaaGreatDoor
namespace Go.Proofs.YthconflkbeipoaaGreatDoor
open Go.RowKit
open IntWalk renaming iteOmega → iO, toNatUp → tN
set_option linter.unusedVariables false
set_option linter.unusedSimpArgs false
theorem lcontainsAny_two (c d:UInt8):∀ l:List UInt8,Lib.containsAny l [c,d]=(l.contains c || l.contains d)
 | []=>rfl
 | b :: l=>by
  have ih:=lcontainsAny_two c d l
  have hg:=Lib.indexAny_ge [c,d] l
  unfold Lib.containsAny at ih ⊢
  rw [Lib.indexAny]
  by_cases h1:c=b
  ·subst h1;simp
  ·by_cases h2:d=b
   ·subst h2;simp
   ·rw [if_neg (by simp [Ne.symm h1,Ne.symm h2])]
    have e1:(b :: l).contains c=l.contains c:=by rw [List.contains_cons];simp [h1]
    have e2:(b :: l).contains d=l.contains d:=by rw [List.contains_cons];simp [h2]
    rw [e1,e2,← ih]
    split
    ·rename_i h3;simp at h3;rw [h3]
    ·rename_i h3;simp at h3;exact decide_eq_decide.2 (by omega)
theorem containsAny_pure (s:ByteArray) (hs:s.size < 4294967281) (ha:∀ (j:Nat) b,s.data.toList[j]? = some b → b.toNat < 128):PCalls Tryz.prog 119 [.c (.v (.string s)),.c (.v (.string ⟨#[58,33]⟩))] [] fun r os=>r = .c (.v (.bool (s.data.toList.contains 58 || s.data.toList.contains 33)))∧os=[] :=
 pcalls_plain [.string s,.string ⟨#[58,33]⟩] _ rfl fun w _=>by
  refine (strings_ContainsAny_laid s ⟨#[58,33]⟩ w hs (by decide) ha (fun j b hb=>by
   have:∀ b ∈ ([58,33]:List UInt8),b.toNat < 128:=by decide
   exact this b (List.mem_of_getElem? hb))).mono fun e w' ⟨he,hw⟩=>?_
  rw [he]
  exact ⟨by rw [show (⟨#[58,33]⟩:ByteArray).data.toList=[58,33] from rfl,lcontainsAny_two],hw⟩
end Go.Proofs.YthconflkbeipoaaGreatDoor
namespace Go.Proofs.YthconflkbeipoaaGreatDoor
attribute [local irreducible] PL QL PWPr PCalls Weak RetK Kontr PA
open Go.RowKit
open IntWalk renaming iteOmega → iO, toNatUp → tN
set_option linter.unusedVariables false
set_option linter.unusedSimpArgs false
set_option maxRecDepth 20000
set_option maxHeartbeats 1000000 in
theorem iface_pure (s:ByteArray) (hs:s.size≤9223372036854775807):PCalls Tryz.prog 67 [.c (.v (.string s))] [] fun r os=>r = .c (.v (.bool (ifaceS s)))∧os=[]:=by
 have hv:=valid_pure s hs
 have hz:=valid_size (s:=s)
 have ha:=valid_ascii (s:=s)
 unfold ifaceS
 obtain ⟨b,hb⟩:∃ b,validS s=b:=⟨_,rfl⟩
 rw [hb] at hv hz ha ⊢
 refine pcalls_of Tryz.func67 rfl (by simp [Tryz.ntmps67]) ?_
 rw [Tryz.ntmps67,Tryz.results67]
 cases b
 ·push_cast [iO,tN]
  repeat' (first |  (refine plc [] (hv) ?_ ?_;push_cast [iO,tN];rintro r os ⟨rfl,rfl⟩;push_cast [iO,tN])  | ((first|refine pG ?_|refine pQ ?_|refine pU ?_);push_cast [iO,tN])|(refine pif (fun h=>?_) (fun h=>?_)<;>first|exact pN h|push_cast [iO,tN]))
  (refine retK_of [] ?_;push_cast [iO,tN])
  all_goals rfl
 ·by_cases h1:s.size≤15
  ·have h1':(s.size:Int)≤15:=by omega
   have hc:=containsAny_pure s (by omega) (ha rfl)
   push_cast [iO,tN]
   repeat' (first|(refine plc [] (hv) ?_ ?_;push_cast [iO,tN,h1'];rintro r os ⟨rfl,rfl⟩;push_cast [iO,tN,h1'])|(refine plc [] (hc) ?_ ?_;push_cast [iO,tN,h1'];rintro r os ⟨rfl,rfl⟩;push_cast [iO,tN,h1'])|((first|refine pG ?_|refine pQ ?_|refine pU ?_);push_cast [iO,tN,h1'])|(refine pif (fun h=>?_) (fun h=>?_)<;>first|exact pN h|push_cast [iO,tN,h1']))
   (refine retK_of [] ?_;push_cast [iO,tN])
   all_goals simp [h1]
  ·have h1':¬ (s.size:Int)≤15:=by omega
   push_cast [iO,tN]
   repeat' (first|(refine plc [] (hv) ?_ ?_;push_cast [iO,tN,h1'];rintro r os ⟨rfl,rfl⟩;push_cast [iO,tN,h1'])|((first|refine pG ?_|refine pQ ?_|refine pU ?_);push_cast [iO,tN,h1'])|(refine pif (fun h=>?_) (fun h=>?_)<;>first|exact pN h|push_cast [iO,tN,h1']))
   (refine retK_of [] ?_;push_cast [iO,tN])
   all_goals simp [h1]
set_option maxRecDepth 20000 in
set_option maxHeartbeats 1000000 in
theorem lparts_pure:PCalls Tryz.prog 139 [] [] fun r os=>r = .agg (linkL.map boolE)∧os=[]:=by
 have hp:=plus_pure commonL ⟨#[64,35,61,37]⟩ commonL_len (by decide)
 simp only [List.toList_toArray] at hp
 have hl:=linkL_len
 change PCalls _ _ _ _ fun r os=>r = .agg (linkL.map boolE)∧os=[] at hp
 generalize linkL=cs at hp hl ⊢
 refine pcalls_of Tryz.func139 rfl (by simp [Tryz.ntmps139]) ?_
 rw [Tryz.ntmps139,Tryz.results139]
 push_cast [iO,tN]
 repeat' (first |  (refine plc [] (common_pure) ?_ ?_;push_cast [iO,tN];rintro r os ⟨rfl,rfl⟩;push_cast [iO,tN])|(refine plc [] (hp) ?_ ?_;push_cast [iO,tN];rintro r os ⟨rfl,rfl⟩;push_cast [iO,tN])  | ((first|refine pG ?_|refine pQ ?_|refine pU ?_);push_cast [iO,tN])|(refine pif (fun h=>?_) (fun h=>?_)<;>first|exact pN h|push_cast [iO,tN]))
 (refine retK_of [] ?_;push_cast [iO,tN,hl])
set_option maxRecDepth 20000 in
set_option maxHeartbeats 1000000 in
theorem linkF_pure (cs:List Bool) (hcs:cs.length=256) (x:ByteArray) (hx:x.size≤1000000) :
  PCalls Tryz.prog 140 [.c (.v (.string x)),.c (.ptr 0 0)] [.box 167 (cs.map boolE)] fun r os=>r = .c (.v (.bool ((decide (x≠⟨#[]⟩) && !dotsS x) && hasL cs x)))∧os=[.box 167 (cs.map boolE)]:=by
 have hd:=dots_pure x
 have hh:=has_pure cs x hcs (by omega)
 obtain ⟨b,hb⟩:∃ b,dotsS x=b:=⟨_,rfl⟩
 obtain ⟨c,hc⟩:∃ c,hasL cs x=c:=⟨_,rfl⟩
 rw [hb] at hd ⊢
 rw [hc] at hh ⊢
 refine pcalls_of Tryz.func140 rfl (by simp [Tryz.ntmps140]) ?_
 rw [Tryz.ntmps140,Tryz.results140]
 by_cases h1:x=⟨#[]⟩
 ·have e1:=eq_true h1
  push_cast [iO,tN]
  repeat' (first|((first|refine pG ?_|refine pQ ?_|refine pU ?_);push_cast [iO,tN,e1,ne_eq,not_true_eq_false])|(refine pif (fun h=>?_) (fun h=>?_)<;>first|exact pN h|push_cast [iO,tN,e1,ne_eq,not_true_eq_false]))
  (refine retK_of [0] ?_;push_cast [iO,tN])
  all_goals simp [h1]
 ·cases b
  ·push_cast [iO,tN]
   repeat' (first|(refine plc [] (hd) ?_ ?_;push_cast [iO,tN,h1,ne_eq,not_false_eq_true,hcs];rintro r os ⟨rfl,rfl⟩;push_cast [iO,tN,h1,ne_eq,not_false_eq_true,hcs])|(refine plc [] (hh) ?_ ?_;push_cast [iO,tN,h1,ne_eq,not_false_eq_true,hcs];rintro r os ⟨rfl,rfl⟩;push_cast [iO,tN,h1,ne_eq,not_false_eq_true,hcs])|((first|refine pG ?_|refine pQ ?_|refine pU ?_);push_cast [iO,tN,h1,ne_eq,not_false_eq_true,hcs])|(refine pif (fun h=>?_) (fun h=>?_)<;>first|exact pN h|push_cast [iO,tN,h1,ne_eq,not_false_eq_true,hcs]))
   (refine retK_of [0] ?_;push_cast [iO,tN])
   all_goals simp [h1]
  ·push_cast [iO,tN]
   repeat' (first|(refine plc [] (hd) ?_ ?_;push_cast [iO,tN,h1,ne_eq,not_false_eq_true,hcs];rintro r os ⟨rfl,rfl⟩;push_cast [iO,tN,h1,ne_eq,not_false_eq_true,hcs])|((first|refine pG ?_|refine pQ ?_|refine pU ?_);push_cast [iO,tN,h1,ne_eq,not_false_eq_true,hcs])|(refine pif (fun h=>?_) (fun h=>?_)<;>first|exact pN h|push_cast [iO,tN,h1,ne_eq,not_false_eq_true,hcs]))
   (refine retK_of [0] ?_;push_cast [iO,tN])
   all_goals simp
set_option maxHeartbeats 1000000 in
theorem allL_pure (cs:List Bool) (hcs:cs.length=256) (x:ByteArray) (hx:x.size≤1000000) :
  PCalls Tryz.prog 147 [.c (.v (.string x)),.c (.ptr 1 0)] [.box 167 (cs.map boolE),.box 97 [.fn (.func 140) [] [0]]] fun r os=>r = .c (.v (.bool (!((decide (x≠⟨#[]⟩) && !dotsS x) && hasL cs x))))∧os=[.box 167 (cs.map boolE),.box 97 [.fn (.func 140) [] [0]]]:=by
 have hf:=linkF_pure cs hcs x hx
 obtain ⟨b,hb⟩:∃ b,((decide (x≠⟨#[]⟩) && !dotsS x) && hasL cs x)=b:=⟨_,rfl⟩
 rw [hb] at hf ⊢
 refine pcalls_of Tryz.func147 rfl (by simp [Tryz.ntmps147]) ?_
 rw [Tryz.ntmps147,Tryz.results147]
 push_cast [iO,tN]
 repeat' (first |  (refine plc [0] (hf) ?_ ?_;push_cast [iO,tN];rintro r os ⟨rfl,rfl⟩;push_cast [iO,tN])  | ((first|refine pG ?_|refine pQ ?_|refine pU ?_);push_cast [iO,tN])|(refine pif (fun h=>?_) (fun h=>?_)<;>first|exact pN h|push_cast [iO,tN]))
 (refine retK_of [0,1] ?_;push_cast [iO,tN])
set_option maxHeartbeats 1000000 in
theorem all2_pure (cs:List Bool) (hcs:cs.length=256) (l:List ByteArray) (hl:l.length≤1000000000) (hz:∀ x ∈ l,x.size≤1000000) :
  PCalls Tryz.prog 116 [.c (.sl 1 (l.map strD)),.c (.fn (.func 140) [] [0])] [.box 167 (cs.map boolE)] fun r os=>r = .c (.v (.bool (l.all fun x=>(decide (x≠⟨#[]⟩) && !dotsS x) && hasL cs x)))∧os=[.box 167 (cs.map boolE)]:=by
 have hc:=containsFuncS_pure l hl 147 [1] [.box 167 (cs.map boolE),.box 97 [.fn (.func 140) [] [0]]] (fun x=>!((decide (x≠⟨#[]⟩) && !dotsS x) && hasL cs x)) ⟨by kernel_rfl,fun x hx=>allL_pure cs hcs x (hz x hx)⟩
 have e:(!(l.any fun x=>!((decide (x≠⟨#[]⟩) && !dotsS x) && hasL cs x)))=l.all fun x=>(decide (x≠⟨#[]⟩) && !dotsS x) && hasL cs x:=by rw [List.all_eq_not_any_not]
 obtain ⟨b,hb⟩:∃ b,(l.any fun x=>!((decide (x≠⟨#[]⟩) && !dotsS x) && hasL cs x))=b:=⟨_,rfl⟩
 rw [hb] at hc e
 rw [← e]
 refine pcalls_of Tryz.func116 rfl (by simp [Tryz.ntmps116]) ?_
 rw [Tryz.ntmps116,Tryz.results116]
 push_cast [iO,tN]
 repeat' (first |  (refine plc [0,1] (hc) ?_ ?_;push_cast [iO,tN];rintro r os ⟨rfl,rfl⟩;push_cast [iO,tN])  | ((first|refine pG ?_|refine pQ ?_|refine pU ?_);push_cast [iO,tN])|(refine pif (fun h=>?_) (fun h=>?_)<;>first|exact pN h|push_cast [iO,tN]))
 (refine retK_of [0] ?_;push_cast [iO,tN])
set_option maxRecDepth 20000 in
set_option maxHeartbeats 1000000 in
theorem link_pure (s:ByteArray):PCalls Tryz.prog 109 [.c (.v (.string s))] [] fun r os=>r = .c (.v (.bool (linkS s)))∧os=[]:=by
 have hps:=parts_size (s:=s)
 have hpm:=fun x hx=>part_size (s:=s) (x:=x) hx
 have hlp:=lparts_pure
 have hlen:=linkL_len
 have e:linkS s=(decide (s.size≤256) && (parts s).all fun x=>(decide (x≠⟨#[]⟩) && !dotsS x) && hasL linkL x):=rfl
 rw [e]
 generalize linkL=cs at hlp hlen ⊢
 refine pcalls_of Tryz.func109 rfl (by simp [Tryz.ntmps109]) ?_
 rw [Tryz.ntmps109,Tryz.results109]
 by_cases h1:s.size≤256
 ·have h1':(s.size:Int)≤256:=by omega
  have hsp:=split_pure s (by omega)
  obtain ⟨l,hl⟩:∃ l,parts s=l:=⟨_,rfl⟩
  rw [hl] at hps hsp ⊢
  simp only [hl] at hpm
  have hal:=all2_pure cs hlen l (by omega) (fun x hx=>by have:=hpm x hx;omega)
  push_cast [iO,tN]
  repeat' (first|(refine plc [] (hlp) ?_ ?_;push_cast [iO,tN,h1',hlen];rintro r os ⟨rfl,rfl⟩;push_cast [iO,tN,h1',hlen])|(refine plc [] (hsp) ?_ ?_;push_cast [iO,tN,h1',hlen];rintro r os ⟨rfl,rfl⟩;push_cast [iO,tN,h1',hlen])|(refine pl_call2 true [0] rfl rfl (by kernel_rfl) (hal) ?_ ?_ ?_;push_cast [iO,tN,h1',hlen];(intro _ r os;rintro ⟨rfl,rfl⟩;push_cast [iO,tN,h1',hlen]);rintro r os ⟨rfl,rfl⟩;refine pl_of_pops ?_;push_cast [iO,tN,h1',hlen])|((first|refine pG ?_|refine pQ ?_|refine pU ?_);push_cast [iO,tN,h1',hlen])|(refine pif (fun h=>?_) (fun h=>?_)<;>first|exact pN h|push_cast [iO,tN,h1',hlen]))
  (refine retK_of [] ?_;push_cast [iO,tN])
  all_goals simp [h1]
 ·have h1':¬ (s.size:Int)≤256:=by omega
  push_cast [iO,tN]
  repeat' (first|(refine plc [] (hlp) ?_ ?_;push_cast [iO,tN,h1',hlen];rintro r os ⟨rfl,rfl⟩;push_cast [iO,tN,h1',hlen])|((first|refine pG ?_|refine pQ ?_|refine pU ?_);push_cast [iO,tN,h1',hlen])|(refine pif (fun h=>?_) (fun h=>?_)<;>first|exact pN h|push_cast [iO,tN,h1',hlen]))
  (refine retK_of [] ?_;push_cast [iO,tN])
  all_goals simp [h1]
set_option maxRecDepth 20000
def PredB (P:Program) (g:FuncId) (ks:List Nat) (os:List Ob) (l:List Atr) (q:Atr → Bool):Prop:=bodyOk P g=true∧∀ x ∈ l,PCalls P g (.agg (x.d.map D.e) :: ks.map fun k=>.c (.ptr k 0)) os fun r os'=>r = .c (.v (.bool (q x)))∧os'=os
def idxB (q:Atr → Bool) (l:List Atr) (k:Int):Prop:=(k = -1∧∀ x ∈ l,q x=false)∨∃ i:Nat,k=i∧i < l.length∧q (l.getD i default)=true∧∀ x ∈ l.take i,q x=false
theorem allSomeB:∀ ks:List Nat,allSome (ks.map fun k=>some (PV.c (.ptr k 0))) (ks.map fun k=>PV.c (.ptr k 0))
 | []=>trivial
 | k :: ks=>⟨leP_refl _,allSomeB ks⟩
theorem indexFuncB_pure (l:List Atr) (hl:l.length≤1000000000) (g:FuncId) (ks:List Nat) (os:List Ob) (q:Atr → Bool) (hp:PredB Tryz.prog g ks os l q) :
  PCalls Tryz.prog 80 [.c (.sl 2 (l.map Atr.d)),.c (.fn (.func g) [] ks)] os fun r os'=>∃ k,idxB q l k∧r = .c (.v (.int .i64 k))∧os'=os:=by
 refine pcalls_of_all Tryz.func80 rfl (by simp [Tryz.ntmps80]) ?_
 rw [Tryz.ntmps80,Tryz.results80]
 push_cast [iO,tN]
 repeat' (first|((first|refine pG ?_|refine pQ ?_|refine pU ?_);push_cast [iO,tN])|(refine pif (fun h=>?_) (fun h=>?_)<;>first|exact pN h|push_cast [iO,tN]))
 refine pwp_loop2 (α:=Nat) (fun k=>k≤l.length∧∀ x ∈ l.take k,q x=false) (fun k=>⟨[(8,.c (.v (.int .i64 k))),(7,.c (.v (.int .i64 l.length))),(6,.c (.sl 2 (l.map Atr.d))),(0,.c (.sl 2 (l.map Atr.d))),(1,.c (.fn (.func g) [] ks))],os⟩) (fun k=>l.length - k) 0 ⟨by omega,by simp⟩ (weak_slots (by push_cast [iO,tN]) rfl) ?_
 rintro k ⟨hk,hpre⟩
 by_cases hlt:k < l.length
 ·have hm:l.getD k default ∈ l:=by rw [getD_lt l hlt];exact List.getElem_mem _
  have hc:=hp.2 _ hm
  have hpre2:q (l.getD k default)=false → ∀ x ∈ l.take (k+1),q x=false:=fun h x hx=>by
   rw [List.take_succ_eq_append_getElem hlt] at hx
   rcases List.mem_append.1 hx with hx|hx
   ·exact hpre x hx
   ·simp at hx;subst hx;rw [← getD_lt l hlt];exact h
  cases hq:q (l.getD k default)
  all_goals rw [hq] at hc
  all_goals repeat' (first |  (refine pl_call_all rfl (by push_cast [iO,tN]) rfl hp.1 (by push_cast [iO,tN]) ?_ hc ?_;(focus (unfold callArgs;push_cast [iO,tN];exact allSomeB ks));rintro r os ⟨rfl,rfl⟩;refine pl_of_pops ?_;push_cast [iO,tN])  | ((first|refine pG ?_|refine pQ ?_|refine pU ?_);push_cast [iO,tN])|(refine pif (fun h=>?_) (fun h=>?_)<;>first|exact pN h|push_cast [iO,tN]))
  ·exact ⟨k+1,⟨by omega,hpre2 hq⟩,weak_slots (by push_cast [iO,tN]) rfl,by omega⟩
  ·exact ⟨_,rfl,by push_cast [iO,tN],k,.inr ⟨k,rfl,hlt,hq,hpre⟩,rfl,rfl⟩
 ·rw [List.take_of_length_le (by omega)] at hpre
  repeat' (first|((first|refine pG ?_|refine pQ ?_|refine pU ?_);push_cast [iO,tN])|(refine pif (fun h=>?_) (fun h=>?_)<;>first|exact pN h|push_cast [iO,tN]))
  exact ⟨_,rfl,by push_cast [iO,tN],-1,.inl ⟨rfl,hpre⟩,rfl,rfl⟩
theorem containsFuncB_pure (l:List Atr) (hl:l.length≤1000000000) (g:FuncId) (ks:List Nat) (os:List Ob) (q:Atr → Bool) (hp:PredB Tryz.prog g ks os l q) :
  PCalls Tryz.prog 78 [.c (.sl 2 (l.map Atr.d)),.c (.fn (.func g) [] ks)] os fun r os'=>r = .c (.v (.bool (l.any q)))∧os'=os:=by
 refine pcalls_of_all Tryz.func78 rfl (by simp [Tryz.ntmps78]) ?_
 rw [Tryz.ntmps78,Tryz.results78]
 push_cast [iO,tN]
 repeat' (first |  (refine pl_call_all rfl (by push_cast [iO,tN]) rfl (by kernel_rfl) (by push_cast [iO,tN]) ?_ (indexFuncB_pure l hl g ks os q hp) ?_;(focus (unfold callArgs;push_cast [iO,tN]));rintro r os ⟨k,hk,rfl,rfl⟩;refine pl_of_pops ?_;push_cast [iO,tN])  | ((first|refine pG ?_|refine pQ ?_|refine pU ?_);push_cast [iO,tN])|(refine pif (fun h=>?_) (fun h=>?_)<;>first|exact pN h|push_cast [iO,tN]))
 refine ⟨_,rfl,by push_cast [iO,tN],?_,rfl⟩
 rcases hk with ⟨rfl,h⟩|⟨i,rfl,hi,hq,_⟩
 ·have:l.any q=false:=by rw [List.any_eq_false];intro x hx;simp [h x hx]
  rw [this];rfl
 ·have:l.any q=true:=List.any_eq_true.2 ⟨l.getD i default,by rw [getD_lt l hi];exact List.getElem_mem _,hq⟩
  rw [this];simp
end Go.Proofs.YthconflkbeipoaaGreatDoor
namespace Go.Proofs.YthconflkbeipoaaGreatDoor
open Go.RowKit
open IntWalk renaming iteOmega → iO, toNatUp → tN
set_option linter.unusedVariables false
set_option linter.unusedSimpArgs false
theorem nodup_sub_back {α:Type} [DecidableEq α] {l m:List α} (hl:l.Nodup) (hs:∀ x ∈ l,x ∈ m) (hlen:m.length≤l.length):∀ x ∈ m,x ∈ l:=fun x hx=>Decidable.byContradiction fun hn=>by
 have h1:∀ y ∈ l,y ∈ m.erase x:=fun y hy=>(List.mem_erase_of_ne (show y≠x from fun e=>by subst e;exact hn hy)).2 (hs y hy)
 have h2:=nodup_sub_len hl h1
 rw [List.length_erase_of_mem hx] at h2
 have h3:=List.length_pos_of_mem hx
 omega
theorem wrongP_iff {names:List Atr} {x:Atr}:wrongP names x=true ↔ ∃ v,valOf names x.name=some v∧v≠x.value:=by
 unfold wrongP
 cases h:valOf names x.name with
 | none=>simp
 | some v=>simp
theorem goalP_some {names:List Atr} {x:Atr} {v:ByteArray} (h:valOf names x.name=some v):goalP names x=v:=by unfold goalP;rw [h];rfl
theorem nodup_set {l:List ByteArray} {u:ByteArray} (h:l.Nodup) (hu:u ∉ l) (i:Nat):(l.set i u).Nodup:=by
 rw [List.Nodup,List.pairwise_iff_getElem] at h ⊢
 intro a b ha hb hab
 rw [List.length_set] at ha hb
 rw [List.getElem_set,List.getElem_set]
 by_cases e1:i=a
 ·have e2:i≠b:=by omega
  rw [if_pos e1,if_neg e2]
  exact fun e=>hu (e ▸ List.getElem_mem _)
 ·rw [if_neg e1]
  by_cases e2:i=b
  ·rw [if_pos e2]
   exact fun e=>hu (e ▸ List.getElem_mem _)
  ·rw [if_neg e2]
   exact h a b ha hb hab
theorem keys_renP {now:List Atr} {i:Nat} (u:ByteArray) (hi:i < now.length):keys (renP now i u)=keys now:=by
 unfold keys renP
 rw [List.map_set,getD_lt now hi]
 refine List.ext_getElem (by simp) fun j h1 h2=>?_
 rw [List.getElem_set]
 split
 ·rename_i e;subst e;simp
 ·rfl
theorem vals_renP (now:List Atr) (i:Nat) (u:ByteArray):vals (renP now i u)=(vals now).set i u:=by
 unfold vals renP
 rw [List.map_set]
theorem len_renP (now:List Atr) (i:Nat) (u:ByteArray):(renP now i u).length=now.length:=by unfold renP;rw [List.length_set]
theorem planOk_ren {names now:List Atr} (h:PlanOk names now) {i:Nat} (hi:i < now.length) {u:ByteArray} (hw:wrongP names (now.getD i default)=true) (hu:u ∉ vals now):PlanOk names (renP now i u):=by
 refine ⟨h.nk,h.nv,?_,?_,h.ne,fun n hn=>?_,fun x hx hv=>?_⟩
 ·rw [keys_renP u hi];exact h.pk
 ·rw [vals_renP];exact nodup_set h.pv hu i
 ·rw [keys_renP u hi];exact h.there n hn
 ·rcases List.mem_or_eq_of_mem_set hx with hx|hx
  ·exact h.own x hx hv
  ·obtain ⟨v,h1,_⟩:=wrongP_iff.1 hw
   rw [hx] at hv
   simp only at hv
   rw [h1] at hv;cases hv
def wrs (names now:List Atr):Nat:=now.countP (wrongP names)
def badP (names:List Atr) (x:Atr):Bool:=wrongP names x && inM x.value (vals names)
def bads (names now:List Atr):Nat:=now.countP (badP names)
def muP (names now:List Atr):Nat:=wrs names now+bads names now
theorem bads_le (names now:List Atr):bads names now≤wrs names now:=by
 unfold bads wrs
 refine List.countP_mono_left fun x _ hx=>?_
 unfold badP at hx
 rw [Bool.and_eq_true] at hx
 exact hx.1
theorem same_of_key {l:List Atr} (hk:(keys l).Nodup) {x y:Atr} (hx:x ∈ l) (hy:y ∈ l) (e:x.name=y.name):x=y:=by
 have h1:=valOf_of hk hx
 have h2:=valOf_of hk hy
 rw [e,h2] at h1
 injection h1 with h1
 cases x;cases y
 simp only at e h1
 rw [e,h1]
theorem same_of_val {l:List Atr} (hv:(vals l).Nodup) {x y:Atr} (hx:x ∈ l) (hy:y ∈ l) (e:x.value=y.value):x=y:=by
 obtain ⟨i,hi,hia⟩:=List.getElem_of_mem hx
 obtain ⟨j,hj,hja⟩:=List.getElem_of_mem hy
 have:=key_inj (f:=Atr.value) hv hi hj (by rw [getD_lt l hi,getD_lt l hj,hia,hja,e])
 subst this
 rw [← hia,hja]
theorem goal_inj {names now:List Atr} (h:PlanOk names now) {x y:Atr} (hx:x ∈ now) (hy:y ∈ now) {v:ByteArray} (h1:valOf names x.name=some v) (h2:valOf names y.name=some v):x=y:=by
 have:=same_of_val h.nv (valOf_mem h1) (valOf_mem h2) rfl
 injection this with this _
 exact same_of_key h.pk hx hy this
theorem all_bad {names now:List Atr} (h:PlanOk names now) (hf:∀ x ∈ now,freeP names now x=false) {x:Atr} (hx:x ∈ now) (hw:wrongP names x=true):x.value ∈ vals names:=by
 have hG:((now.filter (wrongP names)).map (goalP names)).Nodup:=by
  have h1:now.Pairwise fun x y=>x.name≠y.name:=List.pairwise_map.1 h.pk
  rw [List.Nodup,List.pairwise_map]
  refine (h1.filter (wrongP names)).imp_of_mem fun {a b} ha hb hne e=>?_
  obtain ⟨ha1,ha2⟩:=List.mem_filter.1 ha
  obtain ⟨hb1,hb2⟩:=List.mem_filter.1 hb
  obtain ⟨v,h2,_⟩:=wrongP_iff.1 ha2
  obtain ⟨w,h3,_⟩:=wrongP_iff.1 hb2
  rw [goalP_some h2,goalP_some h3] at e
  subst e
  exact hne (by rw [goal_inj h ha1 hb1 h2 h3])
 have hsub:∀ g ∈ (now.filter (wrongP names)).map (goalP names),g ∈ (now.filter (wrongP names)).map Atr.value:=fun g hg=>by
  obtain ⟨a,ha,rfl⟩:=List.mem_map.1 hg
  obtain ⟨ha1,ha2⟩:=List.mem_filter.1 ha
  obtain ⟨v,h2,h2n⟩:=wrongP_iff.1 ha2
  have hfa:=hf a ha1
  unfold freeP at hfa
  rw [ha2,Bool.true_and,Bool.not_eq_false',inM_iff] at hfa
  rw [goalP_some h2] at hfa ⊢
  obtain ⟨b,hb,hbv⟩:=List.mem_map.1 hfa
  refine List.mem_map.2 ⟨b,List.mem_filter.2 ⟨hb,?_⟩,hbv⟩
  rw [wrongP_iff]
  cases h3:valOf names b.name with
  | none =>
   exfalso
   refine h.own b hb h3 ?_
   rw [hbv]
   exact List.mem_map.2 ⟨_,valOf_mem h2,rfl⟩
  | some w =>
   refine ⟨w,rfl,fun e=>?_⟩
   rw [e,hbv] at h3
   have:=goal_inj h ha1 hb h2 h3
   subst this
   exact h2n hbv.symm
 have hxv:x.value ∈ (now.filter (wrongP names)).map (goalP names):=nodup_sub_back hG hsub (by rw [List.length_map,List.length_map];exact Nat.le_refl _) _ (List.mem_map.2 ⟨x,List.mem_filter.2 ⟨hx,hw⟩,rfl⟩)
 obtain ⟨a,ha,hav⟩:=List.mem_map.1 hxv
 obtain ⟨v,h2,_⟩:=wrongP_iff.1 (List.mem_filter.1 ha).2
 rw [goalP_some h2] at hav
 rw [← hav]
 exact List.mem_map.2 ⟨_,valOf_mem h2,rfl⟩
theorem countP_renP {now:List Atr} {i:Nat} (hi:i < now.length) (u:ByteArray) (q:Atr → Bool):(renP now i u).countP q=now.countP q - (if q (now.getD i default) then 1 else 0)+(if q ⟨(now.getD i default).name,u⟩ then 1 else 0):=by
 unfold renP
 rw [List.countP_set hi,getD_lt now hi]
theorem countP_pos' {now:List Atr} {i:Nat} (hi:i < now.length) {q:Atr → Bool} (h:q (now.getD i default)=true):0 < now.countP q:=List.countP_pos_iff.2 ⟨_,by rw [getD_lt now hi];exact List.getElem_mem _,h⟩
theorem tempS_names (names now:List Atr):tempS names now ∉ vals names:=fun h=>by
 have:=temp_not (vals names++vals now)
 rw [inM_false] at this
 exact this (List.mem_append_left _ h)
theorem tempS_now (names now:List Atr):tempS names now ∉ vals now:=fun h=>by
 have:=temp_not (vals names++vals now)
 rw [inM_false] at this
 exact this (List.mem_append_right _ h)
structure NextI (names now:List Atr) (i:Nat) (u:ByteArray):Prop where
 lt:i < now.length
 wr:wrongP names (now.getD i default)=true
 no:u ∉ vals now
 ok:PlanOk names (renP now i u)
 mu:muP names (renP now i u) < muP names now
theorem nextP_spec {names now:List Atr} (h:PlanOk names now) {i:Nat} {u:ByteArray} (hn:nextP names now=some (i,u)):NextI names now i u:=by
 unfold nextP at hn
 cases h1:firstI now (freeP names now) with
 | some j =>
  rw [h1] at hn
  injection hn with hn
  injection hn with hn1 hn2
  subst hn1
  obtain ⟨g1,g2,_⟩:=firstI_some h1
  unfold freeP at g2
  rw [Bool.and_eq_true,Bool.not_eq_true',inM_false] at g2
  rw [← hn2]
  have hm:now.getD j default ∈ now:=by rw [getD_lt now g1];exact List.getElem_mem _
  obtain ⟨v,h2,h2n⟩:=wrongP_iff.1 g2.1
  refine ⟨g1,g2.1,g2.2,planOk_ren h g1 g2.1 g2.2,?_⟩
  have hnw:wrongP names ⟨(now.getD j default).name,goalP names (now.getD j default)⟩=false:=by
   cases hc:wrongP names ⟨(now.getD j default).name,goalP names (now.getD j default)⟩ with
   | false=>rfl
   | true =>
    obtain ⟨w,h3,h4⟩:=wrongP_iff.1 hc
    simp only at h3 h4
    rw [goalP_some h3] at h4
    exact absurd rfl h4
  have hw1:=countP_renP g1 (goalP names (now.getD j default)) (wrongP names)
  have hw2:=countP_renP g1 (goalP names (now.getD j default)) (badP names)
  rw [g2.1,hnw] at hw1
  have hb:badP names ⟨(now.getD j default).name,goalP names (now.getD j default)⟩=false:=by unfold badP;rw [hnw,Bool.false_and]
  rw [hb] at hw2
  have hp:=countP_pos' g1 g2.1
  unfold muP wrs bads
  rw [hw1,hw2]
  simp only [if_true,Bool.false_eq_true,if_false]
  omega
 | none =>
  rw [h1] at hn
  have hf:=firstI_none h1
  cases h2:firstI now (wrongP names) with
  | none=>rw [h2] at hn;cases hn
  | some j =>
   rw [h2] at hn
   injection hn with hn
   injection hn with hn1 hn2
   subst hn1
   obtain ⟨g1,g2,_⟩:=firstI_some h2
   rw [← hn2]
   have hm:now.getD j default ∈ now:=by rw [getD_lt now g1];exact List.getElem_mem _
   refine ⟨g1,g2,tempS_now names now,planOk_ren h g1 g2 (tempS_now names now),?_⟩
   have hbad:badP names (now.getD j default)=true:=by
    unfold badP
    rw [g2,Bool.true_and,inM_iff]
    refine all_bad h (fun x hx=>?_) hm g2
    obtain ⟨a,ha,rfl⟩:=List.getElem_of_mem hx
    have:=hf a ha
    rw [getD_lt now ha] at this
    exact this
   have hnb:badP names ⟨(now.getD j default).name,tempS names now⟩=false:=by
    unfold badP
    rw [inM_false.2 (tempS_names names now),Bool.and_false]
   have hw1:=countP_renP g1 (tempS names now) (wrongP names)
   have hw2:=countP_renP g1 (tempS names now) (badP names)
   rw [hbad,hnb] at hw2
   rw [g2] at hw1
   have hp:=countP_pos' g1 hbad
   have hp2:=countP_pos' g1 g2
   unfold muP wrs bads
   rw [hw1,hw2]
   simp only [if_true,Bool.false_eq_true,if_false]
   split<;>omega
theorem nextP_none {names now:List Atr} (h:nextP names now=none):∀ x ∈ now,wrongP names x=false:=fun x hx=>by
 unfold nextP at h
 cases h1:firstI now (freeP names now) with
 | some j=>rw [h1] at h;cases h
 | none =>
  rw [h1] at h
  cases h2:firstI now (wrongP names) with
  | some j=>rw [h2] at h;cases h
  | none =>
   obtain ⟨a,ha,rfl⟩:=List.getElem_of_mem hx
   have:=firstI_none h2 a ha
   rw [getD_lt now ha] at this
   exact this
theorem nextP_of_zero {names now:List Atr} (h:PlanOk names now) (h0:muP names now=0):nextP names now=none:=by
 cases hn:nextP names now with
 | none=>rfl
 | some p=>have:=(nextP_spec h (i:=p.1) (u:=p.2) hn).mu;omega
theorem planGo_zero {names now:List Atr} (h:nextP names now=none) (k:Nat):planGo names k now=([],now):=by
 cases k with
 | zero=>rfl
 | succ k=>rw [planGo,h]
theorem planGo_succ {names now:List Atr} {i:Nat} {u:ByteArray} (h:nextP names now=some (i,u)) (k:Nat):planGo names (k+1) now=(⟨(now.getD i default).name,(now.getD i default).value,u⟩ :: (planGo names k (renP now i u)).1,(planGo names k (renP now i u)).2):=by rw [planGo,h]
theorem planGo_fuel {names:List Atr}:∀ (k k':Nat) (now:List Atr),PlanOk names now → muP names now≤k → muP names now≤k' → planGo names k now=planGo names k' now
 | 0,k',now,h,h1,h2=>by
  have hn:=nextP_of_zero h (by omega)
  rw [planGo_zero hn,planGo_zero hn]
 | k+1,k',now,h,h1,h2=>by
  cases hn:nextP names now with
  | none=>rw [planGo_zero hn,planGo_zero hn]
  | some p =>
   obtain ⟨i,u⟩:=p
   have hs:=nextP_spec h hn
   have hmu:=hs.mu
   cases k' with
   | zero=>omega
   | succ k'=>rw [planGo_succ hn,planGo_succ hn,planGo_fuel k k' _ hs.ok (by omega) (by omega)]
def planOf (names now:List Atr):List Ren:=(planGo names (muP names now) now).1
def endOf (names now:List Atr):List Atr:=(planGo names (muP names now) now).2
theorem planOf_none {names now:List Atr} (h:nextP names now=none):planOf names now=[]∧endOf names now=now:=by unfold planOf endOf;rw [planGo_zero h];exact ⟨rfl,rfl⟩
theorem planOf_some {names now:List Atr} (h:PlanOk names now) {i:Nat} {u:ByteArray} (hn:nextP names now=some (i,u)):planOf names now=⟨(now.getD i default).name,(now.getD i default).value,u⟩ :: planOf names (renP now i u)∧endOf names now=endOf names (renP now i u):=by
 have hs:=nextP_spec h hn
 have hmu:=hs.mu
 obtain ⟨k,hk⟩:∃ k,muP names now=k+1:=⟨muP names now - 1,by omega⟩
 unfold planOf endOf
 rw [hk,planGo_succ hn,planGo_fuel k (muP names (renP now i u)) _ hs.ok (by omega) (Nat.le_refl _)]
 exact ⟨rfl,rfl⟩
theorem planOf_spec {names:List Atr}:∀ (k:Nat) (now:List Atr),PlanOk names now → muP names now≤k → (planOf names now).length≤muP names now∧(∀ x ∈ endOf names now,wrongP names x=false)∧PlanOk names (endOf names now)∧keys (endOf names now)=keys now
 | 0,now,h,h1=>by
  have hn:=nextP_of_zero h (by omega)
  rw [(planOf_none hn).1,(planOf_none hn).2]
  exact ⟨Nat.zero_le _,nextP_none hn,h,rfl⟩
 | k+1,now,h,h1=>by
  cases hn:nextP names now with
  | none =>
   rw [(planOf_none hn).1,(planOf_none hn).2]
   exact ⟨Nat.zero_le _,nextP_none hn,h,rfl⟩
  | some p =>
   obtain ⟨i,u⟩:=p
   have hs:=nextP_spec h hn
   have hmu:=hs.mu
   obtain ⟨g1,g2,g3,g4⟩:=planOf_spec k (renP now i u) hs.ok (by omega)
   rw [(planOf_some h hn).1,(planOf_some h hn).2]
   refine ⟨by rw [List.length_cons];omega,g2,g3,by rw [g4,keys_renP u hs.lt]⟩
theorem wrs_le {names now:List Atr} (h:PlanOk names now):wrs names now≤names.length:=by
 have hG:((now.filter (wrongP names)).map Atr.name).Nodup:=by
  have h1:now.Pairwise fun x y=>x.name≠y.name:=List.pairwise_map.1 h.pk
  rw [List.Nodup,List.pairwise_map]
  exact h1.filter (wrongP names)
 have h2:=nodup_sub_len hG (m:=keys names) fun n hn=>by
  obtain ⟨a,ha,rfl⟩:=List.mem_map.1 hn
  obtain ⟨v,h2,_⟩:=wrongP_iff.1 (List.mem_filter.1 ha).2
  exact List.mem_map.2 ⟨_,valOf_mem h2,rfl⟩
 unfold wrs
 rw [List.countP_eq_length_filter]
 rw [List.length_map] at h2
 unfold keys at h2
 rw [List.length_map] at h2
 exact h2
theorem planOf_len {names now:List Atr} (h:PlanOk names now):(planOf names now).length≤2 * names.length:=by
 have h1:=(planOf_spec _ now h (Nat.le_refl _)).1
 have h2:=wrs_le h
 have h3:=bads_le names now
 unfold muP at h1
 omega
end Go.Proofs.YthconflkbeipoaaGreatDoor
