/- What the program computes, and the plain laws of it, part 34. -/
import Derived.Test.YtmjffgienmcabaaGreatDoorS33
namespace Go.Proofs.YtmjffgienmcabaaGreatDoor
attribute [local irreducible] PL QL PWPr PCalls Weak RetK Kontr PA
open Go.RowKit
open IntWalk renaming iteOmega → iO, toNatUp → tN
set_option linter.unusedVariables false
set_option linter.unusedSimpArgs false
set_option maxRecDepth 20000
set_option maxHeartbeats 1000000 in
theorem rprint_pure (s:ByteArray) (hs:s.size≤9223372036854775807):PCalls Tryz.prog 93 [.c (.v (.string s))] [] fun r os=>r = .c (.v (.bool (s.data.toList.all textB)))∧os=[]:=by
 refine pcalls_of Tryz.func93 rfl (by simp [Tryz.ntmps93]) ?_
 rw [Tryz.ntmps93,Tryz.results93]
 push_cast [iO,tN]
 have cB:CutB 4 []:=trivial
 repeat' (first|((first|refine pC ?_|refine pQC ?_|refine pU ?_);push_cast [iO,tN])|(refine pif (fun h=>?_) (fun h=>?_)<;>first|exact pN h|push_cast [iO,tN]))
 (apply pwp_loop3 (α:=Nat) 4 [] (fun k=>[(3,.c (.v (.int .i64 k)))]) (fun k=>[]) (fun k=>k≤s.size∧(s.data.toList.take k).all textB=true) (fun k=>s.size - k) (0);(focus ((try push_cast [iO,tN]);rfl));(focus exact ⟨by omega,rfl⟩);(focus ((refine weak_fg ?_;try push_cast [iO,tN]))))
 rintro k ⟨hk,ha⟩
 push_cast [iO,tN]
 by_cases hlt:k < s.size
 ·by_cases h1:((s.data.toList.getD k 0).toNat:Int) < 32
  ·have e:=all_not hlt (p:=textB) (by unfold textB;rw [decide_eq_false (by omega)];rfl)
   repeat' (first|((first|refine pC ?_|refine pQC ?_|refine pU ?_);push_cast [iO,tN,h1])|(refine pif (fun h=>?_) (fun h=>?_)<;>first|exact pN h|push_cast [iO,tN,h1]))
   (refine retK_of [] ?_;push_cast [iO,tN])
   rw [e]
  ·by_cases h2:(126:Int) < ((s.data.toList.getD k 0).toNat:Int)
   ·have e:=all_not hlt (p:=textB) (by unfold textB;rw [decide_eq_false (p:=(s.data.toList.getD k 0).toNat≤126) (by omega),Bool.and_false])
    repeat' (first|((first|refine pC ?_|refine pQC ?_|refine pU ?_);push_cast [iO,tN,h1,h2])|(refine pif (fun h=>?_) (fun h=>?_)<;>first|exact pN h|push_cast [iO,tN,h1,h2]))
    (refine retK_of [] ?_;push_cast [iO,tN])
    rw [e]
   ·have e:=all_next hlt ha (by unfold textB;rw [decide_eq_true (by omega),decide_eq_true (by omega)];rfl)
    repeat' (first|((first|refine pC ?_|refine pQC ?_|refine pU ?_);push_cast [iO,tN,h1,h2])|(refine pif (fun h=>?_) (fun h=>?_)<;>first|exact pN h|push_cast [iO,tN,h1,h2]))
    exact ⟨k+1,⟨by omega,e⟩,by (refine weak_fg ?_;push_cast [iO,tN]),by omega⟩
 ·have hk2:k=s.size:=by omega
  subst hk2
  have he:s.data.toList.take s.size=s.data.toList:=List.take_of_length_le (Nat.le_refl _)
  rw [he] at ha
  repeat' (first|((first|refine pC ?_|refine pQC ?_|refine pU ?_);push_cast [iO,tN])|(refine pif (fun h=>?_) (fun h=>?_)<;>first|exact pN h|push_cast [iO,tN]))
  (refine retK_of [] ?_;push_cast [iO,tN])
  rw [ha]
theorem rtext_pure (s:ByteArray) (hs:s.size≤9223372036854775807):PCalls Tryz.prog 72 [.c (.v (.string s))] [] fun r os=>r = .c (.v (.bool (textS s)))∧os=[]:=by
 have hp:=rprint_pure s hs
 unfold textS
 obtain ⟨b,hb⟩:∃ b,s.data.toList.all textB=b:=⟨_,rfl⟩
 rw [hb] at hp ⊢
 have hd:decide ((s.size:Int)≤256)=decide (s.size≤256):=decide_eq_decide.2 (by omega)
 rw [← hd]
 refine pcalls_of Tryz.func72 rfl (by simp [Tryz.ntmps72]) ?_
 rw [Tryz.ntmps72,Tryz.results72]
 cases b
 all_goals push_cast [iO,tN]
 all_goals repeat' (first |  (refine plc [] (hp) ?_ ?_;push_cast [iO,tN];rintro r os ⟨rfl,rfl⟩;push_cast [iO,tN])  | ((first|refine pG ?_|refine pQ ?_|refine pU ?_);push_cast [iO,tN])|(refine pif (fun h=>?_) (fun h=>?_)<;>first|exact pN h|push_cast [iO,tN]))
 all_goals (refine retK_of [] ?_;push_cast [iO,tN])
set_option maxHeartbeats 1000000 in
theorem riface_pure (s:ByteArray) (hs:s.size≤9223372036854775807):PCalls Tryz.prog 73 [.c (.v (.string s))] [] fun r os=>r = .c (.v (.bool (ifaceS s)))∧os=[]:=by
 have hv:=rvalid_pure s hs
 have hz:=valid_size (s:=s)
 unfold ifaceS
 obtain ⟨b,hb⟩:∃ b,validS s=b:=⟨_,rfl⟩
 rw [hb] at hv hz ⊢
 refine pcalls_of Tryz.func73 rfl (by simp [Tryz.ntmps73]) ?_
 rw [Tryz.ntmps73,Tryz.results73]
 cases b
 ·push_cast [iO,tN]
  repeat' (first |  (refine plc [] (hv) ?_ ?_;push_cast [iO,tN];rintro r os ⟨rfl,rfl⟩;push_cast [iO,tN])  | ((first|refine pG ?_|refine pQ ?_|refine pU ?_);push_cast [iO,tN])|(refine pif (fun h=>?_) (fun h=>?_)<;>first|exact pN h|push_cast [iO,tN]))
  (refine retK_of [] ?_;push_cast [iO,tN])
  all_goals rfl
 ·by_cases h1:s.size≤15
  ·have h1':(s.size:Int)≤15:=by omega
   have hc:=contains_pure s 58 (by omega)
   have hd:=contains_pure s 33 (by omega)
   obtain ⟨c,hc'⟩:∃ c,s.data.toList.contains 58=c:=⟨_,rfl⟩
   rw [hc'] at hc ⊢
   cases c
   ·push_cast [iO,tN]
    repeat' (first|(refine plc [] (hv) ?_ ?_;push_cast [iO,tN,h1'];rintro r os ⟨rfl,rfl⟩;push_cast [iO,tN,h1'])|(refine plc [] (hc) ?_ ?_;push_cast [iO,tN,h1'];rintro r os ⟨rfl,rfl⟩;push_cast [iO,tN,h1'])|(refine plc [] (hd) ?_ ?_;push_cast [iO,tN,h1'];rintro r os ⟨rfl,rfl⟩;push_cast [iO,tN,h1'])|((first|refine pG ?_|refine pQ ?_|refine pU ?_);push_cast [iO,tN,h1'])|(refine pif (fun h=>?_) (fun h=>?_)<;>first|exact pN h|push_cast [iO,tN,h1']))
    (refine retK_of [] ?_;push_cast [iO,tN])
    all_goals simp [h1]
   ·push_cast [iO,tN]
    repeat' (first|(refine plc [] (hv) ?_ ?_;push_cast [iO,tN,h1'];rintro r os ⟨rfl,rfl⟩;push_cast [iO,tN,h1'])|(refine plc [] (hc) ?_ ?_;push_cast [iO,tN,h1'];rintro r os ⟨rfl,rfl⟩;push_cast [iO,tN,h1'])|((first|refine pG ?_|refine pQ ?_|refine pU ?_);push_cast [iO,tN,h1'])|(refine pif (fun h=>?_) (fun h=>?_)<;>first|exact pN h|push_cast [iO,tN,h1']))
    (refine retK_of [] ?_;push_cast [iO,tN])
    all_goals simp [h1]
  ·have h1':¬ (s.size:Int)≤15:=by omega
   push_cast [iO,tN]
   repeat' (first|(refine plc [] (hv) ?_ ?_;push_cast [iO,tN,h1'];rintro r os ⟨rfl,rfl⟩;push_cast [iO,tN,h1'])|((first|refine pG ?_|refine pQ ?_|refine pU ?_);push_cast [iO,tN,h1'])|(refine pif (fun h=>?_) (fun h=>?_)<;>first|exact pN h|push_cast [iO,tN,h1']))
   (refine retK_of [] ?_;push_cast [iO,tN])
   all_goals simp [h1]
def refLetters:ByteArray:=⟨#[65,66,67,68,69,70,71,72,73,74,75,76,77,78,79,80,81,82,83,84,85,86,87,88,89,90,97,98,99,100,101,102,103,104,105,106,107,108,109,110,111,112,113,114,115,116,117,118,119,120,121,122,48,49,50,51,52,53,54,55,56,57,95,46,58,43,45,64,35,61,37]⟩
theorem linkL_get (b:UInt8):linkL.getD b.toNat false=refLetters.data.toList.contains b:=by
 unfold linkL commonL
 rw [plusL_get _ _ _ (by rw [plusL_len,plusL_len,plusL_len,plusL_len,noneL_len]),plusL_get _ _ _ (by rw [plusL_len,plusL_len,plusL_len,noneL_len]),plusL_get _ _ _ (by rw [plusL_len,plusL_len,noneL_len]),plusL_get _ _ _ (by rw [plusL_len,noneL_len]),plusL_get _ _ _ noneL_len]
 have h0:noneL.getD b.toNat false=false:=by unfold noneL;rw [List.getD_eq_getElem?_getD,List.getElem?_replicate];split<;>rfl
 rw [h0,Bool.false_or]
 have e:refLetters.data.toList=upperT++lowerT++digitT++moreT++[64,35,61,37]:=by decide
 rw [e]
 simp only [List.contains_eq_mem,List.mem_append,Bool.decide_or]
theorem in_link (s:ByteArray):inT s refLetters=hasL linkL s:=by
 unfold inT hasL
 congr 1
 funext b
 rw [linkL_get]
set_option maxHeartbeats 2000000 in
theorem rlink_pure (s:ByteArray) (hs:s.size≤1000000000):PCalls Tryz.prog 76 [.c (.v (.string s))] [] fun r os=>r = .c (.v (.bool (linkS s)))∧os=[]:=by
 have hps:=parts_size (s:=s)
 have hpm:=fun x hx=>part_size (s:=s) (x:=x) hx
 have hsp:=split_pure s (by omega)
 unfold linkS
 obtain ⟨l,hl⟩:∃ l,parts s=l:=⟨_,rfl⟩
 rw [hl] at hps hsp ⊢
 simp only [hl] at hpm
 have htk:=List.take_of_length_le (l:=l.map strD) (i:=l.length) (by simp)
 refine pcalls_of Tryz.func76 rfl (by simp [Tryz.ntmps76]) ?_
 rw [Tryz.ntmps76,Tryz.results76]
 push_cast [iO,tN]
 have cB:CutB 5 []:=trivial
 repeat' (first |  (refine plc [] (hsp) ?_ ?_;push_cast [iO,tN];rintro r os ⟨rfl,rfl⟩;push_cast [iO,tN])  | ((first|refine pC ?_|refine pQC ?_|refine pU ?_);push_cast [iO,tN])|(refine pif (fun h=>?_) (fun h=>?_)<;>first|exact pN h|push_cast [iO,tN]))
 refine pwp_weak (weak_frz 0 (by omega)) ?_
 push_cast [iO,tN,htk]
 (apply pwp_loop3 (α:=Nat) 5 [] (fun k=>[(4,.c (.v (.int .i64 k)))]) (fun k=>[]) (fun k=>k≤l.length∧(l.take k).all linkP=true) (fun k=>l.length - k) (0);(focus ((try push_cast [iO,tN]);rfl));(focus exact ⟨by omega,rfl⟩);(focus ((refine weak_fg ?_;try push_cast [iO,tN]))))
 rintro k ⟨hk,ha⟩
 push_cast [iO,tN]
 by_cases hlt:k < l.length
 ·have hm:l.getD k default ∈ l:=by rw [getD_lt l hlt];exact List.getElem_mem _
  have hi:=rin_pure (l.getD k default) refLetters (by have:=hpm _ hm;omega)
  rw [in_link] at hi
  have hno:linkP (l.getD k default)=false → (decide (s.size≤256) && l.all linkP)=false:=fun h=>by
   rw [List.all_eq_false.2 ⟨_,hm,by rw [h];decide⟩,Bool.and_false]
  have hyes:linkP (l.getD k default)=true → (l.take (k+1)).all linkP=true:=fun h=>by
   rw [List.take_succ_eq_append_getElem hlt,List.all_append,ha,← getD_lt l hlt,List.all_cons,h];rfl
  unfold refLetters at hi
  obtain ⟨x,hx⟩:∃ x,l.getD k default=x:=⟨_,rfl⟩
  rw [hx] at hi hno hyes
  have lp:linkP x=((decide (x≠⟨#[]⟩) && !(decide (x=⟨#[46]⟩) || decide (x=⟨#[46,46]⟩))) && hasL linkL x):=rfl
  by_cases h1:x=⟨#[]⟩
  ·have e1:=eq_true h1
   have e:=hno (by rw [lp];simp [h1])
   repeat' (first|((first|refine pC ?_|refine pQC ?_|refine pU ?_);push_cast [iO,tN,hx,e1])|(refine pif (fun h=>?_) (fun h=>?_)<;>first|exact pN h|push_cast [iO,tN,hx,e1]))
   (refine retK_of [] ?_;push_cast [iO,tN])
   rw [e]
  ·by_cases h2:x=⟨#[46]⟩
   ·have e2:=eq_true h2
    have e:=hno (by rw [lp];simp [h2])
    repeat' (first|((first|refine pC ?_|refine pQC ?_|refine pU ?_);push_cast [iO,tN,hx,h1,e2])|(refine pif (fun h=>?_) (fun h=>?_)<;>first|exact pN h|push_cast [iO,tN,hx,h1,e2]))
    (refine retK_of [] ?_;push_cast [iO,tN])
    rw [e]
   ·by_cases h3:x=⟨#[46,46]⟩
    ·have e3:=eq_true h3
     have e:=hno (by rw [lp];simp [h3])
     repeat' (first|((first|refine pC ?_|refine pQC ?_|refine pU ?_);push_cast [iO,tN,hx,h1,h2,e3])|(refine pif (fun h=>?_) (fun h=>?_)<;>first|exact pN h|push_cast [iO,tN,hx,h1,h2,e3]))
     (refine retK_of [] ?_;push_cast [iO,tN])
     rw [e]
    ·obtain ⟨c,hc⟩:∃ c,hasL linkL x=c:=⟨_,rfl⟩
     rw [hc] at hi lp
     cases c
     ·have e:=hno (by rw [lp];simp)
      repeat' (first|(refine plc [] (hi) ?_ ?_;push_cast [iO,tN,hx,h1,h2,h3];rintro r os ⟨rfl,rfl⟩;push_cast [iO,tN,hx,h1,h2,h3])|((first|refine pC ?_|refine pQC ?_|refine pU ?_);push_cast [iO,tN,hx,h1,h2,h3])|(refine pif (fun h=>?_) (fun h=>?_)<;>first|exact pN h|push_cast [iO,tN,hx,h1,h2,h3]))
      (refine retK_of [] ?_;push_cast [iO,tN])
      rw [e]
     ·have e:=hyes (by rw [lp];simp [h1,h2,h3])
      repeat' (first|(refine plc [] (hi) ?_ ?_;push_cast [iO,tN,hx,h1,h2,h3];rintro r os ⟨rfl,rfl⟩;push_cast [iO,tN,hx,h1,h2,h3])|((first|refine pC ?_|refine pQC ?_|refine pU ?_);push_cast [iO,tN,hx,h1,h2,h3])|(refine pif (fun h=>?_) (fun h=>?_)<;>first|exact pN h|push_cast [iO,tN,hx,h1,h2,h3]))
      exact ⟨k+1,⟨by omega,e⟩,by (refine weak_fg ?_;push_cast [iO,tN]),by omega⟩
 ·rw [List.take_of_length_le (by omega)] at ha
  have hd:decide ((s.size:Int)≤256)=decide (s.size≤256):=decide_eq_decide.2 (by omega)
  repeat' (first|((first|refine pC ?_|refine pQC ?_|refine pU ?_);push_cast [iO,tN])|(refine pif (fun h=>?_) (fun h=>?_)<;>first|exact pN h|push_cast [iO,tN]))
  (refine retK_of [] ?_;push_cast [iO,tN])
  rw [ha,Bool.and_true,← hd]
end Go.Proofs.YtmjffgienmcabaaGreatDoor
