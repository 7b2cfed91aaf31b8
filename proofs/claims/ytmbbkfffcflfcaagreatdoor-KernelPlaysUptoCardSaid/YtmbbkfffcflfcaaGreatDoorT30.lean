/- What the program computes, and the plain laws of it, part 30. -/
import Derived.Lib.ItoaNum
import Derived.WideKeyEntry
import Derived.Test.YtmbbkfffcflfcaaGreatDoorT29
namespace Go.Proofs.YtmbbkfffcflfcaaGreatDoor
open Go.Proofs.Tryz
set_option linter.unusedSimpArgs false
set_option linter.unusedVariables false
open Go.RowKit
open IntWalk renaming iteOmega → O, toNatUp → U
section
attribute [local irreducible] PL QL aL ah bg La aV PA
set_option maxRecDepth 20000
set_option maxHeartbeats 1000000 in
theorem B5 (x:ByteArray) (hx:x.size≤9223372036854775807) :
  ah prog 200 [.c (.v (.string x)),.c (.ptr 0 0)] [.box 135 [.fn (.func 76) [] []]] fun r os=>r = .c (.v (.bool (!validS x)))∧os=[.box 135 [.fn (.func 76) [] []]]:=by
 refine aw func200 ntmps200 results200 ?_;push_cast [O,U];repeat' ((first|refine aK [] (dt x hx) ?_|refine au ?_|refine pif ?_ ?_<;>intro h<;>try exact pN h)<;>push_cast [O,U])
 exact am [0]
set_option maxHeartbeats 1000000 in
theorem Fo (l:List ByteArray) (hl:l.length≤1000000000) (hz:∀ x ∈ l,x.size≤9223372036854775807) :
  ah prog 160 [.c (.sl 1 (l.map aU)),.c (.fn (.func 76) [] [])] [] fun r os=>r = .c (.v (.bool (l.all validS)))∧os=[]:=by
 have hc:=cD l hl 200 [0] [.box 135 [.fn (.func 76) [] []]] (fun x=>!validS x) ⟨aj,fun x hx=>B5 x (hz x hx)⟩;have e:(!(l.any fun x=>!validS x))=l.all validS:=by rw [List.all_eq_not_any_not]
 refine aw func160 ntmps160 results160 ?_;push_cast [O,U];repeat' ((first|refine aK [0] hc ?_|refine au ?_|refine pif ?_ ?_<;>intro h<;>try exact pN h)<;>push_cast [O,U])
 (refine K9 [] ?_;push_cast [O,U,e])
theorem vh (s:ByteArray):(s.extract 1 s.size).size=s.size - 1:=by
 have h:=congrArg List.length (Lib.extract_to_end s 1);rw [List.length_drop] at h;exact h
theorem ud (s:ByteArray):(gm s).size≤s.size:=by
 unfold gm;split
 ·rw [vh];omega
 ·exact Nat.le_refl _
theorem spl_mem:∀ {l x:List UInt8},x ∈ spl l → x.length≤l.length
 | [],x,h=>by simp [spl] at h;subst h;simp
 | b :: l,x,h=>by
  rw [spl] at h;split at h
  ·rcases List.mem_cons.1 h with rfl|h
   ·simp
   ·have:=spl_mem h;simp only [List.length_cons];omega
  ·split at h
   ·rename_i e;simp at h;subst h;simp
   ·rename_i y t e;have hy:y ∈ spl l:=by rw [e];simp
    rcases List.mem_cons.1 h with rfl|h
    ·have:=spl_mem hy;simp only [List.length_cons];omega
    ·have hx:x ∈ spl l:=by rw [e];simp [h]
     have:=spl_mem hx;simp only [List.length_cons];omega
theorem B6 {s x:ByteArray} (h:x ∈ parts s):x.size≤s.size:=by
 unfold parts at h;obtain ⟨y,hy,rfl⟩:=List.mem_map.1 h;have:=spl_mem hy;exact this
def Fp:Option (List ByteArray) → PV
 | some l=>.two (.c (.sl 1 (l.map aU))) (.c (.v (.int .i64 0)))
 | none=>.two (.c (.v (.slice none 0 0))) (.c (.v (.int .i64 10)))
attribute [push_cast] Fp
set_option maxHeartbeats 1000000 in
theorem kY (s:ByteArray) (hs:s.size≤100000000) :
  ah prog 117 [.c (.v (.string s))] [] fun r os=>r=Fp (dP s)∧os=[]:=by
 have hrs:=ud s;have hps:=gU (s:=gm s);have hsp:=mf (gm s) ac;have hpm:=fun x hx=>B6 (s:=gm s) (x:=x) hx
 unfold dP;obtain ⟨l,hl⟩:∃ l,parts (gm s)=l:=⟨_,rfl⟩
 rw [hl] at hps hsp ⊢;simp only [hl] at hpm;have hal:=Fo l ac (fun x hx=>by have:=hpm x hx;omega);have htk:=List.take_of_length_le (l:=l.map aU) (i:=l.length) (by simp);refine aw func117 ntmps117 results117 ?_;have hcp:=B2 s;obtain ⟨b,hb⟩:∃ b,jy s=b:=⟨_,rfl⟩
 obtain ⟨c,hc⟩:∃ c,l.all validS=c:=⟨_,rfl⟩
 rw [hb] at hcp ⊢;rw [hc] at hal ⊢;cases b<;>cases c;all_goals push_cast [O,U]
 all_goals repeat' ((first|refine aK [] hcp ?_|refine aK [] hsp ?_|(refine aW true [] rfl rfl aj (hal) ?_ ?_ ?_;push_cast [O,U];(intro _ r os;rintro ⟨rfl,rfl⟩;push_cast [O,U]);rintro r os ⟨rfl,rfl⟩;refine an ?_)|refine au ?_|refine pif ?_ ?_<;>intro h<;>try exact pN h)<;>push_cast [O,U])
 all_goals (refine K9 [] ?_;push_cast [O,U,htk,and_self,and_false,false_and,Bool.false_eq_true])
theorem rP (s:ByteArray):ah prog 229 [.c (.v (.string s))] [] fun r os=>r = .c (.v (.bool false))∧os=[]:=by
 refine aw func229 ntmps229 results229 ?_;push_cast [O,U];repeat' ((first|refine au ?_|refine pif ?_ ?_<;>intro h<;>try exact pN h)<;>push_cast [O,U,ne_eq,not_true_eq_false])
 exact am []
theorem ue (a b:ByteArray):ah prog 203 [.c (.v (.string a)),.c (.v (.string b))] [] fun r os=>r = .c (.v (.int .i64 (iZ a b)))∧os=[]:=by
 refine aw func203 ntmps203 results203 ?_;unfold iZ;obtain ⟨x,hx⟩:∃ x,bh a b=x:=⟨_,rfl⟩
 obtain ⟨y,hy⟩:∃ y,bh b a=y:=⟨_,rfl⟩
 rw [hx,hy];cases x<;>cases y;all_goals push_cast [O,U]
 all_goals repeat' ((first|refine plE [] (rP a) ?_ ?_;focus (push_cast [O,U,hx,hy];done)|refine plE [] (rP b) ?_ ?_;focus (push_cast [O,U,hx,hy];done)|refine au ?_|refine pif ?_ ?_<;>intro h<;>try exact pN h)<;>push_cast [O,U,hx,hy])
 all_goals (refine K9 [] ?_;push_cast [O,U])
theorem kZ:∀ {l m:List ByteArray} {k:Nat},k≤l.length → k≤m.length → l.take k=m.take k → cu l m=cu (l.drop k) (m.drop k)
 | l,m,0,_,_,_=>by simp
 | [],m,k+1,h,_,_=>by simp at h
 | a :: l,[],k+1,_,h,_=>by simp at h
 | a :: l,b :: m,k+1,h1,h2,h3=>by
  simp only [List.take_succ_cons,List.cons.injEq] at h3;obtain ⟨rfl,h3⟩:=h3;rw [cu,if_pos rfl];simp only [List.drop_succ_cons];exact kZ (by simpa using h1) (by simpa using h2) h3
theorem za {l m:List ByteArray} {k:Nat} (h1:k < l.length) (h2:k < m.length) (h3:l.take k=m.take k):cu l m=if l.getD k default=m.getD k default then cu (l.drop (k+1)) (m.drop (k+1)) else iZ (l.getD k default) (m.getD k default):=by
 rw [kZ ac ac h3,List.drop_eq_getElem_cons h1,List.drop_eq_getElem_cons h2,cu,ai l h1,ai m h2]
set_option maxHeartbeats 1000000 in
theorem sK (l m:List ByteArray) (hl:l.length≤1000000000) (hm:m.length≤1000000000) :
  ah prog 164 [.c (.sl 1 (l.map aU)),.c (.sl 1 (m.map aU))] [] fun r os=>r = .c (.v (.int .i64 (cu l m)))∧os=[]:=by
 refine aw func164 ntmps164 results164 ?_;push_cast [O,U];have cB:aH 12 []:=trivial;repeat' ((first|refine ae ?_|refine pif ?_ ?_<;>intro h<;>try exact pN h)<;>push_cast [O,U])
 (apply ap (α:=Nat) 12 [] (fun k=>[(11,.c (.v (.int .i64 k)))]) (fun k=>[]) (fun k=>k≤l.length∧k≤m.length∧l.take k=m.take k) (fun k=>l.length - k) (0);(focus ((try push_cast [O,U]);rfl));(focus exact ⟨ac,ac,rfl⟩);(focus ((refine weak_fg ?_;try push_cast [O,U]))));rintro k ⟨hk,hk2,he⟩;push_cast [O,U];by_cases h1:k < l.length
 ·by_cases h2:k < m.length
  ·have hst:=za h1 h2 he;by_cases e:l.getD k default=m.getD k default
   ·have hc:iZ (l.getD k default) (m.getD k default)=0:=qm.2 e;repeat' ((first|(refine plE [] (ue (l.getD k default) (m.getD k default)) ?_ ?_;focus (push_cast [O,U,hc];done))|refine ae ?_|refine pif ?_ ?_<;>intro h<;>try exact pN h)<;>push_cast [O,U,hc])
    refine ⟨k+1,⟨ac,ac,?_⟩,aA,ac⟩;rw [List.take_succ_eq_append_getElem h1,List.take_succ_eq_append_getElem h2,he,← ai l h1,← ai m h2,e]
   ·have hc:¬ iZ (l.getD k default) (m.getD k default)=0:=fun h=>e (qm.1 h)
    rw [if_neg e] at hst;repeat' ((first|(refine plE [] (ue (l.getD k default) (m.getD k default)) ?_ ?_;focus (push_cast [O,U,hc];done))|refine ae ?_|refine pif ?_ ?_<;>intro h<;>try exact pN h)<;>push_cast [O,U,hc])
    (refine K9 [] ?_;push_cast [O,U]);rw [hst]
  ·have hke:k=m.length:=ac;have hcl:cu l m=1:=by
    have hz:m.drop k=[]:=List.drop_eq_nil_of_le ac;rw [kZ ac ac he,hz,List.drop_eq_getElem_cons h1];rfl
   repeat' ((first|refine ae ?_|refine pif ?_ ?_<;>intro h<;>try exact pN h)<;>push_cast [O,U])
   (refine K9 [] ?_;push_cast [O,U]);rw [hcl]
 ·have hke:k=l.length:=ac;by_cases h2:k < m.length
  ·have hcl:cu l m = -1:=by
    have hz:l.drop k=[]:=List.drop_eq_nil_of_le ac;rw [kZ ac ac he,hz,List.drop_eq_getElem_cons h2];rfl
   repeat' ((first|refine ae ?_|refine pif ?_ ?_<;>intro h<;>try exact pN h)<;>push_cast [O,U])
   (refine K9 [] ?_;push_cast [O,U]);rw [hcl]
  ·have hcl:cu l m=0:=by
    rw [kZ ac ac he,List.drop_eq_nil_of_le ac,List.drop_eq_nil_of_le ac];rfl
   repeat' ((first|refine ae ?_|refine pif ?_ ?_<;>intro h<;>try exact pN h)<;>push_cast [O,U])
   (refine K9 [] ?_;push_cast [O,U]);rw [hcl]
def HZ (a b:ByteArray):PV:=match dP a,dP b with
 | some l,some m=>.two (.c (.v (.int .i64 (cu l m)))) (.c (.v (.int .i64 0)))
 | _,_=>.two (.c (.v (.int .i64 0))) (.c (.v (.int .i64 10)))
theorem pK {s:ByteArray} {l:List ByteArray} (h:dP s=some l):l.length≤s.size+1:=by
 unfold dP at h;split at h
 ·cases h;have:=ud s;have:=gU (s:=gm s);omega
 ·cases h
set_option maxHeartbeats 1000000 in
theorem sL (a b:ByteArray) (ha:a.size≤100000000) (hb:b.size≤100000000) :
  ah prog 118 [.c (.v (.string a)),.c (.v (.string b))] [] fun r os=>r=HZ a b∧os=[]:=by
 have h1:=kY a ha;have h2:=kY b hb;unfold HZ;refine aw func118 ntmps118 results118 ?_;cases e1:dP a with
 | none =>
  rw [e1] at h1;cases e2:dP b with
  | none =>
   rw [e2] at h2;push_cast [O,U];repeat' ((first|refine aK [] h1 ?_|refine aK [] h2 ?_|refine au ?_|refine pif ?_ ?_<;>intro h<;>try exact pN h)<;>push_cast [O,U])
   exact am []
  | some m =>
   rw [e2] at h2;push_cast [O,U];repeat' ((first|refine aK [] h1 ?_|refine aK [] h2 ?_|refine au ?_|refine pif ?_ ?_<;>intro h<;>try exact pN h)<;>push_cast [O,U])
   exact am []
 | some l =>
  rw [e1] at h1;cases e2:dP b with
  | none =>
   rw [e2] at h2;push_cast [O,U];repeat' ((first|refine aK [] h1 ?_|refine aK [] h2 ?_|refine au ?_|refine pif ?_ ?_<;>intro h<;>try exact pN h)<;>push_cast [O,U])
   exact am []
  | some m =>
   rw [e2] at h2;have:=pK e1;have:=pK e2;push_cast [O,U];repeat' ((first|refine aK [] h1 ?_|refine aK [] h2 ?_|refine plE [] (sK l m ac ac) ?_ ?_;focus (push_cast [O,U];done)|refine au ?_|refine pif ?_ ?_<;>intro h<;>try exact pN h)<;>push_cast [O,U])
   exact am []
set_option maxRecDepth 20000
end
theorem jh (c d:UInt8):∀ l:List UInt8,Lib.containsAny l [c,d]=(l.contains c || l.contains d)
 | []=>rfl
 | b :: l=>by
  have ih:=jh c d l;have hg:=Lib.indexAny_ge [c,d] l;unfold Lib.containsAny at ih ⊢;rw [Lib.indexAny];by_cases h1:c=b
  ·subst h1;simp
  ·by_cases h2:d=b
   ·subst h2;simp
   ·rw [if_neg (by simp [Ne.symm h1,Ne.symm h2])];have e1:(b :: l).contains c=l.contains c:=by rw [List.contains_cons];simp [h1]
    have e2:(b :: l).contains d=l.contains d:=by rw [List.contains_cons];simp [h2]
    rw [e1,e2,← ih];split
    ·rename_i h3;simp at h3;rw [h3]
    ·rename_i h3;simp at h3;exact decide_eq_decide.2 ac
theorem oO (s:ByteArray) (hs:s.size < 4294967281) (ha:∀ (j:Nat) b,s.data.toList[j]? = some b → b.toNat < 128):ah prog 197 [.c (.v (.string s)),.c (.v (.string ⟨#[58,33]⟩))] [] fun r os=>r = .c (.v (.bool (s.data.toList.contains 58 || s.data.toList.contains 33)))∧os=[] :=
 da [.string s,.string ⟨#[58,33]⟩] _ rfl fun w _=>by
  refine (strings_ContainsAny_laid s ⟨#[58,33]⟩ w hs af ha (fun j b hb=>by
   have:∀ b ∈ ([58,33]:List UInt8),b.toNat < 128:=af;exact this b (List.mem_of_getElem? hb))).mono fun e w' ⟨he,hw⟩=>?_
  rw [he];exact ⟨by rw [show (⟨#[58,33]⟩:ByteArray).data.toList=[58,33] from rfl,jh],hw⟩
section
attribute [local irreducible] PL QL aL ah bg La aV PA
set_option maxRecDepth 20000
set_option maxHeartbeats 1000000 in
theorem rQ (s:ByteArray) (hs:s.size≤9223372036854775807):ah prog 153 [.c (.v (.string s))] [] fun r os=>r = .c (.v (.bool (gV s)))∧os=[]:=by
 have hv:=dt s hs;have hz:=cE (s:=s);have ha:=wC (s:=s);unfold gV;obtain ⟨b,hb⟩:∃ b,validS s=b:=⟨_,rfl⟩
 rw [hb] at hv hz ha ⊢;refine aw func153 ntmps153 results153 ?_;cases b
 ·push_cast [O,U];repeat' ((first|refine aK [] hv ?_|refine au ?_|refine pif ?_ ?_<;>intro h<;>try exact pN h)<;>push_cast [O,U])
  (refine K9 [] ?_;push_cast [O,U]);all_goals rfl
 ·by_cases h1:s.size≤15
  ·have h1':(s.size:Int)≤15:=ac;have hc:=oO s ac (ha rfl);push_cast [O,U];repeat' ((first|(refine plE [] hv ?_ ?_;focus (push_cast [O,U,h1'];done))|(refine plE [] hc ?_ ?_;focus (push_cast [O,U,h1'];done))|refine au ?_|refine pif ?_ ?_<;>intro h<;>try exact pN h)<;>push_cast [O,U,h1'])
   (refine K9 [] ?_;push_cast [O,U]);all_goals simp [h1]
  ·have h1':¬ (s.size:Int)≤15:=ac;push_cast [O,U];repeat' ((first|(refine plE [] hv ?_ ?_;focus (push_cast [O,U,h1'];done))|refine au ?_|refine pif ?_ ?_<;>intro h<;>try exact pN h)<;>push_cast [O,U,h1'])
   (refine K9 [] ?_;push_cast [O,U]);all_goals simp [h1]
set_option maxRecDepth 20000 in
set_option maxHeartbeats 1000000 in
theorem xo:ah prog 159 [] [] fun r os=>r = .agg (linkL.map aN)∧os=[]:=by
 have hp:=gC commonL ⟨#[64,35,61,37]⟩ fk af;simp only [List.toList_toArray] at hp;have hl:=tD;change ah _ _ _ _ fun r os=>r = .agg (linkL.map aN)∧os=[] at hp
 generalize linkL=cs at hp hl ⊢;refine aw func159 ntmps159 results159 ?_;push_cast [O,U];repeat' ((first|refine aK [] pn ?_|refine aK [] hp ?_|refine au ?_|refine pif ?_ ?_<;>intro h<;>try exact pN h)<;>push_cast [O,U])
 (refine K9 [] ?_;push_cast [O,U,hl])
set_option maxRecDepth 20000 in
set_option maxHeartbeats 1000000 in
theorem zb (cs:List Bool) (hcs:cs.length=256) (x:ByteArray) (hx:x.size≤1000000) :
  ah prog 162 [.c (.v (.string x)),.c (.ptr 0 0)] [.box 174 (cs.map aN)] fun r os=>r = .c (.v (.bool ((decide (x≠⟨#[]⟩) && !fH x) && ik cs x)))∧os=[.box 174 (cs.map aN)]:=by
 have hd:=tK x;have hh:=wK cs x hcs ac;obtain ⟨b,hb⟩:∃ b,fH x=b:=⟨_,rfl⟩
 obtain ⟨c,hc⟩:∃ c,ik cs x=c:=⟨_,rfl⟩
 rw [hb] at hd ⊢;rw [hc] at hh ⊢;refine aw func162 ntmps162 results162 ?_;by_cases h1:x=⟨#[]⟩
 ·have e1:=eq_true h1;push_cast [O,U];repeat' ((first|refine au ?_|refine pif ?_ ?_<;>intro h<;>try exact pN h)<;>push_cast [O,U,e1,ne_eq,not_true_eq_false])
  (refine K9 [0] ?_;push_cast [O,U]);all_goals simp [h1]
 ·cases b
  ·push_cast [O,U];repeat' ((first|(refine plE [] hd ?_ ?_;focus (push_cast [O,U,h1,ne_eq,not_false_eq_true,hcs];done))|(refine plE [] hh ?_ ?_;focus (push_cast [O,U,h1,ne_eq,not_false_eq_true,hcs];done))|refine au ?_|refine pif ?_ ?_<;>intro h<;>try exact pN h)<;>push_cast [O,U,h1,ne_eq,not_false_eq_true,hcs])
   (refine K9 [0] ?_;push_cast [O,U]);all_goals simp [h1]
  ·push_cast [O,U];repeat' ((first|(refine plE [] hd ?_ ?_;focus (push_cast [O,U,h1,ne_eq,not_false_eq_true,hcs];done))|refine au ?_|refine pif ?_ ?_<;>intro h<;>try exact pN h)<;>push_cast [O,U,h1,ne_eq,not_false_eq_true,hcs])
   (refine K9 [0] ?_;push_cast [O,U]);all_goals simp
set_option maxHeartbeats 1000000 in
theorem B7 (cs:List Bool) (hcs:cs.length=256) (x:ByteArray) (hx:x.size≤1000000) :
  ah prog 200 [.c (.v (.string x)),.c (.ptr 1 0)] [.box 174 (cs.map aN),.box 135 [.fn (.func 162) [] [0]]] fun r os=>r = .c (.v (.bool (!((decide (x≠⟨#[]⟩) && !fH x) && ik cs x))))∧os=[.box 174 (cs.map aN),.box 135 [.fn (.func 162) [] [0]]]:=by
 have hf:=zb cs hcs x hx;obtain ⟨b,hb⟩:∃ b,((decide (x≠⟨#[]⟩) && !fH x) && ik cs x)=b:=⟨_,rfl⟩
 rw [hb] at hf ⊢;refine aw func200 ntmps200 results200 ?_;push_cast [O,U];repeat' ((first|refine aK [0] hf ?_|refine au ?_|refine pif ?_ ?_<;>intro h<;>try exact pN h)<;>push_cast [O,U])
 exact am [0,1]
set_option maxHeartbeats 1000000 in
theorem B8 (cs:List Bool) (hcs:cs.length=256) (l:List ByteArray) (hl:l.length≤1000000000) (hz:∀ x ∈ l,x.size≤1000000) :
  ah prog 160 [.c (.sl 1 (l.map aU)),.c (.fn (.func 162) [] [0])] [.box 174 (cs.map aN)] fun r os=>r = .c (.v (.bool (l.all fun x=>(decide (x≠⟨#[]⟩) && !fH x) && ik cs x)))∧os=[.box 174 (cs.map aN)]:=by
 have hc:=cD l hl 200 [1] [.box 174 (cs.map aN),.box 135 [.fn (.func 162) [] [0]]] (fun x=>!((decide (x≠⟨#[]⟩) && !fH x) && ik cs x)) ⟨aj,fun x hx=>B7 cs hcs x (hz x hx)⟩;have e:(!(l.any fun x=>!((decide (x≠⟨#[]⟩) && !fH x) && ik cs x)))=l.all fun x=>(decide (x≠⟨#[]⟩) && !fH x) && ik cs x:=by rw [List.all_eq_not_any_not]
 obtain ⟨b,hb⟩:∃ b,(l.any fun x=>!((decide (x≠⟨#[]⟩) && !fH x) && ik cs x))=b:=⟨_,rfl⟩
 rw [hb] at hc e;rw [← e];refine aw func160 ntmps160 results160 ?_;push_cast [O,U];repeat' ((first|refine aK [0,1] hc ?_|refine au ?_|refine pif ?_ ?_<;>intro h<;>try exact pN h)<;>push_cast [O,U])
 exact am [0]
set_option maxRecDepth 20000 in
set_option maxHeartbeats 1000000 in
theorem B9 (s:ByteArray):ah prog 116 [.c (.v (.string s))] [] fun r os=>r = .c (.v (.bool (linkS s)))∧os=[]:=by
 have hps:=gU (s:=s);have hpm:=fun x hx=>tG (s:=s) (x:=x) hx
 have hlp:=xo;have hlen:=tD;have e:linkS s=(decide (s.size≤256) && (parts s).all fun x=>(decide (x≠⟨#[]⟩) && !fH x) && ik linkL x):=rfl;rw [e];generalize linkL=cs at hlp hlen ⊢;refine aw func116 ntmps116 results116 ?_;by_cases h1:s.size≤256
 ·have h1':(s.size:Int)≤256:=ac;have hsp:=mf s ac;obtain ⟨l,hl⟩:∃ l,parts s=l:=⟨_,rfl⟩
  rw [hl] at hps hsp ⊢;simp only [hl] at hpm;have hal:=B8 cs hlen l ac (fun x hx=>by have:=hpm x hx;omega);push_cast [O,U];repeat' ((first|refine plE [] hlp ?_ ?_;focus (push_cast [O,U,h1',hlen];done)|refine plE [] hsp ?_ ?_;focus (push_cast [O,U,h1',hlen];done)|(refine aW true [0] rfl rfl aj (hal) ?_ ?_ ?_;push_cast [O,U,h1',hlen];(intro _ r os;rintro ⟨rfl,rfl⟩;push_cast [O,U,h1',hlen]);rintro r os ⟨rfl,rfl⟩;refine an ?_)|refine au ?_|refine pif ?_ ?_<;>intro h<;>try exact pN h)<;>push_cast [O,U,h1',hlen])
  (refine K9 [] ?_;push_cast [O,U]);all_goals simp [h1]
 ·have h1':¬ (s.size:Int)≤256:=ac;push_cast [O,U];repeat' ((first|(refine plE [] hlp ?_ ?_;focus (push_cast [O,U,h1',hlen];done))|refine au ?_|refine pif ?_ ?_<;>intro h<;>try exact pN h)<;>push_cast [O,U,h1',hlen])
  (refine K9 [] ?_;push_cast [O,U]);all_goals simp [h1]
set_option maxRecDepth 20000
theorem H3 (a b:ByteArray):∃ e:Int,HZ a b = .two (.c (.v (.int .i64 (sJ a b)))) (.c (.v (.int .i64 e))):=by
 unfold HZ sJ;cases dP a<;>cases dP b<;>exact ⟨_,rfl⟩
end
end Go.Proofs.YtmbbkfffcflfcaaGreatDoor
