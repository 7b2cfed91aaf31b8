/- What the program computes, and the plain laws of it, part 16. -/
import Derived.WideKeyEntry
import Derived.Test.YtmbbkfffcflfcaaGreatDoorT15
namespace Go.Proofs.YtmbbkfffcflfcaaGreatDoor
open Go.Proofs.Tryz
set_option linter.unusedSimpArgs false
set_option linter.unusedVariables false
open Go.RowKit
open IntWalk renaming iteOmega → O, toNatUp → U
section
attribute [local irreducible] PL QL aL ah bg La aV PA
set_option maxRecDepth 20000
set_option maxHeartbeats 1000000 in
theorem wM (s:ByteArray) (hs:s.size≤9223372036854775807):ah prog 256 [.c (.v (.string s))] [] fun r os=>r = .c (.v (.bool (s.data.toList.all bR)))∧os=[]:=by
 refine aw func256 ntmps256 results256 ?_;push_cast [O,U];have cB:aH 4 []:=trivial;repeat' ((first|refine ae ?_|refine pif ?_ ?_<;>intro h<;>try exact pN h)<;>push_cast [O,U])
 (apply ap (α:=Nat) 4 [] (fun k=>[(3,.c (.v (.int .i64 k)))]) (fun k=>[]) (fun k=>k≤s.size∧(s.data.toList.take k).all bR=true) (fun k=>s.size - k) (0);(focus ((try push_cast [O,U]);rfl));(focus exact ⟨ac,rfl⟩);(focus ((refine weak_fg ?_;try push_cast [O,U]))));rintro k ⟨hk,ha⟩;push_cast [O,U];by_cases hlt:k < s.size
 ·by_cases h1:((s.data.toList.getD k 0).toNat:Int) < 32
  ·have e:=lx hlt (p:=bR) (by unfold bR;rw [decide_eq_false ac];rfl);repeat' ((first|refine ae ?_|refine pif ?_ ?_<;>intro h<;>try exact pN h)<;>push_cast [O,U,h1])
   (refine K9 [] ?_;push_cast [O,U]);rw [e]
  ·by_cases h2:(126:Int) < ((s.data.toList.getD k 0).toNat:Int)
   ·have e:=lx hlt (p:=bR) (by unfold bR;rw [decide_eq_false (p:=(s.data.toList.getD k 0).toNat≤126) ac,Bool.and_false]);repeat' ((first|refine ae ?_|refine pif ?_ ?_<;>intro h<;>try exact pN h)<;>push_cast [O,U,h1,h2])
    (refine K9 [] ?_;push_cast [O,U]);rw [e]
   ·have e:=nc hlt ha (by unfold bR;rw [decide_eq_true ac,decide_eq_true ac];rfl);repeat' ((first|refine ae ?_|refine pif ?_ ?_<;>intro h<;>try exact pN h)<;>push_cast [O,U,h1,h2])
    exact ⟨k+1,⟨ac,e⟩,aA,ac⟩
 ·have hk2:k=s.size:=ac;subst hk2;have he:s.data.toList.take s.size=s.data.toList:=List.take_of_length_le (Nat.le_refl _);rw [he] at ha;repeat' ((first|refine ae ?_|refine pif ?_ ?_<;>intro h<;>try exact pN h)<;>push_cast [O,U])
  (refine K9 [] ?_;push_cast [O,U]);rw [ha]
theorem ri (s:ByteArray) (hs:s.size≤9223372036854775807):ah prog 239 [.c (.v (.string s))] [] fun r os=>r = .c (.v (.bool (fJ s)))∧os=[]:=by
 have hp:=wM s hs;unfold fJ;obtain ⟨b,hb⟩:∃ b,s.data.toList.all bR=b:=⟨_,rfl⟩
 rw [hb] at hp ⊢;have hd:decide ((s.size:Int)≤256)=decide (s.size≤256):=decide_eq_decide.2 ac;rw [← hd];refine aw func239 ntmps239 results239 ?_;cases b;all_goals push_cast [O,U]
 all_goals repeat' ((first|refine plE [] hp ?_ ?_|refine au ?_|refine pif ?_ ?_<;>intro h<;>try exact pN h)<;>push_cast [O,U])
 all_goals (refine K9 [] ?_;push_cast [O,U])
set_option maxHeartbeats 1000000 in
theorem pq (s:ByteArray) (hs:s.size≤9223372036854775807):ah prog 240 [.c (.v (.string s))] [] fun r os=>r = .c (.v (.bool (gV s)))∧os=[]:=by
 have hv:=de s hs;have hz:=cE (s:=s);unfold gV;obtain ⟨b,hb⟩:∃ b,validS s=b:=⟨_,rfl⟩
 rw [hb] at hv hz ⊢;refine aw func240 ntmps240 results240 ?_;cases b
 ·push_cast [O,U];repeat' ((first|refine plE [] hv ?_ ?_|refine au ?_|refine pif ?_ ?_<;>intro h<;>try exact pN h)<;>push_cast [O,U])
  (refine K9 [] ?_;push_cast [O,U]);all_goals rfl
 ·by_cases h1:s.size≤15
  ·have h1':(s.size:Int)≤15:=ac;have hc:=lT s 58 ac;have hd:=lT s 33 ac;obtain ⟨c,hc'⟩:∃ c,s.data.toList.contains 58=c:=⟨_,rfl⟩
   rw [hc'] at hc ⊢;cases c
   ·push_cast [O,U];repeat' ((first|refine plE [] hv ?_ ?_;focus (push_cast [O,U,h1'];done)|refine plE [] hc ?_ ?_;focus (push_cast [O,U,h1'];done)|refine plE [] hd ?_ ?_;focus (push_cast [O,U,h1'];done)|refine au ?_|refine pif ?_ ?_<;>intro h<;>try exact pN h)<;>push_cast [O,U,h1'])
    (refine K9 [] ?_;push_cast [O,U]);all_goals simp [h1]
   ·push_cast [O,U];repeat' ((first|refine plE [] hv ?_ ?_|refine plE [] hc ?_ ?_|refine au ?_|refine pif ?_ ?_<;>intro h<;>try exact pN h)<;>push_cast [O,U,h1'])
    (refine K9 [] ?_;push_cast [O,U]);all_goals simp [h1]
  ·have h1':¬ (s.size:Int)≤15:=ac;push_cast [O,U];repeat' ((first|refine plE [] hv ?_ ?_|refine au ?_|refine pif ?_ ?_<;>intro h<;>try exact pN h)<;>push_cast [O,U,h1'])
   (refine K9 [] ?_;push_cast [O,U]);all_goals simp [h1]
def gW:ByteArray:=⟨#[65,66,67,68,69,70,71,72,73,74,75,76,77,78,79,80,81,82,83,84,85,86,87,88,89,90,97,98,99,100,101,102,103,104,105,106,107,108,109,110,111,112,113,114,115,116,117,118,119,120,121,122,48,49,50,51,52,53,54,55,56,57,95,46,58,43,45,64,35,61,37]⟩
theorem BC (b:UInt8):linkL.getD b.toNat false=gW.data.toList.contains b:=by
 unfold linkL commonL;rw [dL _ _ _ (by rw [aX,aX,aX,aX,cQ]),dL _ _ _ (by rw [aX,aX,aX,cQ]),dL _ _ _ (by rw [aX,aX,cQ]),dL _ _ _ (by rw [aX,cQ]),dL _ _ _ cQ];have h0:noneL.getD b.toNat false=false:=by unfold noneL;rw [List.getD_eq_getElem?_getD,List.getElem?_replicate];split<;>rfl
 rw [h0,Bool.false_or];have e:gW.data.toList=upperT++lowerT++digitT++Ey++[64,35,61,37]:=af;rw [e];simp only [List.contains_eq_mem,List.mem_append,Bool.decide_or]
theorem Ho (s:ByteArray):inT s gW=ik linkL s:=by
 unfold inT ik;congr 1;funext b;rw [BC]
set_option maxHeartbeats 2000000 in
theorem yA (s:ByteArray) (hs:s.size≤1000000000):ah prog 243 [.c (.v (.string s))] [] fun r os=>r = .c (.v (.bool (linkS s)))∧os=[]:=by
 have hps:=gU (s:=s);have hpm:=fun x hx=>tG (s:=s) (x:=x) hx
 have hsp:=mf s ac;unfold linkS;obtain ⟨l,hl⟩:∃ l,parts s=l:=⟨_,rfl⟩
 rw [hl] at hps hsp ⊢;simp only [hl] at hpm;have htk:=List.take_of_length_le (l:=l.map aU) (i:=l.length) (by simp);refine aw func243 ntmps243 results243 ?_;push_cast [O,U];have cB:aH 5 []:=trivial;repeat' ((first|refine plE [] hsp ?_ ?_|refine ae ?_|refine pif ?_ ?_<;>intro h<;>try exact pN h)<;>push_cast [O,U])
 refine aF (bQ 0 ac) ?_;push_cast [O,U,htk];(apply ap (α:=Nat) 5 [] (fun k=>[(4,.c (.v (.int .i64 k)))]) (fun k=>[]) (fun k=>k≤l.length∧(l.take k).all q7=true) (fun k=>l.length - k) (0);(focus ((try push_cast [O,U]);rfl));(focus exact ⟨ac,rfl⟩);(focus ((refine weak_fg ?_;try push_cast [O,U]))));rintro k ⟨hk,ha⟩;push_cast [O,U];by_cases hlt:k < l.length
 ·have hm:l.getD k default ∈ l:=by rw [ai l hlt];exact List.getElem_mem _
  have hi:=wL (l.getD k default) gW (by have:=hpm _ hm;omega);rw [Ho] at hi;have hno:q7 (l.getD k default)=false → (decide (s.size≤256) && l.all q7)=false:=fun h=>by
   rw [List.all_eq_false.2 ⟨_,hm,by rw [h];decide⟩,Bool.and_false]
  have hyes:q7 (l.getD k default)=true → (l.take (k+1)).all q7=true:=fun h=>by
   rw [List.take_succ_eq_append_getElem hlt,List.all_append,ha,← ai l hlt,List.all_cons,h];rfl
  unfold gW at hi;obtain ⟨x,hx⟩:∃ x,l.getD k default=x:=⟨_,rfl⟩
  rw [hx] at hi hno hyes;have lp:q7 x=((decide (x≠⟨#[]⟩) && !(decide (x=⟨#[46]⟩) || decide (x=⟨#[46,46]⟩))) && ik linkL x):=rfl;by_cases h1:x=⟨#[]⟩
  ·have e1:=eq_true h1;have e:=hno (by rw [lp];simp [h1]);repeat' ((first|refine ae ?_|refine pif ?_ ?_<;>intro h<;>try exact pN h)<;>push_cast [O,U,hx,e1])
   (refine K9 [] ?_;push_cast [O,U]);rw [e]
  ·by_cases h2:x=⟨#[46]⟩
   ·have e2:=eq_true h2;have e:=hno (by rw [lp];simp [h2]);repeat' ((first|refine ae ?_|refine pif ?_ ?_<;>intro h<;>try exact pN h)<;>push_cast [O,U,hx,h1,e2])
    (refine K9 [] ?_;push_cast [O,U]);rw [e]
   ·by_cases h3:x=⟨#[46,46]⟩
    ·have e3:=eq_true h3;have e:=hno (by rw [lp];simp [h3]);repeat' ((first|refine ae ?_|refine pif ?_ ?_<;>intro h<;>try exact pN h)<;>push_cast [O,U,hx,h1,h2,e3])
     (refine K9 [] ?_;push_cast [O,U]);rw [e]
    ·obtain ⟨c,hc⟩:∃ c,ik linkL x=c:=⟨_,rfl⟩
     rw [hc] at hi lp;cases c
     ·have e:=hno (by rw [lp];simp);repeat' ((first|refine plE [] hi ?_ ?_|refine ae ?_|refine pif ?_ ?_<;>intro h<;>try exact pN h)<;>push_cast [O,U,hx,h1,h2,h3])
      (refine K9 [] ?_;push_cast [O,U]);rw [e]
     ·have e:=hyes (by rw [lp];simp [h1,h2,h3]);repeat' ((first|refine plE [] hi ?_ ?_|refine ae ?_|refine pif ?_ ?_<;>intro h<;>try exact pN h)<;>push_cast [O,U,hx,h1,h2,h3])
      exact ⟨k+1,⟨ac,e⟩,aA,ac⟩
 ·rw [List.take_of_length_le ac] at ha;have hd:decide ((s.size:Int)≤256)=decide (s.size≤256):=decide_eq_decide.2 ac;repeat' ((first|refine ae ?_|refine pif ?_ ?_<;>intro h<;>try exact pN h)<;>push_cast [O,U])
  (refine K9 [] ?_;push_cast [O,U]);rw [ha,Bool.and_true,← hd]
set_option maxRecDepth 20000
theorem yB (b:UInt8):ah prog 208 [.c (.v (.int .u8 b.toNat))] [] fun r os=>r = .c (.v (.bool (bR b)))∧os=[]:=by
 have hb:=b.toNat_lt;refine aw func208 ntmps208 results208 ?_;push_cast [O,U];by_cases h1:(32:Int)≤(b.toNat:Int)
 ·by_cases h2:(b.toNat:Int)≤126
  ·have e:bR b=true:=by unfold bR;rw [decide_eq_true ac,decide_eq_true ac];rfl
   rw [e];repeat' ((first|refine au ?_|refine pif ?_ ?_<;>intro h<;>try exact pN h)<;>push_cast [O,U,h1,h2])
   exact am []
  ·have e:bR b=false:=by unfold bR;rw [decide_eq_false (p:=b.toNat≤126) ac,Bool.and_false]
   rw [e];repeat' ((first|refine au ?_|refine pif ?_ ?_<;>intro h<;>try exact pN h)<;>push_cast [O,U,h1,h2])
   exact am []
 ·have e:bR b=false:=by unfold bR;rw [decide_eq_false ac];rfl
  rw [e];repeat' ((first|refine au ?_|refine pif ?_ ?_<;>intro h<;>try exact pN h)<;>push_cast [O,U,h1])
  exact am []
theorem pu (s:ByteArray) (hs:s.size≤9223372036854775807):ah prog 168 [.c (.v (.string s))] [] fun r os=>r = .c (.v (.bool (s.data.toList.all bR)))∧os=[]:=by
 refine aw func168 ntmps168 results168 ?_;push_cast [O,U];have cB:aH 4 []:=trivial;repeat' ((first|refine ae ?_|refine pif ?_ ?_<;>intro h<;>try exact pN h)<;>push_cast [O,U])
 (apply ap (α:=Nat) 4 [] (fun k=>[(3,.c (.v (.int .i64 k)))]) (fun k=>[]) (fun k=>k≤s.size∧(s.data.toList.take k).all bR=true) (fun k=>s.size - k) (0);(focus ((try push_cast [O,U]);rfl));(focus exact ⟨ac,rfl⟩);(focus ((refine weak_fg ?_;try push_cast [O,U]))));rintro k ⟨hk,ha⟩;push_cast [O,U];have hb:=yB (s.data.toList.getD k 0);by_cases hlt:k < s.size
 ·cases hx:bR (s.data.toList.getD k 0)
  ·have e:=lx hlt hx;rw [hx] at hb;repeat' ((first|refine plE [] hb ?_ ?_|refine ae ?_|refine pif ?_ ?_<;>intro h<;>try exact pN h)<;>push_cast [O,U])
   (refine K9 [] ?_;push_cast [O,U]);rw [e]
  ·have e:=nc hlt ha hx;rw [hx] at hb;repeat' ((first|refine plE [] hb ?_ ?_|refine ae ?_|refine pif ?_ ?_<;>intro h<;>try exact pN h)<;>push_cast [O,U])
   exact ⟨k+1,⟨ac,e⟩,aA,ac⟩
 ·have hk2:k=s.size:=ac;subst hk2;have he:s.data.toList.take s.size=s.data.toList:=List.take_of_length_le (Nat.le_refl _);rw [he] at ha;repeat' ((first|refine ae ?_|refine pif ?_ ?_<;>intro h<;>try exact pN h)<;>push_cast [O,U])
  (refine K9 [] ?_;push_cast [O,U]);rw [ha]
end
theorem ot (cs:List Bool) (a:Nat):∀ n,a+n≤cs.length → br (cs++[false]) a n=br cs a n++[false]
 | 0,_=>rfl
 | n+1,h=>by rw [br,br,ot cs a n ac,List.set_append_left _ _ (by rw [cR];omega)]
theorem EF {p:ByteArray} (hb:∀ k,byt p k≤126) (i:Nat):(dq p i).toNat≤126:=by
 unfold dq;split
 ·exact UInt8.le_iff_toNat_le.1 (hb _)
 ·exact UInt8.le_iff_toNat_le.1 (hb _)
theorem EG {p:ByteArray} (hb:∀ k,byt p k≤126) (i:Nat) {cs:List Bool} (hc:cs.length=127):eR p i (cs++[false])=eR p i cs++[false]:=by
 have h1:=EF hb i;have h2:(byt p i).toNat≤126:=UInt8.le_iff_toNat_le.1 (hb i);unfold eR;exact ot cs _ _ ac
theorem yC {p:ByteArray} (hb:∀ k,byt p k≤126):∀ {i:Nat} {cs:List Bool},cs.length=127 → aT p i (cs++[false])=(aT p i cs).map fun r=>(r.1++[false],r.2):=by
 intro i;induction i using (measure fun i=>p.size - i).wf.induction with
 | _ i ih =>
  intro cs hc;have hm:=f8 p i;rw [aT]
  conv=>rhs;rw [aT]
  by_cases h1:p.size≤i
  ·rw [dif_pos h1,dif_pos h1];rfl
  rw [dif_neg h1,dif_neg h1];by_cases h2:byt p i=93
  ·rw [if_pos h2,if_pos h2];rfl
  rw [if_neg h2,if_neg h2];by_cases h3:byt p i≤dq p i
  ·rw [if_pos h3,if_pos h3,EG hb i hc];exact ih (cH p i) (by show p.size - cH p i < p.size - i;omega) (by rw [i6,hc])
  ·rw [if_neg h3,if_neg h3];rfl
def BD (cs:List Bool):Prop:=∀ c,c < 32 → cs.getD c false=false
theorem BE {p:ByteArray} {i:Nat} {cs:List Bool} (h:32≤(byt p i).toNat) (hl:BD cs):BD (eR p i cs):=fun c hc=>by
 unfold eR;rw [ly,hl c hc,decide_eq_false (by omega:¬((byt p i).toNat≤c∧_))];rfl
theorem yD {p:ByteArray} (hb:∀ k,k < p.size → 32≤(byt p k).toNat):∀ {i:Nat} {cs:List Bool} {r:List Bool × Nat},BD cs → aT p i cs=some r → BD r.1:=by
 intro i;induction i using (measure fun i=>p.size - i).wf.induction with
 | _ i ih =>
  intro cs r hl h;have hm:=f8 p i;rw [aT] at h;by_cases h1:p.size≤i
  ·rw [dif_pos h1] at h;cases h
  rw [dif_neg h1] at h;by_cases h2:byt p i=93
  ·rw [if_pos h2] at h;cases h;exact hl
  rw [if_neg h2] at h;by_cases h3:byt p i≤dq p i
  ·rw [if_pos h3] at h;exact ih (cH p i) (by show p.size - cH p i < p.size - i;omega) (BE (hb i ac) hl) h
  ·rw [if_neg h3] at h;cases h
theorem BF:BD dn:=fun c hc=>by
 unfold dn;rw [List.getD_eq_getElem?_getD,List.getElem?_replicate];split<;>rfl
theorem rj (cs:List Bool) (hc:cs.length=127) (c:Nat):∀ n,n≤95 → (gk cs n).getD c false=if 32≤c∧c < 32+n then !cs.getD c false else cs.getD c false
 | 0,_=>by rw [gk,if_neg ac]
 | n+1,h=>by
  rw [gk,q9 ac,Bool.true_and,List.getD_eq_getElem?_getD];by_cases e:32+n=c
  ·subst e;rw [List.getElem?_set_self (by rw [i7,hc];omega),rj cs hc (32+n) n ac,if_neg ac,if_pos ac];rfl
  ·rw [List.getElem?_set_ne e,← List.getD_eq_getElem?_getD,rj cs hc c n ac];by_cases h2:32≤c∧c < 32+n
   ·rw [if_pos h2,if_pos ac]
   ·rw [if_neg h2,if_neg ac]
theorem kO {p:ByteArray} (h:p.data.toList.all bR=true) (k:Nat):byt p k≤126:=by
 unfold byt;by_cases hk:k < p.data.toList.length
 ·rw [List.getD_eq_getElem?_getD,List.getElem?_eq_getElem hk];have:=List.all_eq_true.1 h _ (List.getElem_mem hk);unfold bR at this;simp only [Bool.and_eq_true,decide_eq_true_eq] at this;exact UInt8.le_iff_toNat_le.2 this.2
 ·rw [List.getD_eq_getElem?_getD,List.getElem?_eq_none ac];decide
theorem Hq {p:ByteArray} (h:p.data.toList.all bR=true) (k:Nat) (hk:k < p.size):32≤(byt p k).toNat:=by
 unfold byt;have hk':k < p.data.toList.length:=hk;rw [List.getD_eq_getElem?_getD,List.getElem?_eq_getElem hk'];have:=List.all_eq_true.1 h _ (List.getElem_mem hk');unfold bR at this;simp only [Bool.and_eq_true,decide_eq_true_eq] at this;exact this.1
def jC (cs:List Bool) (nq:Bool):Nat → List Bool
 | 0=>List.replicate 128 false
 | k+1=>(jC cs nq k).set (32+k) (cs.getD (32+k) false != nq)
theorem kP (cs:List Bool) (nq:Bool):∀ n,(jC cs nq n).length=128
 | 0=>rfl
 | n+1=>by rw [jC,List.length_set,kP cs nq n]
theorem wN (cs:List Bool) (nq:Bool) (c:Nat):∀ n,n≤95 → (jC cs nq n).getD c false=(decide (32≤c∧c < 32+n) && (cs.getD c false != nq))
 | 0,_=>by
  rw [decide_eq_false ac,Bool.false_and,jC,List.getD_eq_getElem?_getD,List.getElem?_replicate];split<;>rfl
 | n+1,h=>by
  rw [jC,List.getD_eq_getElem?_getD];by_cases e:32+n=c
  ·subst e;rw [List.getElem?_set_self (by rw [kP];omega),decide_eq_true ac];simp
  ·rw [List.getElem?_set_ne e,← List.getD_eq_getElem?_getD,wN cs nq c n ac];by_cases h2:32≤c∧c < 32+n
   ·rw [decide_eq_true h2,decide_eq_true ac]
   ·rw [decide_eq_false h2,decide_eq_false ac]
theorem EH {cs:List Bool} (hc:cs.length=127) (hl:BD cs) (nq:Bool) {n:Nat} (h95:n=95):jC (cs++[false]) nq n=(if nq then gk cs n else cs)++[false]:=by
 have h127:∀ c,127≤c → (cs++[false]).getD c false=false:=fun c h=>by
  rw [List.getD_eq_getElem?_getD];by_cases e:c=127
  ·subst e;rw [List.getElem?_append_right ac,hc];rfl
  ·rw [List.getElem?_eq_none (by rw [List.length_append,hc];show 127+1≤c;omega)];rfl
 apply List.ext_getElem
 ·rw [kP,List.length_append];cases nq
  ·show 128=cs.length+1;omega
  ·show 128=(gk cs n).length+1;rw [i7];omega
 intro c h1 h2;have h1':c < 128:=by rw [kP] at h1;exact h1
 have e1:(jC (cs++[false]) nq n)[c]=(jC (cs++[false]) nq n).getD c false:=by rw [List.getD_eq_getElem?_getD,List.getElem?_eq_getElem h1];rfl
 have e2:((if nq then gk cs n else cs)++[false])[c]=((if nq then gk cs n else cs)++[false]).getD c false:=by rw [List.getD_eq_getElem?_getD,List.getElem?_eq_getElem h2];rfl
 rw [e1,e2,wN _ _ _ _ ac];have hn:=rj cs hc c n ac;have hln:(gk cs n).length=127:=by rw [i7,hc]
 by_cases h3:c < 127
 ·have e3:∀ l:List Bool,l.length=127 → (l++[false]).getD c false=l.getD c false:=fun l hl=>by
   rw [List.getD_eq_getElem?_getD,List.getElem?_append_left ac,← List.getD_eq_getElem?_getD]
  rw [e3 cs hc];cases nq
  ·show _=(cs++[false]).getD c false;rw [e3 cs hc];by_cases h4:32≤c
   ·rw [decide_eq_true ac];simp
   ·rw [hl c ac];simp
  ·show _=(gk cs n++[false]).getD c false;rw [e3 _ hln];rw [hn];by_cases h4:32≤c
   ·rw [decide_eq_true ac,if_pos ac];simp
   ·rw [decide_eq_false ac,if_neg ac,hl c ac];rfl
 ·have e5:c=127:=ac;subst e5;rw [decide_eq_false ac];cases nq
  ·show _=(cs++[false]).getD 127 false;rw [h127 127 (Nat.le_refl _)];rfl
  ·show _=(gk cs n++[false]).getD 127 false;have e6:(gk cs n++[false]).getD 127 false=false:=by rw [List.getD_eq_getElem?_getD,List.getElem?_append_right ac,hln];rfl
   rw [e6];rfl
section
attribute [local irreducible] PL QL aL ah bg La aV PA
theorem BG (s p:ByteArray):ah prog 185 [.c (.v (.string s)),.c (.v (.string p))] [] fun r os=>r = .c (.v (.bool (Lib.hasPrefix s.data.toList p.data.toList)))∧os=[] :=
 da [.string s,.string p] _ rfl fun w _=>(strings_HasPrefix s p w).mono fun e w' ⟨he,hw⟩=>by rw [he,hw];exact ⟨rfl,Below.refl _ _⟩
structure KV (X:Prop):Prop where
 out:X
theorem Hr {X Y:Prop} (f:KV X → Y) (x:X):Y:=f ⟨x⟩
end
section
def cw {α:Type} (sz:Nat) (f:α → List D) (asv:List (List α)) (x:E) (m:Nat):List E:=asv.map (fun a=>E.sl sz (a.map f))++x :: List.replicate m .any
section
variable {α:Type} {sz:Nat} {f:α → List D}
theorem rk (asv:List (List α)) (x:E) (m:Nat):(cw sz f asv x m).length=asv.length+(m+1):=by simp [cw]
theorem rl (asv:List (List α)) (x:E) (m:Nat):(cw sz f asv x m)[asv.length]? = some x:=by simp [cw]
theorem EI (asv:List (List α)) (x y:E) (m:Nat):(cw sz f asv x m).set asv.length y=cw sz f asv y m:=by simp [cw]
theorem BH (asv:List (List α)) (x:E) (m:Nat):(cw sz f asv x m).drop asv.length=x :: List.replicate m .any:=by
 unfold cw;rw [List.drop_left' (by simp)]
theorem EJ (asv:List (List α)) (x y:E) (m:Nat):(cw sz f asv x m).take asv.length++y :: (cw sz f asv x m).drop (asv.length+1)=cw sz f asv y m:=by
 unfold cw;rw [List.take_left' (by simp),← List.drop_drop,List.drop_left' (by simp)];rfl
theorem BI (asv:List (List α)) (x:E) (m k:Nat):(cw sz f asv x m).map (E.kill k)=cw sz f asv (x.kill k) m:=by
 simp [cw,E.kill,Function.comp_def]
theorem EK (asv:List (List α)) (x:E) (m k z:Nat) (rows:List (List D)):(cw sz f asv x m).map (E.frz k z rows)=cw sz f asv (x.frz k z rows) m:=by
 simp [cw,E.frz,Function.comp_def]
theorem EL (asv:List (List α)) (cur:List α) (y:E) (m m' k:Nat):((cw sz f asv (.sl sz (cur.map f)) m).take (asv.length+1)).map (E.kill k)++y :: List.replicate m' .any=cw sz f (asv++[cur]) y m':=by
 have e:(cw sz f asv (.sl sz (cur.map f)) m).take (asv.length+1)=asv.map (fun a=>E.sl sz (a.map f))++[.sl sz (cur.map f)]:=by
  unfold cw;rw [show asv.map (fun a=>E.sl sz (a.map f))++E.sl sz (cur.map f) :: List.replicate m .any=(asv.map (fun a=>E.sl sz (a.map f))++[.sl sz (cur.map f)])++List.replicate m .any by simp];exact List.take_left' (by simp)
 rw [e];simp [cw,E.kill,Function.comp_def]
theorem Ht (asv:List (List α)):j7 (asv.map fun a=>E.sl sz (a.map f))=some (asv.map fun a=>D.sl sz (a.map f)):=by
 induction asv with
 | nil=>rfl
 | cons a asv ih=>simp only [List.map_cons,j7,toD,ih]
theorem tL (asv:List (List α)) (cur:List α) (m:Nat):j7 ((cw sz f asv (.sl sz (cur.map f)) m).take (asv.length+1))=some ((asv++[cur]).map fun a=>D.sl sz (a.map f)):=by
 unfold cw;rw [show asv.map (fun a=>E.sl sz (a.map f))++E.sl sz (cur.map f) :: List.replicate m .any=((asv++[cur]).map fun a=>E.sl sz (a.map f))++List.replicate m .any by simp];rw [List.take_left' (by simp),Ht]
theorem wO (x:E):[x]=cw sz f [] x 0:=by simp [cw]
theorem tM (v:Bool) (os:List Ob) (ks:List Nat):∀ (a b:List E),ei v os ks (a++b)=(ei v os ks a).bind fun a'=>(ei v os ks b).map fun b'=>a'++b'
 | [],b=>by simp [ei]
 | x :: a,b=>by
  simp only [List.cons_append,ei,tM v os ks a b];cases ka v os ks x<;>cases ei v os ks a<;>cases ei v os ks b<;>rfl
theorem EM (v:Bool) (os:List Ob) (ks:List Nat) (asv:List (List α)):ei v os ks (asv.map fun a=>E.sl sz (a.map f))=some (asv.map fun a=>E.sl sz (a.map f)):=by
 induction asv with
 | nil=>rfl
 | cons a asv ih=>simp only [List.map_cons,ei,ka,ih]
theorem tN (v:Bool) (os:List Ob) (ks:List Nat):∀ m,ei v os ks (List.replicate m .any)=some (List.replicate m .any)
 | 0=>rfl
 | m+1=>by simp only [List.replicate_succ,ei,ka,tN v os ks m]
theorem EN (v:Bool) (os:List Ob) (ks:List Nat) (asv:List (List α)) (x:E) (m:Nat):ei v os ks (cw sz f asv x m)=(ka v os ks x).map fun y=>cw sz f asv y m:=by
 unfold cw;rw [tM,EM];simp only [ei,tN,Option.bind_some];cases ka v os ks x<;>rfl
theorem Hu (n:Nat) (asv:List (List α)) (x:E) (m:Nat):(cw sz f asv x m).all (kE n)=kE n x:=by
 unfold cw;rw [List.all_append,List.all_cons];have h1:(asv.map fun a=>E.sl sz (a.map f)).all (kE n)=true:=by rw [List.all_eq_true];intro e he;obtain ⟨a,_,rfl⟩:=List.mem_map.1 he;rfl
 have h2:(List.replicate m E.any).all (kE n)=true:=by rw [List.all_eq_true];intro e he;rw [List.mem_replicate] at he;rw [he.2];rfl
 rw [h1,h2];simp
end
attribute [push_cast] Nat.add_zero BH rk rl EI EJ BI EK EN Hu EL
theorem qn (c0 c1:E) (l:List E) (k:Nat) (x:E) (h:k < l.length):(c0 :: c1 :: l).take (2+k)++x :: (c0 :: c1 :: l).drop (2+k+1)=c0 :: c1 :: l.set k x:=by
 rw [show 2+k=k+2 by omega,show k+2+1=(k+1)+2 by omega];simp only [List.take_succ_cons,List.drop_succ_cons,List.cons_append];congr 2;rw [List.set_eq_take_append_cons_drop,if_pos h]
end
end Go.Proofs.YtmbbkfffcflfcaaGreatDoor
