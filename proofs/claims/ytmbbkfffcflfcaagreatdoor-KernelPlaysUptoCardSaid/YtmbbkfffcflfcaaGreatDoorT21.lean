/- What the program computes, and the plain laws of it, part 21. -/
import Derived.Test.YtmbbkfffcflfcaaGreatDoorT16
namespace Go.Proofs.YtmbbkfffcflfcaaGreatDoor
open Nat renaming reduceAdd → rA
open List renaming reduceReplicate → rR
open Go.Proofs.Tryz
set_option linter.unusedSimpArgs false
set_option linter.unusedVariables false
attribute [local irreducible] PL QL aL ah bg La aV PA
open Go.RowKit
open IntWalk renaming iteOmega → O, toNatUp → U
set_option maxRecDepth 20000
def fE (p:ByteArray) (i:Nat) (c:UInt8):Bool:=decide (i < p.size) && (byt p i == c)
theorem EU (p:ByteArray) (i:Nat):jA p i=fE p i 33:=rfl
theorem EV (p:ByteArray) (i:Nat):(p.extract i p.size).data.toList=p.data.toList.drop i:=by
 rw [ByteArray.data_extract,Array.toList_extract,List.extract_eq_take_drop];exact List.take_of_length_le (by rw [List.length_drop];exact Nat.le_refl _)
theorem EW (p:ByteArray) (i:Nat) (c:UInt8):Lib.hasPrefix (p.extract i p.size).data.toList (⟨#[c]⟩:ByteArray).data.toList=fE p i c:=by
 rw [EV];unfold fE byt;by_cases h:i < p.size
 ·have h':i < p.data.toList.length:=h;rw [List.drop_eq_getElem_cons h',decide_eq_true h,Bool.true_and,List.getD_eq_getElem?_getD,List.getElem?_eq_getElem h'];show Lib.hasPrefix (p.data.toList[i] :: p.data.toList.drop (i+1)) [c]=_;have e:∀ (x:UInt8) (l:List UInt8),Lib.hasPrefix (x :: l) [c]=(x == c):=fun x l=>by
   show (c == x && true)=(x == c)
   rw [Bool.and_true];exact Bool.beq_comm
  exact e _ _
 ·have h':p.data.toList.length≤i:=by have:p.data.toList.length=p.size:=rfl;omega
  rw [List.drop_eq_nil_of_le h',decide_eq_false h];show Lib.hasPrefix [] [c]=_;simp [Lib.hasPrefix]
theorem EX (p:ByteArray) (i:Nat) (c:UInt8):ah prog 185 [.c (.v (.string (p.extract i p.size))),.c (.v (.string (⟨#[c]⟩)))] [] fun r os=>r = .c (.v (.bool (fE p i c)))∧os=[]:=by
 have:=BG (p.extract i p.size) ⟨#[c]⟩;rw [EW] at this;exact this
set_option maxRecDepth 20000 in
set_option maxHeartbeats 4000000 in
theorem BP (p:ByteArray) (i:Nat) (hi:i≤p.size) (hp:p.size≤1000000) (hb:∀ k,byt p k≤126) :
  ah prog 148 [.c (.ptr 0 0)] [.box 156 (rdE p i)] fun r os =>
   match bY p i with
   | none=>r = .two (.agg (dn.map aN)) (.c (.v (.bool false)))∧∃ j:Nat,os=[.box 156 (rdE p j)]
   | some q=>r = .two (.agg (q.1.map aN)) (.c (.v (.bool true)))∧os=[.box 156 (rdE p q.2)]:=by
 have he:=rf;have hn0:=EX p i 33;rw [← EU] at hn0;refine aw func148 ntmps148 results148 ?_;push_cast [-rR,O,U];have cB:aH 9 [64,90]:=trivial;cases hnq:jA p i
 case false =>
  rw [hnq] at hn0;obtain ⟨J,hJ⟩:∃ J,setJ p i=J:=⟨_,rfl⟩
  have hiJ:J=i:=by rw [← hJ];unfold setJ;rw [hnq];rfl
  have hJs:J≤p.size:=ac;have hiJ':(i:Int)=(J:Int):=ac;repeat' ((first|(refine aQ false rfl rfl aj (hn0) (fun r os h=>h.1) rfl ?_ ?_;push_cast [-rR,O,U];refine aD ?_;push_cast [-rR,O,U])|refine ae ?_|refine pif ?_ ?_<;>intro h<;>try exact pN h)<;>push_cast [-rR,O,U])
  (apply ap (α:=Nat × List Bool) 9 [64,90] (fun x=>[(6,.c (.v (.int .i64 J)))]) (fun x=>[(0,.box 156 (rdE p x.1)),(2,.box 160 (x.2.map aN))]) (fun x=>J≤x.1∧x.1≤p.size∧x.2.length=127∧aT p J dn=aT p x.1 x.2∧(J < x.1 → byt p J≠93)) (fun x=>p.size - x.1) ((J,dn));(focus ((try push_cast [-rR,O,U]);rfl));(focus exact ⟨ac,hJs,rfl,rfl,fun h=>absurd h (by simp)⟩);(focus ((refine weak_fg ?_;try push_cast [-rR,O,U]);(try (exact ⟨hiJ',hiJ',bT _⟩)))));rintro ⟨j,cs⟩ ⟨h1,h2,h3,h4,h5⟩;simp only at h1 h2 h3 h4 h5 ⊢;push_cast [-rR,O,U];have hpj:=EX p j 93;by_cases hjJ:j=J
  case pos =>
   have hcJ:((j:Int)=(J:Int))=True:=eq_true ac;by_cases h93:byt p j=93
   case pos =>
    have hR:bY p i=none:=by unfold bY;rw [hJ,if_pos (.inr (hjJ ▸ h93))]
    by_cases hs:p.size≤j
    ·have e:byt p j=0:=by unfold byt;rw [List.getD_eq_getElem?_getD,List.getElem?_eq_none hs];rfl
     rw [e] at h93;cases h93
    have hp1:fE p j 93=true:=by unfold fE;rw [decide_eq_true ac,h93];rfl
    rw [hp1] at hpj;repeat' ((first|(refine av 9 [64,90] ?_;apply ak;(focus kernel_rfl);(focus (simp only [aP,rA];(repeat' first|(refine plE [] hpj ?_ ?_<;>push_cast [-rR,O,U,hcJ])|((first|refine pah 0 ?_|refine pah 1 ?_|refine pah 2 ?_|refine pah 4 ?_|refine pah 5 ?_|refine pah 6 ?_|refine pah 8 ?_|refine pah 10 ?_|refine pah 11 ?_|refine pah 13 ?_|refine pah 14 ?_);push_cast [-rR,O,U,hcJ])|(refine pad ?_;first|with_reducible exact ao 9 [64,90] _|(refine weak_fg ?_;push_cast [-rR,O,U,hcJ]))|((first|refine pas [3] ?_|refine pas [7] ?_|refine pas [9] ?_|refine pas [12] ?_);push_cast [-rR,O,U,hcJ])|((first|refine pas [3,7] ?_);push_cast [-rR,O,U,hcJ];refine ⟨?_,?_⟩));done));push_cast [-rR,O,U,hcJ])|(refine aQ false rfl rfl aj (hpj) (fun r os h=>h.1) rfl ?_ ?_;push_cast [-rR,O,U,hcJ];refine aD ?_;push_cast [-rR,O,U,hcJ])|refine ae ?_|refine pif ?_ ?_<;>intro h<;>try exact pN h)<;>push_cast [-rR,O,U,hcJ])
    (refine K9 [0] ?_;push_cast [-rR,O,U,hR]);exact ⟨_,_,aE _,aB _,by rw [di],_,rfl⟩
   by_cases hs:p.size≤j
   case pos =>
    have hp0:fE p j 93=false:=by unfold fE;rw [decide_eq_false ac];rfl
    have hR:bY p i=none:=by
     unfold bY;rw [hJ];by_cases hq:p.size≤J∨byt p J=93
     ·rw [if_pos hq]
     ·rw [if_neg hq,h4,aT,dif_pos hs]
    rw [hp0] at hpj;have hm:=iw p j cs ac hp;repeat' ((first|(refine av 9 [64,90] ?_;apply ak;(focus kernel_rfl);(focus (simp only [aP,rA];(repeat' first|(refine plE [] hpj ?_ ?_;(focus (push_cast [-rR,O,U,hcJ];done));push_cast [-rR,O,U,hcJ])|(refine plE [0,2] hm ?_ ?_;(focus (push_cast [-rR,O,U,hcJ];done));push_cast [-rR,O,U,hcJ])|((first|refine pah 0 ?_|refine pah 1 ?_|refine pah 2 ?_|refine pah 4 ?_|refine pah 5 ?_|refine pah 6 ?_|refine pah 8 ?_|refine pah 10 ?_|refine pah 11 ?_|refine pah 13 ?_|refine pah 14 ?_);push_cast [-rR,O,U,hcJ])|(refine pad ?_;first|with_reducible exact ao 9 [64,90] _|(refine weak_fg ?_;push_cast [-rR,O,U,hcJ]))|((first|refine pas [3] ?_|refine pas [7] ?_|refine pas [9] ?_|refine pas [12] ?_);push_cast [-rR,O,U,hcJ])|((first|refine pas [3,7] ?_);push_cast [-rR,O,U,hcJ];refine ⟨?_,?_⟩));done));push_cast [-rR,O,U,hcJ])|(refine aQ false rfl rfl aj (hpj) (fun r os h=>h.1) rfl ?_ ?_;push_cast [-rR,O,U,hcJ];refine aD ?_;push_cast [-rR,O,U,hcJ])|refine ae ?_|refine pif ?_ ?_<;>intro h<;>try exact pN h)<;>push_cast [-rR,O,U,hcJ])
    (refine K9 [0] ?_;push_cast [-rR,O,U,hR]);exact ⟨_,_,aE _,aB _,by rw [di],_,rfl⟩
   have hp0:fE p j 93=false:=by unfold fE;rw [beq_eq_false_iff_ne.2 h93,Bool.and_false]
   rw [hp0] at hpj;have hm:=iy p j cs ac hp h3 hb;have hml:=f8 p j;have hmz:=nf (p:=p) (i:=j) ac;by_cases hle:byt p j≤dq p j
   case neg =>
    rw [decide_eq_false hle] at hm;have hR:bY p i=none:=by
     unfold bY;rw [hJ];by_cases hq:p.size≤J∨byt p J=93
     ·rw [if_pos hq]
     ·rw [if_neg hq,h4,aT,dif_neg hs,if_neg h93,if_neg hle]
    repeat' ((first|(refine av 9 [64,90] ?_;apply ak;(focus kernel_rfl);(focus (simp only [aP,rA];(repeat' first|(refine plE [] hpj ?_ ?_;(focus (push_cast [-rR,O,U,hcJ];done));push_cast [-rR,O,U,hcJ])|(refine plE [0,2] hm ?_ ?_;(focus (push_cast [-rR,O,U,hcJ];done));push_cast [-rR,O,U,hcJ])|((first|refine pah 0 ?_|refine pah 1 ?_|refine pah 2 ?_|refine pah 4 ?_|refine pah 5 ?_|refine pah 6 ?_|refine pah 8 ?_|refine pah 10 ?_|refine pah 11 ?_|refine pah 13 ?_|refine pah 14 ?_);push_cast [-rR,O,U,hcJ])|(refine pad ?_;first|with_reducible exact ao 9 [64,90] _|(refine weak_fg ?_;push_cast [-rR,O,U,hcJ]))|((first|refine pas [3] ?_|refine pas [7] ?_|refine pas [9] ?_|refine pas [12] ?_);push_cast [-rR,O,U,hcJ])|((first|refine pas [3,7] ?_);push_cast [-rR,O,U,hcJ];refine ⟨?_,?_⟩));done));push_cast [-rR,O,U,hcJ])|(refine aQ false rfl rfl aj (hpj) (fun r os h=>h.1) rfl ?_ ?_;push_cast [-rR,O,U,hcJ];refine aD ?_;push_cast [-rR,O,U,hcJ])|refine ae ?_|refine pif ?_ ?_<;>intro h<;>try exact pN h)<;>push_cast [-rR,O,U,hcJ])
    (refine K9 [0] ?_;push_cast [-rR,O,U,hR]);exact ⟨_,_,aE _,aB _,by rw [di],_,rfl⟩
   have hstep:aT p j cs=aT p (cH p j) (eR p j cs):=by rw [aT,dif_neg hs,if_neg h93,if_pos hle]
   rw [decide_eq_true hle] at hm;repeat' ((first|(refine av 9 [64,90] ?_;apply ak;(focus kernel_rfl);(focus (simp only [aP,rA];(repeat' first|(refine plE [] hpj ?_ ?_;(focus (push_cast [-rR,O,U,hcJ];done));push_cast [-rR,O,U,hcJ])|(refine plE [0,2] hm ?_ ?_;(focus (push_cast [-rR,O,U,hcJ];done));push_cast [-rR,O,U,hcJ])|((first|refine pah 0 ?_|refine pah 1 ?_|refine pah 2 ?_|refine pah 4 ?_|refine pah 5 ?_|refine pah 6 ?_|refine pah 8 ?_|refine pah 10 ?_|refine pah 11 ?_|refine pah 13 ?_|refine pah 14 ?_);push_cast [-rR,O,U,hcJ])|(refine pad ?_;first|with_reducible exact ao 9 [64,90] _|(refine weak_fg ?_;push_cast [-rR,O,U,hcJ]))|((first|refine pas [3] ?_|refine pas [7] ?_|refine pas [9] ?_|refine pas [12] ?_);push_cast [-rR,O,U,hcJ])|((first|refine pas [3,7] ?_);push_cast [-rR,O,U,hcJ];refine ⟨?_,?_⟩));done));push_cast [-rR,O,U,hcJ])|(refine aQ false rfl rfl aj (hpj) (fun r os h=>h.1) rfl ?_ ?_;push_cast [-rR,O,U,hcJ];refine aD ?_;push_cast [-rR,O,U,hcJ])|refine ae ?_|refine pif ?_ ?_<;>intro h<;>try exact pN h)<;>push_cast [-rR,O,U,hcJ])
   exact ⟨(cH p j,eR p j cs),⟨by simp only;omega,hmz,by simp only;rw [i6,h3],by simp only;rw [h4,hstep],fun _=>by rw [← hjJ];exact h93⟩,by (refine weak_fg ?_;push_cast [-rR,O,U]),by simp only;omega⟩
  have hcJ:((j:Int)=(J:Int))=False:=eq_false ac;have h5':=h5 ac;by_cases h93:byt p j=93
  case pos =>
   by_cases hs:p.size≤j
   ·have e:byt p j=0:=by unfold byt;rw [List.getD_eq_getElem?_getD,List.getElem?_eq_none hs];rfl
    rw [e] at h93;cases h93
   have hp1:fE p j 93=true:=by unfold fE;rw [decide_eq_true ac,h93];rfl
   rw [hp1] at hpj;have hR:bY p i=some (if jA p i then q8 cs else cs,j+1):=by
    unfold bY;rw [hJ,if_neg (by rintro (h|h);omega;exact h5' h),h4,aT,dif_neg hs,if_pos h93]
   rw [hnq] at hR;have hct:List.take 127 (cs.map aN)=cs.map aN:=List.take_of_length_le (by rw [List.length_map,h3];exact Nat.le_refl _);have hel:=bZ;repeat' ((first|(refine aQ false rfl rfl aj (hpj) (fun r os h=>h.1) rfl ?_ ?_;push_cast [-rR,O,U,hcJ,hel];refine aD ?_;push_cast [-rR,O,U,hcJ,hel])|refine plE [] he ?_ ?_|refine ae ?_|refine pif ?_ ?_<;>intro h<;>try exact pN h)<;>push_cast [-rR,O,U,hcJ,hel])
   (refine K9 [0] ?_;push_cast [-rR,O,U,hR,hct])
  by_cases hs:p.size≤j
  case pos =>
   have hp0:fE p j 93=false:=by unfold fE;rw [decide_eq_false ac];rfl
   have hR:bY p i=none:=by
    unfold bY;rw [hJ];by_cases hq:p.size≤J∨byt p J=93
    ·rw [if_pos hq]
    ·rw [if_neg hq,h4,aT,dif_pos hs]
   rw [hp0] at hpj;have hm:=iw p j cs ac hp;repeat' ((first|(refine av 9 [64,90] ?_;apply ak;(focus kernel_rfl);(focus (simp only [aP,rA];(repeat' first|(refine plE [] hpj ?_ ?_;(focus (push_cast [-rR,O,U,hcJ];done));push_cast [-rR,O,U,hcJ])|(refine plE [0,2] hm ?_ ?_;(focus (push_cast [-rR,O,U,hcJ];done));push_cast [-rR,O,U,hcJ])|((first|refine pah 0 ?_|refine pah 1 ?_|refine pah 2 ?_|refine pah 4 ?_|refine pah 5 ?_|refine pah 6 ?_|refine pah 8 ?_|refine pah 10 ?_|refine pah 11 ?_|refine pah 13 ?_|refine pah 14 ?_);push_cast [-rR,O,U,hcJ])|(refine pad ?_;first|with_reducible exact ao 9 [64,90] _|(refine weak_fg ?_;push_cast [-rR,O,U,hcJ]))|((first|refine pas [3] ?_|refine pas [7] ?_|refine pas [9] ?_|refine pas [12] ?_);push_cast [-rR,O,U,hcJ])|((first|refine pas [3,7] ?_);push_cast [-rR,O,U,hcJ];refine ⟨?_,?_⟩));done));push_cast [-rR,O,U,hcJ])|(refine aQ false rfl rfl aj (hpj) (fun r os h=>h.1) rfl ?_ ?_;push_cast [-rR,O,U,hcJ];refine aD ?_;push_cast [-rR,O,U,hcJ])|refine ae ?_|refine pif ?_ ?_<;>intro h<;>try exact pN h)<;>push_cast [-rR,O,U,hcJ])
   (refine K9 [0] ?_;push_cast [-rR,O,U,hR]);exact ⟨_,_,aE _,aB _,by rw [di],_,rfl⟩
  have hp0:fE p j 93=false:=by unfold fE;rw [beq_eq_false_iff_ne.2 h93,Bool.and_false]
  rw [hp0] at hpj;have hm:=iy p j cs ac hp h3 hb;have hml:=f8 p j;have hmz:=nf (p:=p) (i:=j) ac;by_cases hle:byt p j≤dq p j
  case neg =>
   rw [decide_eq_false hle] at hm;have hR:bY p i=none:=by
    unfold bY;rw [hJ];by_cases hq:p.size≤J∨byt p J=93
    ·rw [if_pos hq]
    ·rw [if_neg hq,h4,aT,dif_neg hs,if_neg h93,if_neg hle]
   repeat' ((first|(refine av 9 [64,90] ?_;apply ak;(focus kernel_rfl);(focus (simp only [aP,rA];(repeat' first|(refine plE [] hpj ?_ ?_;(focus (push_cast [-rR,O,U,hcJ];done));push_cast [-rR,O,U,hcJ])|(refine plE [0,2] hm ?_ ?_;(focus (push_cast [-rR,O,U,hcJ];done));push_cast [-rR,O,U,hcJ])|((first|refine pah 0 ?_|refine pah 1 ?_|refine pah 2 ?_|refine pah 4 ?_|refine pah 5 ?_|refine pah 6 ?_|refine pah 8 ?_|refine pah 10 ?_|refine pah 11 ?_|refine pah 13 ?_|refine pah 14 ?_);push_cast [-rR,O,U,hcJ])|(refine pad ?_;first|with_reducible exact ao 9 [64,90] _|(refine weak_fg ?_;push_cast [-rR,O,U,hcJ]))|((first|refine pas [3] ?_|refine pas [7] ?_|refine pas [9] ?_|refine pas [12] ?_);push_cast [-rR,O,U,hcJ])|((first|refine pas [3,7] ?_);push_cast [-rR,O,U,hcJ];refine ⟨?_,?_⟩));done));push_cast [-rR,O,U,hcJ])|(refine aQ false rfl rfl aj (hpj) (fun r os h=>h.1) rfl ?_ ?_;push_cast [-rR,O,U,hcJ];refine aD ?_;push_cast [-rR,O,U,hcJ])|refine ae ?_|refine pif ?_ ?_<;>intro h<;>try exact pN h)<;>push_cast [-rR,O,U,hcJ])
   (refine K9 [0] ?_;push_cast [-rR,O,U,hR]);exact ⟨_,_,aE _,aB _,by rw [di],_,rfl⟩
  have hstep:aT p j cs=aT p (cH p j) (eR p j cs):=by rw [aT,dif_neg hs,if_neg h93,if_pos hle]
  rw [decide_eq_true hle] at hm;repeat' ((first|(refine av 9 [64,90] ?_;apply ak;(focus kernel_rfl);(focus (simp only [aP,rA];(repeat' first|(refine plE [] hpj ?_ ?_;(focus (push_cast [-rR,O,U,hcJ];done));push_cast [-rR,O,U,hcJ])|(refine plE [0,2] hm ?_ ?_;(focus (push_cast [-rR,O,U,hcJ];done));push_cast [-rR,O,U,hcJ])|((first|refine pah 0 ?_|refine pah 1 ?_|refine pah 2 ?_|refine pah 4 ?_|refine pah 5 ?_|refine pah 6 ?_|refine pah 8 ?_|refine pah 10 ?_|refine pah 11 ?_|refine pah 13 ?_|refine pah 14 ?_);push_cast [-rR,O,U,hcJ])|(refine pad ?_;first|with_reducible exact ao 9 [64,90] _|(refine weak_fg ?_;push_cast [-rR,O,U,hcJ]))|((first|refine pas [3] ?_|refine pas [7] ?_|refine pas [9] ?_|refine pas [12] ?_);push_cast [-rR,O,U,hcJ])|((first|refine pas [3,7] ?_);push_cast [-rR,O,U,hcJ];refine ⟨?_,?_⟩));done));push_cast [-rR,O,U,hcJ])|(refine aQ false rfl rfl aj (hpj) (fun r os h=>h.1) rfl ?_ ?_;push_cast [-rR,O,U,hcJ];refine aD ?_;push_cast [-rR,O,U,hcJ])|refine ae ?_|refine pif ?_ ?_<;>intro h<;>try exact pN h)<;>push_cast [-rR,O,U,hcJ])
  exact ⟨(cH p j,eR p j cs),⟨by simp only;omega,hmz,by simp only;rw [i6,h3],by simp only;rw [h4,hstep],fun _=>by exact h5'⟩,by (refine weak_fg ?_;push_cast [-rR,O,U]),by simp only;omega⟩
 have hji:i < p.size:=by
  unfold jA at hnq;rw [Bool.and_eq_true,decide_eq_true_eq] at hnq;exact hnq.1
 obtain ⟨J,hJ⟩:∃ J,setJ p i=J:=⟨_,rfl⟩
 have hiJ:J=i+1:=by rw [← hJ];unfold setJ;rw [hnq];rfl
 have hJs:J≤p.size:=ac;have hiJ':(i:Int)+1=(J:Int):=ac;rw [hnq] at hn0;repeat' ((first|(refine aQ false rfl rfl aj (hn0) (fun r os h=>h.1) rfl ?_ ?_;push_cast [-rR,O,U];refine aD ?_;push_cast [-rR,O,U])|refine ae ?_|refine pif ?_ ?_<;>intro h<;>try exact pN h)<;>push_cast [-rR,O,U])
 (apply ap (α:=Nat × List Bool) 9 [64,90] (fun x=>[(6,.c (.v (.int .i64 J)))]) (fun x=>[(0,.box 156 (rdE p x.1)),(2,.box 160 (x.2.map aN))]) (fun x=>J≤x.1∧x.1≤p.size∧x.2.length=127∧aT p J dn=aT p x.1 x.2∧(J < x.1 → byt p J≠93)) (fun x=>p.size - x.1) ((J,dn));(focus ((try push_cast [-rR,O,U]);rfl));(focus exact ⟨ac,hJs,rfl,rfl,fun h=>absurd h (by simp)⟩);(focus ((refine weak_fg ?_;try push_cast [-rR,O,U]);(try (exact ⟨hiJ',hiJ',bT _⟩)))));rintro ⟨j,cs⟩ ⟨h1,h2,h3,h4,h5⟩;simp only at h1 h2 h3 h4 h5 ⊢;push_cast [-rR,O,U];have hpj:=EX p j 93;by_cases hjJ:j=J
 case pos =>
  have hcJ:((j:Int)=(J:Int))=True:=eq_true ac;by_cases h93:byt p j=93
  case pos =>
   have hR:bY p i=none:=by unfold bY;rw [hJ,if_pos (.inr (hjJ ▸ h93))]
   by_cases hs:p.size≤j
   ·have e:byt p j=0:=by unfold byt;rw [List.getD_eq_getElem?_getD,List.getElem?_eq_none hs];rfl
    rw [e] at h93;cases h93
   have hp1:fE p j 93=true:=by unfold fE;rw [decide_eq_true ac,h93];rfl
   rw [hp1] at hpj;repeat' ((first|(refine av 9 [64,90] ?_;apply ak;(focus kernel_rfl);(focus (simp only [aP,rA];(repeat' first|(refine plE [] hpj ?_ ?_<;>push_cast [-rR,O,U,hcJ])|((first|refine pah 0 ?_|refine pah 1 ?_|refine pah 2 ?_|refine pah 4 ?_|refine pah 5 ?_|refine pah 6 ?_|refine pah 8 ?_|refine pah 10 ?_|refine pah 11 ?_|refine pah 13 ?_|refine pah 14 ?_);push_cast [-rR,O,U,hcJ])|(refine pad ?_;first|with_reducible exact ao 9 [64,90] _|(refine weak_fg ?_;push_cast [-rR,O,U,hcJ]))|((first|refine pas [3] ?_|refine pas [7] ?_|refine pas [9] ?_|refine pas [12] ?_);push_cast [-rR,O,U,hcJ])|((first|refine pas [3,7] ?_);push_cast [-rR,O,U,hcJ];refine ⟨?_,?_⟩));done));push_cast [-rR,O,U,hcJ])|(refine aQ false rfl rfl aj (hpj) (fun r os h=>h.1) rfl ?_ ?_;push_cast [-rR,O,U,hcJ];refine aD ?_;push_cast [-rR,O,U,hcJ])|refine ae ?_|refine pif ?_ ?_<;>intro h<;>try exact pN h)<;>push_cast [-rR,O,U,hcJ])
   (refine K9 [0] ?_;push_cast [-rR,O,U,hR]);exact ⟨_,_,aE _,aB _,by rw [di],_,rfl⟩
  by_cases hs:p.size≤j
  case pos =>
   have hp0:fE p j 93=false:=by unfold fE;rw [decide_eq_false ac];rfl
   have hR:bY p i=none:=by
    unfold bY;rw [hJ];by_cases hq:p.size≤J∨byt p J=93
    ·rw [if_pos hq]
    ·rw [if_neg hq,h4,aT,dif_pos hs]
   rw [hp0] at hpj;have hm:=iw p j cs ac hp;repeat' ((first|(refine av 9 [64,90] ?_;apply ak;(focus kernel_rfl);(focus (simp only [aP,rA];(repeat' first|(refine plE [] hpj ?_ ?_;(focus (push_cast [-rR,O,U,hcJ];done));push_cast [-rR,O,U,hcJ])|(refine plE [0,2] hm ?_ ?_;(focus (push_cast [-rR,O,U,hcJ];done));push_cast [-rR,O,U,hcJ])|((first|refine pah 0 ?_|refine pah 1 ?_|refine pah 2 ?_|refine pah 4 ?_|refine pah 5 ?_|refine pah 6 ?_|refine pah 8 ?_|refine pah 10 ?_|refine pah 11 ?_|refine pah 13 ?_|refine pah 14 ?_);push_cast [-rR,O,U,hcJ])|(refine pad ?_;first|with_reducible exact ao 9 [64,90] _|(refine weak_fg ?_;push_cast [-rR,O,U,hcJ]))|((first|refine pas [3] ?_|refine pas [7] ?_|refine pas [9] ?_|refine pas [12] ?_);push_cast [-rR,O,U,hcJ])|((first|refine pas [3,7] ?_);push_cast [-rR,O,U,hcJ];refine ⟨?_,?_⟩));done));push_cast [-rR,O,U,hcJ])|(refine aQ false rfl rfl aj (hpj) (fun r os h=>h.1) rfl ?_ ?_;push_cast [-rR,O,U,hcJ];refine aD ?_;push_cast [-rR,O,U,hcJ])|refine ae ?_|refine pif ?_ ?_<;>intro h<;>try exact pN h)<;>push_cast [-rR,O,U,hcJ])
   (refine K9 [0] ?_;push_cast [-rR,O,U,hR]);exact ⟨_,_,aE _,aB _,by rw [di],_,rfl⟩
  have hp0:fE p j 93=false:=by unfold fE;rw [beq_eq_false_iff_ne.2 h93,Bool.and_false]
  rw [hp0] at hpj;have hm:=iy p j cs ac hp h3 hb;have hml:=f8 p j;have hmz:=nf (p:=p) (i:=j) ac;by_cases hle:byt p j≤dq p j
  case neg =>
   rw [decide_eq_false hle] at hm;have hR:bY p i=none:=by
    unfold bY;rw [hJ];by_cases hq:p.size≤J∨byt p J=93
    ·rw [if_pos hq]
    ·rw [if_neg hq,h4,aT,dif_neg hs,if_neg h93,if_neg hle]
   repeat' ((first|(refine av 9 [64,90] ?_;apply ak;(focus kernel_rfl);(focus (simp only [aP,rA];(repeat' first|(refine plE [] hpj ?_ ?_;(focus (push_cast [-rR,O,U,hcJ];done));push_cast [-rR,O,U,hcJ])|(refine plE [0,2] hm ?_ ?_;(focus (push_cast [-rR,O,U,hcJ];done));push_cast [-rR,O,U,hcJ])|((first|refine pah 0 ?_|refine pah 1 ?_|refine pah 2 ?_|refine pah 4 ?_|refine pah 5 ?_|refine pah 6 ?_|refine pah 8 ?_|refine pah 10 ?_|refine pah 11 ?_|refine pah 13 ?_|refine pah 14 ?_);push_cast [-rR,O,U,hcJ])|(refine pad ?_;first|with_reducible exact ao 9 [64,90] _|(refine weak_fg ?_;push_cast [-rR,O,U,hcJ]))|((first|refine pas [3] ?_|refine pas [7] ?_|refine pas [9] ?_|refine pas [12] ?_);push_cast [-rR,O,U,hcJ])|((first|refine pas [3,7] ?_);push_cast [-rR,O,U,hcJ];refine ⟨?_,?_⟩));done));push_cast [-rR,O,U,hcJ])|(refine aQ false rfl rfl aj (hpj) (fun r os h=>h.1) rfl ?_ ?_;push_cast [-rR,O,U,hcJ];refine aD ?_;push_cast [-rR,O,U,hcJ])|refine ae ?_|refine pif ?_ ?_<;>intro h<;>try exact pN h)<;>push_cast [-rR,O,U,hcJ])
   (refine K9 [0] ?_;push_cast [-rR,O,U,hR]);exact ⟨_,_,aE _,aB _,by rw [di],_,rfl⟩
  have hstep:aT p j cs=aT p (cH p j) (eR p j cs):=by rw [aT,dif_neg hs,if_neg h93,if_pos hle]
  rw [decide_eq_true hle] at hm;repeat' ((first|(refine av 9 [64,90] ?_;apply ak;(focus kernel_rfl);(focus (simp only [aP,rA];(repeat' first|(refine plE [] hpj ?_ ?_;(focus (push_cast [-rR,O,U,hcJ];done));push_cast [-rR,O,U,hcJ])|(refine plE [0,2] hm ?_ ?_;(focus (push_cast [-rR,O,U,hcJ];done));push_cast [-rR,O,U,hcJ])|((first|refine pah 0 ?_|refine pah 1 ?_|refine pah 2 ?_|refine pah 4 ?_|refine pah 5 ?_|refine pah 6 ?_|refine pah 8 ?_|refine pah 10 ?_|refine pah 11 ?_|refine pah 13 ?_|refine pah 14 ?_);push_cast [-rR,O,U,hcJ])|(refine pad ?_;first|with_reducible exact ao 9 [64,90] _|(refine weak_fg ?_;push_cast [-rR,O,U,hcJ]))|((first|refine pas [3] ?_|refine pas [7] ?_|refine pas [9] ?_|refine pas [12] ?_);push_cast [-rR,O,U,hcJ])|((first|refine pas [3,7] ?_);push_cast [-rR,O,U,hcJ];refine ⟨?_,?_⟩));done));push_cast [-rR,O,U,hcJ])|(refine aQ false rfl rfl aj (hpj) (fun r os h=>h.1) rfl ?_ ?_;push_cast [-rR,O,U,hcJ];refine aD ?_;push_cast [-rR,O,U,hcJ])|refine ae ?_|refine pif ?_ ?_<;>intro h<;>try exact pN h)<;>push_cast [-rR,O,U,hcJ])
  exact ⟨(cH p j,eR p j cs),⟨by simp only;omega,hmz,by simp only;rw [i6,h3],by simp only;rw [h4,hstep],fun _=>by rw [← hjJ];exact h93⟩,by (refine weak_fg ?_;push_cast [-rR,O,U]),by simp only;omega⟩
 have hcJ:((j:Int)=(J:Int))=False:=eq_false ac;have h5':=h5 ac;by_cases h93:byt p j=93
 case pos =>
  by_cases hs:p.size≤j
  ·have e:byt p j=0:=by unfold byt;rw [List.getD_eq_getElem?_getD,List.getElem?_eq_none hs];rfl
   rw [e] at h93;cases h93
  have hp1:fE p j 93=true:=by unfold fE;rw [decide_eq_true ac,h93];rfl
  rw [hp1] at hpj;have hR:bY p i=some (if jA p i then q8 cs else cs,j+1):=by
   unfold bY;rw [hJ,if_neg (by rintro (h|h);omega;exact h5' h),h4,aT,dif_neg hs,if_pos h93]
  rw [hnq] at hR;have hct:List.take 127 (cs.map aN)=cs.map aN:=List.take_of_length_le (by rw [List.length_map,h3];exact Nat.le_refl _);have hel:=bZ;repeat' ((first|(refine aQ false rfl rfl aj (hpj) (fun r os h=>h.1) rfl ?_ ?_;push_cast [-rR,O,U,hcJ,hel];refine aD ?_;push_cast [-rR,O,U,hcJ,hel])|refine plE [] he ?_ ?_|refine ae ?_|refine pif ?_ ?_<;>intro h<;>try exact pN h)<;>push_cast [-rR,O,U,hcJ,hel])
  (apply ap (α:=Nat) 9 [64,90] (fun k=>[(7,.c (.v (.int .i64 (32+k))))]) (fun k=>[(2,.box 160 ((gk cs k).map aN))]) (fun k=>k≤95) (fun k=>95 - k) (0);(focus ((try push_cast [-rR,O,U]);rfl));(focus exact ac);(focus ((refine weak_fg ?_;try push_cast [-rR,O,U]);(try (exact bT _)))));intro k hk;push_cast [-rR,O,U];have hlen:(gk cs k).length=127:=by rw [i7,h3]
  by_cases hlt:k < 95
  ·have hev:=q9 hlt;have hd1:=jB fA (32+k) (by rw [hel];omega);have hd2:=jB (gk cs k) (32+k) (by rw [hlen];omega);rw [hev] at hd1;repeat' ((first|refine ae ?_|refine pif ?_ ?_<;>intro h<;>try exact pN h)<;>push_cast [-rR,O,U,hlen,hel,hd1,hd2])
   have hs2:(List.map aN (gk cs k)).set (32+k) (.v (.bool (!(gk cs k).getD (32+k) false)))=(gk cs (k+1)).map aN:=by rw [gk,hev,Bool.true_and,List.map_set]
   have hk3:(32+(k:Int)+1)=32+((k:Int)+1):=ac;refine ⟨k+1,ac,?_,ac⟩;(refine gz true [0,1,2,4] ?_;push_cast [-rR,O,U,hs2,hk3])
  ·have hk2:k=95:=ac;subst hk2;have hct:List.take 127 ((gk cs 95).map aN)=(q8 cs).map aN:=List.take_of_length_le (by rw [List.length_map,hlen];exact Nat.le_refl _);repeat' ((first|refine ae ?_|refine pif ?_ ?_<;>intro h<;>try exact pN h)<;>push_cast [-rR,O,U,hlen])
   (refine K9 [0] ?_;push_cast [-rR,O,U,hR,hct])
 by_cases hs:p.size≤j
 case pos =>
  have hp0:fE p j 93=false:=by unfold fE;rw [decide_eq_false ac];rfl
  have hR:bY p i=none:=by
   unfold bY;rw [hJ];by_cases hq:p.size≤J∨byt p J=93
   ·rw [if_pos hq]
   ·rw [if_neg hq,h4,aT,dif_pos hs]
  rw [hp0] at hpj;have hm:=iw p j cs ac hp;repeat' ((first|(refine av 9 [64,90] ?_;apply ak;(focus kernel_rfl);(focus (simp only [aP,rA];(repeat' first|(refine plE [] hpj ?_ ?_;(focus (push_cast [-rR,O,U,hcJ];done));push_cast [-rR,O,U,hcJ])|(refine plE [0,2] hm ?_ ?_;(focus (push_cast [-rR,O,U,hcJ];done));push_cast [-rR,O,U,hcJ])|((first|refine pah 0 ?_|refine pah 1 ?_|refine pah 2 ?_|refine pah 4 ?_|refine pah 5 ?_|refine pah 6 ?_|refine pah 8 ?_|refine pah 10 ?_|refine pah 11 ?_|refine pah 13 ?_|refine pah 14 ?_);push_cast [-rR,O,U,hcJ])|(refine pad ?_;first|with_reducible exact ao 9 [64,90] _|(refine weak_fg ?_;push_cast [-rR,O,U,hcJ]))|((first|refine pas [3] ?_|refine pas [7] ?_|refine pas [9] ?_|refine pas [12] ?_);push_cast [-rR,O,U,hcJ])|((first|refine pas [3,7] ?_);push_cast [-rR,O,U,hcJ];refine ⟨?_,?_⟩));done));push_cast [-rR,O,U,hcJ])|(refine aQ false rfl rfl aj (hpj) (fun r os h=>h.1) rfl ?_ ?_;push_cast [-rR,O,U,hcJ];refine aD ?_;push_cast [-rR,O,U,hcJ])|refine ae ?_|refine pif ?_ ?_<;>intro h<;>try exact pN h)<;>push_cast [-rR,O,U,hcJ])
  (refine K9 [0] ?_;push_cast [-rR,O,U,hR]);exact ⟨_,_,aE _,aB _,by rw [di],_,rfl⟩
 have hp0:fE p j 93=false:=by unfold fE;rw [beq_eq_false_iff_ne.2 h93,Bool.and_false]
 rw [hp0] at hpj;have hm:=iy p j cs ac hp h3 hb;have hml:=f8 p j;have hmz:=nf (p:=p) (i:=j) ac;by_cases hle:byt p j≤dq p j
 case neg =>
  rw [decide_eq_false hle] at hm;have hR:bY p i=none:=by
   unfold bY;rw [hJ];by_cases hq:p.size≤J∨byt p J=93
   ·rw [if_pos hq]
   ·rw [if_neg hq,h4,aT,dif_neg hs,if_neg h93,if_neg hle]
  repeat' ((first|(refine av 9 [64,90] ?_;apply ak;(focus kernel_rfl);(focus (simp only [aP,rA];(repeat' first|(refine plE [] hpj ?_ ?_;(focus (push_cast [-rR,O,U,hcJ];done));push_cast [-rR,O,U,hcJ])|(refine plE [0,2] hm ?_ ?_;(focus (push_cast [-rR,O,U,hcJ];done));push_cast [-rR,O,U,hcJ])|((first|refine pah 0 ?_|refine pah 1 ?_|refine pah 2 ?_|refine pah 4 ?_|refine pah 5 ?_|refine pah 6 ?_|refine pah 8 ?_|refine pah 10 ?_|refine pah 11 ?_|refine pah 13 ?_|refine pah 14 ?_);push_cast [-rR,O,U,hcJ])|(refine pad ?_;first|with_reducible exact ao 9 [64,90] _|(refine weak_fg ?_;push_cast [-rR,O,U,hcJ]))|((first|refine pas [3] ?_|refine pas [7] ?_|refine pas [9] ?_|refine pas [12] ?_);push_cast [-rR,O,U,hcJ])|((first|refine pas [3,7] ?_);push_cast [-rR,O,U,hcJ];refine ⟨?_,?_⟩));done));push_cast [-rR,O,U,hcJ])|(refine aQ false rfl rfl aj (hpj) (fun r os h=>h.1) rfl ?_ ?_;push_cast [-rR,O,U,hcJ];refine aD ?_;push_cast [-rR,O,U,hcJ])|refine ae ?_|refine pif ?_ ?_<;>intro h<;>try exact pN h)<;>push_cast [-rR,O,U,hcJ])
  (refine K9 [0] ?_;push_cast [-rR,O,U,hR]);exact ⟨_,_,aE _,aB _,by rw [di],_,rfl⟩
 have hstep:aT p j cs=aT p (cH p j) (eR p j cs):=by rw [aT,dif_neg hs,if_neg h93,if_pos hle]
 rw [decide_eq_true hle] at hm;repeat' ((first|(refine av 9 [64,90] ?_;apply ak;(focus kernel_rfl);(focus (simp only [aP,rA];(repeat' first|(refine plE [] hpj ?_ ?_;(focus (push_cast [-rR,O,U,hcJ];done));push_cast [-rR,O,U,hcJ])|(refine plE [0,2] hm ?_ ?_;(focus (push_cast [-rR,O,U,hcJ];done));push_cast [-rR,O,U,hcJ])|((first|refine pah 0 ?_|refine pah 1 ?_|refine pah 2 ?_|refine pah 4 ?_|refine pah 5 ?_|refine pah 6 ?_|refine pah 8 ?_|refine pah 10 ?_|refine pah 11 ?_|refine pah 13 ?_|refine pah 14 ?_);push_cast [-rR,O,U,hcJ])|(refine pad ?_;first|with_reducible exact ao 9 [64,90] _|(refine weak_fg ?_;push_cast [-rR,O,U,hcJ]))|((first|refine pas [3] ?_|refine pas [7] ?_|refine pas [9] ?_|refine pas [12] ?_);push_cast [-rR,O,U,hcJ])|((first|refine pas [3,7] ?_);push_cast [-rR,O,U,hcJ];refine ⟨?_,?_⟩));done));push_cast [-rR,O,U,hcJ])|(refine aQ false rfl rfl aj (hpj) (fun r os h=>h.1) rfl ?_ ?_;push_cast [-rR,O,U,hcJ];refine aD ?_;push_cast [-rR,O,U,hcJ])|refine ae ?_|refine pif ?_ ?_<;>intro h<;>try exact pN h)<;>push_cast [-rR,O,U,hcJ])
 exact ⟨(cH p j,eR p j cs),⟨by simp only;omega,hmz,by simp only;rw [i6,h3],by simp only;rw [h4,hstep],fun _=>by exact h5'⟩,by (refine weak_fg ?_;push_cast [-rR,O,U]),by simp only;omega⟩
set_option maxRecDepth 20000
set_option maxHeartbeats 1000000 in
theorem ou (s:ByteArray) (hs:s.size≤9223372036854775807):ah prog 105 [.c (.v (.string s))] [] fun r os=>r = .c (.v (.bool (fJ s)))∧os=[]:=by
 refine aw func105 ntmps105 results105 ?_;push_cast [O,U];have cB:aH 7 []:=trivial;repeat' ((first|refine ae ?_|refine pif ?_ ?_<;>intro h<;>try exact pN h)<;>push_cast [O,U])
 (apply ap (α:=Nat) 7 [] (fun k=>[(6,.c (.v (.int .i64 k)))]) (fun k=>[]) (fun k=>k≤s.size∧(s.data.toList.take k).all bR=true) (fun k=>s.size - k) (0);(focus ((try push_cast [O,U]);rfl));(focus exact ⟨ac,rfl⟩);(focus ((refine weak_fg ?_;try push_cast [O,U]))));rintro k ⟨hk,ha⟩;push_cast [O,U];by_cases hlt:k < s.size
 ·by_cases h1:((s.data.toList.getD k 0).toNat:Int) < 32
  ·have e:=lx hlt (p:=bR) (by unfold bR;rw [decide_eq_false ac];rfl);repeat' ((first|refine ae ?_|refine pif ?_ ?_<;>intro h<;>try exact pN h)<;>push_cast [O,U,h1])
   (refine K9 [] ?_;push_cast [O,U]);rw [fJ,e];rfl
  ·by_cases h2:(126:Int) < ((s.data.toList.getD k 0).toNat:Int)
   ·have e:=lx hlt (p:=bR) (by unfold bR;rw [decide_eq_false (p:=(s.data.toList.getD k 0).toNat≤126) ac,Bool.and_false]);repeat' ((first|refine ae ?_|refine pif ?_ ?_<;>intro h<;>try exact pN h)<;>push_cast [O,U,h1,h2])
    (refine K9 [] ?_;push_cast [O,U]);rw [fJ,e];rfl
   ·have e:=nc hlt ha (by unfold bR;rw [decide_eq_true ac,decide_eq_true ac];rfl);repeat' ((first|refine ae ?_|refine pif ?_ ?_<;>intro h<;>try exact pN h)<;>push_cast [O,U,h1,h2])
    exact ⟨k+1,⟨ac,e⟩,aA,ac⟩
 ·have hk2:k=s.size:=ac;subst hk2;have he:s.data.toList.take s.size=s.data.toList:=List.take_of_length_le (Nat.le_refl _);rw [he] at ha;have hd:decide ((s.size:Int)≤256)=decide (s.size≤256):=decide_eq_decide.2 ac;repeat' ((first|refine ae ?_|refine pif ?_ ?_<;>intro h<;>try exact pN h)<;>push_cast [O,U])
  (refine K9 [] ?_;push_cast [O,U]);rw [fJ,ha,Bool.true_and,← hd]
end Go.Proofs.YtmbbkfffcflfcaaGreatDoor
