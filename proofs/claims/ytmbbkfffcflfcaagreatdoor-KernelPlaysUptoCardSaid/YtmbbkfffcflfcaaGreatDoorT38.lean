/- What the program computes, and the plain laws of it, part 38. -/
import Derived.Lib.ItoaNum
import Derived.WideKeyEntry
import Derived.Lib.AppendZerosOnto
import Derived.Lib.Overlaps
import Derived.Laws.Externs
import Derived.Laws.IdiomCopy
import Derived.Test.YtmbbkfffcflfcaaGreatDoorT37
namespace Go.Proofs.YtmbbkfffcflfcaaGreatDoor
open Go.Proofs.Tryz
set_option linter.unusedSimpArgs false
set_option linter.unusedVariables false
open Go.RowKit
open IntWalk renaming iteOmega → O, toNatUp → U
section
attribute [local irreducible] PL QL aL ah bg La aV PA bm
set_option maxRecDepth 20000
def loO (k:Ker):List Ob:=[.box 35 [.ptr 1 0],jd 2 3 k,jI k,je k]
attribute [push_cast] loO
theorem xE (k:Ker) (s:ByteArray) (hB:bL k) :
  ah prog 93 [.c (.v (.string s)),.c (.ptr 0 0)] (loO k) fun r os=>r = .c (.v (.bool (!inM s k.loaded)))∧os=loO k:=by
 have hc:=gX k.loaded s (by have:=hB.lod;omega);have htk:=List.take_of_length_le (l:=k.loaded.map aU) (i:=k.loaded.length) (by simp);refine aw func93 ntmps93 results93 ?_;push_cast [O,U];repeat' ((first|(refine aW true [] rfl rfl aj (hc) ?_ ?_ ?_;push_cast [O,U,htk];(intro _ r os;rintro ⟨rfl,rfl⟩;push_cast [O,U,htk]);rintro r os ⟨rfl,rfl⟩;refine an ?_)|refine au ?_|refine pif ?_ ?_<;>intro h<;>try exact pN h)<;>push_cast [O,U,htk])
 exact am [0,1,2,3]
def cS (k:Ker) (q:Dev → Bool) (v:ByteArray) (l:List Dev) (i:Nat):Ker:=k.each q v (l.take i)
theorem lI {k:Ker} {q:Dev → Bool} {v:ByteArray} {l:List Dev} {i:Nat} (hi:i < l.length) (h:q (l.getD i default)=true):cS k q v l (i+1)=((cS k q v l i).drive (l.getD i default) v).1:=by
 unfold cS;rw [tW k q v l hi,if_pos h]
theorem nO {k:Ker} {q:Dev → Bool} {v:ByteArray} {l:List Dev} {i:Nat} (hi:i < l.length) (h:q (l.getD i default)=false):cS k q v l (i+1)=cS k q v l i:=by
 unfold cS;rw [tW k q v l hi,if_neg (by rw [h];simp)]
set_option maxHeartbeats 8000000 in
theorem zp (k:Ker) (n:ByteArray) (hB:bL k) (hf:Fit n) (hn:k.evs.length+300≤1000000) :
  bm 1 prog 54 [.c (.ptr 0 0),.c (.v (.string n))] (bI k) fun r os=>r = .c (.v (.int .i64 ((k.load n).2)))∧os=bI (k.load n).1:=by
 have hm:=lG k n (by have:=hB.modl;omega);have hlod:=hB.lod;have htk:=List.take_of_length_le (l:=k.loaded.map aU) (i:=k.loaded.length) (by simp);have hms:=dM hB n;obtain ⟨X,hX⟩:∃ X,k.load n=X:=⟨_,rfl⟩
 rw [hX];unfold Ker.load at hX;refine cG 1 (by simp [bI]) func54 rfl (by simp [ntmps54]) (by rintro r os ⟨rfl,rfl⟩;simp [bI]) ?_;rw [ntmps54,results54];push_cast [O,U];have cB:aH 9 [47,48,49]:=trivial;cases hmo:aJ k.mods n with
 | none =>
  rw [hmo] at hm hX;simp only [Option.getD_none,Option.isSome_none] at hm;simp only at hX;subst hX;repeat' ((first|refine aK [0,1,2] hm ?_|refine ae ?_|refine pif ?_ ?_<;>intro h<;>try exact pN h)<;>push_cast [O,U])
  exact am [0,1,2]
 | some m =>
  rw [hmo] at hm hX hms;simp only [Option.getD_some,Option.isSome_some] at hm hms;simp only at hX;have hc:=gX k.loaded n ac;have hcf:=cD m.needs ac 93 [0] (loO k) (fun s=>!inM s k.loaded) ⟨aj,fun x _=>xE k x hB⟩;cases h1:inM n k.loaded with
  | true =>
   rw [h1] at hc;rw [if_pos (.inl h1)] at hX;subst hX;repeat' ((first|refine plE [0,1,2] hm ?_ ?_;focus (push_cast [O,U,htk];done)|(refine aW true [] rfl rfl aj (hc) ?_ ?_ ?_;push_cast [O,U,htk];(intro _ r os;rintro ⟨rfl,rfl⟩;push_cast [O,U,htk]);rintro r os ⟨rfl,rfl⟩;refine an ?_)|refine ae ?_|refine pif ?_ ?_<;>intro h<;>try exact pN h)<;>push_cast [O,U,htk])
   exact am [0,1,2]
  | false =>
   rw [h1] at hc;cases h2:m.fails with
   | true =>
    rw [if_pos (.inr (.inl h2))] at hX;subst hX;repeat' ((first|refine plE [0,1,2] hm ?_ ?_;focus (push_cast [O,U,htk,h2];done)|(refine aW true [] rfl rfl aj (hc) ?_ ?_ ?_;push_cast [O,U,htk,h2];(intro _ r os;rintro ⟨rfl,rfl⟩;push_cast [O,U,htk,h2]);rintro r os ⟨rfl,rfl⟩;refine an ?_)|refine ae ?_|refine pif ?_ ?_<;>intro h<;>try exact pN h)<;>push_cast [O,U,htk,h2])
    exact am [0,1,2]
   | false =>
    cases h3:(m.needs.any fun s=>!inM s k.loaded) with
    | true =>
     rw [h3] at hcf;rw [if_pos (.inr (.inr h3))] at hX;subst hX;repeat' ((first|refine plE [0,1,2] hm ?_ ?_;focus (push_cast [O,U,htk,h2];done)|(refine aW true [] rfl rfl aj (hc) ?_ ?_ ?_;push_cast [O,U,htk,h2];(intro _ r os;rintro ⟨rfl,rfl⟩;push_cast [O,U,htk,h2]);rintro r os ⟨rfl,rfl⟩;refine an ?_)|refine plE [3,0,1,2] hcf ?_ ?_;focus (push_cast [O,U,htk,h2];done)|refine ae ?_|refine pif ?_ ?_<;>intro h<;>try exact pN h)<;>push_cast [O,U,htk,h2])
     exact am [0,1,2]
    | false =>
     rw [h3] at hcf;have hno:¬ (inM n k.loaded=true∨m.fails=true∨(m.needs.any fun s=>!inM s k.loaded)=true):=by rw [h1,h2,h3];simp
     rw [if_neg hno] at hX;have hi0:=xB hB.inv hmo h1 h2 h3;have hB0:=hB.withL hi0;have hkt:k.tree.length≤256:=hB.len;have hke:(k.withL (k.loaded++[n])).evs=k.evs:=rfl;obtain ⟨K0,hK0⟩:∃ K0,k.withL (k.loaded++[n])=K0:=⟨_,rfl⟩
     have e1:K0.tree=k.tree:=by rw [← hK0];rfl
     have e2:K0.mods=k.mods:=by rw [← hK0];rfl
     have e3:K0.loaded=k.loaded++[n]:=by rw [← hK0];rfl
     have e4:K0.evs=k.evs:=by rw [← hK0];rfl
     have e5:K0.top=k.top:=by rw [← hK0];rfl
     rw [hK0] at hB0 hX hke;obtain ⟨q,hq⟩:∃ q:Dev → Bool,(fun d=>decide (d.driver=⟨#[]⟩) && dU m d)=q:=⟨_,rfl⟩
     rw [hq] at hX;have hfin:cS K0 q n k.tree k.tree.length=X.1:=by
      unfold cS;rw [List.take_length,← hX]
     have hX2:X.2=0:=by rw [← hX]
     have hs0:cS K0 q n k.tree 0=K0:=rfl;repeat' ((first|refine plE [0,1,2] hm ?_ ?_;focus (push_cast [O,U,htk,h2];done)|(refine aW true [] rfl rfl aj (hc) ?_ ?_ ?_;push_cast [O,U,htk,h2];(intro _ r os;rintro ⟨rfl,rfl⟩;push_cast [O,U,htk,h2]);rintro r os ⟨rfl,rfl⟩;refine an ?_)|refine plE [3,0,1,2] hcf ?_ ?_;focus (push_cast [O,U,htk,h2];done)|(refine av 9 [47,48,49] ?_;apply ak;(focus kernel_rfl);(focus (simp only [aP,Nat.reduceAdd];(repeat' first|((first|refine pah 2 ?_|refine pah 3 ?_|refine pah 5 ?_|refine pah 8 ?_|refine pah 9 ?_);push_cast [O,U,htk,h2])|(refine pad ?_;first|with_reducible exact ao 9 [47,48,49] _|(refine weak_fg ?_;push_cast [O,U,htk,h2]))|((first|refine pas [0] ?_|refine pas [1] ?_|refine pas [4] ?_|refine pas [6] ?_|refine pas [7] ?_|refine pas [10] ?_);push_cast [O,U,htk,h2])|((first|refine pas [0,1] ?_|refine pas [0,4] ?_|refine pas [0,6] ?_|refine pas [0,7] ?_|refine pas [1,6] ?_|refine pas [4,6] ?_);push_cast [O,U,htk,h2];refine ⟨?_,?_⟩)|((first|refine pas [0,1,6] ?_|refine pas [0,4,6] ?_);push_cast [O,U,htk,h2];refine ⟨?_,?_,?_⟩));done));push_cast [O,U,htk,h2])|refine ae ?_|refine pif ?_ ?_<;>intro h<;>try exact pN h)<;>push_cast [O,U,htk,h2])
     (apply ap (α:=Nat) 9 [47,48,49] (fun i=>[(49,.c (.v (.int .i64 i)))]) (fun i=>[(0,jd 1 2 (cS K0 q n k.tree i)),(1,jI (cS K0 q n k.tree i)),(2,je (cS K0 q n k.tree i))]) (fun i=>i≤k.tree.length) (fun i=>k.tree.length - i) (0);(focus ((try push_cast [O,U]);rfl));(focus exact (Nat.zero_le _));(focus ((refine weak_fg ?_;try push_cast [O,U]);(try ((rw [hs0,e1,e2,e3,e4,e5];simp;rfl))))));intro i hi;have hBi:=hB0.each q n (k.tree.take i) (by rw [List.length_take,e4];omega);have hel:=ga q n (k.tree.take i) K0;rw [List.length_take,e4] at hel;obtain ⟨K,hK⟩:∃ K,cS K0 q n k.tree i=K:=⟨_,rfl⟩
     have hKe:K.evs.length≤k.evs.length+256:=by rw [← hK];unfold cS;omega
     have hBK:bL K:=by rw [← hK];exact hBi
     rw [hK];push_cast [O,U];by_cases hlt:i < k.tree.length
     ·have hmem:k.tree.getD i default ∈ k.tree:=by rw [ai _ hlt];exact List.getElem_mem _
      have hyes:=lI (k:=K0) (q:=q) (v:=n) hlt;have hno2:=nO (k:=K0) (q:=q) (v:=n) hlt;rw [hK] at hyes hno2;have hdr:=ji K (k.tree.getD i default) n hBK (hB.ok hmem) (by have:=hB.orig _ hmem;omega) (hB.att _ hmem) hf ac;have hmt:=tZ m (k.tree.getD i default) hms.1 hms.2.2 (by have:=(hB.small hmem).als;omega);have hqd:q (k.tree.getD i default)=(decide ((k.tree.getD i default).driver=⟨#[]⟩) && dU m (k.tree.getD i default)):=by rw [← hq]
      obtain ⟨d,hd⟩:∃ d,k.tree.getD i default=d:=⟨_,rfl⟩
      rw [hd] at hyes hno2 hdr hmt hqd;by_cases hdd:d.driver=⟨#[]⟩
      ·rw [decide_eq_true hdd,Bool.true_and] at hqd;cases hmd:dU m d with
       | true =>
        rw [hmd] at hmt hqd;have hs:=hyes hqd;obtain ⟨K2,hK2⟩:∃ K2,K.drive d n=K2:=⟨_,rfl⟩
        rw [hK2] at hdr hs;repeat' ((first|(refine plE [] hmt ?_ ?_;focus (push_cast [O,U,h2,hd,hdd];done))|(refine eZ 1 [0,1,2] (hdr) ?_ ?_;push_cast [O,U,h2,hd,hdd];rintro r os ⟨rfl,rfl⟩)|refine ae ?_|refine pif ?_ ?_<;>intro h<;>try exact pN h)<;>push_cast [O,U,h2,hd,hdd])
        exact ⟨i+1,ac,by (refine weak_fg ?_;push_cast [O,U,hs]),ac⟩
       | false =>
        rw [hmd] at hmt hqd;have hs:=hno2 hqd;repeat' ((first|(refine plE [] hmt ?_ ?_;focus (push_cast [O,U,h2,hd,hdd];done))|refine ae ?_|refine pif ?_ ?_<;>intro h<;>try exact pN h)<;>push_cast [O,U,h2,hd,hdd])
        exact ⟨i+1,ac,by (refine weak_fg ?_;push_cast [O,U,hs]),ac⟩
      ·rw [decide_eq_false hdd,Bool.false_and] at hqd;have hs:=hno2 hqd;repeat' ((first|refine ae ?_|refine pif ?_ ?_<;>intro h<;>try exact pN h)<;>push_cast [O,U,h2,hd,hdd])
       exact ⟨i+1,ac,by (refine weak_fg ?_;push_cast [O,U,hs]),ac⟩
     ·have hi2:i=k.tree.length:=ac;subst hi2;rw [hfin] at hK;subst hK;repeat' ((first|refine ae ?_|refine pif ?_ ?_<;>intro h<;>try exact pN h)<;>push_cast [O,U])
      (refine K9 [0,1,2] ?_;push_cast [O,U,hX2])
set_option maxRecDepth 20000
set_option maxHeartbeats 8000000 in
theorem vq (k:Ker) (n:ByteArray) (hB:bL k) (hn:k.evs.length+300≤1000000) :
  bm 1 prog 55 [.c (.ptr 0 0),.c (.v (.string n))] (bI k) fun r os=>r = .c (.v (.int .i64 ((k.unload n).2)))∧os=bI (k.unload n).1:=by
 have hm:=lG k n (by have:=hB.modl;omega);have hlod:=hB.lod;have htk:=List.take_of_length_le (l:=k.loaded.map aU) (i:=k.loaded.length) (by simp);have hix:=rn k.loaded n ac;have hnd:=zo k n hB;obtain ⟨X,hX⟩:∃ X,k.unload n=X:=⟨_,rfl⟩
 rw [hX];unfold Ker.unload at hX;refine cG 1 (by simp [bI]) func55 rfl (by simp [ntmps55]) (by rintro r os ⟨rfl,rfl⟩;simp [bI]) ?_;rw [ntmps55,results55];push_cast [O,U];have cB:aH 10 [46,47,48]:=trivial;cases hmo:aJ k.mods n with
 | none =>
  rw [hmo] at hm hX;simp only [Option.getD_none,Option.isSome_none] at hm;simp only at hX;subst hX;repeat' ((first|refine aK [0,1,2] hm ?_|refine ae ?_|refine pif ?_ ?_<;>intro h<;>try exact pN h)<;>push_cast [O,U])
  exact am [0,1,2]
 | some m =>
  rw [hmo] at hm hX;simp only [Option.getD_some,Option.isSome_some] at hm;simp only at hX;repeat' ((first|refine plE [0,1,2] hm ?_ ?_;focus (push_cast [O,U,htk];done)|(refine aW true [] rfl rfl aj (hix) ?_ ?_ ?_;push_cast [O,U,htk];(intro _ r os;rintro ⟨j,hj,rfl,rfl⟩;push_cast [O,U,htk]);rintro r os ⟨j,hj,rfl,rfl⟩;refine an ?_)|refine ae ?_|refine pif ?_ ?_<;>intro h<;>try exact pN h)<;>push_cast [O,U,htk])
  rcases hj with ⟨rfl,hnm⟩|⟨i,rfl,hi,hat⟩
  ·rw [if_pos (.inl (gA.2 hnm))] at hX;subst hX;push_cast [O,U];repeat' ((first|refine ae ?_|refine pif ?_ ?_<;>intro h<;>try exact pN h)<;>push_cast [O,U])
   exact am [0,1,2]
  have hmem:n ∈ k.loaded:=by rw [← hat,ai _ hi];exact List.getElem_mem _
  have hin:=gp.2 hmem;cases h2:k.needed n with
  | true =>
   rw [if_pos (.inr h2)] at hX;rw [h2] at hnd;subst hX;push_cast [O,U];repeat' ((first|refine aK [0,1,2] hnd ?_|refine ae ?_|refine pif ?_ ?_<;>intro h<;>try exact pN h)<;>push_cast [O,U])
   exact am [0,1,2]
  | false =>
   rw [h2] at hnd;rw [if_neg (by rw [hin,h2];simp)] at hX;have hde:=wT k.loaded i hi ac;have hfd:=zm hB.inv.lnd hi hat;have hi0:=sc hB.inv h2;have hB0:=hB.withL hi0;have hkt:k.tree.length≤256:=hB.len;obtain ⟨LD,hLD⟩:∃ LD,(k.loaded.filter fun s=>!decide (s=n))=LD:=⟨_,rfl⟩
   rw [hLD] at hfd hB0 hX;have hll:LD.length=k.loaded.length - 1:=by
    rw [← hfd,List.length_append,List.length_take,List.length_drop];omega
   have htr:List.take (k.loaded.length - 1) (List.map aU (k.loaded.take i++(k.loaded.drop (i+1)++[(⟨#[]⟩:ByteArray)])))=List.map aU LD:=by
    rw [← List.append_assoc,hfd,List.map_append,List.take_left' (by rw [List.length_map,hll])]
   obtain ⟨K0,hK0⟩:∃ K0,k.withL LD=K0:=⟨_,rfl⟩
   have e1:K0.tree=k.tree:=by rw [← hK0];rfl
   have e2:K0.mods=k.mods:=by rw [← hK0];rfl
   have e3:K0.loaded=LD:=by rw [← hK0];rfl
   have e4:K0.evs=k.evs:=by rw [← hK0];rfl
   have e5:K0.top=k.top:=by rw [← hK0];rfl
   rw [hK0] at hB0 hX;obtain ⟨q,hq⟩:∃ q:Dev → Bool,(fun d=>decide (d.driver=n))=q:=⟨_,rfl⟩
   rw [hq] at hX;have hfin:cS K0 q ⟨#[]⟩ k.tree k.tree.length=X.1:=by
    unfold cS;rw [List.take_length,← hX]
   have hX2:X.2=0:=by rw [← hX]
   have hs0:cS K0 q ⟨#[]⟩ k.tree 0=K0:=rfl;obtain ⟨RR,hRR⟩:∃ RR,List.map aU (k.loaded.take i++(k.loaded.drop (i+1)++[(⟨#[]⟩:ByteArray)]))=RR:=⟨_,rfl⟩
   rw [hRR] at hde htr;push_cast [O,U];repeat' ((first|refine aK [0,1,2] hnd ?_|refine ae ?_|refine pif ?_ ?_<;>intro h<;>try exact pN h)<;>push_cast [O,U])
   (refine plE [1] hde ?_ ?_<;>push_cast [O,U]);refine aF (Br 1 (k.loaded.length - 1) rfl) ?_;push_cast [O,U,htr];rw [← hll];(apply ap (α:=Nat) 10 [46,47,48] (fun i=>[(48,.c (.v (.int .i64 i)))]) (fun i=>[(0,jd 1 2 (cS K0 q ⟨#[]⟩ k.tree i)),(1,jI (cS K0 q ⟨#[]⟩ k.tree i)),(2,je (cS K0 q ⟨#[]⟩ k.tree i))]) (fun i=>i≤k.tree.length) (fun i=>k.tree.length - i) (0);(focus ((try push_cast [O,U]);rfl));(focus exact (Nat.zero_le _));(focus ((refine weak_fg ?_;try push_cast [O,U]);(try ((rw [hs0,e1,e2,e3,e4,e5];simp))))));intro i hi;have hBi:=hB0.each q ⟨#[]⟩ (k.tree.take i) (by rw [List.length_take,e4];omega);have hel:=ga q ⟨#[]⟩ (k.tree.take i) K0;rw [List.length_take,e4] at hel;obtain ⟨K,hK⟩:∃ K,cS K0 q ⟨#[]⟩ k.tree i=K:=⟨_,rfl⟩
   have hKe:K.evs.length≤k.evs.length+256:=by rw [← hK];unfold cS;omega
   have hBK:bL K:=by rw [← hK];exact hBi
   rw [hK];push_cast [O,U];by_cases hlt:i < k.tree.length
   ·have hmem:k.tree.getD i default ∈ k.tree:=by rw [ai _ hlt];exact List.getElem_mem _
    have hyes:=lI (k:=K0) (q:=q) (v:=⟨#[]⟩) hlt;have hno2:=nO (k:=K0) (q:=q) (v:=⟨#[]⟩) hlt;rw [hK] at hyes hno2;have hdr:=ji K (k.tree.getD i default) ⟨#[]⟩ hBK (hB.ok hmem) (by have:=hB.orig _ hmem;omega) (hB.att _ hmem) af ac;have hqd:q (k.tree.getD i default)=decide ((k.tree.getD i default).driver=n):=by rw [← hq]
    obtain ⟨d,hd⟩:∃ d,k.tree.getD i default=d:=⟨_,rfl⟩
    rw [hd] at hyes hno2 hdr hqd;by_cases hdd:d.driver=n
    ·rw [decide_eq_true hdd] at hqd;have hs:=hyes hqd;obtain ⟨K2,hK2⟩:∃ K2,K.drive d ⟨#[]⟩=K2:=⟨_,rfl⟩
     rw [hK2] at hdr hs;repeat' ((first|(refine eZ 1 [0,1,2] (hdr) ?_ ?_;push_cast [O,U,hd,hdd];rintro r os ⟨rfl,rfl⟩)|refine ae ?_|refine pif ?_ ?_<;>intro h<;>try exact pN h)<;>push_cast [O,U,hd,hdd])
     exact ⟨i+1,ac,by (refine weak_fg ?_;push_cast [O,U,hs]),ac⟩
    ·rw [decide_eq_false hdd] at hqd;have hs:=hno2 hqd;repeat' ((first|refine ae ?_|refine pif ?_ ?_<;>intro h<;>try exact pN h)<;>push_cast [O,U,hd,hdd])
     exact ⟨i+1,ac,by (refine weak_fg ?_;push_cast [O,U,hs]),ac⟩
   ·have hi2:i=k.tree.length:=ac;subst hi2;rw [hfin] at hK;subst hK;repeat' ((first|refine ae ?_|refine pif ?_ ?_<;>intro h<;>try exact pN h)<;>push_cast [O,U])
    (refine K9 [0,1,2] ?_;push_cast [O,U,hX2])
end
section
theorem uo:∀ (ps:List (List UInt8)) (p:List UInt8),(47:UInt8) ∉ p → (∀ q ∈ ps,(47:UInt8) ∉ q) → spl (p++gn ps)=p :: ps
 | [],p,hp,_=>by rw [show gn []=[] from rfl,List.append_nil,qY hp]
 | q :: ps,p,hp,h=>by
  rw [jF,uT _ hp,uo ps q (h q (by simp)) fun x hx=>h x (by simp [hx])]
theorem pM {ps:List ByteArray} (h0:ps≠[]) (hv:∀ p ∈ ps,validS p=true):dP (fC ps)=some ps:=by
 obtain ⟨p,qs,rfl⟩:∃ p qs,ps=p :: qs:=by cases ps with|nil=>exact absurd rfl h0|cons p qs=>exact ⟨p,qs,rfl⟩
 have hd:(fC (p :: qs)).data.toList=47 :: (p.data.toList++gn (qs.map fun q=>q.data.toList)):=by rw [mh,List.map_cons,jF]
 have hs:jy (fC (p :: qs))=true:=by unfold jy Lib.hasPrefix;rw [hd];simp [List.isPrefixOf]
 have hr:(gm (fC (p :: qs))).data.toList=p.data.toList++gn (qs.map fun q=>q.data.toList):=by
  have:=y4 hs;rw [hd] at this;injection this with _ this
  exact this.symm
 have hp:parts (gm (fC (p :: qs)))=p :: qs:=by
  unfold parts;rw [hr,uo _ _ (pB (hv p (by simp))) fun q hq=>by
   obtain ⟨x,hx,rfl⟩:=List.mem_map.1 hq;exact pB (hv x (by simp [hx]))]
  rw [List.map_cons,List.map_map,EB];congr 1
  conv=>rhs;rw [← List.map_id qs]
  exact List.map_congr_left fun x _=>rfl
 unfold dP;rw [hp,if_pos ⟨hs,List.all_eq_true.2 hv⟩]
theorem pO {l:List Dev} (h:Okt l) {d:Dev} (hd:d ∈ l):dP (aZ l d.index)=some (bj l d.index):=pM (Hw h.p hd) (wW h.val _)
set_option maxRecDepth 20000
theorem FI:(prog.info? 53).map (fun i=>(i.zero,i.size,i.bytes))=some (some (Value.agg #[.int .i64 0,.int .i64 0,.string ByteArray.empty,.string ByteArray.empty,.string ByteArray.empty,.string ByteArray.empty,.string ByteArray.empty,.int .i64 0,.int .i64 0,.slice none 0 0]),10,136):=aj
theorem vr:(prog.info? 53).map (·.size)=some 10:=aj
theorem sP {w:World} {a:Addr} {v:Value} (h:w.cell? a=some v):∃ t k,w.shape? a.block=some (t,k+1):=by
 unfold World.cell? at h;unfold World.shape?
 split at h
 ·rename_i c t fz hh;split at h
  ·cases h
  ·have:=(Array.getElem?_eq_some_iff.1 h).1;exact ⟨t,c.size - 1,by simp only [Option.some.injEq,Prod.mk.injEq,true_and];omega⟩
 ·cases h
theorem nP {P:Program} (w:World) (tS tR e:TypeId) (ht:P.underlying tS=some (.slice e)) (size:Nat) (hz:∀ w,(Go.sizeOf e).run P w = .ok size w)
  (a b:Addr) (la ca lb cb:Nat) (hne:a.block≠b.block) (tA tB:TypeId) (kA kB:Nat)
  (hsa:w.shape? a.block=some (tA,kA+1)) (hsb:w.shape? b.block=some (tB,kB+1)) (hfb:w.frozen? b=false) (hfe:w.frozen? { block:=b.block,off:=kB+1 }=false) :
  (Extern.SlicesOverlaps.overlaps #[tS,tS] #[tR] #[.slice (some a) la ca,.slice (some b) lb cb]).run P w = .ok (.bool false) w:=by
 have hnb:(a.block != b.block)=true:=by simpa using hne
 have hnb':(a.block == b.block)=false:=by simpa using hne
 change Sem.run P (α:=Value) (do
  let some t:=(#[tS,tS]:Array TypeId)[0]? | stuck "slices.overlaps: no parameter types"
  let .slice elem ← underlying t|stuck "slices.overlaps: slice type expected"
  let size ← sizeOf elem
  match (some a:Option Addr),(some b:Option Addr) with
  | some a,some b =>
   if la=0∨lb=0∨size=0 then pure (Value.bool false)
   else if a.block != b.block && (← frozen a) && (← frozen b) then unsupported .addressObserved
   else do
    if a.block != b.block then do
     noView a;noView b
     if ← mayBeOne a b then return Value.bool ((← choose (.extern "sameAddr.stringBytes" 2)) == 1)
    pure (Value.bool (a.block == b.block && a.off < b.off+lb * size && b.off < a.off+la * size))
  | _,_=>pure (Value.bool false)) w=_
 by_cases h0:la=0∨lb=0∨size=0
 ·simp [run_underlying ht,hz,h0]
 ·cases hfa:w.frozen? a<;>cases hfk:w.frozen? { block:=a.block,off:=kA+1 } <;>
   simp [run_underlying ht,hz,h0,hnb,hnb',frozen,noView,viewAt,mayBeOne,stringish,shape,Sem.run,hsa,hsb,hfa,hfb,hfe,hfk]
theorem JF (w:World) (b vb vo bo m vc lb cb:Nat) (cur:Array Value) (v0:Value) (hb:Blk w b 53 cur) (hv:w.cell? ⟨vb,vo,none⟩=some v0) (hne:vb≠b) (h0:0 < cur.size) :
  (callFunc 174 #[.slice (some ⟨vb,vo,none⟩) m vc,.slice (some ⟨b,bo,none⟩) lb cb]).run prog w = .ok (.value (.bool false)) w:=by
 obtain ⟨i,hi,hz,hs,hb'⟩:=info_parts FI;have hz':∀ w,(Go.sizeOf 53).run prog w = .ok 10 w:=fun w=>by simp [sizeOf,typeInfo,hi,hs]
 obtain ⟨tA,kA,e1⟩:=sP hv;have e2:w.shape? b=some (53,cur.size - 1+1):=by unfold World.shape?;rw [hb];simp only [Option.some.injEq,Prod.mk.injEq,true_and];omega
 rw [run_callFunc_extern func174 aj aj aj (e:=Extern.SlicesOverlaps.overlaps #[39,39] #[4]) aj,
  nP w 39 4 53 underlying39 10 hz' ⟨vb,vo,none⟩ ⟨b,bo,none⟩ m vc lb cb hne _ _ _ _ e1 e2 (hb.frozen _) (hb.frozen _)]
 rfl
set_option maxHeartbeats 4000000 in
set_option maxRecDepth 100000 in
theorem FK (w:World) (b vb vo n c vc i:Nat) (cur:Array Value) (vs:List Value) (hb:Blk w b 53 cur) (hv:∀ j v,vs[j]? = some v → w.cell? ⟨vb,vo+j,none⟩=some v) (hvs:vs.length=10) (hvb:vb < w.heap.size) (hne:vb≠b) (hi:i < n) (hn:n+1≤c) (hc:c≤9223372036854775807)
  (hs:cur.size=c * 10) (h1:∀ v ∈ cur.toList.take (n * 10),v.oneCell'=true) (h2:∀ v ∈ vs,v.oneCell'=true) :
  Calls prog 135 #[.slice (some ⟨b,0,none⟩) n c,.int .i64 i,.slice (some ⟨vb,vo,none⟩) 1 vc] w fun e w' =>
   e = .returned (.slice (some ⟨b,0,none⟩) (n+1) c)∧Blk w' b 53 (over (over cur.toList ((i+1) * 10) ((cur.toList.take (n * 10)).drop (i * 10))) (i * 10) vs).toArray∧Ext (· = b) w w':=by
 have hov:=fun lb cb=>JF w b vb vo ((i+1) * 10) 1 vc lb cb cur vs[0] hb (by have:=hv 0 vs[0] (List.getElem?_eq_getElem ac);simpa using this) hne ac
 obtain ⟨cs,hcs⟩:∃ cs,cs=(cur.toList.take (n * 10)).drop (i * 10):=⟨_,rfl⟩
 have hcl:cs.length=(n - i) * 10:=by rw [hcs,List.length_drop,List.length_take,Array.length_toList,hs];omega
 have hsrc:∀ j v,cs[j]? = some v → w.cell? ⟨b,i * 10+j,none⟩=some v:=fun j v h=>by
  rw [hb.cell];rw [hcs,List.getElem?_drop,List.getElem?_take] at h;split at h
  ·rw [Array.getElem?_toList] at h;exact h
  ·cases h
 have h1':∀ v ∈ cs,v.oneCell'=true:=fun v h=>h1 v (by rw [hcs] at h;exact List.mem_of_mem_drop h)
 have hvl:vs.length=1 * 10:=ac;rw [← hcs];have hf1:(i+1) * 10+cs.length≤cur.size:=by rw [hcl,hs,← Nat.add_mul];exact Nat.mul_le_mul_right _ ac
 have hf2:i * 10+vs.length≤(over cur.toList ((i+1) * 10) cs).toArray.size:=by
  have:(i+1) * 10≤c * 10:=Nat.mul_le_mul_right _ ac;simp [over];omega
 have HB:=Lib.hid hb;have HV:=Lib.hid hv;have HS:=Lib.hid hsrc;have H1:=Lib.hid h1';have H2:=Lib.hid h2;have HCL:=Lib.hid hcl;have HVL:=Lib.hid hvl;have HF1:=Lib.hid hf1;have HF2:=Lib.hid hf2;have H10:=Lib.hid hs;clear hb hv hsrc h1' h2 h1 hs hcl hvl hf1 hf2 hcs;have hw1:IntKind.i64.wrap ((i:Int)+1)=(i:Int)+1:=by rw [IntKind.wrap_i64];omega
 have htn:((i:Int)+1).toNat=i+1:=ac;have hb1:(0:Int)≤(i:Int)+1:=ac;have hb3:(i:Int)+1≤(n:Int)+1:=ac;have hb5:(i:Int)≤(n:Int)+1:=ac;have hb2:¬ (c=i+1):=ac;have hb4:¬ (c=i):=ac
 go_enter func135,ntmps135
 go_wp2_with (simp only [hov])
 refine oY 8 aj aj ?_;simp only [List.take_succ_cons,List.take_zero,List.drop_succ_cons,List.drop_zero];repeat still_step
 refine wpStill_nil ?_;refine ft rfl (.tmp 73) (.tmp 76) 39 39 rfl 53 10 underlying39 vr _ _ _ _ _ _ rfl rfl b ((i+1) * 10) (n - i) cur 53 cs HB.out.drew (by simp only [Nat.min_def];split<;>omega) HCL.out (fun _=>rfl)
  (fun _=>⟨b,i * 10,rfl,fun j v h=>HS.out j v h⟩) HF1.out H1.out ?_
 intro w1 hB1 hE1;have hv1:∀ j v,vs[j]? = some v → w1.cell? ⟨vb,vo+j,none⟩=some v:=fun j v h=>by rw [hE1.cell (p:=⟨vb,vo+j,none⟩) hvb hne];exact HV.out j v h
 have HB1:=Lib.hid hB1;have HE1:=Lib.hid hE1;have HV1:=Lib.hid hv1;clear hB1 hE1 hv1;have hm1:1=Nat.min 1 (n+1 - i):=by simp only [Nat.min_def];split<;>omega
 have HM:=Lib.hid hm1;clear hm1
 go_wp2_with (refine ft rfl (.tmp 80) (.tmp 81) 39 39 rfl 53 10 underlying39 vr _ _ _ _ _ _ rfl rfl b (i * 10) 1 _ 53 vs HB1.out HM.out HVL.out (fun _=>rfl) (fun _=>⟨vb,vo,rfl,HV1.out⟩) HF2.out H2.out ?_;intro w2 hB2 hE2;have HB2:=Lib.hid hB2;have HE2:=Lib.hid hE2;clear hB2 hE2)
 go_ret
 exact ⟨rfl,HB2.out,((Ext.refl _ w).drew.trans HE1.out).trans HE2.out⟩
set_option maxHeartbeats 4000000 in
set_option maxRecDepth 100000 in
theorem FM (w:World) (b vb vo n c vc i:Nat) (cur:Array Value) (vs:List Value) (hb:Blk w b 53 cur) (hv:∀ j v,vs[j]? = some v → w.cell? ⟨vb,vo+j,none⟩=some v) (hvs:vs.length=10) (hvb:vb < w.heap.size) (hi:i < n) (hn:n=c) (hc:n≤1000000000)
  (hs:cur.size=c * 10) (h1:∀ v ∈ cur.toList.take (n * 10),v.oneCell'=true) (h2:∀ v ∈ vs,v.oneCell'=true) :
  Calls prog 135 #[.slice (some ⟨b,0,none⟩) n c,.int .i64 i,.slice (some ⟨vb,vo,none⟩) 1 vc] w fun e w'=>∃ G new,
   e = .returned (.slice (some ⟨w.heap.size,0,none⟩) (n+1) G)∧n+1≤G∧G≤maxLen∧new.size=G * 10∧Blk w' w.heap.size 53 new∧new.toList.take ((n+1) * 10)=(cur.toList.take (n * 10)).take (i * 10)++(vs++(cur.toList.take (n * 10)).drop (i * 10))∧Ext No w w':=by
 subst hn;obtain ⟨i0,hi0,hz0,hzs,hzb⟩:=info_parts FI;obtain ⟨cs,hcs⟩:∃ cs,cs=(cur.toList.take (n * 10)).drop (i * 10):=⟨_,rfl⟩
 obtain ⟨hd,hhd⟩:∃ hd,hd=(cur.toList.take (n * 10)).take (i * 10):=⟨_,rfl⟩
 have hcl:cs.length=(n - i) * 10:=by rw [hcs,List.length_drop,List.length_take,Array.length_toList,hs];omega
 have hhl:hd.length=i * 10:=by rw [hhd,List.length_take,List.length_take,Array.length_toList,hs];omega
 have hat:∀ k l j v,((cur.toList.take k).drop l)[j]? = some v → w.cell? ⟨b,l+j,none⟩=some v:=fun k l j v h=>by
  rw [hb.cell];rw [List.getElem?_drop,List.getElem?_take] at h;split at h
  ·rw [Array.getElem?_toList] at h;exact h
  ·cases h
 have hsrc:∀ j v,cs[j]? = some v → w.cell? ⟨b,i * 10+j,none⟩=some v:=fun j v h=>hat _ _ j v (by rw [hcs] at h;exact h)
 have hold:(Builtin.firstCells i0.size i (.slice (some ⟨b,0,none⟩) i n)).run prog w.drew = .ok hd.toArray w.drew:=by
  rw [hzs];refine run_firstCells_some w.drew 10 i ⟨b,0,none⟩ i n hd hhl (fun j v hj=>?_);rw [Addr.add_lit];refine hat (n * 10) 0 j v ?_;rw [hhd,List.getElem?_take] at hj;split at hj
  ·rw [List.drop_zero];exact hj
  ·cases hj
 have hkk:(n:Int)+1 - (i:Int)=((n+1 - i:Nat):Int):=ac;have hik:i+(n+1 - i)=n+1:=ac;have hrz:∀ ty,(Builtin.append_ #[39,3] ty #[.slice (some ⟨b,0,none⟩) i n,.int .i64 ((n:Int)+1 - (i:Int))]).run prog w =
   .ok (.slice (some ⟨w.heap.size,0,none⟩) (n+1) (grownCap w (n+1) n 53)) (w.drew.alloc (.cells (hd.toArray++Builtin.zeroCells (Value.agg #[.int .i64 0,.int .i64 0,.string ByteArray.empty,.string ByteArray.empty,.string ByteArray.empty,.string ByteArray.empty,.string ByteArray.empty,.int .i64 0,.int .i64 0,.slice none 0 0]).cells (n+1 - i)++Builtin.zeroCells (Value.agg #[.int .i64 0,.int .i64 0,.string ByteArray.empty,.string ByteArray.empty,.string ByteArray.empty,.string ByteArray.empty,.string ByteArray.empty,.int .i64 0,.int .i64 0,.slice none 0 0]).cells (grownCap w (n+1) n 53 - (n+1))) 53)):=fun ty=>by
  have h:=Lib.run_append_grow_zeros w 39 3 ty 53 i0 _ .i64 .i64 underlying39 underlying3 hi0 hz0 (some ⟨b,0,none⟩) i n hd hold (n+1 - i) ac (by rw [hzs];decide) ac ac (by rw [hzb];omega) (by rw [hzb,hik];exact growslice_fits ac ac);rw [hik] at h;rw [hkk];exact h
 have hGn:n+1≤grownCap w (n+1) n 53:=grownCap_ge w _ _ _;have hGm:grownCap w (n+1) n 53≤maxLen:=grownCap_le_maxLen w (n+1) n 53 (by unfold maxLen;omega);obtain ⟨G,hG⟩:∃ G,G=grownCap w (n+1) n 53:=⟨_,rfl⟩
 rw [← hG] at hrz hGn hGm;generalize hROW:hd.toArray++Builtin.zeroCells (Value.agg #[.int .i64 0,.int .i64 0,.string ByteArray.empty,.string ByteArray.empty,.string ByteArray.empty,.string ByteArray.empty,.string ByteArray.empty,.int .i64 0,.int .i64 0,.slice none 0 0]).cells (n+1 - i)++Builtin.zeroCells (Value.agg #[.int .i64 0,.int .i64 0,.string ByteArray.empty,.string ByteArray.empty,.string ByteArray.empty,.string ByteArray.empty,.string ByteArray.empty,.int .i64 0,.int .i64 0,.slice none 0 0]).cells (G - (n+1))=ROW at hrz;have hRs:ROW.size=G * 10:=by
  rw [← hROW];simp only [Array.size_append,size_zeroCells,List.size_toArray,hhl];show i * 10+(n+1 - i) * 10+(G - (n+1)) * 10=G * 10;rw [← Nat.add_mul,← Nat.add_mul];congr 1;omega
 have hRt:ROW.toList.take (i * 10)=hd:=by
  rw [← hROW,Array.toList_append,Array.toList_append,List.append_assoc];exact List.take_left' hhl
 have hf1:i * 10+vs.length≤ROW.size:=by
  have:(i+1) * 10≤G * 10:=Nat.mul_le_mul_right _ ac;rw [hRs];omega
 have hvl:vs.length=1 * 10:=ac;have hf2:(i+1) * 10+cs.length≤(over ROW.toList (i * 10) vs).toArray.size:=by
  have:(n+1) * 10≤G * 10:=Nat.mul_le_mul_right _ ac;have e:(i+1) * 10+(n - i) * 10=(n+1) * 10:=by rw [← Nat.add_mul];congr 1;omega
  have hlen:(over ROW.toList (i * 10) vs).length=ROW.size:=by simp [over];omega
  rw [List.size_toArray,hlen,hcl,hRs];omega
 have hfin:(over (over ROW.toList (i * 10) vs) ((i+1) * 10) cs).take ((n+1) * 10)=hd++(vs++cs):=by
  have e1:(over ROW.toList (i * 10) vs).take ((i+1) * 10)=hd++vs:=by
   unfold over;rw [hRt,← List.append_assoc];exact List.take_left' (by rw [List.length_append,hhl,hvl];omega)
  unfold over at e1 ⊢;rw [e1,List.append_assoc,← List.append_assoc,← List.append_assoc];rw [List.append_assoc hd];refine List.take_left' ?_;simp only [List.length_append,hhl,hvl,hcl];have e:(n - i)+(i+1)=n+1:=ac;rw [← e,Nat.add_mul,Nat.add_mul];omega
 have h1':∀ v ∈ cs,v.oneCell'=true:=fun v h=>h1 v (by rw [hcs] at h;exact List.mem_of_mem_drop h)
 have hbN:b < w.heap.size:=hb.lt;have hns:(over (over ROW.toList (i * 10) vs) ((i+1) * 10) cs).toArray.size=G * 10:=by
  have hlen:(over ROW.toList (i * 10) vs).length=ROW.size:=by simp [over];omega
  rw [List.size_toArray] at hf2;rw [List.size_toArray,← hRs,← hlen];generalize over ROW.toList (i * 10) vs=Z at hf2;simp [over];omega
 have hm1:1=Nat.min 1 (n+1 - i):=by simp only [Nat.min_def];split<;>omega
 have hm2:n - i=Nat.min (n - i) (n - i):=by simp only [Nat.min_def];split<;>omega
 have HM1:=Lib.hid hm1;have HM2:=Lib.hid hm2;have HB:=Lib.hid hb;have HV:=Lib.hid hv;have HS:=Lib.hid hsrc;have H1:=Lib.hid h1';have H2:=Lib.hid h2;have HCL:=Lib.hid hcl;have HVL:=Lib.hid hvl;have HF1:=Lib.hid hf1;have HF2:=Lib.hid hf2;have HFN:=Lib.hid hfin;have HNS:=Lib.hid hns;have HRS:=Lib.hid hRs;have HRZ:=Lib.hid hrz;have HGM:=Lib.hid hGm;have HCS:=Lib.hid hcs;have HHD:=Lib.hid hhd;clear hm1 hm2 hb hv hsrc h1' h2 h1 hs hcl hvl hf1 hf2 hfin hns hRs hrz hGm hcs hhd hold hat hG hROW hRt hhl hkk hik hi0 hz0 hzs hzb;have hw1:IntKind.i64.wrap ((i:Int)+1)=(i:Int)+1:=by rw [IntKind.wrap_i64];omega
 have hw2:IntKind.i64.wrap ((n:Int)+1)=(n:Int)+1:=by rw [IntKind.wrap_i64];omega
 have htn:((i:Int)+1).toNat=i+1:=ac;have hb1:(0:Int)≤(i:Int)+1:=ac;have hb3:(i:Int)+1≤(n:Int)+1:=ac;have hb5:(i:Int)≤(n:Int)+1:=ac;have hb7:(i:Int)≤(n:Int):=ac;have hb6:(n:Int) < (n:Int)+1:=ac;have hGi:¬ (G=i):=ac;have hGim:¬ (G=i+1):=ac;have hci:¬ (n=i):=ac
 go_enter func135,ntmps135
 go_wp2_with (first
  | (at_builtin;refine Lib.wpList_append_run _ rfl _ _ _ _ rfl _ _ rfl rfl _ _ (HRZ.out _) ?_)
  | (refine ft rfl (.tmp 43) (.tmp 44) 39 39 rfl 53 10 underlying39 vr _ _ _ _ _ _ rfl rfl w.heap.size (i * 10) 1 ROW 53 vs (Blk.new w 53 ROW).drew HM1.out HVL.out (fun _=>rfl) (fun _=>⟨vb,vo,rfl,fun j v h=>(World.cell?_alloc_past (w:=w) (.cells ROW 53) vb (vo+j) hvb).trans (HV.out j v h)⟩) HF1.out H2.out ?_;intro w2 hB2 hE2;have HB2:=Lib.hid hB2;have HE2:=Lib.hid hE2;clear hB2 hE2))
 refine oY 8 aj aj ?_;simp only [List.take_succ_cons,List.take_zero,List.drop_succ_cons,List.drop_zero];repeat still_step
 refine wpStill_nil ?_;refine ft rfl (.tmp 50) (.tmp 53) 39 39 rfl 53 10 underlying39 vr _ _ _ _ _ _ rfl rfl w.heap.size ((i+1) * 10) (n - i) _ 53 cs HB2.out.drew HM2.out HCL.out (fun _=>rfl)
  (fun _=>⟨b,i * 10,rfl,fun j v h=>by
   have e1:=HE2.out.cell (p:=⟨b,i * 10+j,none⟩) (by simp;omega) (by simp;omega);have e2:=World.cell?_alloc_past (w:=w) (.cells ROW 53) b (i * 10+j) hbN;exact (e1.trans e2).trans (HS.out j v h)⟩) HF2.out H1.out ?_
 intro w3 hB3 hE3
 go_wp2
 go_ret
 refine ⟨G,rfl,hGn,HGM.out,_,HNS.out,hB3,?_,?_⟩
 ·have:=HFN.out;rw [HCS.out,HHD.out] at this;rw [HCS.out];exact this
 ·exact (((Ext.refl No w).alloc _).drew.trans_new HE2.out (fun k hk=>.inr ac)).drew.trans_new hE3 (fun k hk=>.inr ac)
theorem FN (cur vs cs:List Value) (i n:Nat) (hi:i < n) (hn:(n+1) * 10≤cur.length) (hvs:vs.length=10) (hcs:cs.length=(n - i) * 10) :
  (over (over cur ((i+1) * 10) cs) (i * 10) vs).take ((n+1) * 10)=cur.take (i * 10)++(vs++cs)∧(over (over cur ((i+1) * 10) cs) (i * 10) vs).length=cur.length:=by
 have e0:(n - i)+(i+1)=n+1:=ac;have e1:(i+1) * 10+cs.length=(n+1) * 10:=by rw [hcs,← e0,Nat.add_mul (n - i)];omega
 have e2:i * 10+10=(i+1) * 10:=ac;unfold over;rw [hvs,e1,e2];have a1:(cur.take ((i+1) * 10)++(cs++cur.drop ((n+1) * 10))).take (i * 10)=cur.take (i * 10):=by
  rw [List.take_append_of_le_length (by rw [List.length_take];omega),List.take_take,Nat.min_eq_left ac]
 have a2:(cur.take ((i+1) * 10)++(cs++cur.drop ((n+1) * 10))).drop ((i+1) * 10)=cs++cur.drop ((n+1) * 10):=List.drop_left' (by rw [List.length_take];omega);rw [a1,a2];constructor
 ·rw [← List.append_assoc,← List.append_assoc,List.append_assoc (cur.take (i * 10))];exact List.take_left' (by simp only [List.length_append,List.length_take,hvs];omega)
 ·simp only [List.length_append,List.length_take,List.length_drop,hvs];omega
set_option maxHeartbeats 1000000 in
theorem xF (l:List Dev) (x:Dev) (hl:l.length≤1000000) :
  ah prog 135 [.c (.own 0 l.length),.c (.v (.int .i64 ((l.length:Int)))),.c (.sl 10 [Dev.d x])] [.arr 53 10 (l.map Dev.d)] fun r os =>
   (r = .c (.own 0 (l.length+1))∧os=[.arr 53 10 ((l++[x]).map Dev.d)])∨(r = .c (.own 1 (l.length+1))∧os=[.arr 53 10 (l.map Dev.d),.arr 53 10 ((l++[x]).map Dev.d)]):=by
 refine aw func135 ntmps135 results135 ?_;push_cast [O,U];by_cases h0:l.length=0
 ·have h0':=eq_true h0;repeat' ((first|(refine mY (e:=53) (sz:=10) (by':=136) (rows:=l.map Dev.d) (ys:=[Dev.d x]) 0 rfl (by push_cast [O,U,h0',if_true]) (by push_cast [O,U,h0',if_true]) (by push_cast [O,U,h0',if_true]) (by push_cast [O,U,h0',if_true]) ac (by push_cast [O,U,h0',if_true]) (by push_cast [O,U,h0',if_true]) (by push_cast [O,U,h0',if_true]) (by push_cast [O,U,h0',if_true]) (by simp) (by push_cast [O,U,h0',if_true];omega) (by push_cast [O,U,h0',if_true];omega) ?_ ?_<;>(refine an ?_;push_cast [O,U,h0',if_true]))|refine au ?_|refine pif ?_ ?_<;>intro h<;>try exact pN h)<;>push_cast [O,U,h0',if_true])
  all_goals first|(refine K9 [0] ?_;push_cast [O,U];exact ⟨_,_,aE _,aB _,.inl ⟨rfl,rfl⟩⟩)|(refine K9 [0,1] ?_;push_cast [O,U];exact ⟨_,_,aE _,aB _,.inr ⟨rfl,rfl⟩⟩)
 ·have h0':=eq_false h0;repeat' ((first|(refine mY (e:=53) (sz:=10) (by':=136) (rows:=l.map Dev.d) (ys:=[Dev.d x]) 0 rfl (by push_cast [O,U,h0',if_false]) (by push_cast [O,U,h0',if_false]) (by push_cast [O,U,h0',if_false]) (by push_cast [O,U,h0',if_false]) ac (by push_cast [O,U,h0',if_false]) (by push_cast [O,U,h0',if_false]) (by push_cast [O,U,h0',if_false]) (by push_cast [O,U,h0',if_false]) (by simp) (by push_cast [O,U,h0',if_false];omega) (by push_cast [O,U,h0',if_false];omega) ?_ ?_<;>(refine an ?_;push_cast [O,U,h0',if_false]))|refine au ?_|refine pif ?_ ?_<;>intro h<;>try exact pN h)<;>push_cast [O,U,h0',if_false])
  all_goals first|(refine K9 [0] ?_;push_cast [O,U];exact ⟨_,_,aE _,aB _,.inl ⟨rfl,rfl⟩⟩)|(refine K9 [0,1] ?_;push_cast [O,U];exact ⟨_,_,aE _,aB _,.inr ⟨rfl,rfl⟩⟩)
set_option maxHeartbeats 1000000 in
theorem vt (l:List Dev) (x:Dev) (i:Nat) (hi:i≤l.length) (hl:l.length≤1000000) :
  ah prog 135 [.c (.own 0 l.length),.c (.v (.int .i64 i)),.c (.sl 10 [Dev.d x])] [.arr 53 10 (l.map Dev.d)] fun r os =>
   (r = .c (.own 0 (l.length+1))∧os=[.arr 53 10 ((l.take i++x :: l.drop i).map Dev.d)])∨(r = .c (.own 1 (l.length+1))∧os=[.arr 53 10 (l.map Dev.d),.arr 53 10 ((l.take i++x :: l.drop i).map Dev.d)]):=by
 rcases Nat.eq_or_lt_of_le hi with rfl|hi
 ·have:=xF l x hl;rw [List.take_length,List.drop_length];exact this
 unfold ah;intro Γ w xs hm hx;obtain ⟨y,m1,rfl,hy,hx⟩:=ay.cons_l.1 hx;obtain ⟨y2,m2,rfl,hy2,hx⟩:=ay.cons_l.1 hx;obtain ⟨y3,m3,rfl,hy3,hx⟩:=ay.cons_l.1 hx;rw [ay.nil_l] at hx;subst hx;obtain ⟨rfl,_⟩:=hy2;have hy3':RD w Γ.I (.sl 10 [Dev.d x]) y3:=hy3;rw [dB] at hy3';obtain ⟨A,c3,vs,rfl,hc3,⟨hvl,hvat⟩,hr1,hrx⟩:=hy3';obtain ⟨vb,vo,rfl,hIv,hvb,hvc⟩:=hvat (by simp);have hvl':vs.length=10:=by simpa using hvl
 have hrow:∀ r ∈ l.map Dev.d,r.length=10:=fun r hr=>by obtain ⟨z,_,rfl⟩:=List.mem_map.1 hr;rfl
 have hn1:Γ.n=1:=by rw [hm.n];rfl
 have hk:0 < Γ.n:=ac;rcases hy.2 with ⟨_,_,h0⟩|⟨hc,rfl,hle⟩
 ·omega
 obtain ⟨g1,g2,g3,g4⟩:=hm.ob 0 _ rfl;obtain ⟨cur,hb,hs,hle2,hmx,hrd⟩:=g4 hc;rw [List.length_map] at hrd;have hne:vb≠Γ.β 0:=fun e=>hm.off 0 hk hc (e ▸ hIv)
 have h1:=ky hrd;have h2:∀ v ∈ vs,v.oneCell'=true:=ky hrx;have hfl:∀ k,k≤l.length → (l.map Dev.d).flatten.take (k * 10)=((l.take k).map Dev.d).flatten∧(l.map Dev.d).flatten.drop (k * 10)=((l.drop k).map Dev.d).flatten:=fun k hkk=>by
  rw [df hrow (by rw [List.length_map];exact hkk),fM hrow (by rw [List.length_map];exact hkk),List.map_take,List.map_drop];exact ⟨rfl,rfl⟩
 have hins:((l.take i++x :: l.drop i).map Dev.d).flatten=(l.map Dev.d).flatten.take (i * 10)++([Dev.d x].flatten++(l.map Dev.d).flatten.drop (i * 10)):=by
  rw [(hfl i ac).1,(hfl i ac).2];simp [List.flatten_append]
 have hlen:(l.take i++x :: l.drop i).length=l.length+1:=by simp;omega
 have hcz:cur.toList.length=Γ.cap 0 * 10:=by rw [Array.length_toList,hs]
 have hle2':l.length≤Γ.cap 0:=by simpa using hle2
 have hcsl:((cur.toList.take (l.length * 10)).drop (i * 10)).length=(l.length - i) * 10:=by
  have:l.length * 10≤Γ.cap 0 * 10:=Nat.mul_le_mul_right _ hle2';rw [List.length_drop,List.length_take,hcz];omega
 have htt:(cur.toList.take (l.length * 10)).take (i * 10)=cur.toList.take (i * 10):=by rw [List.take_take,Nat.min_eq_left (Nat.mul_le_mul_right _ ac)]
 have hrd2:ay (RD w Γ.I) ((l.take i++x :: l.drop i).map Dev.d).flatten ((cur.toList.take (l.length * 10)).take (i * 10)++(vs++(cur.toList.take (l.length * 10)).drop (i * 10))):=by
  rw [hins];exact (hrd.take _).append (hrx.append (hrd.drop _))
 by_cases hroom:l.length+1≤Γ.cap 0
 ·refine (FK w (Γ.β 0) vb vo l.length (Γ.cap 0) c3 i cur vs hb hvc hvl' hvb hne hi hroom (by simpa [maxLen] using hmx) hs h1 h2).mono ?_;rintro e w' ⟨rfl,hB,hE⟩;have hs':dC w Γ.I w' Γ.I:=⟨hE.size,fun b hb' hl=>hE.block b hl fun e=>hm.off 0 hk hc (e ▸ hb'),fun _ h=>h⟩
  obtain ⟨o1,o2⟩:=FN cur.toList vs ((cur.toList.take (l.length * 10)).drop (i * 10)) i l.length hi (by rw [hcz];exact Nat.mul_le_mul_right _ hroom) hvl' hcsl;have hro:RO w' Γ 0 (.arr 53 10 ((l.take i++x :: l.drop i).map Dev.d)):=by
   refine ⟨fun r hr=>by obtain ⟨z,_,rfl⟩:=List.mem_map.1 hr;rfl,af,fun h=>absurd h ac,fun _=>⟨_,hB,by rw [List.size_toArray,o2,hcz],by rw [List.length_map,hlen];exact hroom,hmx,?_⟩⟩;rw [List.length_map,hlen,o1,← htt];exact hrd2.mono fun d y h=>RD.stay hs' d y h
  exact ⟨_,_,Γ,_,rfl,.inl ⟨rfl,rfl⟩,⟨hk,.inr ⟨hc,rfl,hroom⟩⟩,by simp,(hm.set_ hk hc hE _ hro).1,gJ hk hc hE⟩
 ·refine (FM w (Γ.β 0) vb vo l.length (Γ.cap 0) c3 i cur vs hb hvc hvl' hvb hi ac ac hs h1 h2).mono ?_;rintro e w' ⟨gc,new,rfl,q1,q2,q3,q4,q5,hE⟩;have hS:=bS.of_ext hE;have hst:=hS.stay Γ.I;have hro:RO w' (Γ.push w.heap.size gc) Γ.n (.arr 53 10 ((l.take i++x :: l.drop i).map Dev.d)):=by
   refine ⟨fun r hr=>by obtain ⟨z,_,rfl⟩:=List.mem_map.1 hr;rfl,af,fun h=>?_,fun _=>⟨new,?_,?_,?_,?_,?_⟩⟩
   ·simp only [G.push,ax] at h;omega
   ·simp only [G.push,ax];exact q4
   ·simp only [G.push,ax];exact q3
   ·simp only [G.push,ax,List.length_map,hlen];exact q1
   ·simp only [G.push,ax];exact q2
   ·rw [List.length_map,hlen,q5];exact hrd2.mono fun d y h=>RD.stay hst d y h
  refine ⟨_,_,Γ.push w.heap.size gc,_,rfl,.inr ⟨rfl,rfl⟩,⟨by simp [G.push,hn1],.inr ?_⟩,by simp,hm.push hS _ _ _ hro (fun _=>Nat.le_refl _),cz hm hE _ _ (fun _=>Nat.le_refl _) (by simp [hn1])⟩;simp only [G.push,hn1,ax];exact ⟨ac,trivial,q1⟩
end
end Go.Proofs.YtmbbkfffcflfcaaGreatDoor
