/- What the program computes, and the plain laws of it, part 44. -/
import Derived.Lib.ItoaNum
import Derived.WideKeyEntry
import Derived.Test.YtmbbkfffcflfcaaGreatDoorT43
namespace Go.Proofs.YtmbbkfffcflfcaaGreatDoor
open Nat renaming reduceAdd → rA
open Go.Proofs.Tryz
set_option linter.unusedSimpArgs false
set_option linter.unusedVariables false
attribute [local irreducible] PL QL aL ah bg La aV PA
open Go.RowKit
open IntWalk renaming iteOmega → O, toNatUp → U
set_option maxRecDepth 20000
def j0 (k:Ker) (n:ByteArray) (j:Nat):List ByteArray:=(k.loaded.take j).filter fun s=>!decide (s=n)
theorem C7 {k:Ker} {n:ByteArray} {j:Nat} (hj:j < k.loaded.length) (h:¬ k.loaded.getD j default=n):j0 k n (j+1)=j0 k n j++[k.loaded.getD j default]:=by
 unfold j0;rw [List.take_succ_eq_append_getElem hj,List.filter_append];rw [ai _ hj] at h ⊢;simp [h]
theorem F6 {k:Ker} {n:ByteArray} {j:Nat} (hj:j < k.loaded.length) (h:k.loaded.getD j default=n):j0 k n (j+1)=j0 k n j:=by
 unfold j0;rw [List.take_succ_eq_append_getElem hj,List.filter_append];rw [ai _ hj] at h;simp [h]
theorem C9 (k:Ker) (n:ByteArray) (j:Nat):(j0 k n j).length≤j:=by
 unfold j0;have h1:=List.length_filter_le (fun s:ByteArray=>!decide (s=n)) (k.loaded.take j);rw [List.length_take] at h1;omega
set_option maxHeartbeats 16000000 in
theorem zE (k:Ker) (op:Opr) (hB:bL k) (ho:eA op) (hn:k.evs.length+300≤1000000) (h8:op.kind=8) :
  ah prog 151 [.agg k.re,.agg op.e] [] fun r os=>r = .two (.agg (k.load op.value).1.re) (.c (.v (.int .i64 ((k.load op.value).2))))∧os=[]:=by
 have hm:=iu k.mods op.value (by have:=hB.modl;omega);have hlod:=hB.lod;have hms:=dM hB op.value;obtain ⟨X,hX⟩:∃ X,k.load op.value=X:=⟨_,rfl⟩
 rw [hX];unfold Ker.load at hX;refine aw func151 ntmps151 results151 ?_;push_cast [O,U];have cB:aH 18 []:=trivial;cases hmo:aJ k.mods op.value with
 | none =>
  rw [hmo] at hm hX;simp only [Option.getD_none,Option.isSome_none] at hm;simp only at hX;subst hX;repeat' ((first|refine aK [] hm ?_|refine ae ?_|refine pif ?_ ?_<;>intro h<;>try exact pN h)<;>push_cast [O,U])
  exact am []
 | some m =>
  rw [hmo] at hm hX hms;simp only [Option.getD_some,Option.isSome_some] at hm hms;simp only at hX;have hmn:=(ez hmo).2;have hin:=uO k.loaded m.name ac;rw [hmn] at hin;cases h1:inM op.value k.loaded with
  | true =>
   rw [h1] at hin;rw [if_pos (.inl h1)] at hX;subst hX;repeat' ((first|(refine plE [] hm ?_ ?_;focus (push_cast [O,U,h8,hmn];done))|(refine plE [] hin ?_ ?_;focus (push_cast [O,U,h8,hmn];done))|refine ae ?_|refine pif ?_ ?_<;>intro h<;>try exact pN h)<;>push_cast [O,U,h8,hmn])
   exact am []
  | false =>
   rw [h1] at hin;cases h2:m.fails with
   | true =>
    rw [if_pos (.inr (.inl h2))] at hX;subst hX;repeat' ((first|(refine plE [] hm ?_ ?_;focus (push_cast [O,U,h8,hmn,h2];done))|(refine plE [] hin ?_ ?_;focus (push_cast [O,U,h8,hmn,h2];done))|refine ae ?_|refine pif ?_ ?_<;>intro h<;>try exact pN h)<;>push_cast [O,U,h8,hmn,h2])
    exact am []
   | false =>
    repeat' ((first|(refine plE [] hm ?_ ?_;focus (push_cast [O,U,h8,hmn,h2];done))|(refine plE [] hin ?_ ?_;focus (push_cast [O,U,h8,hmn,h2];done))|refine ae ?_|refine pif ?_ ?_<;>intro h<;>try exact pN h)<;>push_cast [O,U,h8,hmn,h2])
    (apply ap (α:=Nat) 18 [] (fun i=>[(8,.c (.v (.int .i64 i)))]) (fun i=>[]) (fun i=>i≤m.needs.length∧(m.needs.take i).any (fun s=>!inM s k.loaded)=false) (fun i=>m.needs.length - i) (0);(focus ((try push_cast [O,U]);rfl));(focus exact ⟨Nat.zero_le _,rfl⟩);(focus ((refine weak_fg ?_;try push_cast [O,U]))));rintro i ⟨hi,hpre⟩;push_cast [O,U];by_cases hlt:i < m.needs.length
    ·have hin2:=uO k.loaded (m.needs.getD i default) ac;cases hb:inM (m.needs.getD i default) k.loaded with
     | true =>
      rw [hb] at hin2;have hst:=jb (p:=fun s=>!inM s k.loaded) hlt hpre (by simp only [hb,Bool.not_true]);repeat' ((first|(refine aQ false rfl rfl aj (hin2) (fun r os h=>h.1) rfl ?_ ?_;push_cast [O,U,h8];refine aD ?_;push_cast [O,U,h8])|refine ae ?_|refine pif ?_ ?_<;>intro h<;>try exact pN h)<;>push_cast [O,U,h8])
      exact ⟨i+1,⟨ac,hst⟩,aA,ac⟩
     | false =>
      rw [hb] at hin2;have hst:=ja (p:=fun s=>!inM s k.loaded) hlt (by simp only [hb,Bool.not_false]);rw [if_pos (.inr (.inr hst))] at hX;subst hX;repeat' ((first|(refine aQ false rfl rfl aj (hin2) (fun r os h=>h.1) rfl ?_ ?_;push_cast [O,U,h8];refine aD ?_;push_cast [O,U,h8])|refine ae ?_|refine pif ?_ ?_<;>intro h<;>try exact pN h)<;>push_cast [O,U,h8])
      exact am []
    ·have h3:(m.needs.any fun s=>!inM s k.loaded)=false:=by rw [List.take_of_length_le ac] at hpre;exact hpre
     have hno:¬ (inM op.value k.loaded=true∨m.fails=true∨(m.needs.any fun s=>!inM s k.loaded)=true):=by rw [h1,h2,h3];simp
     rw [if_neg hno] at hX;have hi0:=xB hB.inv hmo h1 h2 h3;have hB0:=hB.withL hi0;have hkt:k.tree.length≤256:=hB.len;have hvn:validS op.value=true:=by rw [← hmn];exact hB.inv.mods m (ez hmo).1
     obtain ⟨K0,hK0⟩:∃ K0,k.withL (k.loaded++[op.value])=K0:=⟨_,rfl⟩
     have e1:K0.tree=k.tree:=by rw [← hK0];rfl
     have e2:K0.mods=k.mods:=by rw [← hK0];rfl
     have e3:K0.loaded=k.loaded++[op.value]:=by rw [← hK0];rfl
     have e4:K0.evs=k.evs:=by rw [← hK0];rfl
     have e5:K0.top=k.top:=by rw [← hK0];rfl
     rw [hK0] at hB0 hX;obtain ⟨q,hq⟩:∃ q:Dev → Bool,(fun d=>decide (d.driver=⟨#[]⟩) && dU m d)=q:=⟨_,rfl⟩
     rw [hq] at hX;have hfin:cS K0 q op.value k.tree k.tree.length=X.1:=by
      unfold cS;rw [List.take_length,← hX]
     have hX2:X.2=0:=by rw [← hX]
     have hs0:cS K0 q op.value k.tree 0=K0:=rfl;repeat' ((first|(refine eQ 12 ?_)|refine ae ?_|refine pif ?_ ?_<;>intro h<;>try exact pN h)<;>push_cast [O,U,h8,hmn])
     refine dd ?_;(refine av 18 [] ?_;refine aO aj ?_;simp only [aP,rA];refine pah 0 ?_;push_cast [O,U,  h8,hmn];refine pah 3 ?_;push_cast [O,U,  h8,hmn];apply ar;intro z10;apply ar;intro z9;apply ar;intro z8;apply ar;intro z6;apply ar;intro z7;apply ar;intro z3;apply ar;intro z4;apply ar;intro z5;apply ar;intro z1;apply ar;intro z2;refine pas [1,4] ?_;push_cast [O,U,  h8,hmn];refine ⟨z1,z2⟩;refine pas [1,5] ?_;push_cast [O,U,  h8,hmn];refine ⟨z4,z5⟩;refine pas [2,4] ?_;push_cast [O,U,  h8,hmn];refine ⟨z3,paw z4 ?_⟩<;>(refine weak_fg ?_;push_cast [O,U,  h8,hmn]);refine pas [1] ?_;push_cast [O,U,  h8,hmn];refine z7;refine pas [2,5] ?_;push_cast [O,U,  h8,hmn];refine ⟨z6,paw z7 ?_⟩<;>(refine weak_fg ?_;push_cast [O,U,  h8,hmn]);refine pas [4] ?_;push_cast [O,U,  h8,hmn];refine paw z6 ?_<;>(refine weak_fg ?_;push_cast [O,U,  h8,hmn]);refine pas [2] ?_;push_cast [O,U,  h8,hmn];refine z8;refine pas [5] ?_;push_cast [O,U,  h8,hmn];refine paw z8 ?_<;>(refine weak_fg ?_;push_cast [O,U,  h8,hmn]);refine pas [6] ?_;push_cast [O,U,  h8,hmn];(focus (refine pah 7 ?_;push_cast [O,U,  h8,hmn];exact z9));refine pas [8] ?_;push_cast [O,U,  h8,hmn];refine paw z10 (ao 18 [] _);push_cast [O,U,  h8,hmn];refine pad ?_;push_cast [O,U,  h8,hmn]);refine aF (bQ 4 (Nat.zero_le _)) ?_;push_cast [O,U];(apply ap (α:=Nat) 18 [] (fun i=>[(10,.c (.v (.int .i64 i)))]) (fun i=>[(0,.box 44 (cS K0 q op.value k.tree i).re)]) (fun i=>i≤k.tree.length) (fun i=>k.tree.length - i) (0);(focus ((try push_cast [O,U]);rfl));(focus exact (Nat.zero_le _));(focus ((refine weak_fg ?_;try push_cast [O,U]);(try ((rw [hs0,e1,e2,e3,e4,e5];simp;rfl))))));intro i hi;have hBi:=hB0.each q op.value (k.tree.take i) (by rw [List.length_take,e4];omega);have hel:=ga q op.value (k.tree.take i) K0;rw [List.length_take,e4] at hel;obtain ⟨K,hK⟩:∃ K,cS K0 q op.value k.tree i=K:=⟨_,rfl⟩
     have hKe:K.evs.length≤k.evs.length+256:=by rw [← hK];unfold cS;omega
     have hBK:bL K:=by rw [← hK];exact hBi
     have hce:i < k.tree.length → aR K.tree (dS (k.tree.getD i default) op.value)=0:=fun hl=>by
      have:=tV hB0.inv q (.inr hvn) (i:=i) (by rw [e1];exact hl);rw [e1] at this;rw [← hK];exact this
     rw [hK];push_cast [O,U];by_cases hlt:i < k.tree.length
     ·have hmem:k.tree.getD i default ∈ k.tree:=by rw [ai _ hlt];exact List.getElem_mem _
      have hyes:=lI (k:=K0) (q:=q) (v:=op.value) hlt;have hno2:=nO (k:=K0) (q:=q) (v:=op.value) hlt;rw [hK] at hyes hno2;have hdr:=ia K (k.tree.getD i default) op.value hBK (hB.ok hmem) (by have:=hB.orig _ hmem;omega) ho.value ac (hce hlt);have hmt:=ru m (k.tree.getD i default).alias_ hms.1 hms.2.2 (by have:=(hB.small hmem).als;omega);rw [AN] at hmt;have hqd:q (k.tree.getD i default)=(decide ((k.tree.getD i default).driver=⟨#[]⟩) && dU m (k.tree.getD i default)):=by rw [← hq]
      obtain ⟨d,hd⟩:∃ d,k.tree.getD i default=d:=⟨_,rfl⟩
      rw [hd] at hyes hno2 hdr hmt hqd;by_cases hdd:d.driver=⟨#[]⟩
      ·rw [decide_eq_true hdd,Bool.true_and] at hqd;cases hmd:dU m d with
       | true =>
        rw [hmd] at hmt hqd;have hs:=hyes hqd;obtain ⟨K2,hK2⟩:∃ K2,(K.drive d op.value).1=K2:=⟨_,rfl⟩
        rw [hK2] at hdr hs;repeat' ((first|(refine aQ false rfl rfl aj (hmt) (fun r os h=>h.1) rfl ?_ ?_;push_cast [O,U,hd,hdd,hmn,h2];refine aD ?_;push_cast [O,U,hd,hdd,hmn,h2])|(refine av 18 [] ?_;apply ak;(focus kernel_rfl);(focus (simp only [aP,rA];(repeat' first|((refine plE [] hdr ?_ ?_<;>push_cast [O,U,  hd,hdd,hmn,h2]))|((first|refine pah 1 ?_|refine pah 2 ?_|refine pah 3 ?_|refine pah 5 ?_);push_cast [O,U,  hd,hdd,hmn,h2])|(refine pad ?_;first|with_reducible exact ao 18 [] _|(refine weak_fg ?_;push_cast [O,U,  hd,hdd,hmn,h2]))|((first|refine pas [0] ?_|refine pas [4] ?_|refine pas [6] ?_|refine pas [7] ?_|refine pas [8] ?_);push_cast [O,U,  hd,hdd,hmn,h2])|((first|refine pas [0,4] ?_|refine pas [0,6] ?_|refine pas [4,6] ?_);push_cast [O,U,  hd,hdd,hmn,h2];refine ⟨?_,?_⟩)|((first|refine pas [0,4,6] ?_);push_cast [O,U,  hd,hdd,hmn,h2];refine ⟨?_,?_,?_⟩));done));push_cast [O,U,  hd,hdd,hmn,h2])|refine ae ?_|refine pif ?_ ?_<;>intro h<;>try exact pN h)<;>push_cast [O,U,hd,hdd,hmn,h2])
        exact ⟨i+1,ac,by (refine weak_fg ?_;push_cast [O,U,hs]),ac⟩
       | false =>
        rw [hmd] at hmt hqd;have hs:=hno2 hqd;repeat' ((first|(refine aQ false rfl rfl aj (hmt) (fun r os h=>h.1) rfl ?_ ?_;push_cast [O,U,hd,hdd,hmn,h2];refine aD ?_;push_cast [O,U,hd,hdd,hmn,h2])|refine ae ?_|refine pif ?_ ?_<;>intro h<;>try exact pN h)<;>push_cast [O,U,hd,hdd,hmn,h2])
        exact ⟨i+1,ac,by (refine weak_fg ?_;push_cast [O,U,hs]),ac⟩
      ·rw [decide_eq_false hdd,Bool.false_and] at hqd;have hs:=hno2 hqd;repeat' ((first|refine ae ?_|refine pif ?_ ?_<;>intro h<;>try exact pN h)<;>push_cast [O,U,hd,hdd,hmn,h2])
       exact ⟨i+1,ac,by (refine weak_fg ?_;push_cast [O,U,hs]),ac⟩
     ·have hi2:i=k.tree.length:=ac;subst hi2;rw [hfin] at hK;subst hK;repeat' ((first|refine ae ?_|refine pif ?_ ?_<;>intro h<;>try exact pN h)<;>push_cast [O,U])
      (refine K9 [] ?_;push_cast [O,U,hX2])
set_option maxHeartbeats 16000000 in
theorem vx (k:Ker) (op:Opr) (hB:bL k) (hn:k.evs.length+300≤1000000) (h8:op.kind≠8) :
  ah prog 151 [.agg k.re,.agg op.e] [] fun r os=>r = .two (.agg (k.unload op.value).1.re) (.c (.v (.int .i64 ((k.unload op.value).2))))∧os=[]:=by
 have hm:=iu k.mods op.value (by have:=hB.modl;omega);have hlod:=hB.lod;obtain ⟨X,hX⟩:∃ X,k.unload op.value=X:=⟨_,rfl⟩
 rw [hX];unfold Ker.unload at hX;refine aw func151 ntmps151 results151 ?_;push_cast [O,U];have cB:aH 18 []:=trivial;cases hmo:aJ k.mods op.value with
 | none =>
  rw [hmo] at hm hX;simp only [Option.getD_none,Option.isSome_none] at hm;simp only at hX;subst hX;repeat' ((first|refine aK [] hm ?_|refine ae ?_|refine pif ?_ ?_<;>intro h<;>try exact pN h)<;>push_cast [O,U])
  exact am []
 | some m =>
  rw [hmo] at hm hX;simp only [Option.getD_some,Option.isSome_some] at hm;simp only at hX;have hmn:=(ez hmo).2;repeat' ((first|(refine plE [] hm ?_ ?_;focus (push_cast [O,U,h8,hmn];done))|refine ae ?_|refine pif ?_ ?_<;>intro h<;>try exact pN h)<;>push_cast [O,U,h8,hmn])
  refine aF (dm 11 9 1 ac (by push_cast [O,U])) ?_;push_cast [O,U];(apply ap (α:=Nat) 18 [] (fun j=>[(12,.c (.v (.int .i64 j))),(11,.c (.own 4 ((j0 k op.value j).length)))]) (fun j=>[(4,.arr 9 1 ((j0 k op.value j).map aU))]) (fun j=>j≤k.loaded.length) (fun j=>k.loaded.length - j) (0);(focus ((try push_cast [O,U]);rfl));(focus exact (Nat.zero_le _));(focus ((refine weak_fg ?_;try push_cast [O,U]);(try (exact ⟨rfl,rfl⟩)))));intro j hj;push_cast [O,U];by_cases hlt:j < k.loaded.length
  ·have hll:=C9 k op.value j;by_cases hjn:k.loaded.getD j default=op.value
   ·have hs:=F6 hlt hjn;repeat' ((first|refine ae ?_|refine pif ?_ ?_<;>intro h<;>try exact pN h)<;>push_cast [O,U,hmn,hjn])
    exact ⟨j+1,ac,by (refine weak_fg ?_;push_cast [O,U,hs]),ac⟩
   ·have hs:=C7 hlt hjn;repeat' ((first|refine ae ?_|refine pif ?_ ?_<;>intro h<;>try exact pN h)<;>push_cast [O,U,hmn,hjn])
    exact ⟨j+1,ac,by (refine weak_fg ?_;push_cast [O,U,hs]),ac⟩
  have hLD:j0 k op.value j=k.loaded.filter fun s=>!decide (s=op.value):=by unfold j0;rw [List.take_of_length_le ac]
  rw [hLD];have hlen:=E3 (l:=k.loaded) (n:=op.value);have hnl:=xe hB.inv op.value;cases h1:inM op.value k.loaded with
  | false =>
   rw [if_pos (.inl h1)] at hX;subst hX;have h2:=hlen.2 h1;have h2':(((k.loaded.filter fun s=>!decide (s=op.value)).length:Int)=(k.loaded.length:Int))=True:=eq_true (by rw [h2]);repeat' ((first|refine ae ?_|refine pif ?_ ?_<;>intro h<;>try exact pN h)<;>push_cast [O,U,h2'])
   exact am []
  | true =>
   have h2:¬ ((k.loaded.filter fun s=>!decide (s=op.value)).length:Int)=(k.loaded.length:Int):=fun e=>by
    have:=hlen.1 ac;rw [h1] at this;cases this
   have hLB:((k.loaded.filter fun s=>!decide (s=op.value)).length)≤k.loaded.length:=List.length_filter_le _ _;have hund:=fun h=>sc (n:=op.value) hB.inv h
   obtain ⟨LD,hLDe⟩:∃ LD,(k.loaded.filter fun s=>!decide (s=op.value))=LD:=⟨_,rfl⟩
   rw [hLDe] at h2 hLB hX hnl hund ⊢;repeat' ((first|refine ae ?_|refine pif ?_ ?_<;>intro h<;>try exact pN h)<;>push_cast [O,U,h2])
   (apply ap (α:=Nat) 18 [] (fun i=>[(13,.c (.v (.int .i64 i)))]) (fun i=>[]) (fun i=>i≤LD.length∧(LD.take i).any (fun s=>inM op.value ((aJ k.mods s).getD bW).needs)=false) (fun i=>LD.length - i) (0);(focus ((try push_cast [O,U]);rfl));(focus exact ⟨Nat.zero_le _,rfl⟩);(focus ((refine weak_fg ?_;try push_cast [O,U]))));rintro i ⟨hi,hpre⟩;push_cast [O,U];by_cases hil:i < LD.length
   ·have md:=iu k.mods (LD.getD i default) (by have:=hB.modl;omega);have hsm:=dM hB (LD.getD i default);have hstep:=fun h=>jb (p:=fun s=>inM op.value ((aJ k.mods s).getD bW).needs) hil hpre h
    have hall:=fun h=>ja (p:=fun s=>inM op.value ((aJ k.mods s).getD bW).needs) hil h
    obtain ⟨mo,hmo2⟩:∃ mo,(aJ k.mods (LD.getD i default)).getD bW=mo:=⟨_,rfl⟩
    rw [hmo2] at md hsm;have hin:=uO mo.needs op.value (by have:=hsm.2.1;omega);cases hb:inM op.value mo.needs with
    | true =>
     rw [hb] at hin;have hnd:k.needed op.value=true:=by rw [hnl];exact hall (by rw [hmo2];exact hb)
     rw [if_pos (.inr hnd)] at hX;subst hX;repeat' ((first|(refine av 18 [] ?_;apply ak;(focus kernel_rfl);(focus (simp only [aP,rA];(repeat' first|((refine plE [] md ?_ ?_<;>push_cast [O,U,  hmn]))|((first|refine pah 0 ?_|refine pah 2 ?_|refine pah 3 ?_|refine pah 4 ?_|refine pah 7 ?_|refine pah 8 ?_|refine pah 9 ?_|refine pah 12 ?_);push_cast [O,U,  hmn])|(refine pad ?_;first|with_reducible exact ao 18 [] _|(refine weak_fg ?_;push_cast [O,U,  hmn]))|((first|refine pas [1] ?_|refine pas [5] ?_|refine pas [6] ?_|refine pas [10] ?_|refine pas [11] ?_);push_cast [O,U,  hmn])|((first|refine pas [1,5] ?_|refine pas [1,10] ?_|refine pas [5,10] ?_|refine pas [6,10] ?_);push_cast [O,U,  hmn];refine ⟨?_,?_⟩)|((first|refine pas [1,5,10] ?_);push_cast [O,U,  hmn];refine ⟨?_,?_,?_⟩));done));push_cast [O,U,  hmn])|(refine plE [] hin ?_ ?_;focus (push_cast [O,U,hmn];done))|refine ae ?_|refine pif ?_ ?_<;>intro h<;>try exact pN h)<;>push_cast [O,U,hmn])
     exact am []
    | false =>
     rw [hb] at hin;have hst:=hstep (by rw [hmo2];exact hb);repeat' ((first|(refine av 18 [] ?_;apply ak;(focus kernel_rfl);(focus (simp only [aP,rA];(repeat' first|((refine plE [] md ?_ ?_<;>push_cast [O,U,  hmn]))|((first|refine pah 0 ?_|refine pah 2 ?_|refine pah 3 ?_|refine pah 4 ?_|refine pah 7 ?_|refine pah 8 ?_|refine pah 9 ?_|refine pah 12 ?_);push_cast [O,U,  hmn])|(refine pad ?_;first|with_reducible exact ao 18 [] _|(refine weak_fg ?_;push_cast [O,U,  hmn]))|((first|refine pas [1] ?_|refine pas [5] ?_|refine pas [6] ?_|refine pas [10] ?_|refine pas [11] ?_);push_cast [O,U,  hmn])|((first|refine pas [1,5] ?_|refine pas [1,10] ?_|refine pas [5,10] ?_|refine pas [6,10] ?_);push_cast [O,U,  hmn];refine ⟨?_,?_⟩)|((first|refine pas [1,5,10] ?_);push_cast [O,U,  hmn];refine ⟨?_,?_,?_⟩));done));push_cast [O,U,  hmn])|(refine plE [] hin ?_ ?_;focus (push_cast [O,U,hmn];done))|refine ae ?_|refine pif ?_ ?_<;>intro h<;>try exact pN h)<;>push_cast [O,U,hmn])
     exact ⟨i+1,⟨ac,hst⟩,aA,ac⟩
   have hnd:k.needed op.value=false:=by rw [hnl];rw [List.take_of_length_le ac] at hpre;exact hpre
   rw [if_neg (by rw [hnd,h1];simp)] at hX;have hB0:=hB.withL (hund hnd);have hkt:k.tree.length≤256:=hB.len;obtain ⟨K0,hK0⟩:∃ K0,k.withL LD=K0:=⟨_,rfl⟩
   have e1:K0.tree=k.tree:=by rw [← hK0];rfl
   have e2:K0.mods=k.mods:=by rw [← hK0];rfl
   have e3:K0.loaded=LD:=by rw [← hK0];rfl
   have e4:K0.evs=k.evs:=by rw [← hK0];rfl
   have e5:K0.top=k.top:=by rw [← hK0];rfl
   rw [hK0] at hB0 hX;obtain ⟨q,hq⟩:∃ q:Dev → Bool,(fun d=>decide (d.driver=op.value))=q:=⟨_,rfl⟩
   rw [hq] at hX;have hfin:cS K0 q ⟨#[]⟩ k.tree k.tree.length=X.1:=by
    unfold cS;rw [List.take_length,← hX]
   have hX2:X.2=0:=by rw [← hX]
   have hs0:cS K0 q ⟨#[]⟩ k.tree 0=K0:=rfl;repeat' ((first|refine ae ?_|refine pif ?_ ?_<;>intro h<;>try exact pN h)<;>push_cast [O,U])
   refine aF (bQ 4 (Nat.zero_le _)) ?_;push_cast [O,U];(apply ap (α:=Nat) 18 [] (fun i=>[(17,.c (.v (.int .i64 i)))]) (fun i=>[(0,.box 44 (cS K0 q ⟨#[]⟩ k.tree i).re)]) (fun i=>i≤k.tree.length) (fun i=>k.tree.length - i) (0);(focus ((try push_cast [O,U]);rfl));(focus exact (Nat.zero_le _));(focus ((refine weak_fg ?_;try push_cast [O,U]);(try ((rw [hs0,e1,e2,e3,e4,e5];simp))))));intro i hi;have hBi:=hB0.each q ⟨#[]⟩ (k.tree.take i) (by rw [List.length_take,e4];omega);have hel:=ga q ⟨#[]⟩ (k.tree.take i) K0;rw [List.length_take,e4] at hel;obtain ⟨K,hK⟩:∃ K,cS K0 q ⟨#[]⟩ k.tree i=K:=⟨_,rfl⟩
   have hKe:K.evs.length≤k.evs.length+256:=by rw [← hK];unfold cS;omega
   have hBK:bL K:=by rw [← hK];exact hBi
   have hce:i < k.tree.length → aR K.tree (dS (k.tree.getD i default) ⟨#[]⟩)=0:=fun hl=>by
    have:=tV hB0.inv q (.inl rfl) (i:=i) (by rw [e1];exact hl);rw [e1] at this;rw [← hK];exact this
   rw [hK];push_cast [O,U];by_cases hlt:i < k.tree.length
   ·have hmem:k.tree.getD i default ∈ k.tree:=by rw [ai _ hlt];exact List.getElem_mem _
    have hyes:=lI (k:=K0) (q:=q) (v:=⟨#[]⟩) hlt;have hno2:=nO (k:=K0) (q:=q) (v:=⟨#[]⟩) hlt;rw [hK] at hyes hno2;have hdr:=ia K (k.tree.getD i default) ⟨#[]⟩ hBK (hB.ok hmem) (by have:=hB.orig _ hmem;omega) af ac (hce hlt);have hqd:q (k.tree.getD i default)=decide ((k.tree.getD i default).driver=op.value):=by rw [← hq]
    obtain ⟨d,hd⟩:∃ d,k.tree.getD i default=d:=⟨_,rfl⟩
    rw [hd] at hyes hno2 hdr hqd;by_cases hdd:d.driver=op.value
    ·rw [decide_eq_true hdd] at hqd;have hs:=hyes hqd;obtain ⟨K2,hK2⟩:∃ K2,(K.drive d ⟨#[]⟩).1=K2:=⟨_,rfl⟩
     rw [hK2] at hdr hs;repeat' ((first|(refine av 18 [] ?_;apply ak;(focus kernel_rfl);(focus (simp only [aP,rA];(repeat' first|((refine plE [] hdr ?_ ?_<;>push_cast [O,U,  hd,hdd,hmn]))|((first|refine pah 1 ?_|refine pah 2 ?_|refine pah 3 ?_);push_cast [O,U,  hd,hdd,hmn])|(refine pad ?_;first|with_reducible exact ao 18 [] _|(refine weak_fg ?_;push_cast [O,U,  hd,hdd,hmn]))|((first|refine pas [0] ?_|refine pas [4] ?_|refine pas [5] ?_|refine pas [6] ?_);push_cast [O,U,  hd,hdd,hmn])|((first|refine pas [0,4] ?_);push_cast [O,U,  hd,hdd,hmn];refine ⟨?_,?_⟩));done));push_cast [O,U,  hd,hdd,hmn])|refine ae ?_|refine pif ?_ ?_<;>intro h<;>try exact pN h)<;>push_cast [O,U,hd,hdd,hmn])
     exact ⟨i+1,ac,by (refine weak_fg ?_;push_cast [O,U,hs]),ac⟩
    ·rw [decide_eq_false hdd] at hqd;have hs:=hno2 hqd;repeat' ((first|refine ae ?_|refine pif ?_ ?_<;>intro h<;>try exact pN h)<;>push_cast [O,U,hd,hdd,hmn])
     exact ⟨i+1,ac,by (refine weak_fg ?_;push_cast [O,U,hs]),ac⟩
   ·have hi2:i=k.tree.length:=ac;subst hi2;rw [hfin] at hK;subst hK;repeat' ((first|refine ae ?_|refine pif ?_ ?_<;>intro h<;>try exact pN h)<;>push_cast [O,U])
    (refine K9 [] ?_;push_cast [O,U,hX2])
set_option maxRecDepth 20000
theorem bL.drv {k:Ker} (h:bL k) {d:Dev} (hd:d ∈ k.tree) {v:ByteArray} (hv:v=⟨#[]⟩∨validS v=true):aR k.tree (dS d v)=0:=lE h.inv.tree hd hv
theorem F7 (l ds:List Dev):(nB l ds).length=ds.length:=by unfold nB;rw [List.length_map]
set_option maxHeartbeats 16000000 in
theorem vy (k:Ker) (op:Opr) (d:Dev) (hB:bL k) (hd:d ∈ k.tree) (hn:k.evs.length+300≤1000000) (h2:op.kind=2) :
  ah prog 152 [.agg k.re,.agg op.e,.agg d.e] [] fun r os=>r = .two (.agg (k.remove d).1.re) (.c (.v (.int .i64 0)))∧os=[]:=by
 have hkt:=hB.len;have hs:=C2 k.tree d.index ac;have hr:=C0 k.tree d.index ac;have hfd:aG k.tree d.index=some d:=dj hB.inv.tree.okt.nodup hd;rw [hfd] at hr;simp only [Option.isSome_some,if_true] at hr;have hX:=nC k d;have hsl:=xK k.tree d.index;have hpz:∀ x ∈ k.tree,x.name.size≤1000:=hB.nms;have hrp:=fun i=>mG k.tree i ac hpz
 obtain ⟨S,hS⟩:∃ S,eI k.tree d.index=S:=⟨_,rfl⟩
 rw [hS] at hs hX hsl;have hevS:(nB k.tree S.reverse).length=S.length:=by rw [F7,List.length_reverse]
 have hev:∀ j,j < S.length → (nB k.tree S.reverse).getD (S.length - (j+1)) default=⟨0,2,(S.getD j default).index,bF k.tree (S.getD j default).index,⟨#[]⟩⟩:=fun j hj=>by
  rw [ai _ (by rw [hevS];omega)];unfold nB;rw [List.getElem_map,List.getElem_reverse,ai S hj];have e:S.length - 1 - (S.length - (j+1))=j:=ac;simp only [e]
 obtain ⟨T,hT⟩:∃ T,fp k.tree d.index=T:=⟨_,rfl⟩
 rw [hT] at hr hX;obtain ⟨xs,hxs⟩:∃ xs,nB k.tree S.reverse=xs:=⟨_,rfl⟩
 rw [hxs] at hX hevS hev;obtain ⟨K0,hK0⟩:∃ K0,k.withT T=K0:=⟨_,rfl⟩
 have e1:T=K0.tree:=by rw [← hK0];rfl
 have e2:k.mods=K0.mods:=by rw [← hK0];rfl
 have e3:k.loaded=K0.loaded:=by rw [← hK0];rfl
 have e4:k.evs=K0.evs:=by rw [← hK0];rfl
 have e5:k.top=K0.top:=by rw [← hK0];rfl
 rw [hK0] at hX;rw [hX];refine aw func152 ntmps152 results152 ?_;push_cast [O,U];have cB:aH 18 [19]:=trivial;repeat' ((first|(refine plE [] hs ?_ ?_;focus (push_cast [O,U,h2];done))|(refine plE [] hr ?_ ?_;focus (push_cast [O,U,h2];done))|refine ae ?_|refine pif ?_ ?_<;>intro h<;>try exact pN h)<;>push_cast [O,U,h2])
 (apply ap (α:=Nat) 18 [19] (fun j=>[(10,.c (.v (.int .i64 ((j:Int) - 1))))]) (fun j=>[(0,.box 44 (K0.tells (xs.take (S.length - j))).re)]) (fun j=>j≤S.length) (fun j=>j) (S.length);(focus ((try push_cast [O,U]);rfl));(focus exact (Nat.le_refl _));(focus ((refine weak_fg ?_;try push_cast [O,U]);(try (exact ⟨by rw [e2];rfl,by rw [e1];rfl,by rw [e3];rfl,by rw [e4];rfl,by rw [e5];rfl⟩)))));intro j hj;cases j with
 | zero =>
  rw [Nat.sub_zero,List.take_of_length_le ac];obtain ⟨KF,hKF⟩:∃ KF,K0.tells xs=KF:=⟨_,rfl⟩
  rw [hKF];push_cast [O,U];repeat' ((first|refine ae ?_|refine pif ?_ ?_<;>intro h<;>try exact pN h)<;>push_cast [O,U])
  exact am []
 | succ j =>
  have hlt:j < S.length:=ac;have hi:((j+1:Nat):Int) - 1=(j:Int):=ac;have hn2:S.length - j=S.length - (j+1)+1:=ac;have hstep:K0.tells (xs.take (S.length - j))=(K0.tells (xs.take (S.length - (j+1)))).tell 2 (S.getD j default).index (bF k.tree (S.getD j default).index) ⟨#[]⟩:=by
   rw [hn2,List.take_succ_eq_append_getElem ac,rC,← ai xs ac,hev j hlt]
  have htk:=rD (xs.take (S.length - (j+1))) K0;obtain ⟨K,hK⟩:∃ K,K0.tells (xs.take (S.length - (j+1)))=K:=⟨_,rfl⟩
  rw [hK] at hstep htk ⊢;have hKe:K.evs.length≤k.evs.length+256:=by rw [htk.2.2.2.2,← e4,List.length_take];omega
  have ht:=si K ⟨0,2,(S.getD j default).index,bF k.tree (S.getD j default).index,⟨#[]⟩⟩ ac;have hpp:=hrp (S.getD j default).index;simp only at ht;rw [← hstep] at ht;obtain ⟨K2,hK2⟩:∃ K2,K0.tells (xs.take (S.length - j))=K2:=⟨_,rfl⟩
  rw [hK2] at ht hstep;obtain ⟨pp,hpe⟩:∃ pp,bF k.tree (S.getD j default).index=pp:=⟨_,rfl⟩
  rw [hpe] at ht hpp;simp only [hi];push_cast [O,U];repeat' ((first|(refine av 18 [19] ?_;apply ak;(focus kernel_rfl);(focus (simp only [aP,rA];(repeat' first|((refine plE [] hpp ?_ ?_;(focus (push_cast [O,U];done));push_cast [O,U]))|((refine plE [] ht ?_ ?_;(focus (push_cast [O,U];done));push_cast [O,U]))|((first|refine pah 1 ?_|refine pah 2 ?_|refine pah 3 ?_|refine pah 4 ?_|refine pah 7 ?_|refine pah 8 ?_|refine pah 9 ?_|refine pah 10 ?_|refine pah 13 ?_);push_cast [O,U])|(refine pad ?_;first|with_reducible exact ao 18 [19] _|(refine weak_fg ?_;push_cast [O,U]))|((first|refine pas [0] ?_|refine pas [5] ?_|refine pas [6] ?_|refine pas [11] ?_|refine pas [12] ?_|refine pas [14] ?_|refine pas [15] ?_);push_cast [O,U])|((first|refine pas [0,5] ?_|refine pas [0,6] ?_|refine pas [0,11] ?_|refine pas [0,12] ?_|refine pas [5,6] ?_|refine pas [5,11] ?_|refine pas [5,12] ?_|refine pas [6,11] ?_);push_cast [O,U];refine ⟨?_,?_⟩)|((first|refine pas [0,5,6] ?_|refine pas [0,5,11] ?_|refine pas [0,5,12] ?_|refine pas [0,6,11] ?_|refine pas [5,6,11] ?_);push_cast [O,U];refine ⟨?_,?_,?_⟩)|((first|refine pas [0,5,6,11] ?_);push_cast [O,U];refine ⟨?_,?_,?_,?_⟩));done));push_cast [O,U])|refine ae ?_|refine pif ?_ ?_<;>intro h<;>try exact pN h)<;>push_cast [O,U])
  exact ⟨j,ac,by (refine weak_fg ?_;push_cast [O,U,hK2]),ac⟩
set_option maxHeartbeats 16000000 in
theorem Da (k:Ker) (op:Opr) (d:Dev) (hB:bL k) (ho:eA op) (hd:d ∈ k.tree) (hn:k.evs.length+300≤1000000) (hk:2≤op.kind∧op.kind≤7) :
  ah prog 152 [.agg k.re,.agg op.e,.agg d.e] [] fun r os=>r = .two (.agg (k.one db op d).1.re) (.c (.v (.int .i64 ((k.one db op d).2))))∧os=[]:=by
 have hkt:=hB.len;have hal:d.attrs.length≤24:=(hB.small hd).att;have hdk:=hB.ok hd;have hdo:d.original.size≤100000:=by have:=hB.orig d hd;omega
 by_cases h2:op.kind=2
 ·have hX:k.one db op d=k.remove d:=by unfold Ker.one;rw [if_pos h2]
  rw [hX];exact vy k op d hB hd hn h2
 obtain ⟨X,hX⟩:∃ X,k.one db op d=X:=⟨_,rfl⟩
 rw [hX];unfold Ker.one at hX;rw [if_neg h2] at hX;refine aw func152 ntmps152 results152 ?_;push_cast [O,U];have cB:aH 18 [19]:=trivial;by_cases h3:op.kind=3
 ·rw [if_pos h3] at hX;have hX:k.set d op.name (cX op.name op.value d.attrs) (jZ d op.name op.value)=X:=hX;have hv:=de op.name ho.name;have hg:=CB d.attrs op.name ac;have hs:=Ci d.attrs op.name op.value ac;rw [H7 (FH hB hd)] at hs;have hsl:=r6 op.name op.value d.attrs;cases hvv:validS op.name with
  | false =>
   rw [F3 (v:=op.value) hvv] at hX;rw [hvv] at hv;subst hX;repeat' ((first|(refine plE [] hv ?_ ?_;focus (push_cast [O,U,h3];done))|refine ae ?_|refine pif ?_ ?_<;>intro h<;>try exact pN h)<;>push_cast [O,U,h3])
   exact am []
  | true =>
   rw [hvv] at hv;by_cases hsm:(eM d.attrs op.name).1=op.value
   ·rw [C6 hB hd hvv hsm] at hX;rw [hsm] at hg;subst hX;repeat' ((first|(refine plE [] hv ?_ ?_;focus (push_cast [O,U,h3];done))|(refine plE [] hg ?_ ?_;focus (push_cast [O,U,h3];done))|refine ae ?_|refine pif ?_ ?_<;>intro h<;>try exact pN h)<;>push_cast [O,U,h3])
    exact am []
   ·have hdn:(il d (cX op.name op.value d.attrs)).ok:=⟨hdk.name,hdk.original,hdk.subsystem,hdk.driver,hdk.alias_,fun a ha=>by
     rcases vp ha with h|rfl
     ·exact hdk.attrs a h
     ·exact ⟨ho.name,ho.value⟩,by show (cX op.name op.value d.attrs).length≤_;omega,hdk.orig⟩
    have hc:=jR k (il d (cX op.name op.value d.attrs)) hB.inv.tree hdn hdo;have hat:∀ x,il d x=⟨d.index,d.parent,d.name,d.original,d.subsystem,d.driver,d.alias_,d.kind,d.number,x⟩:=fun x=>rfl
    by_cases he:aR k.tree (il d (cX op.name op.value d.attrs))=0
    ·rw [F5 hvv hsm he] at hX;rw [if_pos he,he] at hc;have hB2:=hB.chg he;obtain ⟨K,hK⟩:∃ K,k.withT (ed k.tree (il d (cX op.name op.value d.attrs)))=K:=⟨_,rfl⟩
     have hKe:K.evs=k.evs:=by rw [← hK];rfl
     rw [hK] at hc hB2 hX;have h1:=fP K 3 d.index ⟨#[]⟩ hB2.inv.tree (by rw [hKe];omega);obtain ⟨E,hE⟩:∃ E,K.emit 3 d.index ⟨#[]⟩=E:=⟨_,rfl⟩
     rw [hE] at h1 hX;subst hX;obtain ⟨na,hna⟩:∃ na,cX op.name op.value d.attrs=na:=⟨_,rfl⟩
     rw [hna] at hs hc;obtain ⟨gv,hgv⟩:∃ gv,eM d.attrs op.name=gv:=⟨_,rfl⟩
     rw [hgv] at hg hsm;rw [hat] at hc;repeat' ((first|(refine plE [] hv ?_ ?_;focus (push_cast [O,U,h3,hsm];done))|(refine plE [] hg ?_ ?_;focus (push_cast [O,U,h3,hsm];done))|(refine plE [] hs ?_ ?_;focus (push_cast [O,U,h3,hsm];done))|(refine plE [] hc ?_ ?_;focus (push_cast [O,U,h3,hsm];done))|(refine plE [] h1 ?_ ?_;focus (push_cast [O,U,h3,hsm];done))|refine ae ?_|refine pif ?_ ?_<;>intro h<;>try exact pN h)<;>push_cast [O,U,h3,hsm])
     exact am []
    ·rw [F4 hvv he] at hX;rw [if_neg he] at hc;obtain ⟨ce,hce⟩:∃ ce,aR k.tree (il d (cX op.name op.value d.attrs))=ce:=⟨_,rfl⟩
     rw [hce] at he hc hX;subst hX;obtain ⟨na,hna⟩:∃ na,cX op.name op.value d.attrs=na:=⟨_,rfl⟩
     rw [hna] at hs hc;obtain ⟨gv,hgv⟩:∃ gv,eM d.attrs op.name=gv:=⟨_,rfl⟩
     rw [hgv] at hg hsm;rw [hat] at hc;repeat' ((first|(refine plE [] hv ?_ ?_;focus (push_cast [O,U,h3,hsm,he];done))|(refine plE [] hg ?_ ?_;focus (push_cast [O,U,h3,hsm,he];done))|(refine plE [] hs ?_ ?_;focus (push_cast [O,U,h3,hsm,he];done))|(refine plE [] hc ?_ ?_;focus (push_cast [O,U,h3,hsm,he];done))|refine ae ?_|refine pif ?_ ?_<;>intro h<;>try exact pN h)<;>push_cast [O,U,h3,hsm,he])
     exact am []
 rw [if_neg h3] at hX;by_cases h4:op.kind=4
 ·rw [if_pos h4] at hX;unfold Ker.trigger at hX;have h1:=fP k 3 d.index ⟨#[]⟩ hB.inv.tree ac;obtain ⟨E,hE⟩:∃ E,k.emit 3 d.index ⟨#[]⟩=E:=⟨_,rfl⟩
  rw [hE] at h1 hX;subst hX;repeat' ((first|(refine plE [] h1 ?_ ?_;focus (push_cast [O,U,h4];done))|refine ae ?_|refine pif ?_ ?_<;>intro h<;>try exact pN h)<;>push_cast [O,U,h4])
  exact am []
 rw [if_neg h4] at hX;by_cases h5:op.kind=5
 ·rw [if_pos h5] at hX;by_cases hk4:d.kind=4
  case neg =>
   have hX2:k.rename d op.name=(k,55):=by unfold Ker.rename;rw [if_pos hk4]
   rw [hX2] at hX;subst hX;repeat' ((first|refine ae ?_|refine pif ?_ ?_<;>intro h<;>try exact pN h)<;>push_cast [O,U,h5,hk4])
   exact am []
  by_cases hnm:d.name=op.name
  ·rw [← hnm,xd hB.inv hd hk4] at hX;subst hX;have hnm':=eq_true hnm;repeat' ((first|refine ae ?_|refine pif ?_ ?_<;>intro h<;>try exact pN h)<;>push_cast [O,U,h5,hk4,hnm'])
   exact am []
  have hdn:(jc d op.name).ok:=⟨ho.name,hdk.original,hdk.subsystem,hdk.driver,hdk.alias_,hdk.attrs,hdk.len,hdk.orig⟩
  have hc:=jR k (jc d op.name) hB.inv.tree hdn hdo;have hat:jc d op.name=⟨d.index,d.parent,op.name,d.original,d.subsystem,d.driver,d.alias_,d.kind,d.number,d.attrs⟩:=rfl;have hp:=mG k.tree d.index ac hB.nms;by_cases he:aR k.tree (jc d op.name)=0
  ·have hX2:k.rename d op.name=((k.withT (ed k.tree (jc d op.name))).emit 4 d.index (bF k.tree d.index),0):=by unfold Ker.rename;rw [if_neg (fun h=>h hk4),if_neg (fun h=>h he),if_neg hnm]
   rw [hX2] at hX;rw [if_pos he,he] at hc;have hB2:=hB.chg he;obtain ⟨K,hK⟩:∃ K,k.withT (ed k.tree (jc d op.name))=K:=⟨_,rfl⟩
   have hKe:K.evs=k.evs:=by rw [← hK];rfl
   rw [hK] at hc hB2 hX;obtain ⟨pp,hpe⟩:∃ pp,bF k.tree d.index=pp:=⟨_,rfl⟩
   rw [hpe] at hp hX;have h1:=fP K 4 d.index pp hB2.inv.tree (by rw [hKe];omega);obtain ⟨E,hE⟩:∃ E,K.emit 4 d.index pp=E:=⟨_,rfl⟩
   rw [hE] at h1 hX;subst hX;rw [hat] at hc;repeat' ((first|(refine plE [] hp ?_ ?_;focus (push_cast [O,U,h5,hk4,hnm];done))|(refine plE [] hc ?_ ?_;focus (push_cast [O,U,h5,hk4,hnm];done))|(refine plE [] h1 ?_ ?_;focus (push_cast [O,U,h5,hk4,hnm];done))|refine ae ?_|refine pif ?_ ?_<;>intro h<;>try exact pN h)<;>push_cast [O,U,h5,hk4,hnm])
   exact am []
  ·have hX2:k.rename d op.name=(k,aR k.tree (jc d op.name)):=by unfold Ker.rename;rw [if_neg (fun h=>h hk4),if_pos he]
   rw [hX2] at hX;rw [if_neg he] at hc;obtain ⟨ce,hce⟩:∃ ce,aR k.tree (jc d op.name)=ce:=⟨_,rfl⟩
   rw [hce] at he hc hX;subst hX;rw [hat] at hc;repeat' ((first|(refine plE [] hp ?_ ?_;focus (push_cast [O,U,h5,hk4,hnm,he];done))|(refine plE [] hc ?_ ?_;focus (push_cast [O,U,h5,hk4,hnm,he];done))|refine ae ?_|refine pif ?_ ?_<;>intro h<;>try exact pN h)<;>push_cast [O,U,h5,hk4,hnm,he])
   exact am []
 rw [if_neg h5] at hX;by_cases h6:op.kind=6
 ·rw [if_pos h6] at hX;by_cases hdr:d.driver=⟨#[]⟩
  case neg =>
   have hX2:k.bind d op.value=(k,52):=by unfold Ker.bind;rw [if_pos hdr]
   rw [hX2] at hX;subst hX;repeat' ((first|refine ae ?_|refine pif ?_ ?_<;>intro h<;>try exact pN h)<;>push_cast [O,U,h6,hdr])
   exact am []
  have hv:=de op.value ho.value;cases hvv:validS op.value with
  | false =>
   have hX2:k.bind d op.value=(k,41):=by unfold Ker.bind;rw [if_neg (fun h=>h hdr),if_pos hvv]
   rw [hX2] at hX;rw [hvv] at hv;subst hX;repeat' ((first|(refine plE [] hv ?_ ?_;focus (push_cast [O,U,h6,hdr];done))|refine ae ?_|refine pif ?_ ?_<;>intro h<;>try exact pN h)<;>push_cast [O,U,h6,hdr])
   exact am []
  | true =>
   have he:=hB.drv hd (.inr hvv);have hX2:k.bind d op.value=((k.drive d op.value).1,0):=by unfold Ker.bind;rw [if_neg (fun h=>h hdr),if_neg (by rw [hvv];simp),nU he]
   rw [hX2] at hX;rw [hvv] at hv;have hb:=ia k d op.value hB hdk hdo ho.value ac he;obtain ⟨E,hE⟩:∃ E,(k.drive d op.value).1=E:=⟨_,rfl⟩
   rw [hE] at hb hX;subst hX;repeat' ((first|(refine plE [] hv ?_ ?_;focus (push_cast [O,U,h6,hdr];done))|(refine plE [] hb ?_ ?_;focus (push_cast [O,U,h6,hdr];done))|refine ae ?_|refine pif ?_ ?_<;>intro h<;>try exact pN h)<;>push_cast [O,U,h6,hdr])
   exact am []
 rw [if_neg h6] at hX;have h7:op.kind=7:=ac;by_cases hdr:d.driver=⟨#[]⟩
 ·have hX2:k.unbind d=(k,52):=by unfold Ker.unbind;rw [if_pos hdr]
  rw [hX2] at hX;subst hX;have hdr':=eq_true hdr;repeat' ((first|refine ae ?_|refine pif ?_ ?_<;>intro h<;>try exact pN h)<;>push_cast [O,U,h7,hdr'])
  exact am []
 ·have he:=hB.drv hd (.inl rfl);have hX2:k.unbind d=((k.drive d ⟨#[]⟩).1,0):=by unfold Ker.unbind;rw [if_neg hdr,nU he]
  rw [hX2] at hX;have hb:=ia k d ⟨#[]⟩ hB hdk hdo af ac he;obtain ⟨E,hE⟩:∃ E,(k.drive d ⟨#[]⟩).1=E:=⟨_,rfl⟩
  rw [hE] at hb hX;subst hX;repeat' ((first|(refine plE [] hb ?_ ?_;focus (push_cast [O,U,h7,hdr];done))|refine ae ?_|refine pif ?_ ?_<;>intro h<;>try exact pN h)<;>push_cast [O,U,h7,hdr])
  exact am []
end Go.Proofs.YtmbbkfffcflfcaaGreatDoor
