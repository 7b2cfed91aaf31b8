/- What the program computes, and the plain laws of it, part 43. -/
import Derived.Lib.ItoaNum
import Derived.WideKeyEntry
import Derived.Test.YtmbbkfffcflfcaaGreatDoorT42
namespace Go.Proofs.YtmbbkfffcflfcaaGreatDoor
open Go.Proofs.Tryz
set_option linter.unusedSimpArgs false
set_option linter.unusedVariables false
open Go.RowKit
open IntWalk renaming iteOmega → O, toNatUp → U
section
attribute [local irreducible] PL QL aL ah bg La aV PA
set_option maxRecDepth 20000
set_option maxRecDepth 20000 in
set_option maxHeartbeats 4000000 in
theorem mG (l:List Dev) (n:Int) (hl:l.length≤1000) (hz:∀ d ∈ l,d.name.size≤1000) :
  ah prog 194 [.agg (trE l),.c (.v (.int .i64 n))] [] fun r os=>r = .c (.v (.string (bF l n)))∧os=[]:=by
 have hc:=kV l n ac;have hcl:=lD l n;have hcz:∀ d ∈ dy l n,d.name.size≤1000:=fun d hd=>hz d (iE _ _ d hd)
 unfold bF;obtain ⟨c,hcc⟩:∃ c,dy l n=c:=⟨_,rfl⟩
 rw [hcc] at hc hcl hcz ⊢;refine aw func194 ntmps194 results194 ?_;push_cast [O,U];have cB:aH 8 []:=trivial;repeat' ((first|refine aK [] hc ?_|refine ae ?_|refine pif ?_ ?_<;>intro h<;>try exact pN h)<;>push_cast [O,U])
 (apply ap (α:=Nat × ByteArray) 8 [] (fun x=>[(7,.c (.v (.int .i64 ((x.1:Int) - 1)))),(5,.c (.v (.string x.2)))]) (fun x=>[]) (fun x=>x.1≤c.length∧x.2=fC ((c.drop x.1).map Dev.name).reverse∧x.2.size+1001 * x.1≤1001 * c.length) (fun x=>x.1) ((c.length,⟨#[]⟩));(focus ((try push_cast [O,U]);rfl));(focus exact ⟨Nat.le_refl _,by simp [fC],by have:(⟨#[]⟩:ByteArray).size=0:=rfl;simp only;omega⟩);(focus ((refine weak_fg ?_;try push_cast [O,U]))));rintro ⟨k,acc⟩ ⟨hk,ho,hs⟩;simp only at hk ho hs;cases k with
 | zero =>
  rw [List.drop_zero] at ho;push_cast [O,U];repeat' ((first|refine ae ?_|refine pif ?_ ?_<;>intro h<;>try exact pN h)<;>push_cast [O,U])
  (refine K9 [] ?_;push_cast [O,U]);all_goals rw [ho]
 | succ k =>
  have hlt:k < c.length:=ac;have hnz:(c.getD k default).name.size≤1000:=by rw [ai c hlt];exact hcz _ (List.getElem_mem _)
  have hd:acc++(⟨#[47]⟩++(c.getD k default).name)=fC ((c.drop k).map Dev.name).reverse:=by
   rw [ho,List.drop_eq_getElem_cons hlt,ai c hlt,List.map_cons,List.reverse_cons,gZ,uc]
  have hi:((k+1:Nat):Int) - 1=(k:Int):=ac;have hs1:(⟨#[47]⟩:ByteArray).size=1:=rfl;obtain ⟨nm,hnm⟩:∃ nm,(c.getD k default).name=nm:=⟨_,rfl⟩
  rw [hnm] at hd hnz;have hf1:=oG (n:=nm.size) ac;obtain ⟨u,hu⟩:∃ u,⟨#[47]⟩++nm=u:=⟨_,rfl⟩
  have hus:u.size≤1001:=by rw [← hu,ByteArray.size_append,hs1];omega
  rw [hu] at hd;have hf2:(acc.size:Int)+(u.size:Int)≤9223372036854775807:=ac;have hf3:(acc++u).size+1001 * k≤1001 * c.length:=by rw [ByteArray.size_append];omega
  simp only [hi];push_cast [O,U];repeat' ((first|refine ae ?_|refine pif ?_ ?_<;>intro h<;>try exact pN h)<;>push_cast [O,U,hf1,hnm,hu,hf2])
  exact ⟨(k,acc++u),⟨by simp only;omega,hd,by simp only;exact hf3⟩,aA,by simp only;omega⟩
set_option maxHeartbeats 4000000 in
theorem C2 (l:List Dev) (n:Int) (hl:l.length≤1000000) :
  ah prog 191 [.agg (trE l),.c (.v (.int .i64 n))] [] fun r os=>r = .c (.sl 10 ((eI l n).map Dev.d))∧os=[]:=by
 refine aw func191 ntmps191 results191 ?_;push_cast [O,U];have cB:aH 7 []:=trivial;repeat' ((first|refine ae ?_|refine pif ?_ ?_<;>intro h<;>try exact pN h)<;>push_cast [O,U])
 refine aF (dm 5 53 10 ac (by push_cast [O,U])) ?_;push_cast [O,U];(apply ap (α:=Nat) 7 [] (fun i=>[(6,.c (.v (.int .i64 i))),(5,.c (.own 1 ((kc l n i).length)))]) (fun i=>[(1,.arr 53 10 ((kc l n i).map Dev.d))]) (fun i=>i≤l.length) (fun i=>l.length - i) (0);(focus ((try push_cast [O,U]);rfl));(focus exact (Nat.zero_le _));(focus ((refine weak_fg ?_;try push_cast [O,U]);(try (exact ⟨rfl,rfl⟩)))));intro i hi;push_cast [O,U];by_cases hlt:i < l.length
 ·have hb:=pP l (l.getD i default).index n hl;have hsl:=xN (n:=n) hi;cases hbm:bO l (l.getD i default).index n
  ·rw [hbm] at hb;have he:=AI hlt hbm;repeat' ((first|(refine aQ false rfl rfl aj (hb) (fun r os h=>h.1) rfl ?_ ?_;push_cast [O,U];refine aD ?_;push_cast [O,U])|refine ae ?_|refine pif ?_ ?_<;>intro h<;>try exact pN h)<;>push_cast [O,U])
   exact ⟨i+1,ac,by (refine weak_fg ?_;push_cast [O,U,he]),ac⟩
  ·rw [hbm] at hb;have he:=xM hlt hbm;repeat' ((first|(refine aQ false rfl rfl aj (hb) (fun r os h=>h.1) rfl ?_ ?_;push_cast [O,U];refine aD ?_;push_cast [O,U])|refine ae ?_|refine pif ?_ ?_<;>intro h<;>try exact pN h)<;>push_cast [O,U])
   exact ⟨i+1,ac,by (refine weak_fg ?_;push_cast [O,U,he]),ac⟩
 ·have he:kc l n i=eI l n:=by unfold kc eI;rw [List.take_of_length_le ac]
  rw [he];repeat' ((first|refine ae ?_|refine pif ?_ ?_<;>intro h<;>try exact pN h)<;>push_cast [O,U])
  exact am []
set_option maxHeartbeats 8000000 in
theorem C3 (l:List Dev) (d:Dev) (hn:(l.map Dev.index).Nodup) (hl:l.length≤1000) (hz:∀ x ∈ l,x.original.size≤100000) (hk:d.ok) (hd:d.original.size≤100000) :
  ah prog 223 [.agg (trE l),.agg d.e] [] fun r os=>r = .two (.agg (trE (if aR l d=0 then ed l d else []))) (.c (.v (.int .i64 (aR l d))))∧os=[]:=by
 have hix:=fl l d.index ac;have hck:=pE d hk;refine aw func223 ntmps223 results223 ?_;push_cast [O,U];have cB:aH 10 [65]:=trivial;rcases dY d.index l with ⟨g1,g2⟩|⟨i,g1,hi,g3⟩
 ·have he:aR l d=45:=by unfold aR;rw [g2]
  rw [g1] at hix;repeat' ((first|refine aK [] hix ?_|refine ae ?_|refine pif ?_ ?_<;>intro h<;>try exact pN h)<;>push_cast [O,U])
  (refine K9 [] ?_;push_cast [O,U,he])
 rw [g1] at hix;have hq:(l.getD i default).index=d.index:=(eu g3).2;have hT:=xa hn hi hq;obtain ⟨o,ho⟩:∃ o,l.getD i default=o:=⟨_,rfl⟩
 rw [ho] at g3;have he:aR l d=if aS d≠0 then 41 else if d.parent≠o.parent∨d.original≠o.original∨d.kind≠o.kind then 42 else if ci l d=true then 44 else 0:=by unfold aR;rw [g3]
 by_cases hc:aS d=0
 case neg =>
  rw [if_pos hc] at he;repeat' ((first|(refine plE [] hix ?_ ?_;focus (push_cast [O,U,ho,hi,hc];done))|(refine plE [] hck ?_ ?_;focus (push_cast [O,U,ho,hi,hc];done))|refine ae ?_|refine pif ?_ ?_<;>intro h<;>try exact pN h)<;>push_cast [O,U,ho,hi,hc])
  (refine K9 [] ?_;push_cast [O,U,he])
 rw [if_neg (fun h=>h hc)] at he;rw [hc] at hck;by_cases h1:o.parent=d.parent
 case neg =>
  rw [if_pos (.inl (fun h=>h1 h.symm))] at he;repeat' ((first|(refine plE [] hix ?_ ?_;focus (push_cast [O,U,ho,hi,h1];done))|(refine plE [] hck ?_ ?_;focus (push_cast [O,U,ho,hi,h1];done))|refine ae ?_|refine pif ?_ ?_<;>intro h<;>try exact pN h)<;>push_cast [O,U,ho,hi,h1])
  (refine K9 [] ?_;push_cast [O,U,he])
 have h1':(d.parent≠d.parent)=False:=by simp
 by_cases h2:o.original=d.original
 case neg =>
  rw [if_pos (.inr (.inl (fun h=>h2 h.symm)))] at he;have h2n:(o.original≠d.original)=True:=eq_true h2;repeat' ((first|(refine plE [] hix ?_ ?_;focus (push_cast [O,U,ho,hi,h1,h1',h2n];done))|(refine plE [] hck ?_ ?_;focus (push_cast [O,U,ho,hi,h1,h1',h2n];done))|refine ae ?_|refine pif ?_ ?_<;>intro h<;>try exact pN h)<;>push_cast [O,U,ho,hi,h1,h1',h2n])
  (refine K9 [] ?_;push_cast [O,U,he])
 have h2':(d.original≠d.original)=False:=by simp
 have h3':(d.kind≠d.kind)=False:=by simp
 by_cases h3:o.kind=d.kind
 case neg =>
  rw [if_pos (.inr (.inr (fun h=>h3 h.symm)))] at he;repeat' ((first|(refine plE [] hix ?_ ?_;focus (push_cast [O,U,ho,hi,h1,h1',h2,h2',h3];done))|(refine plE [] hck ?_ ?_;focus (push_cast [O,U,ho,hi,h1,h1',h2,h2',h3];done))|refine ae ?_|refine pif ?_ ?_<;>intro h<;>try exact pN h)<;>push_cast [O,U,ho,hi,h1,h1',h2,h2',h3])
  (refine K9 [] ?_;push_cast [O,U,he])
 rw [if_neg (fun h=>h.elim (fun h=>h h1.symm) fun h=>h.elim (fun h=>h h2.symm) fun h=>h h3.symm)] at he;repeat' ((first|(refine plE [] hix ?_ ?_;focus (push_cast [O,U,ho,hi,h1,h1',h2,h2',h3,h3'];done))|(refine plE [] hck ?_ ?_;focus (push_cast [O,U,ho,hi,h1,h1',h2,h2',h3,h3'];done))|refine ae ?_|refine pif ?_ ?_<;>intro h<;>try exact pN h)<;>push_cast [O,U,ho,hi,h1,h1',h2,h2',h3,h3'])
 (apply ap (α:=Nat) 10 [65] (fun j=>[(8,.c (.v (.int .i64 j)))]) (fun j=>[]) (fun j=>j≤l.length∧(l.take j).any (fun x=>!decide (x.index=d.index) && cx x d)=false) (fun j=>l.length - j) (0);(focus ((try push_cast [O,U]);rfl));(focus exact ⟨Nat.zero_le _,rfl⟩);(focus ((refine weak_fg ?_;try push_cast [O,U]))));rintro j ⟨hj,hpre⟩;push_cast [O,U];by_cases hlt:j < l.length
 ·have hjm:l.getD j default ∈ l:=by rw [ai l hlt];exact List.getElem_mem _
  have hcl:=pI (l.getD j default) d (hz _ hjm) hd;by_cases hji:j=i
  ·subst hji;have hstep:=jb (p:=fun x=>!decide (x.index=d.index) && cx x d) hlt hpre (by simp only [hq,decide_true,Bool.not_true,Bool.false_and]);have hii:((j:Int)≠(j:Int))=False:=by simp
   repeat' ((first|(refine av 10 [65] ?_;apply ak;(focus kernel_rfl);(focus (simp only [aP,Nat.reduceAdd];(repeat' first|((first|refine pah 0 ?_|refine pah 1 ?_|refine pah 2 ?_|refine pah 3 ?_|refine pah 4 ?_|refine pah 6 ?_|refine pah 7 ?_|refine pah 11 ?_);push_cast [O,U,  hii,ho])|(refine pad ?_;first|with_reducible exact ao 10 [65] _|(refine weak_fg ?_;push_cast [O,U,  hii,ho]))|((first|refine pas [5] ?_|refine pas [8] ?_|refine pas [9] ?_|refine pas [10] ?_);push_cast [O,U,  hii,ho])|((first|refine pas [5,9] ?_|refine pas [8,9] ?_);push_cast [O,U,  hii,ho];refine ⟨?_,?_⟩));done));push_cast [O,U,  hii,ho])|refine ae ?_|refine pif ?_ ?_<;>intro h<;>try exact pN h)<;>push_cast [O,U,hii,ho])
   exact ⟨j+1,⟨ac,hstep⟩,aA,ac⟩
  ·have hji':¬ (j:Int)=(i:Int):=ac;have hne:(l.getD j default).index≠d.index:=fun e=>hji (by
    have h4:=List.pairwise_iff_getElem.1 hn;rw [ai l hlt] at e;rw [ai l hi] at hq;rcases Nat.lt_trichotomy j i with h|h|h
    ·exact absurd (by rw [List.getElem_map,List.getElem_map,e,hq]) (h4 j i (by simpa using hlt) (by simpa using hi) h)
    ·exact h
    ·exact absurd (by rw [List.getElem_map,List.getElem_map,e,hq]) (h4 i j (by simpa using hi) (by simpa using hlt) h))
   cases hb:cx (l.getD j default) d with
   | true =>
    have hcm:ci l d=true:=by unfold ci;exact ja hlt (by simp only [decide_eq_false hne,Bool.not_false,Bool.true_and,hb])
    rw [hb] at hcl;rw [if_pos hcm] at he;repeat' ((first|(refine av 10 [65] ?_;apply ak;(focus kernel_rfl);(focus (simp only [aP,Nat.reduceAdd];(repeat' first|((refine plE [] hcl ?_ ?_<;>push_cast [O,U,  hji']))|((first|refine pah 0 ?_|refine pah 1 ?_|refine pah 2 ?_|refine pah 3 ?_|refine pah 4 ?_|refine pah 6 ?_|refine pah 7 ?_|refine pah 11 ?_);push_cast [O,U,  hji'])|(refine pad ?_;first|with_reducible exact ao 10 [65] _|(refine weak_fg ?_;push_cast [O,U,  hji']))|((first|refine pas [5] ?_|refine pas [8] ?_|refine pas [9] ?_|refine pas [10] ?_);push_cast [O,U,  hji'])|((first|refine pas [5,9] ?_|refine pas [8,9] ?_);push_cast [O,U,  hji'];refine ⟨?_,?_⟩));done));push_cast [O,U,  hji'])|refine ae ?_|refine pif ?_ ?_<;>intro h<;>try exact pN h)<;>push_cast [O,U,hji'])
    (refine K9 [] ?_;push_cast [O,U,he])
   | false =>
    have hstep:=jb (p:=fun x=>!decide (x.index=d.index) && cx x d) hlt hpre (by simp only [hb,Bool.and_false]);rw [hb] at hcl;repeat' ((first|(refine av 10 [65] ?_;apply ak;(focus kernel_rfl);(focus (simp only [aP,Nat.reduceAdd];(repeat' first|((refine plE [] hcl ?_ ?_<;>push_cast [O,U,  hji']))|((first|refine pah 0 ?_|refine pah 1 ?_|refine pah 2 ?_|refine pah 3 ?_|refine pah 4 ?_|refine pah 6 ?_|refine pah 7 ?_|refine pah 11 ?_);push_cast [O,U,  hji'])|(refine pad ?_;first|with_reducible exact ao 10 [65] _|(refine weak_fg ?_;push_cast [O,U,  hji']))|((first|refine pas [5] ?_|refine pas [8] ?_|refine pas [9] ?_|refine pas [10] ?_);push_cast [O,U,  hji'])|((first|refine pas [5,9] ?_|refine pas [8,9] ?_);push_cast [O,U,  hji'];refine ⟨?_,?_⟩));done));push_cast [O,U,  hji'])|refine ae ?_|refine pif ?_ ?_<;>intro h<;>try exact pN h)<;>push_cast [O,U,hji'])
    exact ⟨j+1,⟨ac,hstep⟩,aA,ac⟩
 ·have hcm:ci l d=false:=by rw [List.take_of_length_le ac] at hpre;exact hpre
  rw [if_neg (by rw [hcm];simp)] at he;have hset:(l.map Dev.d).set i d.d=(l.set i d).map Dev.d:=by rw [List.map_set]
  repeat' ((first|refine ae ?_|refine pif ?_ ?_<;>intro h<;>try exact pN h)<;>push_cast [O,U,hi,hset])
  (refine K9 [] ?_;push_cast [O,U,he,hT])
end
theorem Ij {k:Ker} (h:bJ k) {d:Dev} (hd:d ∈ k.tree):∀ a ∈ d.attrs,a.value≠⟨#[]⟩:=by
 have h1:=h.tree.chk d hd;unfold aS at h1;have e1:dI d=true:=by cases e:dI d with|true=>rfl|false=>rw [e] at h1;simp at h1
 rw [e1] at h1;have e2:namedM d=true:=by cases e:namedM d with|true=>rfl|false=>rw [e] at h1;simp at h1
 rw [e2] at h1;have e3:kindM d=true:=by cases e:kindM d with|true=>rfl|false=>rw [e] at h1;simp at h1
 rw [e3] at h1;have e4:numberM d=true:=by cases e:numberM d with|true=>rfl|false=>rw [e] at h1;simp at h1
 rw [e4] at h1;simp only [Bool.not_true,Bool.false_eq_true,if_false] at h1;have e5:¬ 24 < d.attrs.length:=fun e=>by rw [if_pos e] at h1;cases h1
 rw [if_neg e5] at h1;have e6:attrsB d.attrs=true:=by cases e:attrsB d.attrs with|true=>rfl|false=>rw [e] at h1;simp at h1
 simp only [attrsB,Bool.and_eq_true,List.all_eq_true] at e6;intro a ha e0;have h7:=e6.2 a ha;simp only [iz,fJ,Bool.and_eq_true,decide_eq_true_eq] at h7;rw [e0] at h7;simp at h7
theorem C4 {l:List Atr} (hv:∀ a ∈ l,a.value≠⟨#[]⟩) (n:ByteArray):(eM l n).2=decide ((eM l n).1≠⟨#[]⟩):=by
 unfold eM;cases h:l.find? (fun a=>decide (a.name=n)) with
 | none=>simp
 | some a=>have:=hv a (List.mem_of_find?_eq_some h);simp [this]
theorem C5 {l:List Atr} (h:l.Pairwise Up) (hv:∀ a ∈ l,a.value≠⟨#[]⟩) {n v:ByteArray} (e:(eM l n).1=v):cX n v l=l:=by
 refine FB (AE h) h fun c=>?_
 rw [xz h];by_cases hc:c=n
 ·subst hc;rw [if_pos rfl,← e,← C4 hv]
 ·rw [if_neg hc]
theorem F3 {k:Ker} {d:Dev} {n v:ByteArray} (h:validS n=false) (na:List Atr) (s:Bool):k.set d n na s=(k,41):=by unfold Ker.set;rw [if_pos h]
theorem C6 {k:Ker} (hB:bL k) {d:Dev} (hd:d ∈ k.tree) {n v:ByteArray} (h:validS n=true) (e:(eM d.attrs n).1=v):k.set d n (cX n v d.attrs) (jZ d n v)=(k,0):=by
 have h1:jZ d n v=true:=by unfold jZ;rw [← oU,e,decide_eq_true rfl]
 rw [h1];exact E2 hB.inv hd h (C5 (FH hB hd) (Ij hB.inv hd) e)
theorem F4 {k:Ker} {d:Dev} {n v:ByteArray} (h:validS n=true) (h2:aR k.tree (il d (cX n v d.attrs))≠0) (s:Bool):k.set d n (cX n v d.attrs) s=(k,aR k.tree (il d (cX n v d.attrs))):=by
 unfold Ker.set;rw [if_neg (by rw [h];simp),if_pos h2]
theorem F5 {k:Ker} {d:Dev} {n v:ByteArray} (h:validS n=true) (e:¬ (eM d.attrs n).1=v) (h2:aR k.tree (il d (cX n v d.attrs))=0):k.set d n (cX n v d.attrs) (jZ d n v)=((k.withT (ed k.tree (il d (cX n v d.attrs)))).emit 3 d.index ⟨#[]⟩,0):=by
 have h1:jZ d n v=false:=by unfold jZ;rw [← oU,decide_eq_false e]
 unfold Ker.set;rw [if_neg (by rw [h];simp),if_neg (fun h=>h h2),h1,if_neg (by simp)]
theorem nU {k:Ker} {d:Dev} {v:ByteArray} (h:aR k.tree (dS d v)=0):k.drive d v=((k.withT (ed k.tree (dS d v))).emit (if v=⟨#[]⟩ then 6 else 5) d.index ⟨#[]⟩,0):=by unfold Ker.drive;rw [if_pos h]
theorem AN (m:Mod) (d:Dev):rr m d.alias_=dU m d:=by
 unfold rr dU;congr 1;by_cases h:d.alias_=⟨#[]⟩<;>simp [h]
section
attribute [local irreducible] PL QL aL ah bg La aV PA
set_option maxRecDepth 20000
set_option maxHeartbeats 4000000 in
theorem si (k:Ker) (ev:Evt) (hn:k.evs.length≤1000000) :
  ah prog 193 [.agg k.re,.agg ev.e] [] fun r os=>r = .agg (k.tell ev.act ev.idx ev.path ev.old).re∧os=[]:=by
 refine aw func193 ntmps193 results193 ?_;unfold Ker.tell;push_cast [O,U];have cB:aH 5 []:=trivial;repeat' ((first|(refine eQ 2 ?_)|refine ae ?_|refine pif ?_ ?_<;>intro h<;>try exact pN h)<;>push_cast [O,U])
 refine dd ?_;(refine av 5 [] ?_;refine aO aj ?_;simp only [aP,Nat.reduceAdd];refine pah 0 ?_;push_cast [O,U];apply ar;intro z10;apply ar;intro z9;apply ar;intro z8;apply ar;intro z6;apply ar;intro z7;apply ar;intro z3;apply ar;intro z4;apply ar;intro z5;apply ar;intro z1;apply ar;intro z2;refine pas [1,3] ?_;push_cast [O,U];refine ⟨z1,z2⟩;refine pas [1,4] ?_;push_cast [O,U];refine ⟨z4,z5⟩;refine pas [2,3] ?_;push_cast [O,U];refine ⟨z3,paw z4 ?_⟩<;>(refine weak_fg ?_;push_cast [O,U]);refine pas [1] ?_;push_cast [O,U];refine z7;refine pas [2,4] ?_;push_cast [O,U];refine ⟨z6,paw z7 ?_⟩<;>(refine weak_fg ?_;push_cast [O,U]);refine pas [3] ?_;push_cast [O,U];refine paw z6 ?_<;>(refine weak_fg ?_;push_cast [O,U]);refine pas [2] ?_;push_cast [O,U];refine z8;refine pas [4] ?_;push_cast [O,U];refine paw z8 ?_<;>(refine weak_fg ?_;push_cast [O,U]);refine pas [5] ?_;push_cast [O,U];(focus (refine pah 6 ?_;push_cast [O,U];exact z9));refine pas [7] ?_;push_cast [O,U];refine paw z10 (ao 5 [] _);push_cast [O,U];refine pad ?_;push_cast [O,U]);exact am []
set_option maxHeartbeats 4000000 in
theorem fP (k:Ker) (a ix:Int) (old:ByteArray) (hT:dW k.tree) (hn:k.evs.length≤1000000) :
  ah prog 188 [.agg k.re,.c (.v (.int .i64 a)),.c (.v (.int .i64 ix)),.c (.v (.string old))] [] fun r os=>r = .agg (k.emit a ix old).re∧os=[]:=by
 have hp:=mG k.tree ix (by have:=hT.len;omega) (fun d hd=>by have:=(hT.small hd).name;omega);have ht:=si k ⟨0,a,ix,bF k.tree ix,old⟩ hn;rw [show k.tell (Evt.mk 0 a ix (bF k.tree ix) old).act (Evt.mk 0 a ix (bF k.tree ix) old).idx (Evt.mk 0 a ix (bF k.tree ix) old).path (Evt.mk 0 a ix (bF k.tree ix) old).old=k.emit a ix old from rfl] at ht;obtain ⟨E,hE⟩:∃ E,k.emit a ix old=E:=⟨_,rfl⟩
 rw [hE] at ht ⊢;refine aw func188 ntmps188 results188 ?_;push_cast [O,U];have cB:aH 9 []:=trivial;repeat' ((first|(refine av 9 [] ?_;apply ak;(focus kernel_rfl);(focus (simp only [aP,Nat.reduceAdd];(repeat' first|((refine plE [] hp ?_ ?_<;>push_cast [O,U]))|((refine plE [] ht ?_ ?_<;>push_cast [O,U]))|((first|refine pah 1 ?_|refine pah 2 ?_|refine pah 3 ?_|refine pah 5 ?_|refine pah 7 ?_|refine pah 8 ?_);push_cast [O,U])|(refine pad ?_;first|with_reducible exact ao 9 [] _|(refine weak_fg ?_;push_cast [O,U]))|((first|refine pas [0] ?_|refine pas [4] ?_|refine pas [6] ?_|refine pas [9] ?_|refine pas [10] ?_);push_cast [O,U])|((first|refine pas [0,4] ?_|refine pas [0,6] ?_);push_cast [O,U];refine ⟨?_,?_⟩));done));push_cast [O,U])|refine ae ?_|refine pif ?_ ?_<;>intro h<;>try exact pN h)<;>push_cast [O,U])
 exact am []
set_option maxHeartbeats 4000000 in
theorem jR (k:Ker) (d:Dev) (hT:dW k.tree) (hk:d.ok) (hd:d.original.size≤100000) :
  ah prog 196 [.agg k.re,.agg d.e] [] fun r os=>r = .two (.agg (if aR k.tree d=0 then k.withT (ed k.tree d) else k).re) (.c (.v (.int .i64 (aR k.tree d))))∧os=[]:=by
 have hc:=C3 k.tree d hT.okt.nodup (by have:=hT.len;omega) (fun x hx=>by have:=(hT.small hx).orig;omega) hk hd;refine aw func196 ntmps196 results196 ?_;push_cast [O,U];have cB:aH 9 []:=trivial;by_cases he:aR k.tree d=0
 ·rw [if_pos he,he] at hc;rw [if_pos he,he];obtain ⟨T,hTT⟩:∃ T,ed k.tree d=T:=⟨_,rfl⟩
  rw [hTT] at hc ⊢;repeat' ((first|refine aK [] hc ?_|refine ae ?_|refine pif ?_ ?_<;>intro h<;>try exact pN h)<;>push_cast [O,U])
  (refine K9 [] ?_;push_cast [O,U,Ker.withT])
 ·rw [if_neg he] at hc;rw [if_neg he];obtain ⟨ce,hce⟩:∃ ce,aR k.tree d=ce:=⟨_,rfl⟩
  rw [hce] at he hc ⊢;repeat' ((first|(refine plE [] hc ?_ ?_;focus (push_cast [O,U,he];done))|refine ae ?_|refine pif ?_ ?_<;>intro h<;>try exact pN h)<;>push_cast [O,U,he])
  exact am []
theorem ia (k:Ker) (d:Dev) (v:ByteArray) (hB:bL k) (hd:d.ok) (hdo:d.original.size≤100000) (hv:Fit v) (hn:k.evs.length+1≤1000000) (he:aR k.tree (dS d v)=0) :
  ah prog 190 [.agg k.re,.agg d.e,.c (.v (.string v))] [] fun r os=>r = .agg (k.drive d v).1.re∧os=[]:=by
 have hdd:(dS d v).ok:=⟨hd.name,hd.original,hd.subsystem,hv,hd.alias_,hd.attrs,hd.len,hd.orig⟩
 have hc:=jR k (dS d v) hB.inv.tree hdd hdo;rw [if_pos he,he] at hc;have hB2:=hB.chg he;have hX:(k.drive d v).1=(k.withT (ed k.tree (dS d v))).emit (if v=⟨#[]⟩ then 6 else 5) d.index ⟨#[]⟩:=by rw [nU he]
 rw [hX];obtain ⟨K,hK⟩:∃ K,k.withT (ed k.tree (dS d v))=K:=⟨_,rfl⟩
 have hKe:K.evs=k.evs:=by rw [← hK];rfl
 rw [hK] at hc hB2 ⊢;unfold dS at hc;refine aw func190 ntmps190 results190 ?_;push_cast [O,U];have cB:aH 7 []:=trivial;by_cases h0:v=⟨#[]⟩
 ·have h1:=fP K 6 d.index ⟨#[]⟩ hB2.inv.tree (by rw [hKe];omega);obtain ⟨E,hE⟩:∃ E,K.emit 6 d.index ⟨#[]⟩=E:=⟨_,rfl⟩
  rw [hE] at h1;rw [if_pos h0,hE];repeat' ((first|(refine plE [] hc ?_ ?_;focus (push_cast [O,U,h0];done))|(refine plE [] h1 ?_ ?_;focus (push_cast [O,U,h0];done))|refine ae ?_|refine pif ?_ ?_<;>intro h<;>try exact pN h)<;>push_cast [O,U,h0])
  exact am []
 ·have h1:=fP K 5 d.index ⟨#[]⟩ hB2.inv.tree (by rw [hKe];omega);obtain ⟨E,hE⟩:∃ E,K.emit 5 d.index ⟨#[]⟩=E:=⟨_,rfl⟩
  rw [hE] at h1;rw [if_neg h0,hE];repeat' ((first|(refine plE [] hc ?_ ?_;focus (push_cast [O,U,h0];done))|(refine plE [] h1 ?_ ?_;focus (push_cast [O,U,h0];done))|refine ae ?_|refine pif ?_ ?_<;>intro h<;>try exact pN h)<;>push_cast [O,U,h0])
  exact am []
end
end Go.Proofs.YtmbbkfffcflfcaaGreatDoor
