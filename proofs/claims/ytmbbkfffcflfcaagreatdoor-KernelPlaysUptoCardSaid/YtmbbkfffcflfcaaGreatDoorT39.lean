/- What the program computes, and the plain laws of it, part 39. -/
import Derived.Lib.ItoaNum
import Derived.WideKeyEntry
import Derived.Test.YtmbbkfffcflfcaaGreatDoorT38
namespace Go.Proofs.YtmbbkfffcflfcaaGreatDoor
open Go.Proofs.Tryz
set_option linter.unusedSimpArgs false
set_option linter.unusedVariables false
attribute [local irreducible] PL QL aL ah bg La aV PA
open Go.RowKit
open IntWalk renaming iteOmega → O, toNatUp → U
set_option maxRecDepth 20000
def jP (l:List Dev) (d:Dev):ByteArray:=aZ l d.parent++⟨#[47]⟩++d.original
theorem mD {l:List Dev} (h:Okt l) {d:Dev} (hc:aS d=0):dP (jP l d)=some (bB l d):=by
 have e:jP l d=fC (bB l d):=by unfold bB jP;rw [gZ];rfl
 rw [e];refine pM (by unfold bB;simp) fun p hp=>?_
 unfold bB at hp;rcases List.mem_append.1 hp with hp|hp
 ·exact wW h.val _ p hp
 ·rw [List.mem_singleton] at hp;rw [hp];exact jG hc
theorem zq {l:List Dev} (h:Okt l) {d:Dev} (hc:aS d=0):vi (jP l d)=(bB l d).length:=by unfold vi;rw [mD h hc]
theorem sd {l:List Dev} (h:Okt l) {d x:Dev} (hc:aS d=0) (hx:x ∈ l):sJ (aZ l x.index) (jP l d)=cu (bj l x.index) (bB l d):=by unfold sJ;rw [mD h hc,pO h hx]
theorem AH {l:List Dev} (h:Okt l) {d x:Dev} (hc:aS d=0) (hx:x ∈ l):aZ l x.index=jP l d ↔ bj l x.index=bB l d:=by
 constructor
 ·intro e;have h1:=pO h hx;rw [e,mD h hc] at h1;exact (Option.some.inj h1).symm
 ·intro e;unfold aZ;rw [e];unfold bB jP;rw [gZ];rfl
def insAt (l:List Dev) (d:Dev):Nat:=atM l (bB l d) l.length
theorem FO {l:List Dev} (h:Okt l) (ho:lL l) {d:Dev} (hc:aS d=0) {k:Int} (hk:Jw (fun x=>decide (0≤sJ (aZ l x.index) (jP l d))) l k):(k = -1∧insAt l d=l.length)∨(k=(insAt l d:Int)∧insAt l d < l.length):=by
 have hle:=mi l (bB l d) l.length;have hlo:=yH (d:=d) ho;unfold insAt;rcases hk with ⟨rfl,hk⟩|⟨i,rfl,hi,hq,hp⟩
 ·refine .inl ⟨rfl,?_⟩;by_cases h0:l.length=0
  ·omega
  ·have hm:l.getD (l.length - 1) default ∈ l:=by rw [ai l ac];exact List.getElem_mem _
   have h1:=of_decide_eq_false (hk _ hm);rw [sd h hc hm] at h1;have:=ox l (bB l d) (j:=l.length - 1) ac l.length ac;omega
 ·right;have hm:l.getD i default ∈ l:=by rw [ai l hi];exact List.getElem_mem _
  have h1:=of_decide_eq_true hq;rw [sd h hc hm] at h1;have e1:¬ i < atM l (bB l d) l.length:=fun hlt=>by
   have:=hlo (l.getD i default) (List.mem_take_iff_getElem.2 ⟨i,ac,by rw [ai l hi]⟩);omega
  have e2:i≤atM l (bB l d) l.length:=by
   by_cases h0:i=0
   ·omega
   ·have hm2:l.getD (i - 1) default ∈ l:=by rw [ai l ac];exact List.getElem_mem _
    have h2:=of_decide_eq_false (hp (l.getD (i - 1) default) (List.mem_take_iff_getElem.2 ⟨i - 1,ac,by rw [ai l ac]⟩));rw [sd h hc hm2] at h2;have:=ox l (bB l d) (j:=i - 1) ac l.length ac;omega
  have e3:i=atM l (bB l d) l.length:=ac;exact ⟨by rw [← e3],ac⟩
theorem H8 {l:List Dev} (h:Okt l) (ho:lL l) {d:Dev} (hc:aS d=0) (hf:aG l d.index=none):l.any (mj l (bB l d) d)=((decide (insAt l d < l.length) && decide (aZ l (l.getD (insAt l d) default).index=jP l d)) || ci l d):=by
 have hcl:ci l d=l.any fun x=>cx x d:=by
  unfold ci;rw [Bool.eq_iff_iff,List.any_eq_true,List.any_eq_true];constructor
  ·rintro ⟨x,hx,h1⟩;rw [Bool.and_eq_true] at h1;exact ⟨x,hx,h1.2⟩
  ·rintro ⟨x,hx,h1⟩;exact ⟨x,hx,by rw [h1,decide_eq_false (dQ.1 hf x hx)];rfl⟩
 rw [hcl,Bool.eq_iff_iff,List.any_eq_true,Bool.or_eq_true,List.any_eq_true,Bool.and_eq_true,decide_eq_true_eq,decide_eq_true_eq];have hlo:=yH (d:=d) ho;constructor
 ·rintro ⟨x,hx,h1⟩;unfold mj at h1;rw [Bool.or_eq_true,decide_eq_true_eq] at h1;rcases h1 with h1|h1
  ·left;obtain ⟨j,hj,rfl⟩:=List.getElem_of_mem hx;have e1:¬ j < insAt l d:=fun hlt=>by
    have:=hlo l[j] (List.mem_take_iff_getElem.2 ⟨j,by unfold insAt at hlt;omega,rfl⟩);omega
   have hin:insAt l d < l.length:=ac;refine ⟨hin,?_⟩;by_cases e2:insAt l d=j
   ·rw [e2,ai l hj,AH h hc hx];exact m7.1 h1
   ·exfalso;have h2:=List.pairwise_iff_getElem.1 ho (insAt l d) j hin hj ac;rw [m7.1 h1] at h2;have:=ox l (bB l d) (j:=insAt l d) (by rw [ai l hin];exact h2) l.length hin;unfold insAt at this hin;omega
  ·exact .inr ⟨x,hx,h1⟩
 ·rintro (⟨h1,h2⟩|⟨x,hx,h1⟩)
  ·have hm:l.getD (insAt l d) default ∈ l:=by rw [ai l h1];exact List.getElem_mem _
   refine ⟨_,hm,?_⟩;unfold mj;rw [decide_eq_true (m7.2 ((AH h hc hm).1 h2))];rfl
  ·refine ⟨x,hx,?_⟩;unfold mj;rw [h1,Bool.or_true]
theorem eW (l:List Dev) (d:Dev):eL l d=l.take (insAt l d)++d :: l.drop (insAt l d):=by unfold eL insAt;rw [List.append_assoc,List.singleton_append]
theorem vu (l:List Dev) (p:ByteArray) (x:Dev) (hl:l.length≤1000) (hz:∀ d ∈ l,d.original.size≤1000) (hp:p.size≤100000000):ah prog 134 [.agg x.e,.c (.ptr 0 0),.c (.ptr 1 0)] (nG l p) fun r os=>r = .c (.v (.bool (decide (0≤sJ (aZ l x.index) p))))∧os=nG l p:=by
 have hlk:=rJ l x.index;have hps:=jL hl hz x.index;have hc:=zc (aZ l x.index) p ac hp;refine aw func134 ntmps134 results134 ?_;push_cast [O,U];repeat' ((first|(refine plE [] hc ?_ ?_;focus (push_cast [O,U,hlk];done))|refine au ?_|refine pif ?_ ?_<;>intro h<;>try exact pN h)<;>push_cast [O,U,hlk])
 exact am [0,1,2,3]
set_option maxHeartbeats 16000000 in
theorem CL (l:List Dev) (d:Dev) (hT:Okt l) (ho:lL l) (hl:l.length≤1000) (hz:∀ x ∈ l,x.original.size≤1000) (ha:∀ x ∈ l,x.attrs.length≤1000000000) (hd:d.ok) (hdz:d.original.size≤1048576) (hda:d.attrs.length≤1000000000) :
  ah prog 86 [.agg (trE l),.agg d.e] [] fun r os=>r = .two (.agg (trE (if bU l d=0 then eL l d else []))) (.c (.v (.int .i64 (bU l d))))∧os=[]:=by
 have hk:=oJ l hT.p hl hz;have hlk1:=AA l d.parent;have hlk2:=AA l d.index;have hps:=jL hl hz d.parent;have hs1:(⟨#[47]⟩:ByteArray).size=1:=rfl;have hPz:(jP l d).size≤3000000:=by unfold jP;rw [ByteArray.size_append,ByteArray.size_append,hs1];omega
 have hix:=dX l ac 134 [0,1] (nG l (jP l d)) (fun x=>decide (0≤sJ (aZ l x.index) (jP l d))) ⟨aj,fun x _=>vu l (jP l d) x hl hz ac⟩;have hck:=rS d hd;have hdp:=zd (jP l d) ac;have hcs:=kX l ac ha;have hcd:=fm d hda;refine aw func86 ntmps86 results86 ?_;push_cast [O,U];have cB:aH 13 []:=trivial;refine bf fun K0 hK0=>?_
 refine pC ?_;push_cast [O,U];refine pU ?_;refine bf fun K1 hK1=>?_
 refine pC ?_;push_cast [O,U];(refine plE [] hk ?_ ?_<;>push_cast [O,U]);push_cast [O,U];refine pU ?_;refine bf fun K2 hK2=>?_
 refine pC ?_;push_cast [O,U,hlk1];refine pU ?_;refine bf fun K3 hK3=>?_
 refine pC ?_;push_cast [O,U,hlk2];refine pU ?_;refine av 13 [] ?_;push_cast [O,U];refine bf fun K4 hK4=>?_
 refine iv ?_;refine fU (q:=.c (.v (.string (aZ l d.parent)))) rfl (by push_cast [O,U]) (by push_cast [O,U]) ?_;push_cast [O,U];refine uP rfl rfl rfl rfl (Ax ac) (by push_cast [O,U]) ?_;push_cast [O,U];refine fU (q:=.c (.ptr 1 3)) rfl (by push_cast [O,U]) (by push_cast [O,U]) ?_;push_cast [O,U];refine fU (q:=.c (.v (.string d.original))) rfl (by push_cast [O,U]) (by push_cast [O,U]) ?_;push_cast [O,U];refine uP rfl rfl rfl rfl ?_ (by push_cast [O,U]) ?_
 ·rw [ByteArray.size_append,show (⟨#[47]⟩:ByteArray).size=1 from rfl];omega
 push_cast [O,U];refine an ?_;push_cast [O,U];rw [show aZ l d.parent++⟨#[47]⟩++d.original=jP l d from rfl];refine pU ?_;by_cases hc:aS d=0
 case neg =>
  have he:=ie1 (l:=l) hc;repeat' ((first|(refine plc [5,6,3,4] (hix) ?_ ?_;push_cast [O,U,hc];rintro r os ⟨k,hk,rfl,rfl⟩)|(refine plE [] hck ?_ ?_;focus (push_cast [O,U,hc];done))|refine ae ?_|refine pif ?_ ?_<;>intro h<;>try exact pN h)<;>push_cast [O,U,hc])
  all_goals (refine K9 [] ?_;push_cast [O,U,he])
 rw [hc] at hck;have hdz2:d.original.size≤1000:=by have:=cE (jG hc);omega
 have hcl:=nL l d ac (fun x hx=>by have:=hz x hx;omega) ac;have hole:insAt l d≤l.length:=mi l (bB l d) l.length;have hixe:=hix.mono (R':=fun r os=>r = .c (.v (.int .i64 (if insAt l d < l.length then (insAt l d:Int) else -1)))∧os=nG l (jP l d)) fun r os ⟨k,hk,hr,ho2⟩=>by
  rcases FO hT ho hc hk with ⟨h1,h2⟩|⟨h1,h2⟩
  ·exact ⟨by rw [hr,h1,if_neg ac],ho2⟩
  ·exact ⟨by rw [hr,h1,if_pos h2],ho2⟩
 refine bf fun K5 hK5=>?_
 refine pC ?_;push_cast [O,U];(refine plE [5,6,3,4] hixe ?_ ?_<;>push_cast [O,U]);push_cast [O,U];refine pU ?_;obtain ⟨m,hm⟩:∃ m,insAt l d=m:=⟨_,rfl⟩
 rw [hm] at hole ⊢;(apply Ew (α:=Nat) 13 [] (fun u=>[(12,.c (.v (.int .i64 u)))]) (fun u=>[]) (fun u=>u≤l.length∧u=m) (m);(focus ((try push_cast [O,U]);rfl)))
 ·by_cases hin:m < l.length
  ·have h1:¬ (m:Int) < 0:=ac;repeat' ((first|refine ae ?_|refine pif ?_ ?_<;>intro h<;>try exact pN h)<;>push_cast [O,U,hin,if_true,if_pos hin,h1])
   exact ⟨m,⟨hole,rfl⟩,aA⟩
  ·have h2:m=l.length:=ac;repeat' ((first|refine ae ?_|refine pif ?_ ?_<;>intro h<;>try exact pN h)<;>push_cast [O,U,hin,if_false,if_neg hin])
   exact ⟨m,⟨hole,rfl⟩,by rw [h2];(refine weak_fg ?_;push_cast [O,U])⟩
 rintro u ⟨_,rfl⟩;push_cast [O,U];by_cases h2:(aG l d.index).isSome=true
 ·have he:=ie2 hc h2;rw [h2] at hlk2;repeat' ((first|(refine plE [] hck ?_ ?_;focus (push_cast [O,U,h2];done))|refine ae ?_|refine pif ?_ ?_<;>intro h<;>try exact pN h)<;>push_cast [O,U,h2])
  all_goals (refine K9 [] ?_;push_cast [O,U,he])
 have h2n:aG l d.index=none:=by cases h:aG l d.index with
  | none=>rfl
  | some y=>rw [h] at h2;exact absurd rfl h2
 have h2f:(aG l d.index).isSome=false:=by rw [h2n];rfl
 by_cases h3:d.parent=0∨(aG l d.parent).isSome=true
 case neg =>
  have h3a:d.parent≠0:=fun h=>h3 (.inl h)
  have h3b:aG l d.parent=none:=by cases h:aG l d.parent with
   | none=>rfl
   | some y=>exact absurd (.inr (by rw [h];rfl)) h3
  have h3c:(aG l d.parent).isSome=false:=by rw [h3b];rfl
  have he:=ie3 hc h2n h3a h3b;repeat' ((first|(refine plE [] hck ?_ ?_;focus (push_cast [O,U,h2f,h3a,h3c];done))|refine ae ?_|refine pif ?_ ?_<;>intro h<;>try exact pN h)<;>push_cast [O,U,h2f,h3a,h3c])
  all_goals (refine K9 [] ?_;push_cast [O,U,he])
 have h3d:((decide (¬ d.parent=0)) && !(aG l d.parent).isSome)=false:=by
  rcases h3 with h|h
  ·rw [decide_eq_false (fun hh=>hh h)];rfl
  ·rw [h];simp
 by_cases h5:256≤l.length
 ·have he:=ie4 hc h2n h3 h5;by_cases h3e:d.parent=0
  ·repeat' ((first|(refine plE [] hck ?_ ?_;focus (push_cast [O,U,h2f,h3e,h5];done))|refine ae ?_|refine pif ?_ ?_<;>intro h<;>try exact pN h)<;>push_cast [O,U,h2f,h3e,h5])
   all_goals (refine K9 [] ?_;push_cast [O,U,he])
  ·have h3f:(aG l d.parent).isSome=true:=h3.resolve_left h3e;repeat' ((first|(refine plE [] hck ?_ ?_;focus (push_cast [O,U,h2f,h3e,h3f,h5];done))|refine ae ?_|refine pif ?_ ?_<;>intro h<;>try exact pN h)<;>push_cast [O,U,h2f,h3e,h3f,h5])
   all_goals (refine K9 [] ?_;push_cast [O,U,he])
 rw [zq hT hc] at hdp;have h6a:(7 < (bB l d).length)∨¬ 7 < (bB l d).length:=Classical.em _;have hlk4:=rJ l (l.getD u default).index;by_cases h6:7 < (bB l d).length
 ·have he:=ie5 hc h2n h3 h5 h6;have h6b:(7:Int) < ((bB l d).length:Int):=ac;by_cases h3e:d.parent=0
  ·repeat' ((first|(refine plE [] hck ?_ ?_;focus (push_cast [O,U,h2f,h3e,h5,h6b];done))|(refine plE [] hdp ?_ ?_;focus (push_cast [O,U,h2f,h3e,h5,h6b];done))|refine ae ?_|refine pif ?_ ?_<;>intro h<;>try exact pN h)<;>push_cast [O,U,h2f,h3e,h5,h6b])
   all_goals (refine K9 [] ?_;push_cast [O,U,he])
  ·have h3f:(aG l d.parent).isSome=true:=h3.resolve_left h3e;repeat' ((first|(refine plE [] hck ?_ ?_;focus (push_cast [O,U,h2f,h3e,h3f,h5,h6b];done))|(refine plE [] hdp ?_ ?_;focus (push_cast [O,U,h2f,h3e,h3f,h5,h6b];done))|refine ae ?_|refine pif ?_ ?_<;>intro h<;>try exact pN h)<;>push_cast [O,U,h2f,h3e,h3f,h5,h6b])
   all_goals (refine K9 [] ?_;push_cast [O,U,he])
 have h6b:¬ (7:Int) < ((bB l d).length:Int):=ac;have he:=ie6 hc h2n h3 h5 h6;rw [H8 hT ho hc h2n,hm] at he;have hid:=vt l d u hole ac;by_cases h3e:d.parent=0
 case pos =>
  by_cases hin:u < l.length
  ·by_cases hq:aZ l (l.getD u default).index=jP l d
   ·rw [decide_eq_true hin,decide_eq_true hq] at he;simp only [Bool.and_self,Bool.true_or,if_true] at he;repeat' ((first|(refine plE [] hck ?_ ?_;focus (push_cast [O,U,h2f,h3e,h5,h6b,hlk4,hin,hq];done))|(refine plE [] hdp ?_ ?_;focus (push_cast [O,U,h2f,h3e,h5,h6b,hlk4,hin,hq];done))|(refine plE [] hcl ?_ ?_;focus (push_cast [O,U,h2f,h3e,h5,h6b,hlk4,hin,hq];done))|refine ae ?_|refine pif ?_ ?_<;>intro h<;>try exact pN h)<;>push_cast [O,U,h2f,h3e,h5,h6b,hlk4,hin,hq])
    all_goals (refine K9 [] ?_;push_cast [O,U,he])
   ·rw [decide_eq_false hq,Bool.and_false,Bool.false_or] at he;by_cases hcm:ci l d=true
    ·rw [if_pos hcm] at he;repeat' ((first|(refine plE [] hck ?_ ?_;focus (push_cast [O,U,h2f,h3e,h5,h6b,hlk4,hin,hq,hcm];done))|(refine plE [] hdp ?_ ?_;focus (push_cast [O,U,h2f,h3e,h5,h6b,hlk4,hin,hq,hcm];done))|(refine plE [] hcl ?_ ?_;focus (push_cast [O,U,h2f,h3e,h5,h6b,hlk4,hin,hq,hcm];done))|refine ae ?_|refine pif ?_ ?_<;>intro h<;>try exact pN h)<;>push_cast [O,U,h2f,h3e,h5,h6b,hlk4,hin,hq,hcm])
     all_goals (refine K9 [] ?_;push_cast [O,U,he])
    ·rw [if_neg hcm] at he;repeat' ((first|(refine eQ 21 ?_)|(refine plE [] hck ?_ ?_;focus (push_cast [O,U,h2f,h3e,h5,h6b,hlk4,hin,hq,hcm];done))|(refine plE [] hdp ?_ ?_;focus (push_cast [O,U,h2f,h3e,h5,h6b,hlk4,hin,hq,hcm];done))|(refine plE [] hcl ?_ ?_;focus (push_cast [O,U,h2f,h3e,h5,h6b,hlk4,hin,hq,hcm];done))|refine ae ?_|refine pif ?_ ?_<;>intro h<;>try exact pN h)<;>push_cast [O,U,h2f,h3e,h5,h6b,hlk4,hin,hq,hcm])
     refine dd ?_;(refine aO aj ?_;try simp only [aP,Nat.reduceAdd];repeat' first|(refine plE [] hcs ?_ ?_;(focus (push_cast [O,U,  h3e];done));push_cast [O,U,  h3e])|(refine plE [] hcd ?_ ?_;(focus (push_cast [O,U,  h3e];done));push_cast [O,U,  h3e])|(refine aW false [7] rfl rfl aj hid ?_ nofun ?_;push_cast [O,U,  h3e];rintro r os (⟨rfl,rfl⟩|⟨rfl,rfl⟩)<;>(refine an ?_;push_cast [O,U,  h3e]))|((first|refine pah 0 ?_|refine pah 3 ?_|refine pah 8 ?_|refine pah 10 ?_);push_cast [O,U,  h3e])|(refine pad ?_;try push_cast [O,U,  h3e])|((first|refine pas [1] ?_|refine pas [2] ?_|refine pas [4] ?_|refine pas [5] ?_|refine pas [6] ?_|refine pas [7] ?_|refine pas [9] ?_);push_cast [O,U,  h3e])|((first|refine pas [1,2] ?_|refine pas [1,4] ?_|refine pas [1,5] ?_|refine pas [1,6] ?_|refine pas [1,7] ?_|refine pas [1,9] ?_|refine pas [2,4] ?_|refine pas [2,5] ?_|refine pas [2,6] ?_|refine pas [2,7] ?_|refine pas [2,9] ?_|refine pas [4,5] ?_|refine pas [4,6] ?_|refine pas [4,7] ?_|refine pas [4,9] ?_|refine pas [5,6] ?_|refine pas [5,7] ?_|refine pas [5,9] ?_|refine pas [6,7] ?_|refine pas [6,9] ?_|refine pas [7,9] ?_);push_cast [O,U,  h3e];refine ⟨?_,?_⟩)|((first|refine pas [1,2,4] ?_|refine pas [1,2,5] ?_|refine pas [1,2,6] ?_|refine pas [1,2,7] ?_|refine pas [1,2,9] ?_|refine pas [1,4,5] ?_|refine pas [1,4,6] ?_|refine pas [1,4,7] ?_|refine pas [1,4,9] ?_|refine pas [1,5,6] ?_|refine pas [1,5,7] ?_|refine pas [1,5,9] ?_|refine pas [1,6,7] ?_|refine pas [1,6,9] ?_|refine pas [1,7,9] ?_|refine pas [2,4,5] ?_|refine pas [2,4,6] ?_|refine pas [2,4,7] ?_|refine pas [2,4,9] ?_|refine pas [2,5,6] ?_|refine pas [2,5,7] ?_|refine pas [2,5,9] ?_|refine pas [2,6,7] ?_|refine pas [2,6,9] ?_|refine pas [2,7,9] ?_|refine pas [4,5,6] ?_|refine pas [4,5,7] ?_|refine pas [4,5,9] ?_|refine pas [4,6,7] ?_|refine pas [4,6,9] ?_|refine pas [4,7,9] ?_|refine pas [5,6,7] ?_|refine pas [5,6,9] ?_|refine pas [5,7,9] ?_|refine pas [6,7,9] ?_);push_cast [O,U,  h3e];refine ⟨?_,?_,?_⟩));all_goals first|rw [he,if_pos rfl,eW,hm]|rw [he,eW,hm]|rw [eW,hm]
     all_goals (refine K9 [] ?_;push_cast [O,U])
     all_goals (rw [h3e];exact List.take_of_length_le (by rw [List.length_append,List.length_cons,List.length_map,List.length_map,List.length_take,List.length_drop];omega))
  ·rw [decide_eq_false hin,Bool.false_and,Bool.false_or] at he;by_cases hcm:ci l d=true
   ·rw [if_pos hcm] at he;repeat' ((first|(refine plE [] hck ?_ ?_;focus (push_cast [O,U,h2f,h3e,h5,h6b,hlk4,hin,hcm];done))|(refine plE [] hdp ?_ ?_;focus (push_cast [O,U,h2f,h3e,h5,h6b,hlk4,hin,hcm];done))|(refine plE [] hcl ?_ ?_;focus (push_cast [O,U,h2f,h3e,h5,h6b,hlk4,hin,hcm];done))|refine ae ?_|refine pif ?_ ?_<;>intro h<;>try exact pN h)<;>push_cast [O,U,h2f,h3e,h5,h6b,hlk4,hin,hcm])
    all_goals (refine K9 [] ?_;push_cast [O,U,he])
   ·rw [if_neg hcm] at he;repeat' ((first|(refine eQ 21 ?_)|(refine plE [] hck ?_ ?_;focus (push_cast [O,U,h2f,h3e,h5,h6b,hlk4,hin,hcm];done))|(refine plE [] hdp ?_ ?_;focus (push_cast [O,U,h2f,h3e,h5,h6b,hlk4,hin,hcm];done))|(refine plE [] hcl ?_ ?_;focus (push_cast [O,U,h2f,h3e,h5,h6b,hlk4,hin,hcm];done))|refine ae ?_|refine pif ?_ ?_<;>intro h<;>try exact pN h)<;>push_cast [O,U,h2f,h3e,h5,h6b,hlk4,hin,hcm])
    refine dd ?_;(refine aO aj ?_;try simp only [aP,Nat.reduceAdd];repeat' first|(refine plE [] hcs ?_ ?_;(focus (push_cast [O,U,  h3e];done));push_cast [O,U,  h3e])|(refine plE [] hcd ?_ ?_;(focus (push_cast [O,U,  h3e];done));push_cast [O,U,  h3e])|(refine aW false [7] rfl rfl aj hid ?_ nofun ?_;push_cast [O,U,  h3e];rintro r os (⟨rfl,rfl⟩|⟨rfl,rfl⟩)<;>(refine an ?_;push_cast [O,U,  h3e]))|((first|refine pah 0 ?_|refine pah 3 ?_|refine pah 8 ?_|refine pah 10 ?_);push_cast [O,U,  h3e])|(refine pad ?_;try push_cast [O,U,  h3e])|((first|refine pas [1] ?_|refine pas [2] ?_|refine pas [4] ?_|refine pas [5] ?_|refine pas [6] ?_|refine pas [7] ?_|refine pas [9] ?_);push_cast [O,U,  h3e])|((first|refine pas [1,2] ?_|refine pas [1,4] ?_|refine pas [1,5] ?_|refine pas [1,6] ?_|refine pas [1,7] ?_|refine pas [1,9] ?_|refine pas [2,4] ?_|refine pas [2,5] ?_|refine pas [2,6] ?_|refine pas [2,7] ?_|refine pas [2,9] ?_|refine pas [4,5] ?_|refine pas [4,6] ?_|refine pas [4,7] ?_|refine pas [4,9] ?_|refine pas [5,6] ?_|refine pas [5,7] ?_|refine pas [5,9] ?_|refine pas [6,7] ?_|refine pas [6,9] ?_|refine pas [7,9] ?_);push_cast [O,U,  h3e];refine ⟨?_,?_⟩)|((first|refine pas [1,2,4] ?_|refine pas [1,2,5] ?_|refine pas [1,2,6] ?_|refine pas [1,2,7] ?_|refine pas [1,2,9] ?_|refine pas [1,4,5] ?_|refine pas [1,4,6] ?_|refine pas [1,4,7] ?_|refine pas [1,4,9] ?_|refine pas [1,5,6] ?_|refine pas [1,5,7] ?_|refine pas [1,5,9] ?_|refine pas [1,6,7] ?_|refine pas [1,6,9] ?_|refine pas [1,7,9] ?_|refine pas [2,4,5] ?_|refine pas [2,4,6] ?_|refine pas [2,4,7] ?_|refine pas [2,4,9] ?_|refine pas [2,5,6] ?_|refine pas [2,5,7] ?_|refine pas [2,5,9] ?_|refine pas [2,6,7] ?_|refine pas [2,6,9] ?_|refine pas [2,7,9] ?_|refine pas [4,5,6] ?_|refine pas [4,5,7] ?_|refine pas [4,5,9] ?_|refine pas [4,6,7] ?_|refine pas [4,6,9] ?_|refine pas [4,7,9] ?_|refine pas [5,6,7] ?_|refine pas [5,6,9] ?_|refine pas [5,7,9] ?_|refine pas [6,7,9] ?_);push_cast [O,U,  h3e];refine ⟨?_,?_,?_⟩));all_goals first|rw [he,if_pos rfl,eW,hm]|rw [he,eW,hm]|rw [eW,hm]
    all_goals (refine K9 [] ?_;push_cast [O,U])
    all_goals (rw [h3e];exact List.take_of_length_le (by rw [List.length_append,List.length_cons,List.length_map,List.length_map,List.length_take,List.length_drop];omega))
 case neg =>
  have h3f:(aG l d.parent).isSome=true:=h3.resolve_left h3e;by_cases hin:u < l.length
  ·by_cases hq:aZ l (l.getD u default).index=jP l d
   ·rw [decide_eq_true hin,decide_eq_true hq] at he;simp only [Bool.and_self,Bool.true_or,if_true] at he;repeat' ((first|(refine plE [] hck ?_ ?_;focus (push_cast [O,U,h2f,h3e,h3f,h5,h6b,hlk4,hin,hq];done))|(refine plE [] hdp ?_ ?_;focus (push_cast [O,U,h2f,h3e,h3f,h5,h6b,hlk4,hin,hq];done))|(refine plE [] hcl ?_ ?_;focus (push_cast [O,U,h2f,h3e,h3f,h5,h6b,hlk4,hin,hq];done))|refine ae ?_|refine pif ?_ ?_<;>intro h<;>try exact pN h)<;>push_cast [O,U,h2f,h3e,h3f,h5,h6b,hlk4,hin,hq])
    all_goals (refine K9 [] ?_;push_cast [O,U,he])
   ·rw [decide_eq_false hq,Bool.and_false,Bool.false_or] at he;by_cases hcm:ci l d=true
    ·rw [if_pos hcm] at he;repeat' ((first|(refine plE [] hck ?_ ?_;focus (push_cast [O,U,h2f,h3e,h3f,h5,h6b,hlk4,hin,hq,hcm];done))|(refine plE [] hdp ?_ ?_;focus (push_cast [O,U,h2f,h3e,h3f,h5,h6b,hlk4,hin,hq,hcm];done))|(refine plE [] hcl ?_ ?_;focus (push_cast [O,U,h2f,h3e,h3f,h5,h6b,hlk4,hin,hq,hcm];done))|refine ae ?_|refine pif ?_ ?_<;>intro h<;>try exact pN h)<;>push_cast [O,U,h2f,h3e,h3f,h5,h6b,hlk4,hin,hq,hcm])
     all_goals (refine K9 [] ?_;push_cast [O,U,he])
    ·rw [if_neg hcm] at he;repeat' ((first|(refine eQ 21 ?_)|(refine plE [] hck ?_ ?_;focus (push_cast [O,U,h2f,h3e,h3f,h5,h6b,hlk4,hin,hq,hcm];done))|(refine plE [] hdp ?_ ?_;focus (push_cast [O,U,h2f,h3e,h3f,h5,h6b,hlk4,hin,hq,hcm];done))|(refine plE [] hcl ?_ ?_;focus (push_cast [O,U,h2f,h3e,h3f,h5,h6b,hlk4,hin,hq,hcm];done))|refine ae ?_|refine pif ?_ ?_<;>intro h<;>try exact pN h)<;>push_cast [O,U,h2f,h3e,h3f,h5,h6b,hlk4,hin,hq,hcm])
     refine dd ?_;(refine aO aj ?_;try simp only [aP,Nat.reduceAdd];repeat' first|(refine plE [] hcs ?_ ?_;(focus (push_cast [O,U];done));push_cast [O,U])|(refine plE [] hcd ?_ ?_;(focus (push_cast [O,U];done));push_cast [O,U])|(refine aW false [7] rfl rfl aj hid ?_ nofun ?_;push_cast [O,U];rintro r os (⟨rfl,rfl⟩|⟨rfl,rfl⟩)<;>(refine an ?_;push_cast [O,U]))|((first|refine pah 0 ?_|refine pah 3 ?_|refine pah 8 ?_|refine pah 10 ?_);push_cast [O,U])|(refine pad ?_;try push_cast [O,U])|((first|refine pas [1] ?_|refine pas [2] ?_|refine pas [4] ?_|refine pas [5] ?_|refine pas [6] ?_|refine pas [7] ?_|refine pas [9] ?_);push_cast [O,U])|((first|refine pas [1,2] ?_|refine pas [1,4] ?_|refine pas [1,5] ?_|refine pas [1,6] ?_|refine pas [1,7] ?_|refine pas [1,9] ?_|refine pas [2,4] ?_|refine pas [2,5] ?_|refine pas [2,6] ?_|refine pas [2,7] ?_|refine pas [2,9] ?_|refine pas [4,5] ?_|refine pas [4,6] ?_|refine pas [4,7] ?_|refine pas [4,9] ?_|refine pas [5,6] ?_|refine pas [5,7] ?_|refine pas [5,9] ?_|refine pas [6,7] ?_|refine pas [6,9] ?_|refine pas [7,9] ?_);push_cast [O,U];refine ⟨?_,?_⟩)|((first|refine pas [1,2,4] ?_|refine pas [1,2,5] ?_|refine pas [1,2,6] ?_|refine pas [1,2,7] ?_|refine pas [1,2,9] ?_|refine pas [1,4,5] ?_|refine pas [1,4,6] ?_|refine pas [1,4,7] ?_|refine pas [1,4,9] ?_|refine pas [1,5,6] ?_|refine pas [1,5,7] ?_|refine pas [1,5,9] ?_|refine pas [1,6,7] ?_|refine pas [1,6,9] ?_|refine pas [1,7,9] ?_|refine pas [2,4,5] ?_|refine pas [2,4,6] ?_|refine pas [2,4,7] ?_|refine pas [2,4,9] ?_|refine pas [2,5,6] ?_|refine pas [2,5,7] ?_|refine pas [2,5,9] ?_|refine pas [2,6,7] ?_|refine pas [2,6,9] ?_|refine pas [2,7,9] ?_|refine pas [4,5,6] ?_|refine pas [4,5,7] ?_|refine pas [4,5,9] ?_|refine pas [4,6,7] ?_|refine pas [4,6,9] ?_|refine pas [4,7,9] ?_|refine pas [5,6,7] ?_|refine pas [5,6,9] ?_|refine pas [5,7,9] ?_|refine pas [6,7,9] ?_);push_cast [O,U];refine ⟨?_,?_,?_⟩));all_goals first|rw [he,if_pos rfl,eW,hm]|rw [he,eW,hm]|rw [eW,hm]
     all_goals (refine K9 [] ?_;push_cast [O,U])
     all_goals (exact List.take_of_length_le (by rw [List.length_append,List.length_cons,List.length_map,List.length_map,List.length_take,List.length_drop];omega))
  ·rw [decide_eq_false hin,Bool.false_and,Bool.false_or] at he;by_cases hcm:ci l d=true
   ·rw [if_pos hcm] at he;repeat' ((first|(refine plE [] hck ?_ ?_;focus (push_cast [O,U,h2f,h3e,h3f,h5,h6b,hlk4,hin,hcm];done))|(refine plE [] hdp ?_ ?_;focus (push_cast [O,U,h2f,h3e,h3f,h5,h6b,hlk4,hin,hcm];done))|(refine plE [] hcl ?_ ?_;focus (push_cast [O,U,h2f,h3e,h3f,h5,h6b,hlk4,hin,hcm];done))|refine ae ?_|refine pif ?_ ?_<;>intro h<;>try exact pN h)<;>push_cast [O,U,h2f,h3e,h3f,h5,h6b,hlk4,hin,hcm])
    all_goals (refine K9 [] ?_;push_cast [O,U,he])
   ·rw [if_neg hcm] at he;repeat' ((first|(refine eQ 21 ?_)|(refine plE [] hck ?_ ?_;focus (push_cast [O,U,h2f,h3e,h3f,h5,h6b,hlk4,hin,hcm];done))|(refine plE [] hdp ?_ ?_;focus (push_cast [O,U,h2f,h3e,h3f,h5,h6b,hlk4,hin,hcm];done))|(refine plE [] hcl ?_ ?_;focus (push_cast [O,U,h2f,h3e,h3f,h5,h6b,hlk4,hin,hcm];done))|refine ae ?_|refine pif ?_ ?_<;>intro h<;>try exact pN h)<;>push_cast [O,U,h2f,h3e,h3f,h5,h6b,hlk4,hin,hcm])
    refine dd ?_;(refine aO aj ?_;try simp only [aP,Nat.reduceAdd];repeat' first|(refine plE [] hcs ?_ ?_;(focus (push_cast [O,U];done));push_cast [O,U])|(refine plE [] hcd ?_ ?_;(focus (push_cast [O,U];done));push_cast [O,U])|(refine aW false [7] rfl rfl aj hid ?_ nofun ?_;push_cast [O,U];rintro r os (⟨rfl,rfl⟩|⟨rfl,rfl⟩)<;>(refine an ?_;push_cast [O,U]))|((first|refine pah 0 ?_|refine pah 3 ?_|refine pah 8 ?_|refine pah 10 ?_);push_cast [O,U])|(refine pad ?_;try push_cast [O,U])|((first|refine pas [1] ?_|refine pas [2] ?_|refine pas [4] ?_|refine pas [5] ?_|refine pas [6] ?_|refine pas [7] ?_|refine pas [9] ?_);push_cast [O,U])|((first|refine pas [1,2] ?_|refine pas [1,4] ?_|refine pas [1,5] ?_|refine pas [1,6] ?_|refine pas [1,7] ?_|refine pas [1,9] ?_|refine pas [2,4] ?_|refine pas [2,5] ?_|refine pas [2,6] ?_|refine pas [2,7] ?_|refine pas [2,9] ?_|refine pas [4,5] ?_|refine pas [4,6] ?_|refine pas [4,7] ?_|refine pas [4,9] ?_|refine pas [5,6] ?_|refine pas [5,7] ?_|refine pas [5,9] ?_|refine pas [6,7] ?_|refine pas [6,9] ?_|refine pas [7,9] ?_);push_cast [O,U];refine ⟨?_,?_⟩)|((first|refine pas [1,2,4] ?_|refine pas [1,2,5] ?_|refine pas [1,2,6] ?_|refine pas [1,2,7] ?_|refine pas [1,2,9] ?_|refine pas [1,4,5] ?_|refine pas [1,4,6] ?_|refine pas [1,4,7] ?_|refine pas [1,4,9] ?_|refine pas [1,5,6] ?_|refine pas [1,5,7] ?_|refine pas [1,5,9] ?_|refine pas [1,6,7] ?_|refine pas [1,6,9] ?_|refine pas [1,7,9] ?_|refine pas [2,4,5] ?_|refine pas [2,4,6] ?_|refine pas [2,4,7] ?_|refine pas [2,4,9] ?_|refine pas [2,5,6] ?_|refine pas [2,5,7] ?_|refine pas [2,5,9] ?_|refine pas [2,6,7] ?_|refine pas [2,6,9] ?_|refine pas [2,7,9] ?_|refine pas [4,5,6] ?_|refine pas [4,5,7] ?_|refine pas [4,5,9] ?_|refine pas [4,6,7] ?_|refine pas [4,6,9] ?_|refine pas [4,7,9] ?_|refine pas [5,6,7] ?_|refine pas [5,6,9] ?_|refine pas [5,7,9] ?_|refine pas [6,7,9] ?_);push_cast [O,U];refine ⟨?_,?_,?_⟩));all_goals first|rw [he,if_pos rfl,eW,hm]|rw [he,eW,hm]|rw [eW,hm]
    all_goals (refine K9 [] ?_;push_cast [O,U])
    all_goals (exact List.take_of_length_le (by rw [List.length_append,List.length_cons,List.length_map,List.length_map,List.length_take,List.length_drop];omega))
end Go.Proofs.YtmbbkfffcflfcaaGreatDoor
