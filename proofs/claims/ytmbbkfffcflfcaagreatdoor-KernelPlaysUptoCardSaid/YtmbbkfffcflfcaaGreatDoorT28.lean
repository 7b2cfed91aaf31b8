/- What the program computes, and the plain laws of it, part 28. -/
import Derived.Test.YtmbbkfffcflfcaaGreatDoorT27
namespace Go.Proofs.YtmbbkfffcflfcaaGreatDoor
open Nat renaming reduceAdd → rA
open Go.Proofs.Tryz
set_option linter.unusedSimpArgs false
set_option linter.unusedVariables false
attribute [local irreducible] PL QL aL ah bg La aV PA
open Go.RowKit
open IntWalk renaming iteOmega → O, toNatUp → U
set_option maxRecDepth 20000
theorem ie1 {l:List Dev} {d:Dev} (h:aS d≠0):bU l d=41:=by unfold bU;rw [if_pos h]
theorem ie2 {l:List Dev} {d:Dev} (h:aS d=0) (h2:(aG l d.index).isSome=true):bU l d=44:=by unfold bU;rw [if_neg (by simp [h]),if_pos h2]
theorem ie3 {l:List Dev} {d:Dev} (h:aS d=0) (h2:aG l d.index=none) (h3:d.parent≠0) (h4:aG l d.parent=none):bU l d=42:=by
 unfold bU;rw [if_neg (by simp [h]),if_neg (by simp [h2]),if_pos ⟨h3,by simp [h4]⟩]
theorem ie4 {l:List Dev} {d:Dev} (h:aS d=0) (h2:aG l d.index=none) (h3:d.parent=0∨(aG l d.parent).isSome=true) (h5:256≤l.length):bU l d=40:=by
 unfold bU;rw [if_neg (by simp [h]),if_neg (by simp [h2]),if_neg (by rintro ⟨a,b⟩;rcases h3 with h3|h3;exact a h3;rw [Option.isNone_iff_eq_none] at b;rw [b] at h3;cases h3),if_pos h5]
theorem ie5 {l:List Dev} {d:Dev} (h:aS d=0) (h2:aG l d.index=none) (h3:d.parent=0∨(aG l d.parent).isSome=true) (h5:¬ 256≤l.length) (h6:7 < (bB l d).length):bU l d=46:=by
 unfold bU;rw [if_neg (by simp [h]),if_neg (by simp [h2]),if_neg (by rintro ⟨a,b⟩;rcases h3 with h3|h3;exact a h3;rw [Option.isNone_iff_eq_none] at b;rw [b] at h3;cases h3),if_neg h5,if_pos h6]
theorem ie6 {l:List Dev} {d:Dev} (h:aS d=0) (h2:aG l d.index=none) (h3:d.parent=0∨(aG l d.parent).isSome=true) (h5:¬ 256≤l.length) (h6:¬ 7 < (bB l d).length):bU l d=if l.any (mj l (bB l d) d) then 44 else 0:=by
 unfold bU;rw [if_neg (by simp [h]),if_neg (by simp [h2]),if_neg (by rintro ⟨a,b⟩;rcases h3 with h3|h3;exact a h3;rw [Option.isNone_iff_eq_none] at b;rw [b] at h3;cases h3),if_neg h5,if_neg h6]
theorem HN {l:List Dev} {p:Dev → Bool} {k:Nat} (hk:k < l.length) (h:p (l.getD k default)=true):l.any p=true:=List.any_eq_true.2 ⟨_,by rw [ai l hk];exact List.getElem_mem _,h⟩
theorem Fh {l:List Dev} {p:Dev → Bool} {k:Nat} (hk:k < l.length) (h0:∀ x ∈ l.take k,p x=false) (h:p (l.getD k default)=false):∀ x ∈ l.take (k+1),p x=false:=fun x hx=>by
 rw [List.take_succ_eq_append_getElem hk,List.mem_append,List.mem_singleton] at hx;rcases hx with hx|hx
 ·exact h0 x hx
 ·rw [hx,← ai l hk];exact h
set_option maxRecDepth 20000 in
set_option maxHeartbeats 8000000 in
theorem BW (l:List Dev) (d:Dev) (hk:d.ok) (hd:d.original.size≤1048576) (hz:∀ x ∈ l,x.original.size≤100000) (hl:l.length≤1000000) :
  ah prog 187 [.agg (trE l),.agg d.e] [] fun r os=>r = .two (.agg (trE (if bU l d=0 then eL l d else []))) (.c (.v (.int .i64 (bU l d))))∧os=[]:=by
 have ck:=pE d hk;have i1:=fl l d.index ac;have i2:=fl l d.parent ac;have ho:=jJ l d.parent hl;have hol:=nt l d.parent;refine aw func187 ntmps187 results187 ?_;push_cast [O,U];have cB:aH 11 []:=trivial;by_cases c0:aS d=0
 case neg =>
  have e:=ie1 (l:=l) c0;rw [e];repeat' (first|(refine plE [] ck ?_ ?_<;>push_cast [O,U,c0,ne_eq,not_false_eq_true])|(refine ej.use (by assumption) ?_)|(refine bf fun K hK=>?_)|(refine cf ?_)|(refine cO ?_)|((first|(refine av 11 [] ?_;first|refine bi ?_|refine cC aj aj ?_)|refine dD ?_|refine eh ?_|refine cr ?_);push_cast [O,U,c0,ne_eq,not_false_eq_true])|(refine cg ?_;push_cast [O,U,c0,ne_eq,not_false_eq_true];try (refine ⟨fun h=>?_,fun h=>?_⟩<;>(try simp only [decide_eq_true_eq,decide_eq_false_iff_not,cN] at h)<;>(try (first|contradiction|omega|exact cT h (by assumption)|exact cF h (by assumption))))))
  (refine K9 [] ?_;push_cast [O,U]);all_goals first|exact ⟨rfl,rfl⟩|simp
 rw [c0] at ck;rcases dY d.index l with ⟨h1,h2⟩|⟨i,h1,h2,h3⟩
 case inr =>
  have e:=ie2 (l:=l) c0 (by rw [h3];rfl);rw [e];rw [h1] at i1;repeat' (first |  (refine plE [] ck ?_ ?_<;>push_cast [O,U])|(refine plE [] i1 ?_ ?_<;>push_cast [O,U])  | (refine ej.use (by assumption) ?_)|(refine bf fun K hK=>?_)|(refine cf ?_)|(refine cO ?_)|((first|(refine av 11 [] ?_;first|refine bi ?_|refine cC aj aj ?_)|refine dD ?_|refine eh ?_|refine cr ?_);push_cast [O,U])|(refine cg ?_;push_cast [O,U];try (refine ⟨fun h=>?_,fun h=>?_⟩<;>(try simp only [decide_eq_true_eq,decide_eq_false_iff_not,cN] at h)<;>(try (first|contradiction|omega|exact cT h (by assumption)|exact cF h (by assumption))))))
  (refine K9 [] ?_;push_cast [O,U]);all_goals first|exact ⟨rfl,rfl⟩|simp
 rw [h1] at i1;have hot2:List.map aU (bj l d.parent)++[[D.v (.string d.original)]]=(bB l d).map aU:=by
  unfold bB;rw [List.map_append];rfl
 have hown:(bj l d.parent).length+1=(bB l d).length:=by unfold bB;rw [List.length_append];rfl
 have hot3:List.take ((bj l d.parent).length+1) ((bB l d).map aU)=(bB l d).map aU:=List.take_of_length_le (by rw [List.length_map];omega);by_cases hbad:d.parent≠0∧aG l d.parent=none
 case pos =>
  obtain ⟨p0,hp⟩:=hbad;have e:=ie3 (l:=l) c0 h2 p0 hp;rw [e];rcases dY d.parent l with ⟨q1,q2⟩|⟨i,q1,q2,q3⟩
  ·rw [q1] at i2;repeat' (first|(refine plE [] ck ?_ ?_;(focus (push_cast [O,U,p0,ne_eq,not_false_eq_true];done));push_cast [O,U,p0,ne_eq,not_false_eq_true])|(refine plE [] i1 ?_ ?_;(focus (push_cast [O,U,p0,ne_eq,not_false_eq_true];done));push_cast [O,U,p0,ne_eq,not_false_eq_true])|(refine plE [] i2 ?_ ?_;(focus (push_cast [O,U,p0,ne_eq,not_false_eq_true];done));push_cast [O,U,p0,ne_eq,not_false_eq_true])|(refine ej.use (by assumption) ?_)|(refine bf fun K hK=>?_)|(refine cf ?_)|(refine cO ?_)|((first|(refine av 11 [] ?_;first|refine bi ?_|refine cC aj aj ?_)|refine dD ?_|refine eh ?_|refine cr ?_);push_cast [O,U,p0,ne_eq,not_false_eq_true])|(refine cg ?_;push_cast [O,U,p0,ne_eq,not_false_eq_true];try (refine ⟨fun h=>?_,fun h=>?_⟩<;>(try simp only [decide_eq_true_eq,decide_eq_false_iff_not,cN] at h)<;>(try (first|contradiction|omega|exact cT h (by assumption)|exact cF h (by assumption))))))
   (refine K9 [] ?_;push_cast [O,U]);all_goals first|exact ⟨rfl,rfl⟩|simp
  ·rw [hp] at q3;cases q3
 have h3:d.parent=0∨(aG l d.parent).isSome=true:=by
  by_cases p0:d.parent=0
  ·exact .inl p0
  ·right;cases hp:aG l d.parent with
   | none=>exact absurd ⟨p0,hp⟩ hbad
   | some x=>rfl
 repeat' (first |  (refine plE [] ck ?_ ?_<;>push_cast [O,U])|(refine plE [] i1 ?_ ?_<;>push_cast [O,U])  | (refine ej.use (by assumption) ?_)|(refine bf fun K hK=>?_)|(refine cf ?_)|(refine cO ?_)|((first|(refine av 11 [] ?_;first|refine bi ?_|refine cC aj aj ?_)|refine dD ?_|refine eh ?_|refine cr ?_);push_cast [O,U])|(refine cg ?_;push_cast [O,U];try (refine ⟨fun h=>?_,fun h=>?_⟩<;>(try simp only [decide_eq_true_eq,decide_eq_false_iff_not,cN] at h)<;>(try (first|contradiction|omega|exact cT h (by assumption)|exact cF h (by assumption))))))
 apply Hr
 ·intro H;by_cases p0:d.parent=0
  ·have p0':=eq_true p0;push_cast [O,U,p0',ne_eq,not_true_eq_false];refine ej.use (by assumption) ?_;refine cg ?_;push_cast [O,U];refine cr ?_;push_cast [O,U];refine ej.use (by assumption) ?_;refine av 11 [] ?_;push_cast [O,U];exact H.out
  ·rcases dY d.parent l with ⟨q1,q2⟩|⟨i,q1,q2,q3⟩
   ·rcases h3 with h3|h3
    ·exact absurd h3 p0
    ·rw [q2] at h3;cases h3
   rw [q1] at i2;push_cast [O,U,p0,ne_eq,not_false_eq_true];(refine plE [] i2 ?_ ?_<;>push_cast [O,U]);refine ej.use (by assumption) ?_;refine cg ?_;push_cast [O,U];refine ⟨fun h=>absurd (of_decide_eq_true h) ac,fun _=>?_⟩;refine cr ?_;push_cast [O,U];refine ej.use (by assumption) ?_;refine av 11 [] ?_;push_cast [O,U];exact H.out
 by_cases h5:256≤l.length
 case pos =>
  have e:=ie4 c0 h2 h3 h5;have h5':(256:Int)≤(l.length:Int):=ac;rw [e];repeat' (first|(refine ej.use (by assumption) ?_)|(refine bf fun K hK=>?_)|(refine cf ?_)|(refine cO ?_)|((first|(refine av 11 [] ?_;first|refine bi ?_|refine cC aj aj ?_)|refine dD ?_|refine eh ?_|refine cr ?_);push_cast [O,U,h5'])|(refine cg ?_;push_cast [O,U,h5'];try (refine ⟨fun h=>?_,fun h=>?_⟩<;>(try simp only [decide_eq_true_eq,decide_eq_false_iff_not,cN] at h)<;>(try (first|contradiction|omega|exact cT h (by assumption)|exact cF h (by assumption))))))
  (refine K9 [] ?_;push_cast [O,U]);all_goals first|exact ⟨rfl,rfl⟩|simp
 have h5':¬ (256:Int)≤(l.length:Int):=ac;by_cases h6:7 < (bB l d).length
 case pos =>
  have e:=ie5 c0 h2 h3 h5 h6;have h6':(7:Int) < ((bj l d.parent).length:Int)+1:=ac;rw [e];repeat' (first|((refine av 11 [] ?_;apply ak;(focus kernel_rfl);(focus (simp only [aP,rA];(repeat' first|(refine plE [] ho ?_ ?_<;>push_cast [O,U,h5',h6'])|((first|refine pah 1 ?_|refine pah 4 ?_|refine pah 8 ?_);push_cast [O,U,h5',h6'])|(refine pad ?_;first|with_reducible exact ao 11 [] _|(refine weak_fg ?_;push_cast [O,U,h5',h6']))|((first|refine pas [0] ?_|refine pas [2] ?_|refine pas [3] ?_|refine pas [5] ?_|refine pas [6] ?_|refine pas [7] ?_);push_cast [O,U,h5',h6'])|((first|refine pas [0,2] ?_|refine pas [0,5] ?_|refine pas [0,6] ?_|refine pas [2,5] ?_|refine pas [2,6] ?_|refine pas [3,5] ?_|refine pas [3,6] ?_);push_cast [O,U,h5',h6'];refine ⟨?_,?_⟩)|((first|refine pas [0,2,5] ?_|refine pas [0,2,6] ?_);push_cast [O,U,h5',h6'];refine ⟨?_,?_,?_⟩));done));push_cast [O,U,h5',h6']))|(refine ej.use (by assumption) ?_)|(refine bf fun K hK=>?_)|(refine cf ?_)|(refine cO ?_)|((first|(refine av 11 [] ?_;first|refine bi ?_|refine cC aj aj ?_)|refine dD ?_|refine eh ?_|refine cr ?_);push_cast [O,U,h5',h6'])|(refine cg ?_;push_cast [O,U,h5',h6'];try (refine ⟨fun h=>?_,fun h=>?_⟩<;>(try simp only [decide_eq_true_eq,decide_eq_false_iff_not,cN] at h)<;>(try (first|contradiction|omega|exact cT h (by assumption)|exact cF h (by assumption))))))
  (refine K9 [] ?_;push_cast [O,U]);all_goals first|exact ⟨rfl,rfl⟩|simp
 have h6':¬ (7:Int) < ((bj l d.parent).length:Int)+1:=ac;have e:=ie6 c0 h2 h3 h5 h6;repeat' (first|((refine av 11 [] ?_;apply ak;(focus kernel_rfl);(focus (simp only [aP,rA];(repeat' first|(refine plE [] ho ?_ ?_<;>push_cast [O,U,h5',h6'])|((first|refine pah 1 ?_|refine pah 4 ?_|refine pah 8 ?_);push_cast [O,U,h5',h6'])|(refine pad ?_;first|with_reducible exact ao 11 [] _|(refine weak_fg ?_;push_cast [O,U,h5',h6']))|((first|refine pas [0] ?_|refine pas [2] ?_|refine pas [3] ?_|refine pas [5] ?_|refine pas [6] ?_|refine pas [7] ?_);push_cast [O,U,h5',h6'])|((first|refine pas [0,2] ?_|refine pas [0,5] ?_|refine pas [0,6] ?_|refine pas [2,5] ?_|refine pas [2,6] ?_|refine pas [3,5] ?_|refine pas [3,6] ?_);push_cast [O,U,h5',h6'];refine ⟨?_,?_⟩)|((first|refine pas [0,2,5] ?_|refine pas [0,2,6] ?_);push_cast [O,U,h5',h6'];refine ⟨?_,?_,?_⟩));done));push_cast [O,U,h5',h6']))|(refine ej.use (by assumption) ?_)|(refine bf fun K hK=>?_)|(refine cf ?_)|(refine cO ?_)|((first|(refine av 11 [] ?_;first|refine bi ?_|refine cC aj aj ?_)|refine dD ?_|refine eh ?_|refine cr ?_);push_cast [O,U,h5',h6'])|(refine cg ?_;push_cast [O,U,h5',h6'];try (refine ⟨fun h=>?_,fun h=>?_⟩<;>(try simp only [decide_eq_true_eq,decide_eq_false_iff_not,cN] at h)<;>(try (first|contradiction|omega|exact cT h (by assumption)|exact cF h (by assumption))))))
 refine aF (bQ 3 ac) ?_;push_cast [O,U,hot2,hot3];(apply ap (α:=Nat) 11 [] (fun k=>[(7,.c (.v (.int .i64 (atM l (bB l d) k)))),(8,.c (.v (.int .i64 k)))]) (fun k=>[]) (fun k=>k≤l.length∧∀ x ∈ l.take k,mj l (bB l d) d x=false) (fun k=>l.length - k) (0);(focus ((try push_cast [O,U]);rfl));(focus exact ⟨ac,by simp⟩);(focus ((refine weak_fg ?_;try push_cast [O,U]);(try (rfl)))));rintro k ⟨hk1,hb⟩;push_cast [O,U];by_cases hlt:k < l.length
 case pos =>
  have hx:l.getD k default ∈ l:=by rw [ai l hlt];exact List.getElem_mem _
  have hox:=jJ l (l.getD k default).index hl;have hoxl:=nt l (l.getD k default).index;have hd2:d.original.size≤100000:=by have:=cE (jG c0);omega
  have hcl:=pI (l.getD k default) d (hz _ hx) hd2;have hs:=nv l (bB l d) k;have bu:mj l (bB l d) d (l.getD k default)=(decide (cu (bj l (l.getD k default).index) (bB l d)=0) || cx (l.getD k default) d):=rfl;have hyes:=HN (p:=mj l (bB l d) d) hlt;have hno:=Fh hlt hb;have hcm:=sH (bj l (l.getD k default).index) (bB l d) ac ac;obtain ⟨cv,hcv⟩:∃ cv,cu (bj l (l.getD k default).index) (bB l d)=cv:=⟨_,rfl⟩
  rw [hcv] at hcm hs bu;by_cases z0:cv=0
  case pos =>
   have e9:=hyes (by rw [bu,decide_eq_true z0];rfl);have z0':=eq_true z0;rw [e9] at e;repeat' (first|((refine av 11 [] ?_;apply ak;(focus kernel_rfl);(focus (simp only [aP,rA];(repeat' first|(refine plE [] hox ?_ ?_;(focus (push_cast [O,U,z0'];done));push_cast [O,U,z0'])|(refine aW true [] rfl rfl aj (hcm) ?_ ?_ ?_;push_cast [O,U,z0'];(intro _ r os;rintro ⟨rfl,rfl⟩;push_cast [O,U,z0']);rintro r os ⟨rfl,rfl⟩;refine an ?_;push_cast [O,U,z0'])|((first|refine pah 1 ?_|refine pah 3 ?_|refine pah 4 ?_|refine pah 5 ?_|refine pah 8 ?_|refine pah 10 ?_);push_cast [O,U,z0'])|(refine pad ?_;first|with_reducible exact ao 11 [] _|(refine weak_fg ?_;push_cast [O,U,z0']))|((first|refine pas [0] ?_|refine pas [2] ?_|refine pas [6] ?_|refine pas [7] ?_|refine pas [9] ?_);push_cast [O,U,z0'])|((first|refine pas [0,2] ?_|refine pas [0,6] ?_);push_cast [O,U,z0'];refine ⟨?_,?_⟩));done));push_cast [O,U,z0']))|((refine aQ false rfl rfl aj (hcl) (fun r os h=>h.1) rfl ?_ ?_;push_cast [O,U,z0'];refine aD ?_;push_cast [O,U,z0']))|(refine ej.use (by assumption) ?_)|(refine bf fun K hK=>?_)|(refine cf ?_)|(refine cO ?_)|((first|(refine av 11 [] ?_;first|refine bi ?_|refine cC aj aj ?_)|refine dD ?_|refine eh ?_|refine cr ?_);push_cast [O,U,z0'])|(refine cg ?_;push_cast [O,U,z0'];try (refine ⟨fun h=>?_,fun h=>?_⟩<;>(try simp only [decide_eq_true_eq,decide_eq_false_iff_not,cN] at h)<;>(try (first|contradiction|omega|exact cT h (by assumption)|exact cF h (by assumption))))))
   (refine K9 [] ?_;push_cast [O,U]);all_goals rw [e]
   all_goals first|exact ⟨rfl,rfl⟩|simp
  rw [decide_eq_false z0,Bool.false_or] at bu;cases hcc:cx (l.getD k default) d
  case true =>
   rw [hcc] at hcl bu;have e9:=hyes bu;rw [e9] at e;repeat' (first|((refine av 11 [] ?_;apply ak;(focus kernel_rfl);(focus (simp only [aP,rA];(repeat' first|(refine plE [] hox ?_ ?_;(focus (push_cast [O,U,z0];done));push_cast [O,U,z0])|(refine aW true [] rfl rfl aj (hcm) ?_ ?_ ?_;push_cast [O,U,z0];(intro _ r os;rintro ⟨rfl,rfl⟩;push_cast [O,U,z0]);rintro r os ⟨rfl,rfl⟩;refine an ?_;push_cast [O,U,z0])|((first|refine pah 1 ?_|refine pah 3 ?_|refine pah 4 ?_|refine pah 5 ?_|refine pah 8 ?_|refine pah 10 ?_);push_cast [O,U,z0])|(refine pad ?_;first|with_reducible exact ao 11 [] _|(refine weak_fg ?_;push_cast [O,U,z0]))|((first|refine pas [0] ?_|refine pas [2] ?_|refine pas [6] ?_|refine pas [7] ?_|refine pas [9] ?_);push_cast [O,U,z0])|((first|refine pas [0,2] ?_|refine pas [0,6] ?_);push_cast [O,U,z0];refine ⟨?_,?_⟩));done));push_cast [O,U,z0]))|((refine aQ false rfl rfl aj (hcl) (fun r os h=>h.1) rfl ?_ ?_;push_cast [O,U,z0];refine aD ?_;push_cast [O,U,z0]))|(refine ej.use (by assumption) ?_)|(refine bf fun K hK=>?_)|(refine cf ?_)|(refine cO ?_)|((first|(refine av 11 [] ?_;first|refine bi ?_|refine cC aj aj ?_)|refine dD ?_|refine eh ?_|refine cr ?_);push_cast [O,U,z0])|(refine cg ?_;push_cast [O,U,z0];try (refine ⟨fun h=>?_,fun h=>?_⟩<;>(try simp only [decide_eq_true_eq,decide_eq_false_iff_not,cN] at h)<;>(try (first|contradiction|omega|exact cT h (by assumption)|exact cF h (by assumption))))))
   (refine K9 [] ?_;push_cast [O,U]);all_goals rw [e]
   all_goals first|exact ⟨rfl,rfl⟩|simp
  rw [hcc] at hcl bu;have hn:=hno bu;by_cases zn:cv < 0
  case pos =>
   rw [if_pos zn] at hs;have zn':=eq_true zn;repeat' (first|((refine av 11 [] ?_;apply ak;(focus kernel_rfl);(focus (simp only [aP,rA];(repeat' first|(refine plE [] hox ?_ ?_;(focus (push_cast [O,U,z0,zn'];done));push_cast [O,U,z0,zn'])|(refine aW true [] rfl rfl aj (hcm) ?_ ?_ ?_;push_cast [O,U,z0,zn'];(intro _ r os;rintro ⟨rfl,rfl⟩;push_cast [O,U,z0,zn']);rintro r os ⟨rfl,rfl⟩;refine an ?_;push_cast [O,U,z0,zn'])|((first|refine pah 1 ?_|refine pah 3 ?_|refine pah 4 ?_|refine pah 5 ?_|refine pah 8 ?_|refine pah 10 ?_);push_cast [O,U,z0,zn'])|(refine pad ?_;first|with_reducible exact ao 11 [] _|(refine weak_fg ?_;push_cast [O,U,z0,zn']))|((first|refine pas [0] ?_|refine pas [2] ?_|refine pas [6] ?_|refine pas [7] ?_|refine pas [9] ?_);push_cast [O,U,z0,zn'])|((first|refine pas [0,2] ?_|refine pas [0,6] ?_);push_cast [O,U,z0,zn'];refine ⟨?_,?_⟩));done));push_cast [O,U,z0,zn']))|((refine aQ false rfl rfl aj (hcl) (fun r os h=>h.1) rfl ?_ ?_;push_cast [O,U,z0,zn'];refine aD ?_;push_cast [O,U,z0,zn']))|(refine ej.use (by assumption) ?_)|(refine bf fun K hK=>?_)|(refine cf ?_)|(refine cO ?_)|((first|(refine av 11 [] ?_;first|refine bi ?_|refine cC aj aj ?_)|refine dD ?_|refine eh ?_|refine cr ?_);push_cast [O,U,z0,zn'])|(refine cg ?_;push_cast [O,U,z0,zn'];try (refine ⟨fun h=>?_,fun h=>?_⟩<;>(try simp only [decide_eq_true_eq,decide_eq_false_iff_not,cN] at h)<;>(try (first|contradiction|omega|exact cT h (by assumption)|exact cF h (by assumption))))))
   exact ⟨k+1,⟨ac,hn⟩,by (refine weak_fg ?_;push_cast [O,U,hs]),ac⟩
  rw [if_neg zn] at hs;repeat' (first|((refine av 11 [] ?_;apply ak;(focus kernel_rfl);(focus (simp only [aP,rA];(repeat' first|(refine plE [] hox ?_ ?_;(focus (push_cast [O,U,z0,zn];done));push_cast [O,U,z0,zn])|(refine aW true [] rfl rfl aj (hcm) ?_ ?_ ?_;push_cast [O,U,z0,zn];(intro _ r os;rintro ⟨rfl,rfl⟩;push_cast [O,U,z0,zn]);rintro r os ⟨rfl,rfl⟩;refine an ?_;push_cast [O,U,z0,zn])|((first|refine pah 1 ?_|refine pah 3 ?_|refine pah 4 ?_|refine pah 5 ?_|refine pah 8 ?_|refine pah 10 ?_);push_cast [O,U,z0,zn])|(refine pad ?_;first|with_reducible exact ao 11 [] _|(refine weak_fg ?_;push_cast [O,U,z0,zn]))|((first|refine pas [0] ?_|refine pas [2] ?_|refine pas [6] ?_|refine pas [7] ?_|refine pas [9] ?_);push_cast [O,U,z0,zn])|((first|refine pas [0,2] ?_|refine pas [0,6] ?_);push_cast [O,U,z0,zn];refine ⟨?_,?_⟩));done));push_cast [O,U,z0,zn]))|((refine aQ false rfl rfl aj (hcl) (fun r os h=>h.1) rfl ?_ ?_;push_cast [O,U,z0,zn];refine aD ?_;push_cast [O,U,z0,zn]))|(refine ej.use (by assumption) ?_)|(refine bf fun K hK=>?_)|(refine cf ?_)|(refine cO ?_)|((first|(refine av 11 [] ?_;first|refine bi ?_|refine cC aj aj ?_)|refine dD ?_|refine eh ?_|refine cr ?_);push_cast [O,U,z0,zn])|(refine cg ?_;push_cast [O,U,z0,zn];try (refine ⟨fun h=>?_,fun h=>?_⟩<;>(try simp only [decide_eq_true_eq,decide_eq_false_iff_not,cN] at h)<;>(try (first|contradiction|omega|exact cT h (by assumption)|exact cF h (by assumption))))))
  exact ⟨k+1,⟨ac,hn⟩,by (refine weak_fg ?_;push_cast [O,U,hs]),ac⟩
 have hk2:k=l.length:=ac;subst hk2;rw [List.take_length] at hb;have ea:l.any (mj l (bB l d) d)=false:=List.any_eq_false.2 fun x hx=>by rw [hb x hx];simp
 rw [ea] at e;simp only [Bool.false_eq_true,if_false] at e;have hal:=mi l (bB l d) l.length;have hin:eL l d=l.take (atM l (bB l d) l.length)++[d]++l.drop (atM l (bB l d) l.length):=rfl;obtain ⟨a,haa⟩:∃ a,atM l (bB l d) l.length=a:=⟨_,rfl⟩
 rw [haa] at hal hin ⊢;obtain ⟨A,hA⟩:∃ A,l.take a=A:=⟨_,rfl⟩
 obtain ⟨B,hB⟩:∃ B,l.drop a=B:=⟨_,rfl⟩
 have hAl:A.length≤1000000:=by rw [← hA,List.length_take];omega
 have hBl:B.length≤1000000:=by rw [← hB,List.length_drop];omega
 have hTk:List.take a (List.map Dev.d l)=A.map Dev.d:=by rw [← List.map_take,hA]
 have hDr:List.drop a (List.map Dev.d l)=B.map Dev.d:=by rw [← List.map_drop,hB]
 rw [hA,hB] at hin;repeat' (first |  (refine aO aj ?_;simp only [aP,rA])  | (refine ej.use (by assumption) ?_)|(refine bf fun K hK=>?_)|(refine cf ?_)|(refine cO ?_)|((first|(refine av 11 [] ?_;first|refine bi ?_|refine cC aj aj ?_)|refine dD ?_|refine eh ?_|refine cr ?_);push_cast [O,U])|(refine cg ?_;push_cast [O,U];try (refine ⟨fun h=>?_,fun h=>?_⟩<;>(try simp only [decide_eq_true_eq,decide_eq_false_iff_not,cN] at h)<;>(try (first|contradiction|omega|exact cT h (by assumption)|exact cF h (by assumption))))))
 refine aY 0 aj ?_;push_cast [O,U,hTk,hDr];refine aY 2 aj ?_;push_cast [O,U,hTk,hDr];refine aY 4 aj ?_;push_cast [O,U,hTk,hDr];refine aY 10 aj ?_;push_cast [O,U,hTk,hDr];refine aY 12 aj ?_;push_cast [O,U,hTk,hDr];refine aC (s':=⟨[(84,.c (.ptr 4 0)),(86,.c (.ptr 0 0)),(88,.c (.v (.int .i64 a))),(94,.c (.ptr 0 0)),(96,.c (.v (.int .i64 a))),(10,.c (.ptr 4 0)),(7,.c (.v (.int .i64 a))),(5,.c (.v (.int .i64 0))),(4,.c (.ptr 2 0)),(3,.c (.ptr 1 0)),(2,.c (.ptr 0 0))],[.box 41 (trE l),.box 53 d.e,.box 41 [.v (.slice none 0 0)],.arr 9 1 [],.box 41 [.v (.slice none 0 0)]]⟩) aA ?_;refine bw 0 #[true,true,true,true,true,true,true,true,true,true,true,true,true,true,true,true,true] (⟨[(10,.c (.ptr 4 0)),(7,.c (.v (.int .i64 a))),(5,.c (.v (.int .i64 0))),(4,.c (.ptr 2 0)),(3,.c (.ptr 1 0)),(2,.c (.ptr 0 0))],[.box 41 (trE l),.box 53 d.e,.box 41 [.v (.slice none 0 0)],.arr 9 1 [],.box 41 [.own 5 (A.length+1+B.length)],.arr 53 10 ((A++[d]++B).map Dev.d)]⟩:S) (fun hd1_3_6_7_8_9_11_14_16_=>?_) ?_
 rotate_left
 ·refine Aj aj ?_;push_cast [O,U,hTk,hDr];repeat' (first|(refine ej.use (by assumption) ?_)|(refine bf fun K hK=>?_)|(refine cf ?_)|(refine cO ?_)|((first|(refine av 11 [] ?_;first|refine bi ?_|refine cC aj aj ?_)|refine dD ?_|refine eh ?_|refine cr ?_);push_cast [O,U])|(refine cg ?_;push_cast [O,U];try (refine ⟨fun h=>?_,fun h=>?_⟩<;>(try simp only [decide_eq_true_eq,decide_eq_false_iff_not,cN] at h)<;>(try (first|contradiction|omega|exact cT h (by assumption)|exact cF h (by assumption))))))
  (refine K9 [] ?_;push_cast [O,U]);rw [e,hin];simp;exact List.take_of_length_le (by simp;omega)
 refine bw 1 #[true,true,true,true,true,true,true,true,true,true,true,true,true,true,true,true,false] (⟨[(98,.c (.own 5 (A.length+1+B.length))),(99,.c (.ptr 4 0)),(10,.c (.ptr 4 0)),(7,.c (.v (.int .i64 a))),(5,.c (.v (.int .i64 0))),(4,.c (.ptr 2 0)),(3,.c (.ptr 1 0)),(2,.c (.ptr 0 0))],[.box 41 (trE l),.box 53 d.e,.box 41 [.v (.slice none 0 0)],.arr 9 1 [],.box 41 [.v (.slice none 0 0)],.arr 53 10 ((A++[d]++B).map Dev.d)]⟩:S) (fun hd1_3_6_7_8_9_11_14_=>?_) (by
  refine bv [16] aj rfl ?_;push_cast [O,U,hTk,hDr]
  ·exact aC (by (refine weak_fg ?_;push_cast [O,U,hTk,hDr])) hd1_3_6_7_8_9_11_14_16_)
 refine bw 3 #[true,true,true,true,true,true,true,true,true,true,true,true,true,true,false,false,false] (⟨[(93,.c (.own 5 (A.length+1))),(97,.c (.sl 10 (B.map Dev.d))),(10,.c (.ptr 4 0)),(7,.c (.v (.int .i64 a))),(5,.c (.v (.int .i64 0))),(4,.c (.ptr 2 0)),(3,.c (.ptr 1 0)),(2,.c (.ptr 0 0))],[.box 41 (trE l),.box 53 d.e,.box 41 [.v (.slice none 0 0)],.arr 9 1 [],.box 41 [.v (.slice none 0 0)],.arr 53 10 ((A++[d]).map Dev.d)]⟩:S) (fun hd1_3_6_7_8_9_11_=>?_) (by
  refine bv [14] aj rfl ?_;push_cast [O,U,hTk,hDr]
  ·refine aY 15 aj ?_;push_cast [O,U,hTk,hDr];exact aC (by (refine weak_fg ?_;push_cast [O,U,hTk,hDr])) hd1_3_6_7_8_9_11_14_)
 refine bw 5 #[true,true,true,true,true,true,true,true,true,true,true,false,true,false,false,false,false] (⟨[(93,.c (.own 5 (A.length+1))),(94,.c (.ptr 0 0)),(96,.c (.v (.int .i64 a))),(10,.c (.ptr 4 0)),(7,.c (.v (.int .i64 a))),(5,.c (.v (.int .i64 0))),(4,.c (.ptr 2 0)),(3,.c (.ptr 1 0)),(2,.c (.ptr 0 0))],[.box 41 (trE l),.box 53 d.e,.box 41 [.v (.slice none 0 0)],.arr 9 1 [],.box 41 [.v (.slice none 0 0)],.arr 53 10 ((A++[d]).map Dev.d)]⟩:S) (fun hd1_3_6_7_8_9_=>?_) (by
  refine bv [11] aj rfl ?_;push_cast [O,U,hTk,hDr]
  ·refine aY 13 aj ?_;push_cast [O,U,hTk,hDr];exact aC (by (refine weak_fg ?_;push_cast [O,U,hTk,hDr])) hd1_3_6_7_8_9_11_)
 refine bw 4 #[true,true,true,true,true,true,true,true,true,false,true,true,true,true,false,false,false] (⟨[(90,.c (.own 5 A.length)),(92,.c (.full 10 [d.d])),(97,.c (.sl 10 (B.map Dev.d))),(10,.c (.ptr 4 0)),(7,.c (.v (.int .i64 a))),(5,.c (.v (.int .i64 0))),(4,.c (.ptr 2 0)),(3,.c (.ptr 1 0)),(2,.c (.ptr 0 0))],[.box 41 (trE l),.box 53 d.e,.box 41 [.v (.slice none 0 0)],.arr 9 1 [],.box 41 [.v (.slice none 0 0)],.arr 53 10 ((A).map Dev.d)]⟩:S) (fun hd1_3_6_7_8_11_=>?_) (by
  refine bv [9] aj rfl ?_;push_cast [O,U,hTk,hDr]
  ·exact aC (by (refine weak_fg ?_;push_cast [O,U,hTk,hDr])) hd1_3_6_7_8_9_11_)
 refine bw 6 #[true,true,true,true,true,true,true,true,true,false,true,false,true,false,false,false,false] (⟨[(90,.c (.own 5 A.length)),(92,.c (.full 10 [d.d])),(94,.c (.ptr 0 0)),(96,.c (.v (.int .i64 a))),(10,.c (.ptr 4 0)),(7,.c (.v (.int .i64 a))),(5,.c (.v (.int .i64 0))),(4,.c (.ptr 2 0)),(3,.c (.ptr 1 0)),(2,.c (.ptr 0 0))],[.box 41 (trE l),.box 53 d.e,.box 41 [.v (.slice none 0 0)],.arr 9 1 [],.box 41 [.v (.slice none 0 0)],.arr 53 10 ((A).map Dev.d)]⟩:S) (fun hd1_3_6_7_8_=>?_) (by
  refine bv [9,11] aj rfl ?_;push_cast [O,U,hTk,hDr];refine ⟨?_,?_⟩
  ·exact aC (by (refine weak_fg ?_;push_cast [O,U,hTk,hDr])) hd1_3_6_7_8_9_
  ·refine aY 13 aj ?_;push_cast [O,U,hTk,hDr];exact aC (by (refine weak_fg ?_;push_cast [O,U,hTk,hDr])) hd1_3_6_7_8_11_)
 refine bw 5 #[true,true,true,true,true,true,true,true,false,false,true,true,true,true,false,false,false] (⟨[(90,.c (.own 5 A.length)),(91,.agg d.e),(97,.c (.sl 10 (B.map Dev.d))),(10,.c (.ptr 4 0)),(7,.c (.v (.int .i64 a))),(5,.c (.v (.int .i64 0))),(4,.c (.ptr 2 0)),(3,.c (.ptr 1 0)),(2,.c (.ptr 0 0))],[.box 41 (trE l),.box 53 d.e,.box 41 [.v (.slice none 0 0)],.arr 9 1 [],.box 41 [.v (.slice none 0 0)],.arr 53 10 ((A).map Dev.d)]⟩:S) (fun hd1_3_6_7_11_=>?_) (by
  refine bv [8] aj rfl ?_;push_cast [O,U,hTk,hDr]
  ·exact aC (by (refine weak_fg ?_;push_cast [O,U,hTk,hDr])) hd1_3_6_7_8_11_)
 refine bw 5 #[true,true,true,true,true,true,false,true,true,false,true,true,true,true,false,false,false] (⟨[(85,.c (.v (.slice none 0 0))),(89,.c (.sl 10 (A.map Dev.d))),(92,.c (.full 10 [d.d])),(97,.c (.sl 10 (B.map Dev.d))),(10,.c (.ptr 4 0)),(7,.c (.v (.int .i64 a))),(5,.c (.v (.int .i64 0))),(4,.c (.ptr 2 0)),(3,.c (.ptr 1 0)),(2,.c (.ptr 0 0))],[.box 41 (trE l),.box 53 d.e,.box 41 [.v (.slice none 0 0)],.arr 9 1 [],.box 41 [.v (.slice none 0 0)]]⟩:S) (fun hd1_3_7_8_11_=>?_) (by
  refine bv [6] aj rfl ?_;push_cast [O,U,hTk,hDr]
  ·exact aC (by (refine weak_fg ?_;push_cast [O,U,hTk,hDr])) hd1_3_6_7_8_11_)
 refine bw 7 #[true,true,true,true,true,true,true,true,false,false,true,false,true,false,false,false,false] (⟨[(90,.c (.own 5 A.length)),(91,.agg d.e),(94,.c (.ptr 0 0)),(96,.c (.v (.int .i64 a))),(10,.c (.ptr 4 0)),(7,.c (.v (.int .i64 a))),(5,.c (.v (.int .i64 0))),(4,.c (.ptr 2 0)),(3,.c (.ptr 1 0)),(2,.c (.ptr 0 0))],[.box 41 (trE l),.box 53 d.e,.box 41 [.v (.slice none 0 0)],.arr 9 1 [],.box 41 [.v (.slice none 0 0)],.arr 53 10 ((A).map Dev.d)]⟩:S) (fun hd1_3_6_7_=>?_) (by
  refine bv [8,11] aj rfl ?_;push_cast [O,U,hTk,hDr];refine ⟨?_,?_⟩
  ·exact aC (by (refine weak_fg ?_;push_cast [O,U,hTk,hDr])) hd1_3_6_7_8_
  ·refine aY 13 aj ?_;push_cast [O,U,hTk,hDr];exact aC (by (refine weak_fg ?_;push_cast [O,U,hTk,hDr])) hd1_3_6_7_11_)
 refine bw 6 #[true,true,true,true,true,true,true,false,false,false,true,true,true,true,false,false,false] (⟨[(90,.c (.own 5 A.length)),(97,.c (.sl 10 (B.map Dev.d))),(10,.c (.ptr 4 0)),(7,.c (.v (.int .i64 a))),(5,.c (.v (.int .i64 0))),(4,.c (.ptr 2 0)),(3,.c (.ptr 1 0)),(2,.c (.ptr 0 0))],[.box 41 (trE l),.box 53 d.e,.box 41 [.v (.slice none 0 0)],.arr 9 1 [],.box 41 [.v (.slice none 0 0)],.arr 53 10 ((A).map Dev.d)]⟩:S) (fun hd1_3_6_11_=>?_) (by
  refine bv [7] aj rfl ?_;push_cast [O,U,hTk,hDr]
  ·exact aC (by (refine weak_fg ?_;push_cast [O,U,hTk,hDr])) hd1_3_6_7_11_)
 refine bw 7 #[true,true,true,true,true,true,false,true,true,false,true,false,true,false,false,false,false] (⟨[(85,.c (.v (.slice none 0 0))),(89,.c (.sl 10 (A.map Dev.d))),(92,.c (.full 10 [d.d])),(94,.c (.ptr 0 0)),(96,.c (.v (.int .i64 a))),(10,.c (.ptr 4 0)),(7,.c (.v (.int .i64 a))),(5,.c (.v (.int .i64 0))),(4,.c (.ptr 2 0)),(3,.c (.ptr 1 0)),(2,.c (.ptr 0 0))],[.box 41 (trE l),.box 53 d.e,.box 41 [.v (.slice none 0 0)],.arr 9 1 [],.box 41 [.v (.slice none 0 0)]]⟩:S) (fun hd1_3_7_8_=>?_) (by
  refine bv [6,11] aj rfl ?_;push_cast [O,U,hTk,hDr];refine ⟨?_,?_⟩
  ·exact aC (by (refine weak_fg ?_;push_cast [O,U,hTk,hDr])) hd1_3_6_7_8_
  ·refine aY 13 aj ?_;push_cast [O,U,hTk,hDr];exact aC (by (refine weak_fg ?_;push_cast [O,U,hTk,hDr])) hd1_3_7_8_11_)
 refine bw 6 #[true,true,true,true,true,true,false,true,false,false,true,true,true,true,false,false,false] (⟨[(85,.c (.v (.slice none 0 0))),(89,.c (.sl 10 (A.map Dev.d))),(91,.agg d.e),(97,.c (.sl 10 (B.map Dev.d))),(10,.c (.ptr 4 0)),(7,.c (.v (.int .i64 a))),(5,.c (.v (.int .i64 0))),(4,.c (.ptr 2 0)),(3,.c (.ptr 1 0)),(2,.c (.ptr 0 0))],[.box 41 (trE l),.box 53 d.e,.box 41 [.v (.slice none 0 0)],.arr 9 1 [],.box 41 [.v (.slice none 0 0)]]⟩:S) (fun hd1_3_7_11_=>?_) (by
  refine bv [6,8] aj rfl ?_;push_cast [O,U,hTk,hDr];refine ⟨?_,?_⟩
  ·exact aC (by (refine weak_fg ?_;push_cast [O,U,hTk,hDr])) hd1_3_6_7_11_
  ·exact aC (by (refine weak_fg ?_;push_cast [O,U,hTk,hDr])) hd1_3_7_8_11_)
 refine bw 7 #[true,true,true,false,true,false,false,true,true,false,true,true,true,true,false,false,false] (⟨[(85,.c (.v (.slice none 0 0))),(86,.c (.ptr 0 0)),(88,.c (.v (.int .i64 a))),(92,.c (.full 10 [d.d])),(97,.c (.sl 10 (B.map Dev.d))),(10,.c (.ptr 4 0)),(7,.c (.v (.int .i64 a))),(5,.c (.v (.int .i64 0))),(4,.c (.ptr 2 0)),(3,.c (.ptr 1 0)),(2,.c (.ptr 0 0))],[.box 41 (trE l),.box 53 d.e,.box 41 [.v (.slice none 0 0)],.arr 9 1 [],.box 41 [.v (.slice none 0 0)]]⟩:S) (fun hd1_7_8_11_=>?_) (by
  refine bv [3] aj rfl ?_;push_cast [O,U,hTk,hDr]
  ·refine aY 5 aj ?_;push_cast [O,U,hTk,hDr];exact aC (by (refine weak_fg ?_;push_cast [O,U,hTk,hDr])) hd1_3_7_8_11_)
 refine bw 6 #[true,false,true,true,true,true,false,true,true,false,true,true,true,true,false,false,false] (⟨[(84,.c (.ptr 4 0)),(89,.c (.sl 10 (A.map Dev.d))),(92,.c (.full 10 [d.d])),(97,.c (.sl 10 (B.map Dev.d))),(10,.c (.ptr 4 0)),(7,.c (.v (.int .i64 a))),(5,.c (.v (.int .i64 0))),(4,.c (.ptr 2 0)),(3,.c (.ptr 1 0)),(2,.c (.ptr 0 0))],[.box 41 (trE l),.box 53 d.e,.box 41 [.v (.slice none 0 0)],.arr 9 1 [],.box 41 [.v (.slice none 0 0)]]⟩:S) (fun hd3_7_8_11_=>?_) (by
  refine bv [1] aj rfl ?_;push_cast [O,U,hTk,hDr]
  ·exact aC (by (refine weak_fg ?_;push_cast [O,U,hTk,hDr])) hd1_3_7_8_11_)
 refine bw 8 #[true,true,true,true,true,true,true,false,false,false,true,false,true,false,false,false,false] (⟨[(90,.c (.own 5 A.length)),(94,.c (.ptr 0 0)),(96,.c (.v (.int .i64 a))),(10,.c (.ptr 4 0)),(7,.c (.v (.int .i64 a))),(5,.c (.v (.int .i64 0))),(4,.c (.ptr 2 0)),(3,.c (.ptr 1 0)),(2,.c (.ptr 0 0))],[.box 41 (trE l),.box 53 d.e,.box 41 [.v (.slice none 0 0)],.arr 9 1 [],.box 41 [.v (.slice none 0 0)],.arr 53 10 ((A).map Dev.d)]⟩:S) (fun hd1_3_6_=>?_) (by
  refine bv [7,11] aj rfl ?_;push_cast [O,U,hTk,hDr];refine ⟨?_,?_⟩
  ·exact aC (by (refine weak_fg ?_;push_cast [O,U,hTk,hDr])) hd1_3_6_7_
  ·refine aY 13 aj ?_;push_cast [O,U,hTk,hDr];exact aC (by (refine weak_fg ?_;push_cast [O,U,hTk,hDr])) hd1_3_6_11_)
 refine bw 8 #[true,true,true,true,true,true,false,true,false,false,true,false,true,false,false,false,false] (⟨[(85,.c (.v (.slice none 0 0))),(89,.c (.sl 10 (A.map Dev.d))),(91,.agg d.e),(94,.c (.ptr 0 0)),(96,.c (.v (.int .i64 a))),(10,.c (.ptr 4 0)),(7,.c (.v (.int .i64 a))),(5,.c (.v (.int .i64 0))),(4,.c (.ptr 2 0)),(3,.c (.ptr 1 0)),(2,.c (.ptr 0 0))],[.box 41 (trE l),.box 53 d.e,.box 41 [.v (.slice none 0 0)],.arr 9 1 [],.box 41 [.v (.slice none 0 0)]]⟩:S) (fun hd1_3_7_=>?_) (by
  refine bv [6,8,11] aj rfl ?_;push_cast [O,U,hTk,hDr];refine ⟨?_,?_,?_⟩
  ·exact aC (by (refine weak_fg ?_;push_cast [O,U,hTk,hDr])) hd1_3_6_7_
  ·exact aC (by (refine weak_fg ?_;push_cast [O,U,hTk,hDr])) hd1_3_7_8_
  ·refine aY 13 aj ?_;push_cast [O,U,hTk,hDr];exact aC (by (refine weak_fg ?_;push_cast [O,U,hTk,hDr])) hd1_3_7_11_)
 refine bw 7 #[true,true,true,true,true,true,false,false,false,false,true,true,true,true,false,false,false] (⟨[(85,.c (.v (.slice none 0 0))),(89,.c (.sl 10 (A.map Dev.d))),(97,.c (.sl 10 (B.map Dev.d))),(10,.c (.ptr 4 0)),(7,.c (.v (.int .i64 a))),(5,.c (.v (.int .i64 0))),(4,.c (.ptr 2 0)),(3,.c (.ptr 1 0)),(2,.c (.ptr 0 0))],[.box 41 (trE l),.box 53 d.e,.box 41 [.v (.slice none 0 0)],.arr 9 1 [],.box 41 [.v (.slice none 0 0)]]⟩:S) (fun hd1_3_11_=>?_) (by
  refine bv [6,7] aj rfl ?_;push_cast [O,U,hTk,hDr];refine ⟨?_,?_⟩
  ·exact aC (by (refine weak_fg ?_;push_cast [O,U,hTk,hDr])) hd1_3_6_11_
  ·exact aC (by (refine weak_fg ?_;push_cast [O,U,hTk,hDr])) hd1_3_7_11_)
 refine bw 9 #[true,true,true,false,true,false,false,true,true,false,true,false,true,false,false,false,false] (⟨[(85,.c (.v (.slice none 0 0))),(86,.c (.ptr 0 0)),(88,.c (.v (.int .i64 a))),(92,.c (.full 10 [d.d])),(94,.c (.ptr 0 0)),(96,.c (.v (.int .i64 a))),(10,.c (.ptr 4 0)),(7,.c (.v (.int .i64 a))),(5,.c (.v (.int .i64 0))),(4,.c (.ptr 2 0)),(3,.c (.ptr 1 0)),(2,.c (.ptr 0 0))],[.box 41 (trE l),.box 53 d.e,.box 41 [.v (.slice none 0 0)],.arr 9 1 [],.box 41 [.v (.slice none 0 0)]]⟩:S) (fun hd1_7_8_=>?_) (by
  refine bv [3,11] aj rfl ?_;push_cast [O,U,hTk,hDr];refine ⟨?_,?_⟩
  ·refine aY 5 aj ?_;push_cast [O,U,hTk,hDr];exact aC (by (refine weak_fg ?_;push_cast [O,U,hTk,hDr])) hd1_3_7_8_
  ·refine aY 13 aj ?_;push_cast [O,U,hTk,hDr];exact aC (by (refine weak_fg ?_;push_cast [O,U,hTk,hDr])) hd1_7_8_11_)
 refine bw 8 #[true,true,true,false,true,false,false,true,false,false,true,true,true,true,false,false,false] (⟨[(85,.c (.v (.slice none 0 0))),(86,.c (.ptr 0 0)),(88,.c (.v (.int .i64 a))),(91,.agg d.e),(97,.c (.sl 10 (B.map Dev.d))),(10,.c (.ptr 4 0)),(7,.c (.v (.int .i64 a))),(5,.c (.v (.int .i64 0))),(4,.c (.ptr 2 0)),(3,.c (.ptr 1 0)),(2,.c (.ptr 0 0))],[.box 41 (trE l),.box 53 d.e,.box 41 [.v (.slice none 0 0)],.arr 9 1 [],.box 41 [.v (.slice none 0 0)]]⟩:S) (fun hd1_7_11_=>?_) (by
  refine bv [3,8] aj rfl ?_;push_cast [O,U,hTk,hDr];refine ⟨?_,?_⟩
  ·refine aY 5 aj ?_;push_cast [O,U,hTk,hDr];exact aC (by (refine weak_fg ?_;push_cast [O,U,hTk,hDr])) hd1_3_7_11_
  ·exact aC (by (refine weak_fg ?_;push_cast [O,U,hTk,hDr])) hd1_7_8_11_)
 refine bw 8 #[true,false,true,true,true,true,false,true,true,false,true,false,true,false,false,false,false] (⟨[(84,.c (.ptr 4 0)),(89,.c (.sl 10 (A.map Dev.d))),(92,.c (.full 10 [d.d])),(94,.c (.ptr 0 0)),(96,.c (.v (.int .i64 a))),(10,.c (.ptr 4 0)),(7,.c (.v (.int .i64 a))),(5,.c (.v (.int .i64 0))),(4,.c (.ptr 2 0)),(3,.c (.ptr 1 0)),(2,.c (.ptr 0 0))],[.box 41 (trE l),.box 53 d.e,.box 41 [.v (.slice none 0 0)],.arr 9 1 [],.box 41 [.v (.slice none 0 0)]]⟩:S) (fun hd3_7_8_=>?_) (by
  refine bv [1,11] aj rfl ?_;push_cast [O,U,hTk,hDr];refine ⟨?_,?_⟩
  ·exact aC (by (refine weak_fg ?_;push_cast [O,U,hTk,hDr])) hd1_3_7_8_
  ·refine aY 13 aj ?_;push_cast [O,U,hTk,hDr];exact aC (by (refine weak_fg ?_;push_cast [O,U,hTk,hDr])) hd3_7_8_11_)
 refine bw 7 #[true,false,true,true,true,true,false,true,false,false,true,true,true,true,false,false,false] (⟨[(84,.c (.ptr 4 0)),(89,.c (.sl 10 (A.map Dev.d))),(91,.agg d.e),(97,.c (.sl 10 (B.map Dev.d))),(10,.c (.ptr 4 0)),(7,.c (.v (.int .i64 a))),(5,.c (.v (.int .i64 0))),(4,.c (.ptr 2 0)),(3,.c (.ptr 1 0)),(2,.c (.ptr 0 0))],[.box 41 (trE l),.box 53 d.e,.box 41 [.v (.slice none 0 0)],.arr 9 1 [],.box 41 [.v (.slice none 0 0)]]⟩:S) (fun hd3_7_11_=>?_) (by
  refine bv [1,8] aj rfl ?_;push_cast [O,U,hTk,hDr];refine ⟨?_,?_⟩
  ·exact aC (by (refine weak_fg ?_;push_cast [O,U,hTk,hDr])) hd1_3_7_11_
  ·exact aC (by (refine weak_fg ?_;push_cast [O,U,hTk,hDr])) hd3_7_8_11_)
 refine bw 8 #[true,false,true,false,true,false,false,true,true,false,true,true,true,true,false,false,false] (⟨[(84,.c (.ptr 4 0)),(86,.c (.ptr 0 0)),(88,.c (.v (.int .i64 a))),(92,.c (.full 10 [d.d])),(97,.c (.sl 10 (B.map Dev.d))),(10,.c (.ptr 4 0)),(7,.c (.v (.int .i64 a))),(5,.c (.v (.int .i64 0))),(4,.c (.ptr 2 0)),(3,.c (.ptr 1 0)),(2,.c (.ptr 0 0))],[.box 41 (trE l),.box 53 d.e,.box 41 [.v (.slice none 0 0)],.arr 9 1 [],.box 41 [.v (.slice none 0 0)]]⟩:S) (fun hd7_8_11_=>?_) (by
  refine bv [1,3] aj rfl ?_;push_cast [O,U,hTk,hDr];refine ⟨?_,?_⟩
  ·exact aC (by (refine weak_fg ?_;push_cast [O,U,hTk,hDr])) hd1_7_8_11_
  ·refine aY 5 aj ?_;push_cast [O,U,hTk,hDr];exact aC (by (refine weak_fg ?_;push_cast [O,U,hTk,hDr])) hd3_7_8_11_)
 refine bw 9 #[true,true,true,true,true,true,false,false,false,false,true,false,true,false,false,false,false] (⟨[(85,.c (.v (.slice none 0 0))),(89,.c (.sl 10 (A.map Dev.d))),(94,.c (.ptr 0 0)),(96,.c (.v (.int .i64 a))),(10,.c (.ptr 4 0)),(7,.c (.v (.int .i64 a))),(5,.c (.v (.int .i64 0))),(4,.c (.ptr 2 0)),(3,.c (.ptr 1 0)),(2,.c (.ptr 0 0))],[.box 41 (trE l),.box 53 d.e,.box 41 [.v (.slice none 0 0)],.arr 9 1 [],.box 41 [.v (.slice none 0 0)]]⟩:S) (fun hd1_3_=>?_) (by
  refine bv [6,7,11] aj rfl ?_;push_cast [O,U,hTk,hDr];refine ⟨?_,?_,?_⟩
  ·exact aC (by (refine weak_fg ?_;push_cast [O,U,hTk,hDr])) hd1_3_6_
  ·exact aC (by (refine weak_fg ?_;push_cast [O,U,hTk,hDr])) hd1_3_7_
  ·refine aY 13 aj ?_;push_cast [O,U,hTk,hDr];exact aC (by (refine weak_fg ?_;push_cast [O,U,hTk,hDr])) hd1_3_11_)
 refine bw 10 #[true,true,true,false,true,false,false,true,false,false,true,false,true,false,false,false,false] (⟨[(85,.c (.v (.slice none 0 0))),(86,.c (.ptr 0 0)),(88,.c (.v (.int .i64 a))),(91,.agg d.e),(94,.c (.ptr 0 0)),(96,.c (.v (.int .i64 a))),(10,.c (.ptr 4 0)),(7,.c (.v (.int .i64 a))),(5,.c (.v (.int .i64 0))),(4,.c (.ptr 2 0)),(3,.c (.ptr 1 0)),(2,.c (.ptr 0 0))],[.box 41 (trE l),.box 53 d.e,.box 41 [.v (.slice none 0 0)],.arr 9 1 [],.box 41 [.v (.slice none 0 0)]]⟩:S) (fun hd1_7_=>?_) (by
  refine bv [3,8,11] aj rfl ?_;push_cast [O,U,hTk,hDr];refine ⟨?_,?_,?_⟩
  ·refine aY 5 aj ?_;push_cast [O,U,hTk,hDr];exact aC (by (refine weak_fg ?_;push_cast [O,U,hTk,hDr])) hd1_3_7_
  ·exact aC (by (refine weak_fg ?_;push_cast [O,U,hTk,hDr])) hd1_7_8_
  ·refine aY 13 aj ?_;push_cast [O,U,hTk,hDr];exact aC (by (refine weak_fg ?_;push_cast [O,U,hTk,hDr])) hd1_7_11_)
 refine bw 9 #[true,true,true,false,true,false,false,false,false,false,true,true,true,true,false,false,false] (⟨[(85,.c (.v (.slice none 0 0))),(86,.c (.ptr 0 0)),(88,.c (.v (.int .i64 a))),(97,.c (.sl 10 (B.map Dev.d))),(10,.c (.ptr 4 0)),(7,.c (.v (.int .i64 a))),(5,.c (.v (.int .i64 0))),(4,.c (.ptr 2 0)),(3,.c (.ptr 1 0)),(2,.c (.ptr 0 0))],[.box 41 (trE l),.box 53 d.e,.box 41 [.v (.slice none 0 0)],.arr 9 1 [],.box 41 [.v (.slice none 0 0)]]⟩:S) (fun hd1_11_=>?_) (by
  refine bv [3,7] aj rfl ?_;push_cast [O,U,hTk,hDr];refine ⟨?_,?_⟩
  ·refine aY 5 aj ?_;push_cast [O,U,hTk,hDr];exact aC (by (refine weak_fg ?_;push_cast [O,U,hTk,hDr])) hd1_3_11_
  ·exact aC (by (refine weak_fg ?_;push_cast [O,U,hTk,hDr])) hd1_7_11_)
 refine bw 9 #[true,false,true,true,true,true,false,true,false,false,true,false,true,false,false,false,false] (⟨[(84,.c (.ptr 4 0)),(89,.c (.sl 10 (A.map Dev.d))),(91,.agg d.e),(94,.c (.ptr 0 0)),(96,.c (.v (.int .i64 a))),(10,.c (.ptr 4 0)),(7,.c (.v (.int .i64 a))),(5,.c (.v (.int .i64 0))),(4,.c (.ptr 2 0)),(3,.c (.ptr 1 0)),(2,.c (.ptr 0 0))],[.box 41 (trE l),.box 53 d.e,.box 41 [.v (.slice none 0 0)],.arr 9 1 [],.box 41 [.v (.slice none 0 0)]]⟩:S) (fun hd3_7_=>?_) (by
  refine bv [1,8,11] aj rfl ?_;push_cast [O,U,hTk,hDr];refine ⟨?_,?_,?_⟩
  ·exact aC (by (refine weak_fg ?_;push_cast [O,U,hTk,hDr])) hd1_3_7_
  ·exact aC (by (refine weak_fg ?_;push_cast [O,U,hTk,hDr])) hd3_7_8_
  ·refine aY 13 aj ?_;push_cast [O,U,hTk,hDr];exact aC (by (refine weak_fg ?_;push_cast [O,U,hTk,hDr])) hd3_7_11_)
 refine bw 8 #[true,false,true,true,true,true,false,false,false,false,true,true,true,true,false,false,false] (⟨[(84,.c (.ptr 4 0)),(89,.c (.sl 10 (A.map Dev.d))),(97,.c (.sl 10 (B.map Dev.d))),(10,.c (.ptr 4 0)),(7,.c (.v (.int .i64 a))),(5,.c (.v (.int .i64 0))),(4,.c (.ptr 2 0)),(3,.c (.ptr 1 0)),(2,.c (.ptr 0 0))],[.box 41 (trE l),.box 53 d.e,.box 41 [.v (.slice none 0 0)],.arr 9 1 [],.box 41 [.v (.slice none 0 0)]]⟩:S) (fun hd3_11_=>?_) (by
  refine bv [1,7] aj rfl ?_;push_cast [O,U,hTk,hDr];refine ⟨?_,?_⟩
  ·exact aC (by (refine weak_fg ?_;push_cast [O,U,hTk,hDr])) hd1_3_11_
  ·exact aC (by (refine weak_fg ?_;push_cast [O,U,hTk,hDr])) hd3_7_11_)
 refine bw 10 #[true,false,true,false,true,false,false,true,true,false,true,false,true,false,false,false,false] (⟨[(84,.c (.ptr 4 0)),(86,.c (.ptr 0 0)),(88,.c (.v (.int .i64 a))),(92,.c (.full 10 [d.d])),(94,.c (.ptr 0 0)),(96,.c (.v (.int .i64 a))),(10,.c (.ptr 4 0)),(7,.c (.v (.int .i64 a))),(5,.c (.v (.int .i64 0))),(4,.c (.ptr 2 0)),(3,.c (.ptr 1 0)),(2,.c (.ptr 0 0))],[.box 41 (trE l),.box 53 d.e,.box 41 [.v (.slice none 0 0)],.arr 9 1 [],.box 41 [.v (.slice none 0 0)]]⟩:S) (fun hd7_8_=>?_) (by
  refine bv [1,3,11] aj rfl ?_;push_cast [O,U,hTk,hDr];refine ⟨?_,?_,?_⟩
  ·exact aC (by (refine weak_fg ?_;push_cast [O,U,hTk,hDr])) hd1_7_8_
  ·refine aY 5 aj ?_;push_cast [O,U,hTk,hDr];exact aC (by (refine weak_fg ?_;push_cast [O,U,hTk,hDr])) hd3_7_8_
  ·refine aY 13 aj ?_;push_cast [O,U,hTk,hDr];exact aC (by (refine weak_fg ?_;push_cast [O,U,hTk,hDr])) hd7_8_11_)
 refine bw 9 #[true,false,true,false,true,false,false,true,false,false,true,true,true,true,false,false,false] (⟨[(84,.c (.ptr 4 0)),(86,.c (.ptr 0 0)),(88,.c (.v (.int .i64 a))),(91,.agg d.e),(97,.c (.sl 10 (B.map Dev.d))),(10,.c (.ptr 4 0)),(7,.c (.v (.int .i64 a))),(5,.c (.v (.int .i64 0))),(4,.c (.ptr 2 0)),(3,.c (.ptr 1 0)),(2,.c (.ptr 0 0))],[.box 41 (trE l),.box 53 d.e,.box 41 [.v (.slice none 0 0)],.arr 9 1 [],.box 41 [.v (.slice none 0 0)]]⟩:S) (fun hd7_11_=>?_) (by
  refine bv [1,3,8] aj rfl ?_;push_cast [O,U,hTk,hDr];refine ⟨?_,?_,?_⟩
  ·exact aC (by (refine weak_fg ?_;push_cast [O,U,hTk,hDr])) hd1_7_11_
  ·refine aY 5 aj ?_;push_cast [O,U,hTk,hDr];exact aC (by (refine weak_fg ?_;push_cast [O,U,hTk,hDr])) hd3_7_11_
  ·exact aC (by (refine weak_fg ?_;push_cast [O,U,hTk,hDr])) hd7_8_11_)
 refine bw 11 #[true,true,true,false,true,false,false,false,false,false,true,false,true,false,false,false,false] (⟨[(85,.c (.v (.slice none 0 0))),(86,.c (.ptr 0 0)),(88,.c (.v (.int .i64 a))),(94,.c (.ptr 0 0)),(96,.c (.v (.int .i64 a))),(10,.c (.ptr 4 0)),(7,.c (.v (.int .i64 a))),(5,.c (.v (.int .i64 0))),(4,.c (.ptr 2 0)),(3,.c (.ptr 1 0)),(2,.c (.ptr 0 0))],[.box 41 (trE l),.box 53 d.e,.box 41 [.v (.slice none 0 0)],.arr 9 1 [],.box 41 [.v (.slice none 0 0)]]⟩:S) (fun hd1_=>?_) (by
  refine bv [3,7,11] aj rfl ?_;push_cast [O,U,hTk,hDr];refine ⟨?_,?_,?_⟩
  ·refine aY 5 aj ?_;push_cast [O,U,hTk,hDr];exact aC (by (refine weak_fg ?_;push_cast [O,U,hTk,hDr])) hd1_3_
  ·exact aC (by (refine weak_fg ?_;push_cast [O,U,hTk,hDr])) hd1_7_
  ·refine aY 13 aj ?_;push_cast [O,U,hTk,hDr];exact aC (by (refine weak_fg ?_;push_cast [O,U,hTk,hDr])) hd1_11_)
 refine bw 10 #[true,false,true,true,true,true,false,false,false,false,true,false,true,false,false,false,false] (⟨[(84,.c (.ptr 4 0)),(89,.c (.sl 10 (A.map Dev.d))),(94,.c (.ptr 0 0)),(96,.c (.v (.int .i64 a))),(10,.c (.ptr 4 0)),(7,.c (.v (.int .i64 a))),(5,.c (.v (.int .i64 0))),(4,.c (.ptr 2 0)),(3,.c (.ptr 1 0)),(2,.c (.ptr 0 0))],[.box 41 (trE l),.box 53 d.e,.box 41 [.v (.slice none 0 0)],.arr 9 1 [],.box 41 [.v (.slice none 0 0)]]⟩:S) (fun hd3_=>?_) (by
  refine bv [1,7,11] aj rfl ?_;push_cast [O,U,hTk,hDr];refine ⟨?_,?_,?_⟩
  ·exact aC (by (refine weak_fg ?_;push_cast [O,U,hTk,hDr])) hd1_3_
  ·exact aC (by (refine weak_fg ?_;push_cast [O,U,hTk,hDr])) hd3_7_
  ·refine aY 13 aj ?_;push_cast [O,U,hTk,hDr];exact aC (by (refine weak_fg ?_;push_cast [O,U,hTk,hDr])) hd3_11_)
 refine bw 11 #[true,false,true,false,true,false,false,true,false,false,true,false,true,false,false,false,false] (⟨[(84,.c (.ptr 4 0)),(86,.c (.ptr 0 0)),(88,.c (.v (.int .i64 a))),(91,.agg d.e),(94,.c (.ptr 0 0)),(96,.c (.v (.int .i64 a))),(10,.c (.ptr 4 0)),(7,.c (.v (.int .i64 a))),(5,.c (.v (.int .i64 0))),(4,.c (.ptr 2 0)),(3,.c (.ptr 1 0)),(2,.c (.ptr 0 0))],[.box 41 (trE l),.box 53 d.e,.box 41 [.v (.slice none 0 0)],.arr 9 1 [],.box 41 [.v (.slice none 0 0)]]⟩:S) (fun hd7_=>?_) (by
  refine bv [1,3,8,11] aj rfl ?_;push_cast [O,U,hTk,hDr];refine ⟨?_,?_,?_,?_⟩
  ·exact aC (by (refine weak_fg ?_;push_cast [O,U,hTk,hDr])) hd1_7_
  ·refine aY 5 aj ?_;push_cast [O,U,hTk,hDr];exact aC (by (refine weak_fg ?_;push_cast [O,U,hTk,hDr])) hd3_7_
  ·exact aC (by (refine weak_fg ?_;push_cast [O,U,hTk,hDr])) hd7_8_
  ·refine aY 13 aj ?_;push_cast [O,U,hTk,hDr];exact aC (by (refine weak_fg ?_;push_cast [O,U,hTk,hDr])) hd7_11_)
 refine bw 10 #[true,false,true,false,true,false,false,false,false,false,true,true,true,true,false,false,false] (⟨[(84,.c (.ptr 4 0)),(86,.c (.ptr 0 0)),(88,.c (.v (.int .i64 a))),(97,.c (.sl 10 (B.map Dev.d))),(10,.c (.ptr 4 0)),(7,.c (.v (.int .i64 a))),(5,.c (.v (.int .i64 0))),(4,.c (.ptr 2 0)),(3,.c (.ptr 1 0)),(2,.c (.ptr 0 0))],[.box 41 (trE l),.box 53 d.e,.box 41 [.v (.slice none 0 0)],.arr 9 1 [],.box 41 [.v (.slice none 0 0)]]⟩:S) (fun hd11_=>?_) (by
  refine bv [1,3,7] aj rfl ?_;push_cast [O,U,hTk,hDr];refine ⟨?_,?_,?_⟩
  ·exact aC (by (refine weak_fg ?_;push_cast [O,U,hTk,hDr])) hd1_11_
  ·refine aY 5 aj ?_;push_cast [O,U,hTk,hDr];exact aC (by (refine weak_fg ?_;push_cast [O,U,hTk,hDr])) hd3_11_
  ·exact aC (by (refine weak_fg ?_;push_cast [O,U,hTk,hDr])) hd7_11_)
 refine bv [1,3,7,11] aj rfl ?_;push_cast [O,U,hTk,hDr];refine ⟨?_,?_,?_,?_⟩
 ·exact aC (by (refine weak_fg ?_;push_cast [O,U,hTk,hDr])) hd1_
 ·refine aY 5 aj ?_;push_cast [O,U,hTk,hDr];exact aC (by (refine weak_fg ?_;push_cast [O,U,hTk,hDr])) hd3_
 ·exact aC (by (refine weak_fg ?_;push_cast [O,U,hTk,hDr])) hd7_
 ·refine aY 13 aj ?_;push_cast [O,U,hTk,hDr];exact aC (by (refine weak_fg ?_;push_cast [O,U,hTk,hDr])) hd11_
end Go.Proofs.YtmbbkfffcflfcaaGreatDoor
