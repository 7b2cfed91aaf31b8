/- What the program computes, and the plain laws of it, part 45. -/
import Derived.Lib.ItoaNum
import Derived.WideKeyEntry
import Derived.Test.YtmbbkfffcflfcaaGreatDoorT44
namespace Go.Proofs.YtmbbkfffcflfcaaGreatDoor
open Nat renaming reduceAdd → rA
open Go.Proofs.Tryz
set_option linter.unusedSimpArgs false
set_option linter.unusedVariables false
open Go.RowKit
open IntWalk renaming iteOmega → O, toNatUp → U
set_option maxRecDepth 20000
section
attribute [local irreducible] PL QL aL ah bg La aV PA
theorem F8 {k:Ker} (h:bJ k) (p:ByteArray) (x:Dev) (he:(k.add p x).2.2≠0):(k.add p x).2.1=0:=by
 unfold Ker.add at he ⊢;split
 ·rfl
 ·rename_i h1;rw [if_neg h1] at he;by_cases h2:bU k.tree (fF k (fq k.tree p) x)=0
  ·exfalso;rw [if_neg (fun h=>h h2)] at he;have hp:=h.put h2 rfl;cases hf:iL k (fF k (fq k.tree p) x) with
   | none=>rw [hf] at he;exact he rfl
   | some s =>
    rw [hf] at he;simp only at he;rw [nz hp.tree (gu.2 (.inl rfl)) (.inr (h.name (tU hf)))] at he;exact he rfl
  ·rw [if_pos h2]
theorem Ik {k:Ker} (h:bJ k) (op:Opr) (he:(bM k op).2.2≠0):(bM k op).2.1=0:=by
 unfold bM Ker.doM at he ⊢;split
 ·rename_i h1;rw [if_pos h1] at he;exact F8 h _ _ he
 ·split
  ·rfl
  ·split
   ·rfl
   ·split
    ·rfl
    ·cases atD k.tree op.path<;>rfl
set_option maxHeartbeats 16000000 in
theorem Db (k:Ker) (op:Opr) (hB:bL k) (ho:eA op) (hn:k.evs.length+300≤1000000) (ht:k.top+1≤1000000) :
  ah prog 150 [.agg k.re,.agg op.e,.agg ((atD k.tree op.path).getD default).e,.c (.v (.bool ((atD k.tree op.path).isSome)))] [] fun r os=>r = .three (.agg (k.add op.path op.dev).1.re) (.c (.v (.int .i64 ((k.add op.path op.dev).2.1)))) (.c (.v (.int .i64 ((k.add op.path op.dev).2.2))))∧os=[]:=by
 have hkt:=hB.len;have ht0:=hB.inv.top0;obtain ⟨X,hX⟩:∃ X,k.add op.path op.dev=X:=⟨_,rfl⟩
 rw [hX];unfold Ker.add at hX;refine aw func150 ntmps150 results150 ?_;push_cast [O,U];have cB:aH 17 []:=trivial;by_cases hp:op.path≠⟨#[]⟩∧(atD k.tree op.path).isNone=true
 ·obtain ⟨hp1,hp2⟩:=hp;rw [if_pos ⟨hp1,hp2⟩] at hX;have hp3:(atD k.tree op.path).isSome=false:=by rw [Option.isNone_iff_eq_none] at hp2;rw [hp2];rfl
  subst hX;repeat' ((first|refine ae ?_|refine pif ?_ ?_<;>intro h<;>try exact pN h)<;>push_cast [O,U,hp1,hp3,ne_eq,not_false_eq_true])
  exact am []
 rw [if_neg hp] at hX;obtain ⟨pd,hpd⟩:∃ pd:Dev,(atD k.tree op.path).getD default=pd:=⟨_,rfl⟩
 have hpi:fq k.tree op.path=pd.index:=by
  unfold fq;rw [← hpd];cases atD k.tree op.path<;>rfl
 rw [hpi] at hX;rw [hpd];obtain ⟨sm,hsm⟩:∃ sm,(atD k.tree op.path).isSome=sm:=⟨_,rfl⟩
 rw [hsm];have hcond:op.path=⟨#[]⟩∨sm=true:=by
  by_cases h1:op.path=⟨#[]⟩
  ·exact .inl h1
  ·right;rw [← hsm];cases h2:atD k.tree op.path with
   | none=>exact absurd ⟨h1,by rw [h2];rfl⟩ hp
   | some x=>rfl
 obtain ⟨D,hD⟩:∃ D,fF k pd.index op.dev=D:=⟨_,rfl⟩
 rw [hD] at hX;apply Hr
 ·intro H;by_cases h0:op.path=⟨#[]⟩
  ·have h1:(op.path≠⟨#[]⟩)=False:=eq_false (fun h=>h h0);repeat' ((first|(refine eQ 3 ?_)|refine ae ?_|refine pif ?_ ?_<;>intro h<;>try exact pN h)<;>push_cast [O,U,h1])
   refine dd ?_;refine aF (fh 17 [] [3] _) ?_;push_cast [O,U];exact H.out
  ·have h2:sm=true:=hcond.resolve_left h0;subst h2;repeat' ((first|(refine eQ 3 ?_)|refine ae ?_|refine pif ?_ ?_<;>intro h<;>try exact pN h)<;>push_cast [O,U,h0,ne_eq,not_false_eq_true])
   refine dd ?_;refine aF (fh 17 [] [3] _) ?_;push_cast [O,U];exact H.out
 have hDok:D.ok:=by rw [← hD];exact ⟨ho.dev.original,ho.dev.original,ho.dev.subsystem,Nat.zero_le _,ho.dev.alias_,ho.dev.attrs,ho.dev.len,ho.dev.orig⟩
 have hin:=BW k.tree D hDok (by rw [← hD];exact ho.dev.orig) (fun x hx=>by have:=hB.orig x hx;omega) ac;have hatt:=ho.att;have hDi:D.index=k.top+1:=by rw [← hD];rfl
 have hDe:D.e=Dev.e ⟨k.top+1,pd.index,op.dev.original,op.dev.original,op.dev.subsystem,⟨#[]⟩,op.dev.alias_,op.dev.kind,op.dev.number,op.dev.attrs⟩:=by rw [← hD];rfl
 (refine av 17 [] ?_;apply ak;(focus kernel_rfl);(focus (simp only [aP,rA];(repeat' first|((first|refine pah 0 ?_|refine pah 2 ?_|refine pah 3 ?_|refine pah 5 ?_|refine pah 6 ?_|refine pah 8 ?_|refine pah 9 ?_|refine pah 11 ?_|refine pah 12 ?_|refine pah 14 ?_|refine pah 15 ?_|refine pah 17 ?_|refine pah 18 ?_|refine pah 20 ?_|refine pah 21 ?_|refine pah 23 ?_|refine pah 24 ?_|refine pah 27 ?_);push_cast [O,U])|((first|refine pal 1 ?_|refine pal 4 ?_|refine pal 7 ?_|refine pal 10 ?_|refine pal 13 ?_|refine pal 16 ?_|refine pal 19 ?_|refine pal 22 ?_|refine pal 25 ?_);push_cast [O,U])|(refine pad ?_;first|with_reducible exact ao 17 [] _|(refine weak_fg ?_;push_cast [O,U];done)|(refine bg.trans (eG 4 ac) ?_;push_cast [O,U];refine weak_fg ?_;push_cast [O,U]))|((first|refine pas [26] ?_|refine pas [28] ?_|refine pas [29] ?_);push_cast [O,U])|((first|refine pas [26,28] ?_|refine pas [26,29] ?_|refine pas [28,29] ?_);push_cast [O,U];refine ⟨?_,?_⟩)|((first|refine pas [26,28,29] ?_);push_cast [O,U];refine ⟨?_,?_,?_⟩));done));push_cast [O,U]);refine bX (bQ 4 ac) ?_;push_cast [O,U];by_cases he:bU k.tree D=0
 case neg =>
  rw [if_pos he] at hX;rw [if_neg he] at hin;obtain ⟨ce,hce⟩:∃ ce,bU k.tree D=ce:=⟨_,rfl⟩
  rw [hce] at he hin hX;subst hX;rw [hDe] at hin;repeat' ((first|(refine plE [] hin ?_ ?_;focus (push_cast [O,U,he];done))|refine ae ?_|refine pif ?_ ?_<;>intro h<;>try exact pN h)<;>push_cast [O,U,he])
  exact am []
 rw [if_neg (fun h=>h he)] at hX;rw [if_pos he,he] at hin;have hT2:=hB.inv.tree.ins he;have hB2:=hB.put he hDi ac ht;obtain ⟨K1,hK1⟩:∃ K1:Ker,(⟨eL k.tree D,k.mods,k.loaded,k.evs,D.index⟩:Ker)=K1:=⟨_,rfl⟩
 have e1:eL k.tree D=K1.tree:=by rw [← hK1]
 have e2:k.mods=K1.mods:=by rw [← hK1]
 have e3:k.loaded=K1.loaded:=by rw [← hK1]
 have e4:k.evs=K1.evs:=by rw [← hK1]
 have e5:k.top+1=K1.top:=by rw [← hK1,← hDi]
 have h1:=fP K1 1 D.index ⟨#[]⟩ (by rw [← e1];exact hT2) (by rw [← e4];omega);have hput:K1.emit 1 D.index ⟨#[]⟩=k.put D:=by rw [← hK1];rfl
 rw [hput] at h1;have f2:(k.put D).mods=k.mods:=rfl;have f3:(k.put D).loaded=k.loaded:=rfl;have f4:(k.put D).evs.length=k.evs.length+1:=nA k D;have f1:(k.put D).tree=eL k.tree D:=rfl;obtain ⟨K2,hK2⟩:∃ K2,k.put D=K2:=⟨_,rfl⟩
 rw [hK2] at h1 hX hB2 f1 f2 f3 f4;have hfm:iL k D=K2.loaded.find? fun s=>dU ((aJ K2.mods s).getD bW) D:=by unfold iL;rw [f2,f3]
 rw [hfm] at hX;have hDs:Small D:=iG (gI he).1;have hDi2:D.index=K1.top:=by rw [hDi,e5]
 have hDm:D ∈ K2.tree:=by rw [f1];exact gu.2 (.inl rfl)
 have hDa:D.alias_=op.dev.alias_:=by rw [← hD];rfl
 have hmt:=fun s=>ru ((aJ K2.mods s).getD bW) D.alias_ (dM hB2 s).1 (dM hB2 s).2.2 (by have:=hDs.als;omega)
 simp only [AN] at hmt;rw [hDa] at hmt;have hmd:=fun s=>iu K2.mods s (by have:=hB2.modl;omega)
 have hdr:=fun s (hs:Fit s) (hc:aR K2.tree (dS D s)=0)=>ia K2 D s hB2 hDs.ok (by have:=hDs.orig;omega) hs ac hc
 rw [hDe] at hin;simp only [hDe] at hdr;rw [e1] at hin;have hX1:∀ s,K2.loaded.find? (fun s=>dU ((aJ K2.mods s).getD bW) D)=some s → X=((K2.drive D s).1,k.top+1,(K2.drive D s).2):=fun s h=>by rw [← hX,h]
 have hX0:K2.loaded.find? (fun s=>dU ((aJ K2.mods s).getD bW) D)=none → X=(K2,k.top+1,0):=fun h=>by rw [← hX,h]
 clear hX;repeat' ((first|(refine plE [] hin ?_ ?_;focus (push_cast [O,U,hDi2,e2,e3,e4,e5];done))|(refine av 17 [] ?_;apply ak;(focus kernel_rfl);(focus (simp only [aP,rA];(repeat' first|((first|refine pah 1 ?_|refine pah 3 ?_|refine pah 5 ?_);push_cast [O,U,  hDi2,e2,e3,e4,e5])|(refine pad ?_;first|with_reducible exact ao 17 [] _|(refine weak_fg ?_;push_cast [O,U,  hDi2,e2,e3,e4,e5]))|((first|refine pas [0] ?_|refine pas [2] ?_|refine pas [4] ?_|refine pas [6] ?_);push_cast [O,U,  hDi2,e2,e3,e4,e5])|((first|refine pas [0,2] ?_|refine pas [2,4] ?_);push_cast [O,U,  hDi2,e2,e3,e4,e5];refine ⟨?_,?_⟩));done));push_cast [O,U,  hDi2,e2,e3,e4,e5])|(refine plE [] h1 ?_ ?_;focus (push_cast [O,U,hDi2,e2,e3,e4,e5];done))|refine ae ?_|refine pif ?_ ?_<;>intro h<;>try exact pN h)<;>push_cast [O,U,hDi2,e2,e3,e4,e5])
 (apply ap (α:=Nat) 17 [] (fun i=>[(14,.c (.v (.int .i64 i)))]) (fun i=>[]) (fun i=>i≤K2.loaded.length∧∀ x ∈ K2.loaded.take i,dU ((aJ K2.mods x).getD bW) D=false) (fun i=>K2.loaded.length - i) (0);(focus ((try push_cast [O,U]);rfl));(focus exact ⟨Nat.zero_le _,by simp⟩);(focus ((refine weak_fg ?_;try push_cast [O,U]))));rintro i ⟨hi,hpre⟩;push_cast [O,U];have hll:=hB2.lod;by_cases hlt:i < K2.loaded.length
 ·have hmem:K2.loaded.getD i default ∈ K2.loaded:=by rw [ai _ hlt];exact List.getElem_mem _
  have hvs:=hB2.inv.name hmem;have hsf:Fit (K2.loaded.getD i default):=bN (n:=32) (cE hvs) af;have hstep:=fun h=>xJ (q:=fun s=>dU ((aJ K2.mods s).getD bW) D) hlt hpre h
  have hpre2:dU ((aJ K2.mods (K2.loaded.getD i default)).getD bW) D=false → ∀ x ∈ K2.loaded.take (i+1),dU ((aJ K2.mods x).getD bW) D=false:=fun h x hx=>by
   rw [List.take_succ_eq_append_getElem hlt] at hx;rcases List.mem_append.1 hx with hx|hx
   ·exact hpre x hx
   ·rw [List.mem_singleton] at hx;rw [hx,← ai _ hlt];exact h
  obtain ⟨m',hm',_⟩:=hB2.inv.load _ hmem;have hmn:((aJ K2.mods (K2.loaded.getD i default)).getD bW).name=K2.loaded.getD i default:=by rw [hm'];exact (ez hm').2
  have hmt:=hmt (K2.loaded.getD i default);have hmd:=hmd (K2.loaded.getD i default);have hce:=hB2.drv hDm (.inr hvs);have hdr:=hdr _ hsf hce;have hdz:(K2.drive D (K2.loaded.getD i default)).2=0:=by rw [nU hce]
  obtain ⟨s,hs⟩:∃ s,K2.loaded.getD i default=s:=⟨_,rfl⟩
  rw [hs] at hmt hmd hdr hstep hpre2 hmn hdz;obtain ⟨m,hm⟩:∃ m,(aJ K2.mods s).getD bW=m:=⟨_,rfl⟩
  rw [hm] at hmt hmd hpre2 hmn;cases hb:dU m D with
  | true =>
   have hXs:=hX1 s (hstep (by simp only [hm];exact hb));rw [hb] at hmt;rw [hdz] at hXs;obtain ⟨Y,hY⟩:∃ Y,(K2.drive D s).1=Y:=⟨_,rfl⟩
   rw [hY] at hdr hXs;subst hXs;repeat' ((first|(refine av 17 [] ?_;apply ak;(focus kernel_rfl);(focus (simp only [aP,rA];(repeat' first|((refine plE [] hmd ?_ ?_;(focus (push_cast [O,U,  hs,hDi2,e5,hmn];done));push_cast [O,U,  hs,hDi2,e5,hmn]))|((first|refine pah 0 ?_|refine pah 2 ?_|refine pah 4 ?_|refine pah 5 ?_|refine pah 8 ?_|refine pah 9 ?_|refine pah 10 ?_|refine pah 13 ?_);push_cast [O,U,  hs,hDi2,e5,hmn])|(refine pad ?_;first|with_reducible exact ao 17 [] _|(refine weak_fg ?_;push_cast [O,U,  hs,hDi2,e5,hmn]))|((first|refine pas [1] ?_|refine pas [3] ?_|refine pas [6] ?_|refine pas [7] ?_|refine pas [11] ?_|refine pas [12] ?_);push_cast [O,U,  hs,hDi2,e5,hmn])|((first|refine pas [1,3] ?_|refine pas [1,6] ?_|refine pas [1,11] ?_|refine pas [3,11] ?_|refine pas [6,11] ?_|refine pas [7,11] ?_);push_cast [O,U,  hs,hDi2,e5,hmn];refine ⟨?_,?_⟩)|((first|refine pas [1,3,11] ?_|refine pas [1,6,11] ?_);push_cast [O,U,  hs,hDi2,e5,hmn];refine ⟨?_,?_,?_⟩));done));push_cast [O,U,  hs,hDi2,e5,hmn])|refine plE [] hmt ?_ ?_;focus (push_cast [O,U,hs,hDi2,e5,hmn];done)|(refine av 17 [] ?_;apply ak;(focus kernel_rfl);(focus (simp only [aP,rA];(repeat' first|((refine plE [] hdr ?_ ?_;(focus (push_cast [O,U,  hs,hDi2,e5,hmn];done));push_cast [O,U,  hs,hDi2,e5,hmn]))|((first|refine pah 2 ?_|refine pah 5 ?_|refine pah 8 ?_|refine pah 9 ?_);push_cast [O,U,  hs,hDi2,e5,hmn])|(refine pad ?_;first|with_reducible exact ao 17 [] _|(refine weak_fg ?_;push_cast [O,U,  hs,hDi2,e5,hmn]))|((first|refine pas [0] ?_|refine pas [1] ?_|refine pas [3] ?_|refine pas [4] ?_|refine pas [6] ?_|refine pas [7] ?_);push_cast [O,U,  hs,hDi2,e5,hmn])|((first|refine pas [0,1] ?_|refine pas [0,3] ?_|refine pas [0,6] ?_|refine pas [1,3] ?_|refine pas [1,6] ?_|refine pas [3,6] ?_|refine pas [4,6] ?_|refine pas [6,7] ?_);push_cast [O,U,  hs,hDi2,e5,hmn];refine ⟨?_,?_⟩)|((first|refine pas [0,1,3] ?_|refine pas [0,1,6] ?_|refine pas [0,3,6] ?_|refine pas [1,3,6] ?_);push_cast [O,U,  hs,hDi2,e5,hmn];refine ⟨?_,?_,?_⟩)|((first|refine pas [0,1,3,6] ?_);push_cast [O,U,  hs,hDi2,e5,hmn];refine ⟨?_,?_,?_,?_⟩));done));push_cast [O,U,  hs,hDi2,e5,hmn])|refine ae ?_|refine pif ?_ ?_<;>intro h<;>try exact pN h)<;>push_cast [O,U,hs,hDi2,e5,hmn])
   (refine K9 [] ?_;push_cast [O,U,e5])
  | false =>
   rw [hb] at hmt;have hp:=hpre2 hb;repeat' ((first|(refine av 17 [] ?_;apply ak;(focus kernel_rfl);(focus (simp only [aP,rA];(repeat' first|((refine plE [] hmd ?_ ?_;(focus (push_cast [O,U,  hs,hDi2,e5,hmn];done));push_cast [O,U,  hs,hDi2,e5,hmn]))|((first|refine pah 0 ?_|refine pah 2 ?_|refine pah 4 ?_|refine pah 5 ?_|refine pah 8 ?_|refine pah 9 ?_|refine pah 10 ?_|refine pah 13 ?_);push_cast [O,U,  hs,hDi2,e5,hmn])|(refine pad ?_;first|with_reducible exact ao 17 [] _|(refine weak_fg ?_;push_cast [O,U,  hs,hDi2,e5,hmn]))|((first|refine pas [1] ?_|refine pas [3] ?_|refine pas [6] ?_|refine pas [7] ?_|refine pas [11] ?_|refine pas [12] ?_);push_cast [O,U,  hs,hDi2,e5,hmn])|((first|refine pas [1,3] ?_|refine pas [1,6] ?_|refine pas [1,11] ?_|refine pas [3,11] ?_|refine pas [6,11] ?_|refine pas [7,11] ?_);push_cast [O,U,  hs,hDi2,e5,hmn];refine ⟨?_,?_⟩)|((first|refine pas [1,3,11] ?_|refine pas [1,6,11] ?_);push_cast [O,U,  hs,hDi2,e5,hmn];refine ⟨?_,?_,?_⟩));done));push_cast [O,U,  hs,hDi2,e5,hmn])|refine plE [] hmt ?_ ?_;focus (push_cast [O,U,hs,hDi2,e5,hmn];done)|refine ae ?_|refine pif ?_ ?_<;>intro h<;>try exact pN h)<;>push_cast [O,U,hs,hDi2,e5,hmn])
   exact ⟨i+1,⟨ac,hp⟩,aA,ac⟩
 ·have hXs:=hX0 (by
   rw [List.take_of_length_le ac] at hpre;rw [List.find?_eq_none];intro x hx;rw [hpre x hx];simp)
  subst hXs;repeat' ((first|(refine av 17 [] ?_;apply ak;(focus kernel_rfl);(focus (simp only [aP,rA];(repeat' first|((first|refine pah 1 ?_|refine pah 4 ?_|refine pah 5 ?_);push_cast [O,U,  e5])|(refine pad ?_;first|with_reducible exact ao 17 [] _|(refine weak_fg ?_;push_cast [O,U,  e5]))|((first|refine pas [0] ?_|refine pas [2] ?_|refine pas [3] ?_);push_cast [O,U,  e5])|((first|refine pas [0,2] ?_|refine pas [2,3] ?_);push_cast [O,U,  e5];refine ⟨?_,?_⟩));done));push_cast [O,U,  e5])|refine ae ?_|refine pif ?_ ?_<;>intro h<;>try exact pN h)<;>push_cast [O,U,e5])
  (refine K9 [] ?_;push_cast [O,U,e5])
theorem Dc (k:Ker) (op:Opr) (hB:bL k) (ho:eA op) (hn:k.evs.length+300≤1000000) (ht:k.top+1≤1000000) :
  ah prog 107 [.agg k.re,.agg op.e] [] fun r os=>r = .three (.agg (bM k op).1.re) (.c (.v (.int .i64 ((bM k op).2.1)))) (.c (.v (.int .i64 ((bM k op).2.2))))∧os=[]:=by
 have hkt:=hB.len;have hat:=E9 k.tree op.path ac hB.orig;have hadd:=Db k op hB ho hn ht;obtain ⟨X,hX⟩:∃ X,bM k op=X:=⟨_,rfl⟩
 rw [hX];unfold bM Ker.doM at hX;refine aw func107 ntmps107 results107 ?_;push_cast [O,U];have cB:aH 14 [22,33,44]:=trivial;by_cases k1:op.kind=1
 ·rw [if_pos k1] at hX;rw [hX] at hadd;obtain ⟨pd,hpd⟩:∃ pd:Dev,(atD k.tree op.path).getD default=pd:=⟨_,rfl⟩
  rw [hpd] at hat hadd;repeat' ((first|(refine plE [] hat ?_ ?_;focus (push_cast [O,U,k1];done))|(refine plE [] hadd ?_ ?_;focus (push_cast [O,U,k1];done))|refine ae ?_|refine pif ?_ ?_<;>intro h<;>try exact pN h)<;>push_cast [O,U,k1])
  exact am []
 rw [if_neg k1] at hX;by_cases k8:op.kind=8
 ·rw [if_pos k8] at hX;have hlod:=zE k op hB ho hn k8;obtain ⟨Y,hY⟩:∃ Y,k.load op.value=Y:=⟨_,rfl⟩
  rw [hY] at hlod hX;subst hX;obtain ⟨pd,hpd⟩:∃ pd:Dev,(atD k.tree op.path).getD default=pd:=⟨_,rfl⟩
  rw [hpd] at hat;repeat' ((first|(refine plE [] hat ?_ ?_;focus (push_cast [O,U,k8];done))|(refine plE [] hlod ?_ ?_;focus (push_cast [O,U,k8];done))|refine ae ?_|refine pif ?_ ?_<;>intro h<;>try exact pN h)<;>push_cast [O,U,k8])
  exact am []
 rw [if_neg k8] at hX;by_cases k9:op.kind=9
 ·rw [if_pos k9] at hX;have hunl:=vx k op hB hn k8;obtain ⟨Y,hY⟩:∃ Y,k.unload op.value=Y:=⟨_,rfl⟩
  rw [hY] at hunl hX;subst hX;obtain ⟨pd,hpd⟩:∃ pd:Dev,(atD k.tree op.path).getD default=pd:=⟨_,rfl⟩
  rw [hpd] at hat;repeat' ((first|(refine plE [] hat ?_ ?_;focus (push_cast [O,U,k9];done))|(refine plE [] hunl ?_ ?_;focus (push_cast [O,U,k9];done))|refine ae ?_|refine pif ?_ ?_<;>intro h<;>try exact pN h)<;>push_cast [O,U,k9])
  exact am []
 rw [if_neg k9] at hX;by_cases kr:op.kind < 2∨7 < op.kind
 ·rw [if_pos kr] at hX;subst hX;have n2:¬ op.kind=2:=ac;have n3:¬ op.kind=3:=ac;have n4:¬ op.kind=4:=ac;have n5:¬ op.kind=5:=ac;have n6:¬ op.kind=6:=ac;have n7:¬ op.kind=7:=ac;obtain ⟨pd,hpd⟩:∃ pd:Dev,(atD k.tree op.path).getD default=pd:=⟨_,rfl⟩
  rw [hpd] at hat;repeat' ((first|(refine plE [] hat ?_ ?_;focus (push_cast [O,U,k1,k8,k9,n2,n3,n4,n5,n6,n7];done))|refine ae ?_|refine pif ?_ ?_<;>intro h<;>try exact pN h)<;>push_cast [O,U,k1,k8,k9,n2,n3,n4,n5,n6,n7])
  exact am []
 rw [if_neg kr] at hX;cases hpd:atD k.tree op.path with
 | none =>
  rw [hpd] at hat hX;simp only [Option.getD_none,Option.isSome_none] at hat;simp only at hX;subst hX;have hkk:op.kind=2∨op.kind=3∨op.kind=4∨op.kind=5∨op.kind=6∨op.kind=7:=ac;rcases hkk with n|n|n|n|n|n
  all_goals repeat' ((first|(refine plE [] hat ?_ ?_;focus (push_cast [O,U,n];done))|refine ae ?_|refine pif ?_ ?_<;>intro h<;>try exact pN h)<;>push_cast [O,U,n])
  all_goals (refine K9 [] ?_;push_cast [O,U])
 | some d =>
  have hone:=Da k op d hB ho (EZ hpd) hn ac;rw [hpd] at hat hX;simp only [Option.getD_some,Option.isSome_some] at hat;simp only at hX;obtain ⟨Y,hY⟩:∃ Y,k.one db op d=Y:=⟨_,rfl⟩
  rw [hY] at hone hX;subst hX;have hkk:op.kind=2∨op.kind=3∨op.kind=4∨op.kind=5∨op.kind=6∨op.kind=7:=ac;rcases hkk with n|n|n|n|n|n
  all_goals repeat' ((first|(refine plE [] hat ?_ ?_;focus (push_cast [O,U,n];done))|(refine plE [] hone ?_ ?_;focus (push_cast [O,U,n];done))|refine ae ?_|refine pif ?_ ?_<;>intro h<;>try exact pN h)<;>push_cast [O,U,n])
  all_goals (refine K9 [] ?_;push_cast [O,U])
theorem F9 (k:Ker) (op:Opr) (hB:bL k) (ho:eA op) (hn:k.evs.length+300≤1000000) (ht:k.top+1≤1000000) :
  ah prog 61 [.agg k.re,.agg op.e] [] fun r os=>r = .three (.agg (bM k op).1.re) (.c (.v (.int .i64 ((bM k op).2.1)))) (.c (.v (.int .i64 ((bM k op).2.2))))∧os=[]:=by
 have hd:=Dc k op hB ho hn ht;have herr:=Jt db hB.inv op;have h0:(bM k op).2.2≠0 → (bM k op).2.1=0:=Ik hB.inv op;have herr:(bM k op).2.2≠0 → (bM k op).1=k:=herr;obtain ⟨X,hX⟩:∃ X,bM k op=X:=⟨_,rfl⟩
 rw [hX] at hd herr h0 ⊢;refine aw func61 ntmps61 results61 ?_;push_cast [O,U];have cB:aH 11 []:=trivial;by_cases he:X.2.2=0
 ·rw [he] at hd;repeat' ((first|(refine plE [] hd ?_ ?_;focus (push_cast [O,U,he];done))|refine ae ?_|refine pif ?_ ?_<;>intro h<;>try exact pN h)<;>push_cast [O,U,he])
  (refine K9 [] ?_;push_cast [O,U,he])
 ·have e1:=herr he;have e2:=h0 he;rw [e1,e2] at hd;repeat' ((first|(refine plE [] hd ?_ ?_;focus (push_cast [O,U,he];done))|refine ae ?_|refine pif ?_ ?_<;>intro h<;>try exact pN h)<;>push_cast [O,U,he])
  (refine K9 [] ?_;push_cast [O,U,e1,e2])
end
section
attribute [local irreducible] PL QL aL ah bg La aV PA bm
def pbO (L:List Int) (q:Nat) (k:Ker):List Ob:=[.box 49 (.ptr 1 0 :: .ptr 2 0 :: k.re),tape L q,jd 3 4 k,jI k,je k]
attribute [push_cast] pbO
set_option maxHeartbeats 8000000 in
theorem jm (L:List Int) (q:Nat) (k:Ker) (op:Opr) (hB:bL k) (ho:eA op) (hn:k.evs.length+300≤1000000) (ht:k.top+1≤1000000) :
  bm 3 prog 28 [.c (.ptr 0 0),.agg op.e] (pbO L q k) fun r os=>r = .c (.v (.bool true))∧os=pbO L q (bM k op).1:=by
 have hdo:=hU k op hB ho hn ht;have hrd:=F9 k op hB ho hn ht;obtain ⟨X,hX⟩:∃ X,bM k op=X:=⟨_,rfl⟩
 rw [hX] at hdo hrd ⊢;obtain ⟨k2,n2,e2⟩:=X;simp only at hdo hrd;refine cG 3 (by simp [pbO]) func28 rfl (by simp [ntmps28]) (by rintro r os ⟨rfl,rfl⟩;simp [pbO]) ?_;rw [ntmps28,results28];push_cast [O,U];have cB:aH 10 []:=trivial;repeat' ((first|(refine av 10 [] ?_;apply ak;(focus kernel_rfl);(focus (simp only [aP,rA];(repeat' first|((refine eZ 1 [2,3,4] (hdo) ?_ ?_;push_cast [O,U];rintro r os ⟨rfl,rfl⟩;push_cast [O,U]))|((first|refine pah 0 ?_|refine pah 1 ?_|refine pah 2 ?_|refine pah 6 ?_|refine pah 7 ?_|refine pah 8 ?_|refine pah 9 ?_|refine pah 10 ?_);push_cast [O,U])|(refine pad ?_;first|with_reducible exact ao 10 [] _|(refine weak_fg ?_;push_cast [O,U]))|((first|refine pas [3] ?_|refine pas [4] ?_|refine pas [5] ?_);push_cast [O,U])|((first|refine pas [3,4] ?_);push_cast [O,U];refine ⟨?_,?_⟩));done));push_cast [O,U])|(refine av 10 [] ?_;apply ak;(focus kernel_rfl);(focus (simp only [aP,rA];(repeat' first|((refine plE [] hrd ?_ ?_<;>push_cast [O,U]))|((first|refine pah 0 ?_|refine pah 1 ?_|refine pah 2 ?_|refine pah 6 ?_|refine pah 7 ?_|refine pah 8 ?_|refine pah 9 ?_|refine pah 12 ?_|refine pah 13 ?_);push_cast [O,U])|(refine pad ?_;first|with_reducible exact ao 10 [] _|(refine weak_fg ?_;push_cast [O,U]))|((first|refine pas [3] ?_|refine pas [4] ?_|refine pas [5] ?_|refine pas [10] ?_|refine pas [11] ?_);push_cast [O,U])|((first|refine pas [3,4] ?_|refine pas [3,10] ?_|refine pas [4,10] ?_|refine pas [5,10] ?_);push_cast [O,U];refine ⟨?_,?_⟩)|((first|refine pas [3,4,10] ?_);push_cast [O,U];refine ⟨?_,?_,?_⟩));done));push_cast [O,U])|refine ae ?_|refine pif ?_ ?_<;>intro h<;>try exact pN h)<;>push_cast [O,U])
 exact am [0,1,2,3,4]
set_option maxRecDepth 20000
set_option maxRecDepth 20000
set_option maxRecDepth 20000
end
end Go.Proofs.YtmbbkfffcflfcaaGreatDoor
