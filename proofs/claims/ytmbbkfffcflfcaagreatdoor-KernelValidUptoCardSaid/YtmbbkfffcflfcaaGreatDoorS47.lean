/- What the program computes, and the plain laws of it, part 47. -/
import Derived.WideKeyEntry
import Derived.Lib.ItoaNum
import Derived.Test.YtmbbkfffcflfcaaGreatDoorS45
import Derived.Test.YtmbbkfffcflfcaaGreatDoorS46
namespace Go.Proofs.YtmbbkfffcflfcaaGreatDoor
attribute [local irreducible] PL QL PWPr PCalls Weak RetK Kontr PA PCallsG
open Go.RowKit
open IntWalk renaming iteOmega → O, toNatUp → U
set_option linter.unusedVariables false
set_option linter.unusedSimpArgs false
set_option maxRecDepth 20000
theorem KerB.put {k:Ker} (h:KerB k) {d:Dev} (he:insErr k.tree d=0) (hi:d.index=k.top+1) (hn:k.evs.length+1≤1000000) (ht:k.top+1≤1000000):KerB (k.put d) :=
 ⟨h.inv.put he hi,by rw [put_len];exact hn,h.modl,h.als,h.alz,by show d.index≤_;omega⟩
theorem find_add {l:List ByteArray} {q:ByteArray → Bool} {i:Nat} (hi:i < l.length) (hp:∀ x ∈ l.take i,q x=false) (h:q (l.getD i default)=true):l.find? q=some (l.getD i default):=by
 rw [List.find?_eq_some_iff_append]
 refine ⟨h,l.take i,l.drop (i+1),?_,fun a ha=>by simpa using hp a ha⟩
 rw [getD_lt l hi]
 conv=>lhs;rw [← List.take_append_drop i l,List.drop_eq_getElem_cons hi]
set_option maxHeartbeats 16000000 in
theorem kadd_pure (k:Ker) (op:Opr) (hB:KerB k) (ho:OprOk op) (hn:k.evs.length+2≤1000000) (ht:k.top+1≤1000000) :
  PCallsG 1 Tryz.prog 53 [.c (.ptr 0 0),.agg op.e] (kerO k) fun r os=>r = .two (.c (.v (.int .i64 ((k.add op.path op.dev).2.1)))) (.c (.v (.int .i64 ((k.add op.path op.dev).2.2))))∧os=kerO (k.add op.path op.dev).1:=by
 have hkt:=hB.len
 have ht0:=hB.inv.top0
 have hat:=at_pure k.tree op.path hB.okp (by omega) hB.orig hB.att
 obtain ⟨X,hX⟩:∃ X,k.add op.path op.dev=X:=⟨_,rfl⟩
 rw [hX]
 unfold Ker.add at hX
 refine pcalls_ofG 1 (by simp [kerO]) Tryz.func53 rfl (by simp [Tryz.ntmps53]) (by rintro r os ⟨rfl,rfl⟩;simp [kerO]) ?_
 rw [Tryz.ntmps53,Tryz.results53]
 push_cast [O,U]
 have cB:CutB 16 [88,89,90]:=trivial
 by_cases hp:op.path≠⟨#[]⟩∧(atD k.tree op.path).isNone=true
 ·obtain ⟨hp1,hp2⟩:=hp
  rw [if_pos ⟨hp1,hp2⟩] at hX
  have hp3:(atD k.tree op.path).isSome=false:=by rw [Option.isNone_iff_eq_none] at hp2;rw [hp2];rfl
  rw [hp3] at hat
  subst hX
  repeat' ((first|(refine pwp_cut 16 [88,89,90] ?_;apply pwp_drawn_to;(focus kernel_rfl);(focus (simp only [List.length_cons,List.length_nil,Nat.reduceAdd];(repeat' first|(refine plE [] hat ?_ ?_<;>push_cast [O,U,hp1,ne_eq,not_false_eq_true])|((first|refine pah 0 ?_|refine pah 1 ?_|refine pah 2 ?_|refine pah 4 ?_|refine pah 7 ?_|refine pah 8 ?_|refine pah 9 ?_|refine pah 12 ?_);push_cast [O,U,hp1,ne_eq,not_false_eq_true])|(refine pad ?_;first|with_reducible exact weak_cutS 16 [88,89,90] _|(refine weak_fg ?_;push_cast [O,U,hp1,ne_eq,not_false_eq_true]))|((first|refine pas [3] ?_|refine pas [5] ?_|refine pas [6] ?_|refine pas [10] ?_|refine pas [11] ?_);push_cast [O,U,hp1,ne_eq,not_false_eq_true])|((first|refine pas [3,5] ?_|refine pas [3,10] ?_|refine pas [5,10] ?_|refine pas [6,10] ?_);push_cast [O,U,hp1,ne_eq,not_false_eq_true];refine ⟨?_,?_⟩)|((first|refine pas [3,5,10] ?_);push_cast [O,U,hp1,ne_eq,not_false_eq_true];refine ⟨?_,?_,?_⟩));done));push_cast [O,U,hp1,ne_eq,not_false_eq_true])|refine pC ?_|refine pQC ?_|refine pU ?_|refine pif ?_ ?_<;>intro h<;>try exact pN h)<;>push_cast [O,U,hp1,ne_eq,not_false_eq_true])
  (refine retK_of [0,1,2] ?_;push_cast [O,U])
 rw [if_neg hp] at hX
 obtain ⟨pd,hpd⟩:∃ pd:Dev,(atD k.tree op.path).getD default=pd:=⟨_,rfl⟩
 have hpi:parI k.tree op.path=pd.index:=by
  unfold parI
  rw [← hpd]
  cases atD k.tree op.path<;>rfl
 rw [hpd] at hat
 rw [hpi] at hX
 obtain ⟨sm,hsm⟩:∃ sm,(atD k.tree op.path).isSome=sm:=⟨_,rfl⟩
 rw [hsm] at hat
 have hcond:op.path=⟨#[]⟩∨sm=true:=by
  by_cases h1:op.path=⟨#[]⟩
  ·exact .inl h1
  ·right
   rw [← hsm]
   cases h2:atD k.tree op.path with
   | none=>exact absurd ⟨h1,by rw [h2];rfl⟩ hp
   | some x=>rfl
 obtain ⟨D,hD⟩:∃ D,newD k pd.index op.dev=D:=⟨_,rfl⟩
 rw [hD] at hX
 apply meet
 ·intro H
  by_cases h0:op.path=⟨#[]⟩
  ·have h1:(op.path≠⟨#[]⟩)=False:=eq_false (fun h=>h h0)
   repeat' ((first|(refine pwp_cut 16 [88,89,90] ?_;apply pwp_drawn_to;(focus kernel_rfl);(focus (simp only [List.length_cons,List.length_nil,Nat.reduceAdd];(repeat' first|(refine plE [] hat ?_ ?_<;>push_cast [O,U,h1])|((first|refine pah 0 ?_|refine pah 1 ?_|refine pah 2 ?_|refine pah 4 ?_|refine pah 7 ?_|refine pah 8 ?_|refine pah 9 ?_|refine pah 12 ?_);push_cast [O,U,h1])|(refine pad ?_;first|with_reducible exact weak_cutS 16 [88,89,90] _|(refine weak_fg ?_;push_cast [O,U,h1]))|((first|refine pas [3] ?_|refine pas [5] ?_|refine pas [6] ?_|refine pas [10] ?_|refine pas [11] ?_);push_cast [O,U,h1])|((first|refine pas [3,5] ?_|refine pas [3,10] ?_|refine pas [5,10] ?_|refine pas [6,10] ?_);push_cast [O,U,h1];refine ⟨?_,?_⟩)|((first|refine pas [3,5,10] ?_);push_cast [O,U,h1];refine ⟨?_,?_,?_⟩));done));push_cast [O,U,h1])|(refine hidR 5 ?_)|refine pC ?_|refine pQC ?_|refine pU ?_|refine pif ?_ ?_<;>intro h<;>try exact pN h)<;>push_cast [O,U,h1])
   refine unhid ?_
   refine pwp_weak (weak_cutT 16 [88,89,90] [7] _) ?_
   push_cast [O,U]
   exact H.out
  ·have h2:sm=true:=hcond.resolve_left h0
   rw [h2] at hat
   repeat' ((first|(refine pwp_cut 16 [88,89,90] ?_;apply pwp_drawn_to;(focus kernel_rfl);(focus (simp only [List.length_cons,List.length_nil,Nat.reduceAdd];(repeat' first|(refine plE [] hat ?_ ?_<;>push_cast [O,U,h0,ne_eq,not_false_eq_true])|((first|refine pah 0 ?_|refine pah 1 ?_|refine pah 2 ?_|refine pah 4 ?_|refine pah 7 ?_|refine pah 8 ?_|refine pah 9 ?_|refine pah 12 ?_);push_cast [O,U,h0,ne_eq,not_false_eq_true])|(refine pad ?_;first|with_reducible exact weak_cutS 16 [88,89,90] _|(refine weak_fg ?_;push_cast [O,U,h0,ne_eq,not_false_eq_true]))|((first|refine pas [3] ?_|refine pas [5] ?_|refine pas [6] ?_|refine pas [10] ?_|refine pas [11] ?_);push_cast [O,U,h0,ne_eq,not_false_eq_true])|((first|refine pas [3,5] ?_|refine pas [3,10] ?_|refine pas [5,10] ?_|refine pas [6,10] ?_);push_cast [O,U,h0,ne_eq,not_false_eq_true];refine ⟨?_,?_⟩)|((first|refine pas [3,5,10] ?_);push_cast [O,U,h0,ne_eq,not_false_eq_true];refine ⟨?_,?_,?_⟩));done));push_cast [O,U,h0,ne_eq,not_false_eq_true])|(refine hidR 5 ?_)|refine pC ?_|refine pQC ?_|refine pU ?_|refine pif ?_ ?_<;>intro h<;>try exact pN h)<;>push_cast [O,U,h0,ne_eq,not_false_eq_true])
   refine unhid ?_
   refine pwp_weak (weak_cutT 16 [88,89,90] [7] _) ?_
   push_cast [O,U]
   exact H.out
 have hin:=tins_pure k.tree D hB.inv.tree.okt hB.inv.tree.ord (by omega) hB.orig hB.att (by rw [← hD];exact ⟨ho.dev.original,ho.dev.original,ho.dev.subsystem,Nat.zero_le _,ho.dev.alias_,ho.dev.attrs,ho.dev.len,ho.dev.orig⟩) (by rw [← hD];exact ho.dev.orig) (by rw [← hD];exact ho.att)
 have hDi:D.index=k.top+1:=by rw [← hD];rfl
 have hDe:D.e=Dev.e ⟨k.top+1,pd.index,op.dev.original,op.dev.original,op.dev.subsystem,⟨#[]⟩,op.dev.alias_,op.dev.kind,op.dev.number,op.dev.attrs⟩:=by rw [← hD];rfl
 (refine pwp_cut 16 [88,89,90] ?_;apply pwp_drawn_to;(focus kernel_rfl);(focus (simp only [List.length_cons,List.length_nil,Nat.reduceAdd];(repeat' first|((first|refine pah 0 ?_|refine pah 1 ?_|refine pah 2 ?_|refine pah 4 ?_|refine pah 5 ?_|refine pah 7 ?_|refine pah 9 ?_|refine pah 11 ?_|refine pah 13 ?_|refine pah 15 ?_|refine pah 17 ?_|refine pah 19 ?_|refine pah 21 ?_);push_cast [O,U])|((first|refine pal 3 ?_|refine pal 6 ?_|refine pal 8 ?_|refine pal 10 ?_|refine pal 12 ?_|refine pal 14 ?_|refine pal 16 ?_|refine pal 18 ?_|refine pal 20 ?_);push_cast [O,U])|(refine pad ?_;first|with_reducible exact weak_cutS 16 [88,89,90] _|(refine weak_fg ?_;push_cast [O,U]))|((first|refine pas [22] ?_|refine pas [23] ?_);push_cast [O,U]));done));push_cast [O,U])
 by_cases he:insErr k.tree D=0
 case neg =>
  rw [if_pos he] at hX
  rw [if_neg he] at hin
  obtain ⟨ce,hce⟩:∃ ce,insErr k.tree D=ce:=⟨_,rfl⟩
  rw [hce] at he hin hX
  subst hX
  rw [hDe] at hin
  repeat' ((first|(refine pwp_cut 16 [88,89,90] ?_;apply pwp_drawn_to;(focus kernel_rfl);(focus (simp only [List.length_cons,List.length_nil,Nat.reduceAdd];(repeat' first|(refine plE [] hin ?_ ?_<;>push_cast [O,U,he])|((first|refine pah 0 ?_|refine pah 1 ?_|refine pah 2 ?_|refine pah 6 ?_|refine pah 7 ?_|refine pah 8 ?_|refine pah 11 ?_);push_cast [O,U,he])|(refine pad ?_;first|with_reducible exact weak_cutS 16 [88,89,90] _|(refine weak_fg ?_;push_cast [O,U,he]))|((first|refine pas [3] ?_|refine pas [4] ?_|refine pas [5] ?_|refine pas [9] ?_|refine pas [10] ?_);push_cast [O,U,he])|((first|refine pas [3,4] ?_|refine pas [3,9] ?_|refine pas [4,9] ?_|refine pas [5,9] ?_);push_cast [O,U,he];refine ⟨?_,?_⟩)|((first|refine pas [3,4,9] ?_);push_cast [O,U,he];refine ⟨?_,?_,?_⟩));done));push_cast [O,U,he])|refine pC ?_|refine pQC ?_|refine pU ?_|refine pif ?_ ?_<;>intro h<;>try exact pN h)<;>push_cast [O,U,he])
  (refine retK_of [0,1,2] ?_;push_cast [O,U])
 rw [if_neg (fun h=>h he)] at hX
 rw [if_pos he,he] at hin
 have hT2:=hB.inv.tree.ins he
 have hB2:=hB.put he hDi (by omega) ht
 obtain ⟨K1,hK1⟩:∃ K1:Ker,(⟨insT k.tree D,k.mods,k.loaded,k.evs,D.index⟩:Ker)=K1:=⟨_,rfl⟩
 have e1:insT k.tree D=K1.tree:=by rw [← hK1]
 have e2:k.mods=K1.mods:=by rw [← hK1]
 have e3:k.loaded=K1.loaded:=by rw [← hK1]
 have e4:k.evs=K1.evs:=by rw [← hK1]
 have e5:k.top+1=K1.top:=by rw [← hK1,← hDi]
 have h1:=kev_pure K1 1 D.index (by rw [← e1];exact hT2)
 have h2:=kemit_pure K1 [⟨0,1,D.index,pathM K1.tree D.index,⟨#[]⟩⟩] (by rw [← e4];simp;omega)
 have hput:K1.tells [⟨0,1,D.index,pathM K1.tree D.index,⟨#[]⟩⟩]=k.put D:=by rw [← hK1];rfl
 rw [hput] at h2
 have f2:(k.put D).mods=k.mods:=rfl
 have f3:(k.put D).loaded=k.loaded:=rfl
 have f4:(k.put D).evs.length=k.evs.length+1:=put_len k D
 have f1:(k.put D).tree=insT k.tree D:=rfl
 obtain ⟨K2,hK2⟩:∃ K2,k.put D=K2:=⟨_,rfl⟩
 rw [hK2] at h2 hX hB2 f1 f2 f3 f4
 have hfm:firstM k D=K2.loaded.find? fun s=>matB ((modOf K2.mods s).getD noMod) D:=by unfold firstM;rw [f2,f3]
 rw [hfm] at hX
 have hDs:Small D:=check_small (ins_split he).1
 have hDi2:D.index=K1.top:=by rw [hDi,e5]
 have hfd:findD K2.tree D.index=some D:=by rw [f1];exact findD_mem hT2.okt.nodup (insT_in.2 (.inl rfl))
 have hft:=tfind_pure K2.tree D.index (by have:=hB2.len;omega) hB2.att
 rw [hfd] at hft
 simp only [Option.getD_some,Option.isSome_some] at hft
 have hmt:=fun s=>kmat_pure ((modOf K2.mods s).getD noMod) D (modOf_small hB2 s).1 (modOf_small hB2 s).2.2 (by have:=hDs.als;omega)
 have hmd:=fun s=>kmod_pure K2 s (by have:=hB2.modl;omega)
 have hdr:=fun s (hs:Fit s)=>kdrv_pure K2 D s hB2 hDs.ok (by have:=hDs.orig;omega) (by have:=hDs.att;omega) hs (by omega)
 rw [hDe] at hin hft
 simp only [hDe] at hmt hdr
 rw [e1] at hin
 have hX1:∀ s,K2.loaded.find? (fun s=>matB ((modOf K2.mods s).getD noMod) D)=some s → X=((K2.drive D s).1,k.top+1,(K2.drive D s).2):=fun s h=>by rw [← hX,h]
 have hX0:K2.loaded.find? (fun s=>matB ((modOf K2.mods s).getD noMod) D)=none → X=(K2,k.top+1,0):=fun h=>by rw [← hX,h]
 clear hX
 repeat' ((first|(refine pwp_cut 16 [88,89,90] ?_;apply pwp_drawn_to;(focus kernel_rfl);(focus (simp only [List.length_cons,List.length_nil,Nat.reduceAdd];(repeat' first|(refine plE [] hin ?_ ?_<;>push_cast [O,U,  hDi2,e2,e3,e4,e5])|((first|refine pah 0 ?_|refine pah 1 ?_|refine pah 2 ?_|refine pah 6 ?_|refine pah 7 ?_|refine pah 8 ?_|refine pah 11 ?_);push_cast [O,U,  hDi2,e2,e3,e4,e5])|(refine pad ?_;first|with_reducible exact weak_cutS 16 [88,89,90] _|(refine weak_fg ?_;push_cast [O,U,  hDi2,e2,e3,e4,e5]))|((first|refine pas [3] ?_|refine pas [4] ?_|refine pas [5] ?_|refine pas [9] ?_|refine pas [10] ?_);push_cast [O,U,  hDi2,e2,e3,e4,e5])|((first|refine pas [3,4] ?_|refine pas [3,9] ?_|refine pas [4,9] ?_|refine pas [5,9] ?_);push_cast [O,U,  hDi2,e2,e3,e4,e5];refine ⟨?_,?_⟩)|((first|refine pas [3,4,9] ?_);push_cast [O,U,  hDi2,e2,e3,e4,e5];refine ⟨?_,?_,?_⟩));done));push_cast [O,U,  hDi2,e2,e3,e4,e5])|(refine pwp_cut 16 [88,89,90] ?_;apply pwp_drawn_to;(focus kernel_rfl);(focus (simp only [List.length_cons,List.length_nil,Nat.reduceAdd];(repeat' first|((first|refine pah 0 ?_|refine pah 1 ?_|refine pah 3 ?_|refine pah 5 ?_|refine pah 6 ?_|refine pah 8 ?_|refine pah 9 ?_);push_cast [O,U,  hDi2,e2,e3,e4,e5])|(refine pad ?_;first|with_reducible exact weak_cutS 16 [88,89,90] _|(refine weak_fg ?_;push_cast [O,U,  hDi2,e2,e3,e4,e5]))|((first|refine pas [2] ?_|refine pas [4] ?_|refine pas [7] ?_|refine pas [10] ?_);push_cast [O,U,  hDi2,e2,e3,e4,e5])|((first|refine pas [2,4] ?_|refine pas [4,7] ?_);push_cast [O,U,  hDi2,e2,e3,e4,e5];refine ⟨?_,?_⟩));done));push_cast [O,U,  hDi2,e2,e3,e4,e5])|refine plE [0,1,2] h1 ?_ ?_|(refine plcG 1 [0,1,2] (h2) ?_ ?_;push_cast [O,U,hDi2,e2,e3,e4,e5];rintro r os ⟨rfl,rfl⟩)|refine pC ?_|refine pQC ?_|refine pU ?_|refine pif ?_ ?_<;>intro h<;>try exact pN h)<;>push_cast [O,U,hDi2,e2,e3,e4,e5])
 (apply pwp_loop3 (α:=Nat) 16 [88,89,90] (fun i=>[(90,.c (.v (.int .i64 i)))]) (fun i=>[]) (fun i=>i≤K2.loaded.length∧∀ x ∈ K2.loaded.take i,matB ((modOf K2.mods x).getD noMod) D=false) (fun i=>K2.loaded.length - i) (0);(focus ((try push_cast [O,U]);rfl));(focus exact ⟨Nat.zero_le _,by simp⟩);(focus ((refine weak_fg ?_;try push_cast [O,U]))))
 rintro i ⟨hi,hpre⟩
 push_cast [O,U]
 have hll:=hB2.lod
 by_cases hlt:i < K2.loaded.length
 ·have hmem:K2.loaded.getD i default ∈ K2.loaded:=by rw [getD_lt _ hlt];exact List.getElem_mem _
  have hsf:Fit (K2.loaded.getD i default):=fit_of (n:=32) (valid_size (hB2.inv.name hmem)) (by decide)
  have hstep:=fun h=>find_add (q:=fun s=>matB ((modOf K2.mods s).getD noMod) D) hlt hpre h
  have hpre2:matB ((modOf K2.mods (K2.loaded.getD i default)).getD noMod) D=false → ∀ x ∈ K2.loaded.take (i+1),matB ((modOf K2.mods x).getD noMod) D=false:=fun h x hx=>by
   rw [List.take_succ_eq_append_getElem hlt] at hx
   rcases List.mem_append.1 hx with hx|hx
   ·exact hpre x hx
   ·rw [List.mem_singleton] at hx;rw [hx,← getD_lt _ hlt];exact h
  have hmt:=hmt (K2.loaded.getD i default)
  have hmd:=hmd (K2.loaded.getD i default)
  have hdr:=hdr _ hsf
  obtain ⟨s,hs⟩:∃ s,K2.loaded.getD i default=s:=⟨_,rfl⟩
  rw [hs] at hmt hmd hdr hstep hpre2
  obtain ⟨m,hm⟩:∃ m,(modOf K2.mods s).getD noMod=m:=⟨_,rfl⟩
  rw [hm] at hmt hmd hpre2
  cases hb:matB m D with
  | true =>
   have hXs:=hX1 s (hstep (by simp only [hm];exact hb))
   rw [hb] at hmt
   obtain ⟨Y,hY⟩:∃ Y,K2.drive D s=Y:=⟨_,rfl⟩
   rw [hY] at hdr hXs
   subst hXs
   repeat' ((first|refine plE [0,1,2] hmd ?_ ?_;focus (push_cast [O,U,hs,hDi2,e5];done)|refine plE [] hmt ?_ ?_;focus (push_cast [O,U,hs,hDi2,e5];done)|(refine pwp_cut 16 [88,89,90] ?_;apply pwp_drawn_to;(focus kernel_rfl);(focus (simp only [List.length_cons,List.length_nil,Nat.reduceAdd];(repeat' first|(refine plE [] hft ?_ ?_;(focus (push_cast [O,U,  hs,hDi2,e5];done));push_cast [O,U,  hs,hDi2,e5])|((first|refine pah 0 ?_|refine pah 1 ?_|refine pah 2 ?_|refine pah 4 ?_|refine pah 7 ?_|refine pah 8 ?_|refine pah 9 ?_);push_cast [O,U,  hs,hDi2,e5])|(refine pad ?_;first|with_reducible exact weak_cutS 16 [88,89,90] _|(refine weak_fg ?_;push_cast [O,U,  hs,hDi2,e5]))|((first|refine pas [3] ?_|refine pas [5] ?_|refine pas [6] ?_|refine pas [10] ?_);push_cast [O,U,  hs,hDi2,e5])|((first|refine pas [3,5] ?_|refine pas [3,6] ?_);push_cast [O,U,  hs,hDi2,e5];refine ⟨?_,?_⟩));done));push_cast [O,U,  hs,hDi2,e5])|(refine pwp_cut 16 [88,89,90] ?_;apply pwp_drawn_to;(focus kernel_rfl);(focus (simp only [List.length_cons,List.length_nil,Nat.reduceAdd];(repeat' first|(refine plcG 1 [0,1,2] (hdr) ?_ ?_;push_cast [O,U,  hs,hDi2,e5];rintro r os ⟨rfl,rfl⟩;push_cast [O,U,  hs,hDi2,e5])|((first|refine pah 0 ?_|refine pah 2 ?_|refine pah 4 ?_|refine pah 6 ?_|refine pah 7 ?_);push_cast [O,U,  hs,hDi2,e5])|(refine pad ?_;first|with_reducible exact weak_cutS 16 [88,89,90] _|(refine weak_fg ?_;push_cast [O,U,  hs,hDi2,e5]))|((first|refine pas [1] ?_|refine pas [3] ?_|refine pas [5] ?_);push_cast [O,U,  hs,hDi2,e5])|((first|refine pas [1,3] ?_|refine pas [1,5] ?_);push_cast [O,U,  hs,hDi2,e5];refine ⟨?_,?_⟩));done));push_cast [O,U,  hs,hDi2,e5])|refine pC ?_|refine pQC ?_|refine pU ?_|refine pif ?_ ?_<;>intro h<;>try exact pN h)<;>push_cast [O,U,hs,hDi2,e5])
   (refine retK_of [0,1,2] ?_;push_cast [O,U,e5])
  | false =>
   rw [hb] at hmt
   have hp:=hpre2 hb
   repeat' ((first|refine plE [0,1,2] hmd ?_ ?_;focus (push_cast [O,U,hs,hDi2,e5];done)|refine plE [] hmt ?_ ?_;focus (push_cast [O,U,hs,hDi2,e5];done)|refine pC ?_|refine pQC ?_|refine pU ?_|refine pif ?_ ?_<;>intro h<;>try exact pN h)<;>push_cast [O,U,hs,hDi2,e5])
   exact ⟨i+1,⟨by omega,hp⟩,by (refine weak_fg ?_;push_cast [O,U]),by omega⟩
 ·have hXs:=hX0 (by
   rw [List.take_of_length_le (by omega)] at hpre
   rw [List.find?_eq_none]
   intro x hx
   rw [hpre x hx];simp)
  subst hXs
  repeat' ((first|refine pC ?_|refine pQC ?_|refine pU ?_|refine pif ?_ ?_<;>intro h<;>try exact pN h)<;>push_cast [O,U,e5])
  (refine retK_of [0,1,2] ?_;push_cast [O,U,e5])
end Go.Proofs.YtmbbkfffcflfcaaGreatDoor
namespace Go.Proofs.YtmbbkfffcflfcaaGreatDoor
attribute [local irreducible] PL QL PWPr PCalls Weak RetK Kontr PA
open Go.RowKit
open IntWalk renaming iteOmega → O, toNatUp → U
set_option linter.unusedVariables false
set_option linter.unusedSimpArgs false
set_option maxRecDepth 20000
theorem subt_len (l:List Dev) (n:Int):(subtM l n).length≤l.length:=List.length_filter_le _ _
def subJ (l:List Dev) (n:Int) (i:Nat):List Dev:=(l.take i).filter fun d=>belowM l d.index n
theorem subJ_yes {l:List Dev} {n:Int} {i:Nat} (hi:i < l.length) (h:belowM l (l.getD i default).index n=true):subJ l n (i+1)=subJ l n i++[l.getD i default]:=by
 unfold subJ
 rw [List.take_succ_eq_append_getElem hi,List.filter_append]
 rw [getD_lt l hi] at h ⊢
 simp [h]
theorem subJ_no {l:List Dev} {n:Int} {i:Nat} (hi:i < l.length) (h:belowM l (l.getD i default).index n=false):subJ l n (i+1)=subJ l n i:=by
 unfold subJ
 rw [List.take_succ_eq_append_getElem hi,List.filter_append]
 rw [getD_lt l hi] at h
 simp [h]
theorem subJ_len {l:List Dev} {n:Int} {i:Nat} (hi:i≤l.length):(subJ l n i).length≤i:=by
 have h1:((l.take i).filter fun d=>belowM l d.index n).length≤(l.take i).length:=List.length_filter_le _ _
 rw [List.length_take] at h1
 unfold subJ
 omega
set_option maxHeartbeats 8000000 in
theorem tsub_pure (l:List Dev) (n:Int) (h:Okp l) (hl:l.length≤1000) (ha:∀ d ∈ l,d.attrs.length≤1000000000) :
  PCalls Tryz.prog 143 [.agg (trE l),.c (.v (.int .i64 n))] [] fun r os=>r = .c (.sl 10 ((subtM l n).map Dev.d))∧os=[]:=by
 have hs:=subtree_pure l n
 refine pcalls_of Tryz.func143 rfl (by simp [Tryz.ntmps143]) ?_
 rw [Tryz.ntmps143,Tryz.results143]
 push_cast [O,U]
 have cB:CutB 7 [9]:=trivial
 repeat' ((first|refine plE [] hs ?_ ?_|refine pC ?_|refine pQC ?_|refine pU ?_|refine pif ?_ ?_<;>intro h<;>try exact pN h)<;>push_cast [O,U])
 refine pwp_range (R:=fun lo r os'=>∃ L2 t2,os'=[.box 41 (trE l),.box 39 [.own 5 (subtM l n).length],.box 41 (trE l),.box 3 [.v (.int .i64 n)],.loop lo L2 t2,.arr 53 10 ((subtM l n).map Dev.d),.map (some .i64) false (goneE l n l.length)]∧L2.st = .ready∧L2.pd=none) rfl (by kernel_rfl) (fun lo D fn=>?_) (fun lo r os' hR=>?_)
 ·refine pcalls_of_all Tryz.func214 rfl (by simp [Tryz.ntmps214]) ?_
  rw [Tryz.ntmps214,Tryz.results214]
  push_cast [O,U]
  refine pwp_weak (weak_adopt_box 1 0 53 10 (by omega) 39 [.v (.slice none 0 0)] rfl rfl) ?_
  push_cast [O,U]
  have cB:CutB 7 [9,10,11]:=trivial
  repeat' ((first|refine pC ?_|refine pQC ?_|refine pU ?_|refine pif ?_ ?_<;>intro h<;>try exact pN h)<;>push_cast [O,U])
  (apply pwp_loop3 (α:=Nat) 7 [9,10,11] (fun i=>[(11,.c (.v (.int .i64 i)))]) (fun i=>[(1,.box 39 [.own 5 (subJ l n i).length]),(5,.arr 53 10 ((subJ l n i).map Dev.d)),(6,.map (some .i64) false (goneE l n i))]) (fun i=>i≤l.length) (fun i=>l.length - i) (0);(focus ((try push_cast [O,U]);rfl));(focus exact (Nat.zero_le _));(focus ((refine weak_fg ?_;try push_cast [O,U]);(try (simp [goneE_zero,subJ])))))
  intro i hi
  push_cast [O,U]
  by_cases hlt:i < l.length
  ·have hbs:=below_step h n hlt
   have hlk:=lk_gone l n i (l.getD i default).parent
   have hm:l.getD i default ∈ l:=by rw [getD_lt l hlt];exact List.getElem_mem _
   have hcp:=copied_pure (l.getD i default) (ha _ hm)
   have hsl:=subJ_len (n:=n) hi
   cases hb:belowM l (l.getD i default).index n with
   | false =>
    have hgn:=goneE_no (n:=n) hlt hb
    have hsn:=subJ_no hlt hb
    rw [hb] at hbs
    have hbs:=hbs.symm
    rw [Bool.or_eq_false_iff] at hbs
    obtain ⟨h1,h2⟩:=hbs
    have h1:=of_decide_eq_false h1
    rw [h2] at hlk
    repeat' ((first|refine pC ?_|refine pQC ?_|refine pU ?_|refine pif ?_ ?_<;>intro h<;>try exact pN h)<;>push_cast [O,U,hlk,h1])
    exact ⟨i+1,by omega,by (refine weak_fg ?_;push_cast [O,U,hgn,hsn]),by omega⟩
   | true =>
    have hgy:=goneE_yes h hlt hb
    have hsy:=subJ_yes hlt hb
    rw [hb] at hbs
    obtain ⟨acc,hacc⟩:∃ acc,subJ l n i=acc:=⟨_,rfl⟩
    rw [hacc] at hsl hsy ⊢
    have hq:(decide ((l.getD i default).index=n)=true)∨(decide ((l.getD i default).index=n)=false):=by cases decide ((l.getD i default).index=n)<;>simp
    rcases hq with h1|h1
    ·have h1:=of_decide_eq_true h1
     rw [h1] at hgy
     repeat' ((first|refine pC ?_|refine pQC ?_|refine pU ?_|refine pif ?_ ?_<;>intro h<;>try exact pN h)<;>push_cast [O,U,hlk,h1])
     refine pl_yield 4 (qs:=[.agg (l.getD i default).e]) rfl rfl rfl (by push_cast [O,U]) rfl rfl (by push_cast [O,U,h1]) rfl rfl ?_
     try dsimp only
     push_cast [O,U]
     have cB:CutB 7 [9,10]:=trivial
     repeat' ((first|refine pC ?_|refine pQC ?_|refine pU ?_|refine pif ?_ ?_<;>intro h<;>try exact pN h)<;>push_cast [O,U])
     simp only [asgQ]
     refine ⟨_,_,rfl,rfl,?_⟩
     try dsimp only
     repeat' ((first|(refine pwp_drawn (by kernel_rfl) ?_;try simp only [List.length_cons,List.length_nil,Nat.reduceAdd];repeat' first|((refine plE [] hcp ?_ ?_<;>push_cast [O,U,  h1]))|(refine pl_app2 (e:=53) (sz:=10) (by':=136) (rows:=acc.map Dev.d) (ys:=[(l.getD i default).d]) 5 rfl (by push_cast [O,U,  h1]) (by push_cast [O,U,  h1]) (by push_cast [O,U,  h1]) (by push_cast [O,U,h1]) (by omega) (by push_cast [O,U,  h1]) (by push_cast [O,U,  h1]) (by push_cast [O,U,  h1]) (by push_cast [O,U,  h1]) (by simp) (by push_cast [O,U,  h1];omega) (by push_cast [O,U,  h1];omega) ?_ ?_<;>(refine pl_of_pops ?_;push_cast [O,U,h1]))|(refine pad ?_;try push_cast [O,U,  h1])|((first|refine pas [0] ?_|refine pas [1] ?_|refine pas [2] ?_|refine pas [3] ?_|refine pas [4] ?_|refine pas [5] ?_);push_cast [O,U,  h1])|((first|refine pas [0,1] ?_|refine pas [0,2] ?_|refine pas [0,3] ?_|refine pas [0,4] ?_|refine pas [0,5] ?_|refine pas [1,2] ?_|refine pas [1,3] ?_|refine pas [1,4] ?_|refine pas [1,5] ?_|refine pas [2,3] ?_|refine pas [2,4] ?_|refine pas [2,5] ?_|refine pas [3,4] ?_|refine pas [3,5] ?_|refine pas [4,5] ?_);push_cast [O,U,  h1];refine ⟨?_,?_⟩)|((first|refine pas [0,1,2] ?_|refine pas [0,1,3] ?_|refine pas [0,1,4] ?_|refine pas [0,1,5] ?_|refine pas [0,2,3] ?_|refine pas [0,2,4] ?_|refine pas [0,2,5] ?_|refine pas [0,3,4] ?_|refine pas [0,3,5] ?_|refine pas [0,4,5] ?_|refine pas [1,2,3] ?_|refine pas [1,2,4] ?_|refine pas [1,2,5] ?_|refine pas [1,3,4] ?_|refine pas [1,3,5] ?_|refine pas [1,4,5] ?_|refine pas [2,3,4] ?_|refine pas [2,3,5] ?_|refine pas [2,4,5] ?_|refine pas [3,4,5] ?_);push_cast [O,U,  h1];refine ⟨?_,?_,?_⟩))|refine pC ?_|refine pQC ?_|refine pU ?_|refine pif ?_ ?_<;>intro h<;>try exact pN h)<;>push_cast [O,U,h1])
     all_goals simp only [yldQ]
     all_goals refine ⟨_,_,rfl,?_⟩
     all_goals push_cast [O,U,hgy,h1]
     have cB:CutB 7 [9,10,11]:=trivial
     all_goals have cB6:CutB 7 [9,10,11]:=trivial
     all_goals first
      | (refine pl_of_pops ?_;push_cast [O,U,hgy,h1];(repeat' ((first|refine pC ?_|refine pQC ?_|refine pU ?_|refine pif ?_ ?_<;>intro h<;>try exact pN h)<;>push_cast [O,U,hgy,h1]));refine ⟨i+1,by omega,?_,by omega⟩;(refine weak_fg ?_;push_cast [O,U,hgy,h1,hsy]);done)
      | (refine pl_weak (weak_sw 8 (by omega)) ?_;push_cast [O,U];refine pl_weak (weak_sw 7 (by omega)) ?_;push_cast [O,U];refine pl_weak (weak_sw 6 (by omega)) ?_;push_cast [O,U];refine pl_weak (weak_sw 5 (by omega)) ?_;push_cast [O,U];refine pl_weak (weak_sw 6 (by omega)) ?_;push_cast [O,U];refine pl_of_pops ?_;push_cast [O,U,hgy,h1];(repeat' ((first|refine pC ?_|refine pQC ?_|refine pU ?_|refine pif ?_ ?_<;>intro h<;>try exact pN h)<;>push_cast [O,U,hgy,h1]));refine ⟨i+1,by omega,?_,by omega⟩;(refine weak_fg ?_;push_cast [O,U,hgy,h1,hsy]);done)
    ·rw [h1,Bool.false_or] at hbs
     have h1:=of_decide_eq_false h1
     rw [← hbs] at hlk
     repeat' ((first|refine pC ?_|refine pQC ?_|refine pU ?_|refine pif ?_ ?_<;>intro h<;>try exact pN h)<;>push_cast [O,U,hlk,h1])
     refine pl_yield 4 (qs:=[.agg (l.getD i default).e]) rfl rfl rfl (by push_cast [O,U]) rfl rfl (by push_cast [O,U,h1]) rfl rfl ?_
     try dsimp only
     push_cast [O,U]
     have cB:CutB 7 [9,10]:=trivial
     repeat' ((first|refine pC ?_|refine pQC ?_|refine pU ?_|refine pif ?_ ?_<;>intro h<;>try exact pN h)<;>push_cast [O,U])
     simp only [asgQ]
     refine ⟨_,_,rfl,rfl,?_⟩
     try dsimp only
     repeat' ((first|(refine pwp_drawn (by kernel_rfl) ?_;try simp only [List.length_cons,List.length_nil,Nat.reduceAdd];repeat' first|((refine plE [] hcp ?_ ?_<;>push_cast [O,U]))|(refine pl_app2 (e:=53) (sz:=10) (by':=136) (rows:=acc.map Dev.d) (ys:=[(l.getD i default).d]) 5 rfl (by push_cast [O,U]) (by push_cast [O,U]) (by push_cast [O,U]) (by push_cast [O,U]) (by omega) (by push_cast [O,U]) (by push_cast [O,U]) (by push_cast [O,U]) (by push_cast [O,U]) (by simp) (by push_cast [O,U];omega) (by push_cast [O,U];omega) ?_ ?_<;>(refine pl_of_pops ?_;push_cast [O,U]))|(refine pad ?_;try push_cast [O,U])|((first|refine pas [0] ?_|refine pas [1] ?_|refine pas [2] ?_|refine pas [3] ?_|refine pas [4] ?_|refine pas [5] ?_);push_cast [O,U])|((first|refine pas [0,1] ?_|refine pas [0,2] ?_|refine pas [0,3] ?_|refine pas [0,4] ?_|refine pas [0,5] ?_|refine pas [1,2] ?_|refine pas [1,3] ?_|refine pas [1,4] ?_|refine pas [1,5] ?_|refine pas [2,3] ?_|refine pas [2,4] ?_|refine pas [2,5] ?_|refine pas [3,4] ?_|refine pas [3,5] ?_|refine pas [4,5] ?_);push_cast [O,U];refine ⟨?_,?_⟩)|((first|refine pas [0,1,2] ?_|refine pas [0,1,3] ?_|refine pas [0,1,4] ?_|refine pas [0,1,5] ?_|refine pas [0,2,3] ?_|refine pas [0,2,4] ?_|refine pas [0,2,5] ?_|refine pas [0,3,4] ?_|refine pas [0,3,5] ?_|refine pas [0,4,5] ?_|refine pas [1,2,3] ?_|refine pas [1,2,4] ?_|refine pas [1,2,5] ?_|refine pas [1,3,4] ?_|refine pas [1,3,5] ?_|refine pas [1,4,5] ?_|refine pas [2,3,4] ?_|refine pas [2,3,5] ?_|refine pas [2,4,5] ?_|refine pas [3,4,5] ?_);push_cast [O,U];refine ⟨?_,?_,?_⟩))|refine pC ?_|refine pQC ?_|refine pU ?_|refine pif ?_ ?_<;>intro h<;>try exact pN h)<;>push_cast [O,U])
     all_goals simp only [yldQ]
     all_goals refine ⟨_,_,rfl,?_⟩
     all_goals push_cast [O,U,hgy]
     have cB:CutB 7 [9,10,11]:=trivial
     all_goals have cB6:CutB 7 [9,10,11]:=trivial
     all_goals first
      | (refine pl_of_pops ?_;push_cast [O,U,hgy];(repeat' ((first|refine pC ?_|refine pQC ?_|refine pU ?_|refine pif ?_ ?_<;>intro h<;>try exact pN h)<;>push_cast [O,U,hgy]));refine ⟨i+1,by omega,?_,by omega⟩;(refine weak_fg ?_;push_cast [O,U,hgy,hsy]);done)
      | (refine pl_weak (weak_sw 8 (by omega)) ?_;push_cast [O,U];refine pl_weak (weak_sw 7 (by omega)) ?_;push_cast [O,U];refine pl_weak (weak_sw 6 (by omega)) ?_;push_cast [O,U];refine pl_weak (weak_sw 5 (by omega)) ?_;push_cast [O,U];refine pl_weak (weak_sw 6 (by omega)) ?_;push_cast [O,U];refine pl_of_pops ?_;push_cast [O,U,hgy];(repeat' ((first|refine pC ?_|refine pQC ?_|refine pU ?_|refine pif ?_ ?_<;>intro h<;>try exact pN h)<;>push_cast [O,U,hgy]));refine ⟨i+1,by omega,?_,by omega⟩;(refine weak_fg ?_;push_cast [O,U,hgy,hsy]);done)
  ·have hi2:i=l.length:=by omega
   subst hi2
   have hall:subJ l n l.length=subtM l n:=by unfold subJ subtM;rw [List.take_length]
   rw [hall]
   repeat' ((first|refine pC ?_|refine pQC ?_|refine pU ?_|refine pif ?_ ?_<;>intro h<;>try exact pN h)<;>push_cast [O,U])
   exact ⟨_,rfl,by push_cast [O,U],_,_,rfl,rfl,rfl⟩
 ·obtain ⟨L2,t2,rfl,h1,h2⟩:=hR
  refine ⟨L2,t2,rfl,by rw [h1];simp,?_⟩
  rw [h2]
  simp only [rngfQ]
  have cB:CutB 7 []:=trivial
  push_cast [O,U]
  have htk:=List.take_of_length_le (l:=(subtM l n).map Dev.d) (i:=(subtM l n).length) (by simp)
  (refine retK_of [] ?_;push_cast [O,U,htk])
end Go.Proofs.YtmbbkfffcflfcaaGreatDoor
