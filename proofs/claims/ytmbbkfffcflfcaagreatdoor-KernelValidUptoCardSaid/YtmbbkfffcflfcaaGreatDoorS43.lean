/- What the program computes, and the plain laws of it, part 43. -/
import Derived.WideKeyEntry
import Derived.Lib.ItoaNum
import Derived.Test.YtmbbkfffcflfcaaGreatDoorS41
namespace Go.Proofs.YtmbbkfffcflfcaaGreatDoor
attribute [local irreducible] PL QL PWPr PCalls Weak RetK Kontr PA PCallsG
open Go.RowKit
open IntWalk renaming iteOmega → O, toNatUp → U
set_option linter.unusedVariables false
set_option linter.unusedSimpArgs false
set_option maxRecDepth 20000
theorem load_inv {k:Ker} (h:KerI k) {n:ByteArray} {m:Mod} (hm:modOf k.mods n=some m) (c1:inM n k.loaded=false) (c2:m.fails=false) (c3:(m.needs.any fun s=>!inM s k.loaded)=false):KerI (k.withL (k.loaded++[n])):=by
 refine ⟨h.tree,h.top0,h.top,h.evn,h.tell,h.mods,fun s hs=>?_,?_,fun s hs m2 hm2=>?_⟩
 ·have hs:s ∈ k.loaded++[n]:=hs
  show ∃ m,modOf k.mods s=some m∧m.fails=false∧∀ x ∈ m.needs,x ∈ k.loaded++[n]
  rcases List.mem_append.1 hs with hs|hs
  ·obtain ⟨m2,g1,g2,g3⟩:=h.load s hs
   exact ⟨m2,g1,g2,fun x hx=>List.mem_append_left _ (g3 x hx)⟩
  ·rw [List.mem_singleton] at hs
   subst hs
   refine ⟨m,hm,c2,fun x hx=>List.mem_append_left _ ?_⟩
   rw [← inM_iff]
   have:=List.any_eq_false.1 c3 x hx
   simpa using this
 ·show (k.loaded++[n]).Nodup
  rw [List.nodup_append]
  exact ⟨h.lnd,by simp,fun a ha b hb=>by rw [List.mem_singleton] at hb;rw [hb];exact fun e=>inM_false.1 c1 (e ▸ ha)⟩
 ·have hs:s ∈ k.loaded++[n]:=hs
  have hm3:modOf k.mods s=some m2:=hm2
  rcases List.mem_append.1 hs with hs|hs
  ·exact h.slf s hs m2 hm3
  ·rw [List.mem_singleton] at hs
   subst hs
   rw [hm] at hm3
   injection hm3 with hm3
   subst hm3
   intro hx
   have:=List.any_eq_false.1 c3 s hx
   rw [c1] at this
   simp at this
theorem unload_inv {k:Ker} (h:KerI k) {n:ByteArray} (c2:k.needed n=false):KerI (k.withL (k.loaded.filter fun s=>!decide (s=n))):=by
 refine ⟨h.tree,h.top0,h.top,h.evn,h.tell,h.mods,fun s hs=>?_,?_,fun s hs m2 hm2=>h.slf s (List.mem_filter.1 hs).1 m2 hm2⟩
 ·have hs:s ∈ k.loaded.filter fun s=>!decide (s=n):=hs
  show ∃ m,modOf k.mods s=some m∧m.fails=false∧∀ x ∈ m.needs,x ∈ k.loaded.filter fun s=>!decide (s=n)
  have hs2:=(List.mem_filter.1 hs).1
  obtain ⟨m2,g1,g2,g3⟩:=h.load s hs2
  refine ⟨m2,g1,g2,fun x hx=>?_⟩
  refine List.mem_filter.2 ⟨g3 x hx,?_⟩
  rw [Bool.not_eq_true',decide_eq_false_iff_not]
  intro e
  unfold Ker.needed at c2
  have:=List.any_eq_false.1 c2 s hs2
  rw [g1] at this
  exact this (by rw [inM_iff,← e];exact hx)
 ·exact h.lnd.filter _
theorem KerB.each {k:Ker} (h:KerB k) (q:Dev → Bool) (v:ByteArray) (l:List Dev) (hl:k.evs.length+l.length≤1000000):KerB (k.each q v l):=by
 obtain ⟨h1,h2,h3⟩:=each_load q v l k
 exact ⟨h.inv.each q v l,Nat.le_trans (each_len q v l k) hl,by rw [h2];exact h.modl,by rw [h2];exact h.als,by rw [h2];exact h.alz,by rw [h3];exact h.top⟩
theorem KerB.withL {k:Ker} (h:KerB k) {l:List ByteArray} (hi:KerI (k.withL l)):KerB (k.withL l):=⟨hi,h.evl,h.modl,h.als,h.alz,h.top⟩
theorem filter_del {l:List ByteArray} {n:ByteArray} {i:Nat} (hn:l.Nodup) (hi:i < l.length) (he:l.getD i default=n):l.take i++l.drop (i+1)=l.filter fun s=>!decide (s=n):=by
 have h1:l=l.take i++n :: l.drop (i+1):=by
  rw [← he,getD_lt l hi,← List.drop_eq_getElem_cons hi,List.take_append_drop]
 have h2:=hn
 rw [h1,List.nodup_append] at h2
 obtain ⟨_,h3,h4⟩:=h2
 rw [List.nodup_cons] at h3
 conv=>rhs;rw [h1]
 rw [List.filter_append,List.filter_cons]
 have e1:(l.take i).filter (fun s=>!decide (s=n))=l.take i:=List.filter_eq_self.2 fun a ha=>by
  have:=h4 a ha n (List.mem_cons_self ..)
  simpa using this
 have e2:(l.drop (i+1)).filter (fun s=>!decide (s=n))=l.drop (i+1):=List.filter_eq_self.2 fun a ha=>by
  have:a≠n:=fun e=>h3.1 (e ▸ ha)
  simpa using this
 rw [e1,e2]
 simp
def neO (k:Ker) (n:ByteArray):List Ob:=[kerL k,.box 35 [.ptr 3 0],.box 9 [.v (.string n)],kerB 0 4 k,kerV k]
attribute [push_cast] neO
theorem modOf_small {k:Ker} (hB:KerB k) (s:ByteArray):((modOf k.mods s).getD noMod).aliases.length≤1000000∧((modOf k.mods s).getD noMod).needs.length≤1000000∧∀ p ∈ ((modOf k.mods s).getD noMod).aliases,p.size≤1000000000:=by
 cases h:modOf k.mods s with
 | none=>exact ⟨by simp [noMod],by simp [noMod],fun p hp=>by simp [noMod] at hp⟩
 | some m =>
  obtain ⟨h1,_⟩:=modOf_name h
  exact ⟨(hB.als m h1).1,(hB.als m h1).2,hB.alz m h1⟩
theorem kneed1_pure (k:Ker) (n s:ByteArray) (hB:KerB k) :
  PCalls Tryz.prog 141 [.c (.v (.string s)),.c (.ptr 1 0),.c (.ptr 2 0)] (neO k n) fun r os=>r = .c (.v (.bool (inM n ((modOf k.mods s).getD noMod).needs)))∧os=neO k n:=by
 have hm:=kmod_pure k s (by have:=hB.modl;omega)
 have hc:=containsD_pure ((modOf k.mods s).getD noMod).needs n (by have:=(modOf_small hB s).2.1;omega)
 obtain ⟨m,hmm⟩:∃ m,(modOf k.mods s).getD noMod=m:=⟨_,rfl⟩
 rw [hmm] at hm hc ⊢
 refine pcalls_of Tryz.func141 rfl (by simp [Tryz.ntmps141]) ?_
 rw [Tryz.ntmps141,Tryz.results141]
 push_cast [O,U]
 have cB:CutB 7 []:=trivial
 repeat' ((first|refine plE [3,0,4] hm ?_ ?_|refine plE [] hc ?_ ?_|refine pC ?_|refine pQC ?_|refine pU ?_|refine pif ?_ ?_<;>intro h<;>try exact pN h)<;>push_cast [O,U])
 (refine retK_of [0,1,2,3,4] ?_;push_cast [O,U])
theorem kneed_pure (k:Ker) (n:ByteArray) (hB:KerB k) :
  PCalls Tryz.prog 95 [.c (.ptr 0 0),.c (.v (.string n))] (kerO k) fun r os=>r = .c (.v (.bool (k.needed n)))∧os=kerO k:=by
 have hc:=containsFunc_pure k.loaded (by have:=hB.lod;omega) 141 [1,2] [.box 35 [.ptr 3 0],.box 9 [.v (.string n)],kerB 0 4 k,kerV k] (fun s=>inM n ((modOf k.mods s).getD noMod).needs) ⟨by kernel_rfl,fun x _=>kneed1_pure k n x hB⟩
 refine pcalls_of Tryz.func95 rfl (by simp [Tryz.ntmps95]) ?_
 rw [Tryz.ntmps95,Tryz.results95]
 unfold Ker.needed
 push_cast [O,U]
 repeat' ((first|refine plE [1,3,4,0,2] hc ?_ ?_|refine pG ?_|refine pQ ?_|refine pU ?_|refine pif ?_ ?_<;>intro h<;>try exact pN h)<;>push_cast [O,U])
 (refine retK_of [0,1,2] ?_;push_cast [O,U])
set_option maxRecDepth 20000
def loO (k:Ker):List Ob:=[.box 35 [.ptr 1 0],kerB 2 3 k,kerL k,kerV k]
attribute [push_cast] loO
theorem kload1_pure (k:Ker) (s:ByteArray) (hB:KerB k) :
  PCalls Tryz.prog 93 [.c (.v (.string s)),.c (.ptr 0 0)] (loO k) fun r os=>r = .c (.v (.bool (!inM s k.loaded)))∧os=loO k:=by
 have hc:=containsD_pure k.loaded s (by have:=hB.lod;omega)
 have htk:=List.take_of_length_le (l:=k.loaded.map strD) (i:=k.loaded.length) (by simp)
 refine pcalls_of Tryz.func93 rfl (by simp [Tryz.ntmps93]) ?_
 rw [Tryz.ntmps93,Tryz.results93]
 push_cast [O,U]
 repeat' ((first|(refine pl_call2 true [] rfl rfl (by kernel_rfl) (hc) ?_ ?_ ?_;push_cast [O,U,htk];(intro _ r os;rintro ⟨rfl,rfl⟩;push_cast [O,U,htk]);rintro r os ⟨rfl,rfl⟩;refine pl_of_pops ?_)|refine pG ?_|refine pQ ?_|refine pU ?_|refine pif ?_ ?_<;>intro h<;>try exact pN h)<;>push_cast [O,U,htk])
 (refine retK_of [0,1,2,3] ?_;push_cast [O,U])
def stepK (k:Ker) (q:Dev → Bool) (v:ByteArray) (l:List Dev) (i:Nat):Ker:=k.each q v (l.take i)
theorem stepK_yes {k:Ker} {q:Dev → Bool} {v:ByteArray} {l:List Dev} {i:Nat} (hi:i < l.length) (h:q (l.getD i default)=true):stepK k q v l (i+1)=((stepK k q v l i).drive (l.getD i default) v).1:=by
 unfold stepK
 rw [each_next k q v l hi,if_pos h]
theorem stepK_no {k:Ker} {q:Dev → Bool} {v:ByteArray} {l:List Dev} {i:Nat} (hi:i < l.length) (h:q (l.getD i default)=false):stepK k q v l (i+1)=stepK k q v l i:=by
 unfold stepK
 rw [each_next k q v l hi,if_neg (by rw [h];simp)]
set_option maxHeartbeats 8000000 in
theorem kload_pure (k:Ker) (n:ByteArray) (hB:KerB k) (hf:Fit n) (hn:k.evs.length+300≤1000000) :
  PCallsG 1 Tryz.prog 54 [.c (.ptr 0 0),.c (.v (.string n))] (kerO k) fun r os=>r = .c (.v (.int .i64 ((k.load n).2)))∧os=kerO (k.load n).1:=by
 have hm:=kmod_pure k n (by have:=hB.modl;omega)
 have hlod:=hB.lod
 have htk:=List.take_of_length_le (l:=k.loaded.map strD) (i:=k.loaded.length) (by simp)
 have hms:=modOf_small hB n
 obtain ⟨X,hX⟩:∃ X,k.load n=X:=⟨_,rfl⟩
 rw [hX]
 unfold Ker.load at hX
 refine pcalls_ofG 1 (by simp [kerO]) Tryz.func54 rfl (by simp [Tryz.ntmps54]) (by rintro r os ⟨rfl,rfl⟩;simp [kerO]) ?_
 rw [Tryz.ntmps54,Tryz.results54]
 push_cast [O,U]
 have cB:CutB 9 [47,48,49]:=trivial
 cases hmo:modOf k.mods n with
 | none =>
  rw [hmo] at hm hX
  simp only [Option.getD_none,Option.isSome_none] at hm
  simp only at hX
  subst hX
  repeat' ((first|refine plE [0,1,2] hm ?_ ?_|refine pC ?_|refine pQC ?_|refine pU ?_|refine pif ?_ ?_<;>intro h<;>try exact pN h)<;>push_cast [O,U])
  (refine retK_of [0,1,2] ?_;push_cast [O,U])
 | some m =>
  rw [hmo] at hm hX hms
  simp only [Option.getD_some,Option.isSome_some] at hm hms
  simp only at hX
  have hc:=containsD_pure k.loaded n (by omega)
  have hcf:=containsFuncS_pure m.needs (by omega) 93 [0] (loO k) (fun s=>!inM s k.loaded) ⟨by kernel_rfl,fun x _=>kload1_pure k x hB⟩
  cases h1:inM n k.loaded with
  | true =>
   rw [h1] at hc
   rw [if_pos (.inl h1)] at hX
   subst hX
   repeat' ((first|refine plE [0,1,2] hm ?_ ?_;focus (push_cast [O,U,htk];done)|(refine pl_call2 true [] rfl rfl (by kernel_rfl) (hc) ?_ ?_ ?_;push_cast [O,U,htk];(intro _ r os;rintro ⟨rfl,rfl⟩;push_cast [O,U,htk]);rintro r os ⟨rfl,rfl⟩;refine pl_of_pops ?_)|refine pC ?_|refine pQC ?_|refine pU ?_|refine pif ?_ ?_<;>intro h<;>try exact pN h)<;>push_cast [O,U,htk])
   (refine retK_of [0,1,2] ?_;push_cast [O,U])
  | false =>
   rw [h1] at hc
   cases h2:m.fails with
   | true =>
    rw [if_pos (.inr (.inl h2))] at hX
    subst hX
    repeat' ((first|refine plE [0,1,2] hm ?_ ?_;focus (push_cast [O,U,htk,h2];done)|(refine pl_call2 true [] rfl rfl (by kernel_rfl) (hc) ?_ ?_ ?_;push_cast [O,U,htk,h2];(intro _ r os;rintro ⟨rfl,rfl⟩;push_cast [O,U,htk,h2]);rintro r os ⟨rfl,rfl⟩;refine pl_of_pops ?_)|refine pC ?_|refine pQC ?_|refine pU ?_|refine pif ?_ ?_<;>intro h<;>try exact pN h)<;>push_cast [O,U,htk,h2])
    (refine retK_of [0,1,2] ?_;push_cast [O,U])
   | false =>
    cases h3:(m.needs.any fun s=>!inM s k.loaded) with
    | true =>
     rw [h3] at hcf
     rw [if_pos (.inr (.inr h3))] at hX
     subst hX
     repeat' ((first|refine plE [0,1,2] hm ?_ ?_;focus (push_cast [O,U,htk,h2];done)|(refine pl_call2 true [] rfl rfl (by kernel_rfl) (hc) ?_ ?_ ?_;push_cast [O,U,htk,h2];(intro _ r os;rintro ⟨rfl,rfl⟩;push_cast [O,U,htk,h2]);rintro r os ⟨rfl,rfl⟩;refine pl_of_pops ?_)|refine plE [3,0,1,2] hcf ?_ ?_;focus (push_cast [O,U,htk,h2];done)|refine pC ?_|refine pQC ?_|refine pU ?_|refine pif ?_ ?_<;>intro h<;>try exact pN h)<;>push_cast [O,U,htk,h2])
     (refine retK_of [0,1,2] ?_;push_cast [O,U])
    | false =>
     rw [h3] at hcf
     have hno:¬ (inM n k.loaded=true∨m.fails=true∨(m.needs.any fun s=>!inM s k.loaded)=true):=by rw [h1,h2,h3];simp
     rw [if_neg hno] at hX
     have hi0:=load_inv hB.inv hmo h1 h2 h3
     have hB0:=hB.withL hi0
     have hkt:k.tree.length≤256:=hB.len
     have hke:(k.withL (k.loaded++[n])).evs=k.evs:=rfl
     obtain ⟨K0,hK0⟩:∃ K0,k.withL (k.loaded++[n])=K0:=⟨_,rfl⟩
     have e1:K0.tree=k.tree:=by rw [← hK0];rfl
     have e2:K0.mods=k.mods:=by rw [← hK0];rfl
     have e3:K0.loaded=k.loaded++[n]:=by rw [← hK0];rfl
     have e4:K0.evs=k.evs:=by rw [← hK0];rfl
     have e5:K0.top=k.top:=by rw [← hK0];rfl
     rw [hK0] at hB0 hX hke
     obtain ⟨q,hq⟩:∃ q:Dev → Bool,(fun d=>decide (d.driver=⟨#[]⟩) && matB m d)=q:=⟨_,rfl⟩
     rw [hq] at hX
     have hfin:stepK K0 q n k.tree k.tree.length=X.1:=by
      unfold stepK
      rw [List.take_length,← hX]
     have hX2:X.2=0:=by rw [← hX]
     have hs0:stepK K0 q n k.tree 0=K0:=rfl
     repeat' ((first|refine plE [0,1,2] hm ?_ ?_;focus (push_cast [O,U,htk,h2];done)|(refine pl_call2 true [] rfl rfl (by kernel_rfl) (hc) ?_ ?_ ?_;push_cast [O,U,htk,h2];(intro _ r os;rintro ⟨rfl,rfl⟩;push_cast [O,U,htk,h2]);rintro r os ⟨rfl,rfl⟩;refine pl_of_pops ?_)|refine plE [3,0,1,2] hcf ?_ ?_;focus (push_cast [O,U,htk,h2];done)|(refine pwp_cut 9 [47,48,49] ?_;apply pwp_drawn_to;(focus kernel_rfl);(focus (simp only [List.length_cons,List.length_nil,Nat.reduceAdd];(repeat' first|((first|refine pah 2 ?_|refine pah 3 ?_|refine pah 5 ?_|refine pah 8 ?_|refine pah 9 ?_);push_cast [O,U,htk,h2])|(refine pad ?_;first|with_reducible exact weak_cutS 9 [47,48,49] _|(refine weak_fg ?_;push_cast [O,U,htk,h2]))|((first|refine pas [0] ?_|refine pas [1] ?_|refine pas [4] ?_|refine pas [6] ?_|refine pas [7] ?_|refine pas [10] ?_);push_cast [O,U,htk,h2])|((first|refine pas [0,1] ?_|refine pas [0,4] ?_|refine pas [0,6] ?_|refine pas [0,7] ?_|refine pas [1,6] ?_|refine pas [4,6] ?_);push_cast [O,U,htk,h2];refine ⟨?_,?_⟩)|((first|refine pas [0,1,6] ?_|refine pas [0,4,6] ?_);push_cast [O,U,htk,h2];refine ⟨?_,?_,?_⟩));done));push_cast [O,U,htk,h2])|refine pC ?_|refine pQC ?_|refine pU ?_|refine pif ?_ ?_<;>intro h<;>try exact pN h)<;>push_cast [O,U,htk,h2])
     (apply pwp_loop3 (α:=Nat) 9 [47,48,49] (fun i=>[(49,.c (.v (.int .i64 i)))]) (fun i=>[(0,kerB 1 2 (stepK K0 q n k.tree i)),(1,kerL (stepK K0 q n k.tree i)),(2,kerV (stepK K0 q n k.tree i))]) (fun i=>i≤k.tree.length) (fun i=>k.tree.length - i) (0);(focus ((try push_cast [O,U]);rfl));(focus exact (Nat.zero_le _));(focus ((refine weak_fg ?_;try push_cast [O,U]);(try ((rw [hs0,e1,e2,e3,e4,e5];simp;rfl))))))
     intro i hi
     have hBi:=hB0.each q n (k.tree.take i) (by rw [List.length_take,e4];omega)
     have hel:=each_len q n (k.tree.take i) K0
     rw [List.length_take,e4] at hel
     obtain ⟨K,hK⟩:∃ K,stepK K0 q n k.tree i=K:=⟨_,rfl⟩
     have hKe:K.evs.length≤k.evs.length+256:=by rw [← hK];unfold stepK;omega
     have hBK:KerB K:=by rw [← hK];exact hBi
     rw [hK]
     push_cast [O,U]
     by_cases hlt:i < k.tree.length
     ·have hmem:k.tree.getD i default ∈ k.tree:=by rw [getD_lt _ hlt];exact List.getElem_mem _
      have hyes:=stepK_yes (k:=K0) (q:=q) (v:=n) hlt
      have hno2:=stepK_no (k:=K0) (q:=q) (v:=n) hlt
      rw [hK] at hyes hno2
      have hdr:=kdrv_pure K (k.tree.getD i default) n hBK (hB.ok hmem) (by have:=hB.orig _ hmem;omega) (hB.att _ hmem) hf (by omega)
      have hmt:=kmat_pure m (k.tree.getD i default) hms.1 hms.2.2 (by have:=(hB.small hmem).als;omega)
      have hqd:q (k.tree.getD i default)=(decide ((k.tree.getD i default).driver=⟨#[]⟩) && matB m (k.tree.getD i default)):=by rw [← hq]
      obtain ⟨d,hd⟩:∃ d,k.tree.getD i default=d:=⟨_,rfl⟩
      rw [hd] at hyes hno2 hdr hmt hqd
      by_cases hdd:d.driver=⟨#[]⟩
      ·rw [decide_eq_true hdd,Bool.true_and] at hqd
       cases hmd:matB m d with
       | true =>
        rw [hmd] at hmt hqd
        have hs:=hyes hqd
        obtain ⟨K2,hK2⟩:∃ K2,K.drive d n=K2:=⟨_,rfl⟩
        rw [hK2] at hdr hs
        repeat' ((first|refine plE [] hmt ?_ ?_|(refine plcG 1 [0,1,2] (hdr) ?_ ?_;push_cast [O,U,h2,hd,hdd];rintro r os ⟨rfl,rfl⟩)|refine pC ?_|refine pQC ?_|refine pU ?_|refine pif ?_ ?_<;>intro h<;>try exact pN h)<;>push_cast [O,U,h2,hd,hdd])
        exact ⟨i+1,by omega,by (refine weak_fg ?_;push_cast [O,U,hs]),by omega⟩
       | false =>
        rw [hmd] at hmt hqd
        have hs:=hno2 hqd
        repeat' ((first|refine plE [] hmt ?_ ?_|refine pC ?_|refine pQC ?_|refine pU ?_|refine pif ?_ ?_<;>intro h<;>try exact pN h)<;>push_cast [O,U,h2,hd,hdd])
        exact ⟨i+1,by omega,by (refine weak_fg ?_;push_cast [O,U,hs]),by omega⟩
      ·rw [decide_eq_false hdd,Bool.false_and] at hqd
       have hs:=hno2 hqd
       repeat' ((first|refine pC ?_|refine pQC ?_|refine pU ?_|refine pif ?_ ?_<;>intro h<;>try exact pN h)<;>push_cast [O,U,h2,hd,hdd])
       exact ⟨i+1,by omega,by (refine weak_fg ?_;push_cast [O,U,hs]),by omega⟩
     ·have hi2:i=k.tree.length:=by omega
      subst hi2
      rw [hfin] at hK
      subst hK
      repeat' ((first|refine pC ?_|refine pQC ?_|refine pU ?_|refine pif ?_ ?_<;>intro h<;>try exact pN h)<;>push_cast [O,U])
      (refine retK_of [0,1,2] ?_;push_cast [O,U,hX2])
set_option maxRecDepth 20000
set_option maxHeartbeats 8000000 in
theorem kunload_pure (k:Ker) (n:ByteArray) (hB:KerB k) (hn:k.evs.length+300≤1000000) :
  PCallsG 1 Tryz.prog 55 [.c (.ptr 0 0),.c (.v (.string n))] (kerO k) fun r os=>r = .c (.v (.int .i64 ((k.unload n).2)))∧os=kerO (k.unload n).1:=by
 have hm:=kmod_pure k n (by have:=hB.modl;omega)
 have hlod:=hB.lod
 have htk:=List.take_of_length_le (l:=k.loaded.map strD) (i:=k.loaded.length) (by simp)
 have hix:=index_pure k.loaded n (by omega)
 have hnd:=kneed_pure k n hB
 obtain ⟨X,hX⟩:∃ X,k.unload n=X:=⟨_,rfl⟩
 rw [hX]
 unfold Ker.unload at hX
 refine pcalls_ofG 1 (by simp [kerO]) Tryz.func55 rfl (by simp [Tryz.ntmps55]) (by rintro r os ⟨rfl,rfl⟩;simp [kerO]) ?_
 rw [Tryz.ntmps55,Tryz.results55]
 push_cast [O,U]
 have cB:CutB 10 [46,47,48]:=trivial
 cases hmo:modOf k.mods n with
 | none =>
  rw [hmo] at hm hX
  simp only [Option.getD_none,Option.isSome_none] at hm
  simp only at hX
  subst hX
  repeat' ((first|refine plE [0,1,2] hm ?_ ?_|refine pC ?_|refine pQC ?_|refine pU ?_|refine pif ?_ ?_<;>intro h<;>try exact pN h)<;>push_cast [O,U])
  (refine retK_of [0,1,2] ?_;push_cast [O,U])
 | some m =>
  rw [hmo] at hm hX
  simp only [Option.getD_some,Option.isSome_some] at hm
  simp only at hX
  repeat' ((first|refine plE [0,1,2] hm ?_ ?_;focus (push_cast [O,U,htk];done)|(refine pl_call2 true [] rfl rfl (by kernel_rfl) (hix) ?_ ?_ ?_;push_cast [O,U,htk];(intro _ r os;rintro ⟨j,hj,rfl,rfl⟩;push_cast [O,U,htk]);rintro r os ⟨j,hj,rfl,rfl⟩;refine pl_of_pops ?_)|refine pC ?_|refine pQC ?_|refine pU ?_|refine pif ?_ ?_<;>intro h<;>try exact pN h)<;>push_cast [O,U,htk])
  rcases hj with ⟨rfl,hnm⟩|⟨i,rfl,hi,hat⟩
  ·rw [if_pos (.inl (inM_false.2 hnm))] at hX
   subst hX
   push_cast [O,U]
   repeat' ((first|refine pC ?_|refine pQC ?_|refine pU ?_|refine pif ?_ ?_<;>intro h<;>try exact pN h)<;>push_cast [O,U])
   (refine retK_of [0,1,2] ?_;push_cast [O,U])
  have hmem:n ∈ k.loaded:=by rw [← hat,getD_lt _ hi];exact List.getElem_mem _
  have hin:=inM_iff.2 hmem
  cases h2:k.needed n with
  | true =>
   rw [if_pos (.inr h2)] at hX
   rw [h2] at hnd
   subst hX
   push_cast [O,U]
   repeat' ((first|refine plE [0,1,2] hnd ?_ ?_|refine pC ?_|refine pQC ?_|refine pU ?_|refine pif ?_ ?_<;>intro h<;>try exact pN h)<;>push_cast [O,U])
   (refine retK_of [0,1,2] ?_;push_cast [O,U])
  | false =>
   rw [h2] at hnd
   rw [if_neg (by rw [hin,h2];simp)] at hX
   have hde:=delete_pure k.loaded i hi (by omega)
   have hfd:=filter_del hB.inv.lnd hi hat
   have hi0:=unload_inv hB.inv h2
   have hB0:=hB.withL hi0
   have hkt:k.tree.length≤256:=hB.len
   obtain ⟨LD,hLD⟩:∃ LD,(k.loaded.filter fun s=>!decide (s=n))=LD:=⟨_,rfl⟩
   rw [hLD] at hfd hB0 hX
   have hll:LD.length=k.loaded.length - 1:=by
    rw [← hfd,List.length_append,List.length_take,List.length_drop];omega
   have htr:List.take (k.loaded.length - 1) (List.map strD (k.loaded.take i++(k.loaded.drop (i+1)++[(⟨#[]⟩:ByteArray)])))=List.map strD LD:=by
    rw [← List.append_assoc,hfd,List.map_append,List.take_left' (by rw [List.length_map,hll])]
   obtain ⟨K0,hK0⟩:∃ K0,k.withL LD=K0:=⟨_,rfl⟩
   have e1:K0.tree=k.tree:=by rw [← hK0];rfl
   have e2:K0.mods=k.mods:=by rw [← hK0];rfl
   have e3:K0.loaded=LD:=by rw [← hK0];rfl
   have e4:K0.evs=k.evs:=by rw [← hK0];rfl
   have e5:K0.top=k.top:=by rw [← hK0];rfl
   rw [hK0] at hB0 hX
   obtain ⟨q,hq⟩:∃ q:Dev → Bool,(fun d=>decide (d.driver=n))=q:=⟨_,rfl⟩
   rw [hq] at hX
   have hfin:stepK K0 q ⟨#[]⟩ k.tree k.tree.length=X.1:=by
    unfold stepK
    rw [List.take_length,← hX]
   have hX2:X.2=0:=by rw [← hX]
   have hs0:stepK K0 q ⟨#[]⟩ k.tree 0=K0:=rfl
   obtain ⟨RR,hRR⟩:∃ RR,List.map strD (k.loaded.take i++(k.loaded.drop (i+1)++[(⟨#[]⟩:ByteArray)]))=RR:=⟨_,rfl⟩
   rw [hRR] at hde htr
   push_cast [O,U]
   repeat' ((first|refine plE [0,1,2] hnd ?_ ?_|refine pC ?_|refine pQC ?_|refine pU ?_|refine pif ?_ ?_<;>intro h<;>try exact pN h)<;>push_cast [O,U])
   (refine plE [1] hde ?_ ?_<;>push_cast [O,U])
   refine pwp_weak (weak_trim 1 (k.loaded.length - 1) rfl) ?_
   push_cast [O,U,htr]
   rw [← hll]
   (apply pwp_loop3 (α:=Nat) 10 [46,47,48] (fun i=>[(48,.c (.v (.int .i64 i)))]) (fun i=>[(0,kerB 1 2 (stepK K0 q ⟨#[]⟩ k.tree i)),(1,kerL (stepK K0 q ⟨#[]⟩ k.tree i)),(2,kerV (stepK K0 q ⟨#[]⟩ k.tree i))]) (fun i=>i≤k.tree.length) (fun i=>k.tree.length - i) (0);(focus ((try push_cast [O,U]);rfl));(focus exact (Nat.zero_le _));(focus ((refine weak_fg ?_;try push_cast [O,U]);(try ((rw [hs0,e1,e2,e3,e4,e5];simp))))))
   intro i hi
   have hBi:=hB0.each q ⟨#[]⟩ (k.tree.take i) (by rw [List.length_take,e4];omega)
   have hel:=each_len q ⟨#[]⟩ (k.tree.take i) K0
   rw [List.length_take,e4] at hel
   obtain ⟨K,hK⟩:∃ K,stepK K0 q ⟨#[]⟩ k.tree i=K:=⟨_,rfl⟩
   have hKe:K.evs.length≤k.evs.length+256:=by rw [← hK];unfold stepK;omega
   have hBK:KerB K:=by rw [← hK];exact hBi
   rw [hK]
   push_cast [O,U]
   by_cases hlt:i < k.tree.length
   ·have hmem:k.tree.getD i default ∈ k.tree:=by rw [getD_lt _ hlt];exact List.getElem_mem _
    have hyes:=stepK_yes (k:=K0) (q:=q) (v:=⟨#[]⟩) hlt
    have hno2:=stepK_no (k:=K0) (q:=q) (v:=⟨#[]⟩) hlt
    rw [hK] at hyes hno2
    have hdr:=kdrv_pure K (k.tree.getD i default) ⟨#[]⟩ hBK (hB.ok hmem) (by have:=hB.orig _ hmem;omega) (hB.att _ hmem) (by decide) (by omega)
    have hqd:q (k.tree.getD i default)=decide ((k.tree.getD i default).driver=n):=by rw [← hq]
    obtain ⟨d,hd⟩:∃ d,k.tree.getD i default=d:=⟨_,rfl⟩
    rw [hd] at hyes hno2 hdr hqd
    by_cases hdd:d.driver=n
    ·rw [decide_eq_true hdd] at hqd
     have hs:=hyes hqd
     obtain ⟨K2,hK2⟩:∃ K2,K.drive d ⟨#[]⟩=K2:=⟨_,rfl⟩
     rw [hK2] at hdr hs
     repeat' ((first|(refine plcG 1 [0,1,2] (hdr) ?_ ?_;push_cast [O,U,hd,hdd];rintro r os ⟨rfl,rfl⟩)|refine pC ?_|refine pQC ?_|refine pU ?_|refine pif ?_ ?_<;>intro h<;>try exact pN h)<;>push_cast [O,U,hd,hdd])
     exact ⟨i+1,by omega,by (refine weak_fg ?_;push_cast [O,U,hs]),by omega⟩
    ·rw [decide_eq_false hdd] at hqd
     have hs:=hno2 hqd
     repeat' ((first|refine pC ?_|refine pQC ?_|refine pU ?_|refine pif ?_ ?_<;>intro h<;>try exact pN h)<;>push_cast [O,U,hd,hdd])
     exact ⟨i+1,by omega,by (refine weak_fg ?_;push_cast [O,U,hs]),by omega⟩
   ·have hi2:i=k.tree.length:=by omega
    subst hi2
    rw [hfin] at hK
    subst hK
    repeat' ((first|refine pC ?_|refine pQC ?_|refine pU ?_|refine pif ?_ ?_<;>intro h<;>try exact pN h)<;>push_cast [O,U])
    (refine retK_of [0,1,2] ?_;push_cast [O,U,hX2])
end Go.Proofs.YtmbbkfffcflfcaaGreatDoor
namespace Go.Proofs.YtmbbkfffcflfcaaGreatDoor
open Go.RowKit
open IntWalk renaming iteOmega → O, toNatUp → U
set_option linter.unusedVariables false
set_option linter.unusedSimpArgs false
theorem spl_joinL:∀ (ps:List (List UInt8)) (p:List UInt8),(47:UInt8) ∉ p → (∀ q ∈ ps,(47:UInt8) ∉ q) → spl (p++joinL ps)=p :: ps
 | [],p,hp,_=>by rw [show joinL []=[] from rfl,List.append_nil,spl_none hp]
 | q :: ps,p,hp,h=>by
  rw [joinL_cons,spl_app _ hp,spl_joinL ps q (h q (by simp)) fun x hx=>h x (by simp [hx])]
theorem splitP_join {ps:List ByteArray} (h0:ps≠[]) (hv:∀ p ∈ ps,validS p=true):splitP (joinP ps)=some ps:=by
 obtain ⟨p,qs,rfl⟩:∃ p qs,ps=p :: qs:=by cases ps with|nil=>exact absurd rfl h0|cons p qs=>exact ⟨p,qs,rfl⟩
 have hd:(joinP (p :: qs)).data.toList=47 :: (p.data.toList++joinL (qs.map fun q=>q.data.toList)):=by rw [joinP_list,List.map_cons,joinL_cons]
 have hs:slashS (joinP (p :: qs))=true:=by unfold slashS Lib.hasPrefix;rw [hd];simp [List.isPrefixOf]
 have hr:(restS (joinP (p :: qs))).data.toList=p.data.toList++joinL (qs.map fun q=>q.data.toList):=by
  have:=slash_rest hs
  rw [hd] at this
  injection this with _ this
  exact this.symm
 have hp:parts (restS (joinP (p :: qs)))=p :: qs:=by
  unfold parts
  rw [hr,spl_joinL _ _ (valid_slash (hv p (by simp))) fun q hq=>by
   obtain ⟨x,hx,rfl⟩:=List.mem_map.1 hq
   exact valid_slash (hv x (by simp [hx]))]
  rw [List.map_cons,List.map_map,unT_data]
  congr 1
  conv=>rhs;rw [← List.map_id qs]
  exact List.map_congr_left fun x _=>rfl
 unfold splitP
 rw [hp,if_pos ⟨hs,List.all_eq_true.2 hv⟩]
theorem place_split {l:List Dev} (h:Okt l) {d:Dev} (hd:d ∈ l):splitP (placeM l d.index)=some (origM l d.index):=splitP_join (orig_ne h.p hd) (orig_val h.val _)
end Go.Proofs.YtmbbkfffcflfcaaGreatDoor
