/- The law, walked. -/
import Derived.Test.YtmbbkfffcflfcaaGreatDoorR49
namespace Go.Proofs.YtmbbkfffcflfcaaGreatDoor
attribute [local irreducible] PL QL PWPr PCalls Weak RetK Kontr PA PCallsG
open Go.RowKit
open IntWalk renaming iteOmega → iO, toNatUp → tN
set_option linter.unusedVariables false
set_option linter.unusedSimpArgs false
set_option maxRecDepth 20000
set_option maxHeartbeats 16000000 in
theorem needs_pure (L:List Int) (hL:∀ x ∈ L,-9223372036854775808≤x∧x≤9223372036854775807) (hl:L.length≤9223372036854775807) :
  PCalls Tryz.prog 4 [.c (.sl 1 (L.map fun x=>[.v (.int .i64 x)]))] [] fun r os=>r = .c (.v (.bool true))∧os=[]:=by
 refine pcalls_of Tryz.func4 rfl (by simp [Tryz.ntmps4]) ?_
 rw [Tryz.ntmps4,Tryz.results4]
 have hb:=begin_pure L hL hl
 have hkn:=known05_pure
 have nex:=fun (j:Nat) (hj:j < 1000000) (m:Int) (hm:0 < m) (hm2:m≤9223372036854775807)=>next_ex L j m hj hm hm2 hL hl
 push_cast [iO,tN]
 have cB:CutB 11 []:=trivial
 repeat' (first|((first|refine pC ?_|refine pQC ?_|refine pU ?_);push_cast [iO,tN])|(refine pif (fun h=>?_) (fun h=>?_)<;>first|exact pN h|push_cast [iO,tN]))
 (refine plc [] (hb) ?_ ?_;push_cast [iO,tN];rintro r os ⟨ms,hS,rfl,rfl⟩;push_cast [iO,tN])
 repeat' (first|((first|refine pC ?_|refine pQC ?_|refine pU ?_);push_cast [iO,tN])|(refine pif (fun h=>?_) (fun h=>?_)<;>first|exact pN h|push_cast [iO,tN]))
 (refine plc [] (hkn) ?_ ?_;push_cast [iO,tN];rintro r os ⟨rfl,rfl⟩;push_cast [iO,tN])
 refine pl_ptreq rfl rfl rfl rfl (by kernel_rfl) (by simp [dstOk]) (pl_of_pops ?_)
 push_cast [iO,tN]
 repeat' (first|((first|refine pC ?_|refine pQC ?_|refine pU ?_);push_cast [iO,tN])|(refine pif (fun h=>?_) (fun h=>?_)<;>first|exact pN h|push_cast [iO,tN]))
 have n1:=nex 8 (by decide) 24 (by decide) (by decide)
 (refine plc [0] (n1) ?_ ?_;push_cast [iO,tN];rintro r os ⟨v,⟨va,vb⟩,rfl,rfl⟩;push_cast [iO,tN])
 obtain ⟨n,rfl⟩:∃ n:Nat,v=(n:Int):=⟨v.toNat,by omega⟩
 repeat' (first|((first|refine pC ?_|refine pQC ?_|refine pU ?_);push_cast [iO,tN])|(refine pif (fun h=>?_) (fun h=>?_)<;>first|exact pN h|push_cast [iO,tN]))
 (apply pwp_loop3 (α:=Nat × Ker × Nat) 11 [] (fun x=>[(4,.c (.v (.int .i64 x.1)))]) (fun x=>[(0,tape L x.2.2),(1,kerB 2 3 x.2.1),(2,kerL x.2.1),(3,kerV x.2.1)]) (fun x=>x.1≤n∧Lived (n - x.1) x.2.1∧x.2.2≤9+60 * (n - x.1)∧x.2.1.mods=ms) (fun x=>x.1) ((n,begK ms,9));(focus ((try push_cast [iO,tN]);rfl));(focus exact ⟨Nat.le_refl _,by rw [Nat.sub_self];exact Lived.beg hS,by simp only;omega,rfl⟩);(focus ((refine weak_fg ?_;try push_cast [iO,tN]);(try (rfl)))))
 rintro ⟨i,k,q⟩ ⟨hi,hk,hq,hm⟩
 simp only at hi hk hq hm
 by_cases h0:0 < i
 case neg =>
  have h0':¬ (0:Int) < (i:Int):=by omega
  push_cast [iO,tN]
  repeat' (first|((first|refine pC ?_|refine pQC ?_|refine pU ?_);push_cast [iO,tN,h0'])|(refine pif (fun h=>?_) (fun h=>?_)<;>first|exact pN h|push_cast [iO,tN,h0']))
  (refine retK_of [] ?_;push_cast [iO,tN])
 obtain ⟨i,rfl⟩:∃ i',i=i'+1:=⟨i - 1,by omega⟩
 have h0':(0:Int) < (i:Int)+1:=by omega
 have hkt:=ktree_pure k hk.b.inv.tree
 obtain ⟨ix1,ix2,ix3,ix4⟩:=hk.ixs (by omega)
 have hop:=wop_ex L q k.tree (by omega) ix4 ix3 ix1 ix2 hL hl
 repeat' (first|(refine hidR 7 ?_)|((first|refine pC ?_|refine pQC ?_|refine pU ?_);push_cast [iO,tN,h0'])|(refine pif (fun h=>?_) (fun h=>?_)<;>first|exact pN h|push_cast [iO,tN,h0']))
 refine unhid ?_
 (refine pwp_cut 11 [] ?_;apply pwp_drawn_exn (α:=Opr × Nat) 11 [] (fun x=>[(5,.c (.ptr 5 0))]) (fun x=>[(0,tape L x.2)]) (fun x=>[.box 55 x.1.e]) (fun x=>OprOk x.1∧x.2≤q+40) ((⟨0,⟨#[]⟩,zeroD,⟨#[]⟩,⟨#[]⟩⟩,0));(focus ((try push_cast [iO,tN]);rfl));(focus kernel_rfl);(focus (simp only [List.length_cons,List.length_nil,Nat.reduceAdd];(repeat' first|((refine plc [1,2,3] (hkt) ?_ ?_;push_cast [iO,tN];rintro r os ⟨rfl,rfl⟩;push_cast [iO,tN]))|((refine plc [0] (hop) ?_ ?_;push_cast [iO,tN];rintro r os ⟨op,q2,ho,hq2,rfl,rfl⟩;push_cast [iO,tN]))|((first|refine pah 0 ?_|refine pah 2 ?_);push_cast [iO,tN])|(refine pad ?_;try push_cast [iO,tN])|((first|refine pas [1] ?_|refine pas [3] ?_|refine pas [4] ?_|refine pas [5] ?_|refine pas [6] ?_|refine pas [7] ?_);push_cast [iO,tN])|((first|refine pas [1,3] ?_|refine pas [1,4] ?_|refine pas [1,5] ?_|refine pas [1,6] ?_|refine pas [1,7] ?_|refine pas [3,4] ?_|refine pas [3,5] ?_|refine pas [3,6] ?_|refine pas [3,7] ?_|refine pas [4,5] ?_|refine pas [4,6] ?_|refine pas [4,7] ?_|refine pas [5,6] ?_|refine pas [5,7] ?_|refine pas [6,7] ?_);push_cast [iO,tN];refine ⟨?_,?_⟩)|((first|refine pas [1,3,4] ?_|refine pas [1,3,5] ?_|refine pas [1,3,6] ?_|refine pas [1,3,7] ?_|refine pas [1,4,5] ?_|refine pas [1,4,6] ?_|refine pas [1,4,7] ?_|refine pas [1,5,6] ?_|refine pas [1,5,7] ?_|refine pas [1,6,7] ?_|refine pas [3,4,5] ?_|refine pas [3,4,6] ?_|refine pas [3,4,7] ?_|refine pas [3,5,6] ?_|refine pas [3,5,7] ?_|refine pas [3,6,7] ?_|refine pas [4,5,6] ?_|refine pas [4,5,7] ?_|refine pas [4,6,7] ?_|refine pas [5,6,7] ?_);push_cast [iO,tN];refine ⟨?_,?_,?_⟩));all_goals (exact ⟨(op,q2),⟨ho,hq2⟩,by (refine weak_fg ?_;push_cast [iO,tN])⟩))))
 rintro ⟨op,q2⟩ ⟨ho,hq2⟩
 simp only at ho hq2
 push_cast [iO,tN]
 have n2:=nex q2 (by omega) 2 (by decide) (by decide)
 (refine plc [0] (n2) ?_ ?_;push_cast [iO,tN];rintro r os ⟨w,⟨wa,wb⟩,rfl,rfl⟩;push_cast [iO,tN])
 by_cases w0:w=0
 ·have n3:=nex (q2+1) (by omega) 2 (by decide) (by decide)
  have o3:=one_ex L (q2+1+1) [⟨#[104,105,100]⟩,⟨#[110,105,99]⟩,⟨#[99,111,114,101]⟩,⟨#[101,120,116,114,97]⟩,⟨#[111,116,104,101,114]⟩,⟨#[98,97,100]⟩] (by omega) (by decide) (by decide) hL hl
  repeat' (first|(refine hidR 9 ?_)|((first|refine pC ?_|refine pQC ?_|refine pU ?_);push_cast [iO,tN,w0])|(refine pif (fun h=>?_) (fun h=>?_)<;>first|exact pN h|push_cast [iO,tN,w0]))
  refine unhid ?_
  (refine pwp_cut 11 [] ?_;apply pwp_drawn_ex (α:=Opr × Nat) 11 [] (fun x=>[]) (fun x=>[(0,tape L x.2),(5,.box 55 x.1.e)]) (fun x=>OprOk x.1∧x.2≤q2+4) ((⟨0,⟨#[]⟩,zeroD,⟨#[]⟩,⟨#[]⟩⟩,0));(focus ((try push_cast [iO,tN]);rfl));(focus kernel_rfl);(focus (simp only [List.length_cons,List.length_nil,Nat.reduceAdd];(repeat' first|((refine plc [0] (n3) ?_ ?_;push_cast [iO,tN,w0];rintro r os ⟨v3,⟨v3a,v3b⟩,rfl,rfl⟩;push_cast [iO,tN,w0]))|((refine plc [0] (o3) ?_ ?_;push_cast [iO,tN,w0];rintro r os ⟨s3,hs3,rfl,rfl⟩;push_cast [iO,tN,w0]))|((first|refine pah 0 ?_|refine pah 3 ?_|refine pah 4 ?_|refine pah 8 ?_);push_cast [iO,tN,w0])|(refine pad ?_;try push_cast [iO,tN,w0])|((first|refine pas [1] ?_|refine pas [2] ?_|refine pas [5] ?_|refine pas [6] ?_|refine pas [7] ?_|refine pas [9] ?_);push_cast [iO,tN,w0])|((first|refine pas [1,2] ?_|refine pas [1,5] ?_|refine pas [1,6] ?_|refine pas [1,7] ?_|refine pas [1,9] ?_|refine pas [2,5] ?_|refine pas [2,6] ?_|refine pas [2,7] ?_|refine pas [2,9] ?_|refine pas [5,6] ?_|refine pas [5,7] ?_|refine pas [5,9] ?_|refine pas [6,7] ?_|refine pas [6,9] ?_|refine pas [7,9] ?_);push_cast [iO,tN,w0];refine ⟨?_,?_⟩)|((first|refine pas [1,2,5] ?_|refine pas [1,2,6] ?_|refine pas [1,2,7] ?_|refine pas [1,2,9] ?_|refine pas [1,5,6] ?_|refine pas [1,5,7] ?_|refine pas [1,5,9] ?_|refine pas [1,6,7] ?_|refine pas [1,6,9] ?_|refine pas [1,7,9] ?_|refine pas [2,5,6] ?_|refine pas [2,5,7] ?_|refine pas [2,5,9] ?_|refine pas [2,6,7] ?_|refine pas [2,6,9] ?_|refine pas [2,7,9] ?_|refine pas [5,6,7] ?_|refine pas [5,6,9] ?_|refine pas [5,7,9] ?_|refine pas [6,7,9] ?_);push_cast [iO,tN,w0];refine ⟨?_,?_,?_⟩));all_goals (exact ⟨(⟨8+v3,⟨#[]⟩,zeroD,⟨#[]⟩,s3⟩,q2+1+1+1),⟨oprZ (Nat.zero_le _) (Nat.zero_le _) (sz100 (by decide) hs3),by simp only;omega⟩,by (refine weak_fg ?_;push_cast [iO,tN])⟩))))
  rintro ⟨op2,q3⟩ ⟨ho2,hq3⟩
  simp only at ho2 hq3
  have hqq:q3≤q+60:=by omega
  push_cast [iO,tN]
  have hev:=hk.e
  have htp:=hk.t
  have hdo:=kdo_pure k op2 hk.b ho2 (by omega) (by omega)
  have hk2:=hk.do (by omega) op2
  have hm2:(kerOp k op2).1.mods=ms:=by rw [← hm];exact (do_keep insAt3 k op2).1
  obtain ⟨k2,hke⟩:∃ k2,(kerOp k op2).1=k2:=⟨_,rfl⟩
  rw [hke] at hdo hk2 hm2
  have hlo:=hk2.b.lod
  have hld:=kloaded_pure k2 (by omega)
  (refine plcG 1 [1,2,3] (hdo) ?_ ?_;push_cast [iO,tN];rintro r os ⟨rfl,rfl⟩;push_cast [iO,tN])
  (refine plc [1,2,3] (hld) ?_ ?_;push_cast [iO,tN];rintro r os ⟨rfl,rfl⟩;push_cast [iO,tN])
  repeat' (first|((first|refine pC ?_|refine pQC ?_|refine pU ?_);push_cast [iO,tN])|(refine pif (fun h=>?_) (fun h=>?_)<;>first|exact pN h|push_cast [iO,tN]))
  (apply pwp_loop3 (α:=Nat) 11 [] (fun j=>[(7,.c (.v (.int .i64 j)))]) (fun j=>[]) (fun j=>j≤k2.loaded.length) (fun j=>k2.loaded.length - j) (0);(focus ((try push_cast [iO,tN]);rfl));(focus exact (Nat.zero_le _));(focus ((refine weak_fg ?_;try push_cast [iO,tN]);(try (rfl)))))
  intro j hj
  push_cast [iO,tN]
  by_cases hjl:j < k2.loaded.length
  ·have hmem:k2.loaded.getD j default ∈ k2.loaded:=by rw [getD_lt _ hjl];exact List.getElem_mem _
   obtain ⟨m,hm3,hf,hnd⟩:=hk2.b.inv.loaded hmem
   have hms:=modOf_name hm3
   rw [hm2] at hm3 hms
   have hw:=hS.w m hms.1
   have hndl:=hw.nds
   have md:=module_pure ms (k2.loaded.getD j default) (by have:=hS.len;omega)
   rw [hm3] at md
   simp only [Option.getD_some,Option.isSome_some] at md
   repeat' (first|((refine pwp_cut 11 [] ?_;apply pwp_drawn_to;(focus kernel_rfl);(focus (simp only [List.length_cons,List.length_nil,Nat.reduceAdd];(repeat' first|((refine plc [] (md) ?_ ?_;push_cast [iO,tN,  hf];rintro r os ⟨rfl,rfl⟩;push_cast [iO,tN,  hf]))|((first|refine pah 0 ?_|refine pah 1 ?_|refine pah 3 ?_|refine pah 4 ?_|refine pah 5 ?_|refine pah 8 ?_|refine pah 9 ?_|refine pah 10 ?_|refine pah 13 ?_);push_cast [iO,tN,  hf])|(refine pad ?_;first|with_reducible exact weak_cutS 11 [] _|(refine weak_fg ?_;push_cast [iO,tN,  hf]))|((first|refine pas [2] ?_|refine pas [6] ?_|refine pas [7] ?_|refine pas [11] ?_|refine pas [12] ?_);push_cast [iO,tN,  hf])|((first|refine pas [2,6] ?_|refine pas [2,11] ?_|refine pas [6,11] ?_|refine pas [7,11] ?_);push_cast [iO,tN,  hf];refine ⟨?_,?_⟩)|((first|refine pas [2,6,11] ?_);push_cast [iO,tN,  hf];refine ⟨?_,?_,?_⟩));done));push_cast [iO,tN,  hf]))|((first|refine pC ?_|refine pQC ?_|refine pU ?_);push_cast [iO,tN,hf])|(refine pif (fun h=>?_) (fun h=>?_)<;>first|exact pN h|push_cast [iO,tN,hf]))
   (apply pwp_loop3 (α:=Nat) 11 [] (fun b=>[(10,.c (.v (.int .i64 b)))]) (fun b=>[]) (fun b=>b≤m.needs.length) (fun b=>m.needs.length - b) (0);(focus ((try push_cast [iO,tN]);rfl));(focus exact (Nat.zero_le _));(focus ((refine weak_fg ?_;try push_cast [iO,tN]);(try (rfl)))))
   intro b hb
   push_cast [iO,tN]
   by_cases hbl:b < m.needs.length
   ·have hin:=in_pure k2.loaded (m.needs.getD b default) (by omega)
    rw [hnd _ (by rw [getD_lt _ hbl];exact List.getElem_mem _)] at hin
    repeat' (first |  ((refine plc [] (hin) ?_ ?_;push_cast [iO,tN];rintro r os ⟨rfl,rfl⟩;push_cast [iO,tN]))  | ((first|refine pC ?_|refine pQC ?_|refine pU ?_);push_cast [iO,tN])|(refine pif (fun h=>?_) (fun h=>?_)<;>first|exact pN h|push_cast [iO,tN]))
    exact ⟨b+1,by omega,by (refine weak_fg ?_;push_cast [iO,tN]),by omega⟩
   ·repeat' (first|((first|refine pC ?_|refine pQC ?_|refine pU ?_);push_cast [iO,tN])|(refine pif (fun h=>?_) (fun h=>?_)<;>first|exact pN h|push_cast [iO,tN]))
    exact ⟨j+1,by omega,by (refine weak_fg ?_;push_cast [iO,tN]),by omega⟩
  ·repeat' (first|((first|refine pC ?_|refine pQC ?_|refine pU ?_);push_cast [iO,tN])|(refine pif (fun h=>?_) (fun h=>?_)<;>first|exact pN h|push_cast [iO,tN]))
   exact ⟨(i,k2,q3),⟨by simp only;omega,by simp only;rw [show n - i=n - (i+1)+1 by omega];exact hk2,by simp only;omega,hm2⟩,by (refine weak_fg ?_;push_cast [iO,tN]),by simp only;omega⟩
 ·have w0':=eq_false w0
  have ho2:=ho
  have hqq:q2+1≤q+60:=by omega
  repeat' (first|((first|refine pC ?_|refine pQC ?_|refine pU ?_);push_cast [iO,tN,w0'])|(refine pif (fun h=>?_) (fun h=>?_)<;>first|exact pN h|push_cast [iO,tN,w0']))
  have hev:=hk.e
  have htp:=hk.t
  have hdo:=kdo_pure k op hk.b ho2 (by omega) (by omega)
  have hk2:=hk.do (by omega) op
  have hm2:(kerOp k op).1.mods=ms:=by rw [← hm];exact (do_keep insAt3 k op).1
  obtain ⟨k2,hke⟩:∃ k2,(kerOp k op).1=k2:=⟨_,rfl⟩
  rw [hke] at hdo hk2 hm2
  have hlo:=hk2.b.lod
  have hld:=kloaded_pure k2 (by omega)
  (refine plcG 1 [1,2,3] (hdo) ?_ ?_;push_cast [iO,tN];rintro r os ⟨rfl,rfl⟩;push_cast [iO,tN])
  (refine plc [1,2,3] (hld) ?_ ?_;push_cast [iO,tN];rintro r os ⟨rfl,rfl⟩;push_cast [iO,tN])
  repeat' (first|((first|refine pC ?_|refine pQC ?_|refine pU ?_);push_cast [iO,tN])|(refine pif (fun h=>?_) (fun h=>?_)<;>first|exact pN h|push_cast [iO,tN]))
  (apply pwp_loop3 (α:=Nat) 11 [] (fun j=>[(7,.c (.v (.int .i64 j)))]) (fun j=>[]) (fun j=>j≤k2.loaded.length) (fun j=>k2.loaded.length - j) (0);(focus ((try push_cast [iO,tN]);rfl));(focus exact (Nat.zero_le _));(focus ((refine weak_fg ?_;try push_cast [iO,tN]);(try (rfl)))))
  intro j hj
  push_cast [iO,tN]
  by_cases hjl:j < k2.loaded.length
  ·have hmem:k2.loaded.getD j default ∈ k2.loaded:=by rw [getD_lt _ hjl];exact List.getElem_mem _
   obtain ⟨m,hm3,hf,hnd⟩:=hk2.b.inv.loaded hmem
   have hms:=modOf_name hm3
   rw [hm2] at hm3 hms
   have hw:=hS.w m hms.1
   have hndl:=hw.nds
   have md:=module_pure ms (k2.loaded.getD j default) (by have:=hS.len;omega)
   rw [hm3] at md
   simp only [Option.getD_some,Option.isSome_some] at md
   repeat' (first|((refine pwp_cut 11 [] ?_;apply pwp_drawn_to;(focus kernel_rfl);(focus (simp only [List.length_cons,List.length_nil,Nat.reduceAdd];(repeat' first|((refine plc [] (md) ?_ ?_;push_cast [iO,tN,  hf];rintro r os ⟨rfl,rfl⟩;push_cast [iO,tN,  hf]))|((first|refine pah 0 ?_|refine pah 1 ?_|refine pah 3 ?_|refine pah 4 ?_|refine pah 5 ?_|refine pah 8 ?_|refine pah 9 ?_|refine pah 10 ?_|refine pah 13 ?_);push_cast [iO,tN,  hf])|(refine pad ?_;first|with_reducible exact weak_cutS 11 [] _|(refine weak_fg ?_;push_cast [iO,tN,  hf]))|((first|refine pas [2] ?_|refine pas [6] ?_|refine pas [7] ?_|refine pas [11] ?_|refine pas [12] ?_);push_cast [iO,tN,  hf])|((first|refine pas [2,6] ?_|refine pas [2,11] ?_|refine pas [6,11] ?_|refine pas [7,11] ?_);push_cast [iO,tN,  hf];refine ⟨?_,?_⟩)|((first|refine pas [2,6,11] ?_);push_cast [iO,tN,  hf];refine ⟨?_,?_,?_⟩));done));push_cast [iO,tN,  hf]))|((first|refine pC ?_|refine pQC ?_|refine pU ?_);push_cast [iO,tN,hf])|(refine pif (fun h=>?_) (fun h=>?_)<;>first|exact pN h|push_cast [iO,tN,hf]))
   (apply pwp_loop3 (α:=Nat) 11 [] (fun b=>[(10,.c (.v (.int .i64 b)))]) (fun b=>[]) (fun b=>b≤m.needs.length) (fun b=>m.needs.length - b) (0);(focus ((try push_cast [iO,tN]);rfl));(focus exact (Nat.zero_le _));(focus ((refine weak_fg ?_;try push_cast [iO,tN]);(try (rfl)))))
   intro b hb
   push_cast [iO,tN]
   by_cases hbl:b < m.needs.length
   ·have hin:=in_pure k2.loaded (m.needs.getD b default) (by omega)
    rw [hnd _ (by rw [getD_lt _ hbl];exact List.getElem_mem _)] at hin
    repeat' (first |  ((refine plc [] (hin) ?_ ?_;push_cast [iO,tN];rintro r os ⟨rfl,rfl⟩;push_cast [iO,tN]))  | ((first|refine pC ?_|refine pQC ?_|refine pU ?_);push_cast [iO,tN])|(refine pif (fun h=>?_) (fun h=>?_)<;>first|exact pN h|push_cast [iO,tN]))
    exact ⟨b+1,by omega,by (refine weak_fg ?_;push_cast [iO,tN]),by omega⟩
   ·repeat' (first|((first|refine pC ?_|refine pQC ?_|refine pU ?_);push_cast [iO,tN])|(refine pif (fun h=>?_) (fun h=>?_)<;>first|exact pN h|push_cast [iO,tN]))
    exact ⟨j+1,by omega,by (refine weak_fg ?_;push_cast [iO,tN]),by omega⟩
  ·repeat' (first|((first|refine pC ?_|refine pQC ?_|refine pU ?_);push_cast [iO,tN])|(refine pif (fun h=>?_) (fun h=>?_)<;>first|exact pN h|push_cast [iO,tN]))
   exact ⟨(i,k2,(q2+1)),⟨by simp only;omega,by simp only;rw [show n - i=n - (i+1)+1 by omega];exact hk2,by simp only;omega,hm2⟩,by (refine weak_fg ?_;push_cast [iO,tN]),by simp only;omega⟩
end Go.Proofs.YtmbbkfffcflfcaaGreatDoor
