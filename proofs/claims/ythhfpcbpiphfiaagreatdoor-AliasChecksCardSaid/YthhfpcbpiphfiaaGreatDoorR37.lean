/- What the program computes, and the plain laws of it, part 37. -/
import Derived.Lib.ItoaNum
import Derived.WideKeyEntry
import Derived.ProofKit
import Derived.OpenShut
import Derived.ShutString
import Derived.ChangeOld
import Derived.Deep.Slices
import Derived.Deep.Fields
import Derived.Test.YthhfpcbpiphfiaaGreatDoorR36
namespace Go.Proofs.YthhfpcbpiphfiaaGreatDoor
attribute [local irreducible] PL QL PWPr PCalls Weak RetK Kontr PA
open Go.RowKit
open IntWalk renaming iteOmega → iO, toNatUp → tN
set_option linter.unusedVariables false
set_option linter.unusedSimpArgs false
set_option maxRecDepth 20000
theorem wm_fit:∀ m ∈ wmL,ModFit m:=by
 have h:∀ m ∈ wmL,m.name.size≤10∧(∀ s ∈ m.aliases,s.size≤10)∧(∀ s ∈ m.needs,s.size≤10)∧(∀ s ∈ m.pre,s.size≤10)∧(∀ s ∈ m.post,s.size≤10)∧m.aliases.length≤10∧m.needs.length≤10∧m.pre.length≤10∧m.post.length≤10:=by decide +kernel
 intro m hm
 obtain ⟨h1,h2,h3,h4,h5,h6,h7,h8,h9⟩:=h m hm
 unfold Fit at *
 exact ⟨by unfold Fit;omega,fun s hs=>by have:=h2 s hs;unfold Fit;omega,fun s hs=>by have:=h3 s hs;unfold Fit;omega,fun s hs=>by have:=h4 s hs;unfold Fit;omega,fun s hs=>by have:=h5 s hs;unfold Fit;omega,by omega,by omega,by omega,by omega⟩
def cn18:List ByteArray:=[⟨#[104,105,100]⟩,⟨#[110,101,119]⟩,⟨#[97,47,98]⟩]
theorem cn18_pure (L:List Int) (k:Nat) (hk:k < 1000000) (hL:∀ x ∈ L,-9223372036854775808≤x∧x≤9223372036854775807) (hl:L.length≤9223372036854775807) :
  PCalls Tryz.prog 7 [.c (.ptr 0 0),.c (.sl 1 [[.v (.string ⟨#[104,105,100]⟩)],[.v (.string ⟨#[110,101,119]⟩)],[.v (.string ⟨#[97,47,98]⟩)]])] [tape L k] fun r os=>r = .c (.v (.string (pick L k cn18)))∧os=[tape L (k+1)] :=
 one_pure L k cn18 hk (by decide) (by decide) hL hl
def oneM (s:ByteArray):Mod:=⟨s,[],[],[],[],false⟩
theorem oneM_fit {s:ByteArray} (h:s.size≤300):ModFit (oneM s):=⟨(by show Fit s;unfold Fit;omega),fun s hs=>(by cases hs),fun s hs=>(by cases hs),fun s hs=>(by cases hs),fun s hs=>(by cases hs),Nat.zero_le _,Nat.zero_le _,Nat.zero_le _,Nat.zero_le _⟩
theorem take_ml {α β:Type} (f:α → β) (l:List α):(l.map f).take l.length=l.map f:=by rw [← List.map_take,List.take_length]
set_option maxHeartbeats 16000000 in
theorem checks18_pure (raw:Cfg) (L:List Int) (hr:FitC raw) (hL:∀ x ∈ L,-9223372036854775808≤x∧x≤9223372036854775807) (hl:L.length≤9223372036854775807) :
  PCalls Tryz.prog 3 [.agg raw.e,.c (.sl 1 (L.map fun x=>[D.v (.int .i64 x)]))] [] fun r os=>r = .c (.v (.bool true))∧os=[]:=by
 have hAr:=acheck_pure raw hr
 have hRr:=rcheck18_pure raw hr
 have hb0:=hr.m
 have hb1:=hr.b
 have hb2:=hr.o
 have hb3:=hr.k
 have hb4:=hr.x
 refine pcalls_of Tryz.func3 rfl (by simp [Tryz.ntmps3]) ?_
 rw [Tryz.ntmps3,Tryz.results3]
 push_cast [iO,tN]
 have cB:CutB 7 [28,36,37,48,56,63,71]:=trivial
 by_cases h20:20 < raw.modules.length
 ·have h20':(20:Int) < (raw.modules.length:Int):=by omega
  repeat' (first|((refine plc [] (known18_pure) ?_ ?_;push_cast [iO,tN,h20'];rintro r os ⟨rfl,rfl⟩;push_cast [iO,tN,h20']))|((first|refine pC ?_|refine pQC ?_|refine pU ?_);push_cast [iO,tN,h20'])|(refine pif (fun h=>?_) (fun h=>?_)<;>first|exact pN h|push_cast [iO,tN,h20']))
  (refine retK_of [] ?_;push_cast [iO,tN])
 have h20':¬ (20:Int) < (raw.modules.length:Int):=by omega
 repeat' (first|((refine plc [] (known18_pure) ?_ ?_;push_cast [iO,tN,h20'];rintro r os ⟨rfl,rfl⟩;push_cast [iO,tN,h20']))|((refine plc [1] (wconfig_own L 0 (by omega) hL hl) ?_ ?_;push_cast [iO,tN,h20'];rintro r os ⟨c,k1,⟨⟨hc,hwc⟩,hk1⟩,rfl,rfl⟩;push_cast [iO,tN,h20']))|((first|refine pC ?_|refine pQC ?_|refine pU ?_);push_cast [iO,tN,h20'])|(refine pif (fun h=>?_) (fun h=>?_)<;>first|exact pN h|push_cast [iO,tN,h20']))
 ·(refine retK_of [] ?_;push_cast [iO,tN])
 have hbl:=hwc.bl
 have hkl:=hwc.keep
 have hxl:=hwc.ext
 have hol:=hc.off
 have hml:=hc.len
 refine pl_weak (s':=⟨[(35,.c (.ptr 1 0)),(6,.c (.ptr 7 0)),(5,.c (.ptr 1 0)),(4,.c (.v (.bool false))),(2,.c (.ptr 0 0))],[.box 26 raw.e,tape L k1,.arr 36 6 (c.modules.map Mod.d),.arr 9 1 (c.blocked.map strD),.arr 9 1 (c.off.map strD),.arr 9 1 (c.keep.map strD),.arr 38 2 (c.extra.map Ext2.d),.box 26 [.own 2 c.modules.length,.own 3 c.blocked.length,.own 4 c.off.length,.own 5 c.keep.length,.own 6 c.extra.length]]⟩) (by (refine weak_fg ?_;push_cast [iO,tN])) ?_
 clear h
 have tkx:True:=trivial
 have hmf:∀ m ∈ c.modules,ModFit m:=fun m hm=>wm_fit m (hwc.sub.subset hm)
 obtain ⟨v,hv⟩:∃ n:Nat,fold (tapeAt L k1) 5=n:=by
  obtain ⟨hb,hc⟩:=fold_bds (tapeAt L k1) 5 (by omega)
  exact ⟨(fold (tapeAt L k1) 5).toNat,by omega⟩
 have hN:=next_pure L k1 5 (by omega) (by omega) hL hl
 rw [hv] at hN
 clear hv
 push_cast [iO,tN]
 by_cases v0:v=0
 ·subst v0
  have hM:=cn18_pure L (k1+1) (by omega) hL hl
  have hMz:=pick_le (L:=L) (k:=k1+1) (l:=cn18) (n:=300) (by decide) (by decide +kernel)
  obtain ⟨m,hm⟩:∃ m,pick L (k1+1) cn18=m:=⟨_,rfl⟩
  rw [hm] at hM hMz
  repeat' (first |  ((refine plc [1] (hN) ?_ ?_;push_cast [iO,tN];rintro r os ⟨rfl,rfl⟩;push_cast [iO,tN]))|(refine hidR 7 ?_)  | ((first|refine pC ?_|refine pQC ?_|refine pU ?_);push_cast [iO,tN])|(refine pif (fun h=>?_) (fun h=>?_)<;>first|exact pN h|push_cast [iO,tN]))
  refine unhid ?_
  (refine pwp_cut 7 [28,36,37,48,56,63,71] ?_;apply pwp_drawn_to;(focus kernel_rfl);(focus (simp only [List.length_cons,List.length_nil,Nat.reduceAdd];(repeat' first|((refine plc [1] (hM) ?_ ?_;push_cast [iO,tN];rintro r os ⟨rfl,rfl⟩;push_cast [iO,tN]))|((first|refine pah 0 ?_|refine pah 2 ?_|refine pah 5 ?_|refine pah 8 ?_);push_cast [iO,tN])|(refine pad ?_;first|with_reducible exact weak_cutS 7 [28,36,37,48,56,63,71] _|(refine weak_fg ?_;push_cast [iO,tN]))|((first|refine pas [1] ?_|refine pas [3] ?_|refine pas [4] ?_|refine pas [6] ?_|refine pas [7] ?_|refine pas [9] ?_);push_cast [iO,tN])|((first|refine pas [1,3] ?_|refine pas [1,4] ?_|refine pas [1,6] ?_);push_cast [iO,tN];refine ⟨?_,?_⟩));done));push_cast [iO,tN])
  refine pwp_weak (weak_last 2 (oneM m).d rfl (by simp [oneM,Mod.d,leDs,leD,isEmp])) ?_
  have tkx:(c.modules.map Mod.d++[(oneM m).d]).take (c.modules.length+1)=(c.modules++[oneM m]).map Mod.d:=by rw [List.map_append];exact List.take_of_length_le (by simp)
  have hfm1:(c.modules++[oneM m]).length≤9223372036854775807:=by rw [List.length_append,List.length_singleton];omega
  have hfm2:∀ x ∈ c.modules++[oneM m],ModFit x:=fun x hx=>(List.mem_append.1 hx).elim (hmf x) fun h=>by rw [List.mem_singleton.1 h];exact oneM_fit hMz
  have hfo:c.off.length≤9223372036854775807:=by omega
  have hfx:c.extra.length≤9223372036854775807:=by omega
  have hfd:FitC ⟨c.modules++[oneM m],c.blocked,c.off,c.keep,c.extra⟩:=⟨hfm1,hfm2,(by simp only;omega),hfo,(by simp only;omega),hfx⟩
  have hAd:=acheck_pure _ hfd
  have hRd:=rcheck18_pure _ hfd
  obtain ⟨q1,hq1⟩:∃ q,chkC raw=q:=⟨_,rfl⟩
  obtain ⟨q2,hq2⟩:∃ q,chkC ⟨c.modules++[oneM m],c.blocked,c.off,c.keep,c.extra⟩=q:=⟨_,rfl⟩
  rw [hq1] at hAr hRr
  rw [hq2] at hAd hRd
  push_cast [iO,tN]
  refine pwp_weak (weak_frz 2 (by omega)) ?_
  push_cast [iO,tN,take_ml,tkx]
  refine pwp_weak (weak_frz 3 (by omega)) ?_
  push_cast [iO,tN,take_ml,tkx]
  refine pwp_weak (weak_frz 4 (by omega)) ?_
  push_cast [iO,tN,take_ml,tkx]
  refine pwp_weak (weak_frz 5 (by omega)) ?_
  push_cast [iO,tN,take_ml,tkx]
  refine pwp_weak (weak_frz 6 (by omega)) ?_
  push_cast [iO,tN,take_ml,tkx]
  (refine pwp_cut 7 [28,36,37,48,56,63,71] ?_;apply pwp_drawn_to;(focus kernel_rfl);(focus (simp only [List.length_cons,List.length_nil,Nat.reduceAdd];(repeat' first|((refine plc [] (hAr) ?_ ?_;push_cast [iO,tN];rintro r os ⟨rfl,rfl⟩;push_cast [iO,tN]))|((refine plc [] (hRr) ?_ ?_;push_cast [iO,tN];rintro r os ⟨rfl,rfl⟩;push_cast [iO,tN]))|((refine plc [] (hAd) ?_ ?_;push_cast [iO,tN];rintro r os ⟨rfl,rfl⟩;push_cast [iO,tN]))|((refine plc [] (hRd) ?_ ?_;push_cast [iO,tN];rintro r os ⟨rfl,rfl⟩;push_cast [iO,tN]))|((refine plc [] (known18_pure) ?_ ?_;push_cast [iO,tN];rintro r os ⟨rfl,rfl⟩;push_cast [iO,tN]))|((first|refine pah 4 ?_|refine pah 5 ?_|refine pah 10 ?_|refine pah 11 ?_|refine pah 12 ?_|refine pah 14 ?_|refine pah 15 ?_);push_cast [iO,tN])|(refine pad ?_;first|with_reducible exact weak_cutS 7 [28,36,37,48,56,63,71] _|(refine weak_fg ?_;push_cast [iO,tN]))|((first|refine pas [0] ?_|refine pas [1] ?_|refine pas [2] ?_|refine pas [3] ?_|refine pas [6] ?_|refine pas [7] ?_|refine pas [8] ?_|refine pas [9] ?_|refine pas [13] ?_);push_cast [iO,tN])|((first|refine pas [0,2] ?_|refine pas [1,2] ?_|refine pas [6,8] ?_|refine pas [7,8] ?_);push_cast [iO,tN];refine ⟨?_,?_⟩));done));push_cast [iO,tN])
  (refine retK_of [] ?_;push_cast [iO,tN])
 have v0':¬ (v:Int)=0:=by omega
 have hfm1:c.modules.length≤9223372036854775807:=by omega
 have hfm2:=hmf
 have hfo:c.off.length≤9223372036854775807:=by omega
 have hfx:c.extra.length≤9223372036854775807:=by omega
 have hfold:∀ p:Nat,∃ n:Nat,fold (tapeAt L p) 2=n∧n < 2:=fun p=>by
  obtain ⟨hb,hc⟩:=fold_bds (tapeAt L p) 2 (by omega)
  exact ⟨(fold (tapeAt L p) 2).toNat,by omega,by omega⟩
 by_cases v1:v=1
 ·subst v1
  repeat' (first |  ((refine plc [1] (hN) ?_ ?_;push_cast [iO,tN];rintro r os ⟨rfl,rfl⟩;push_cast [iO,tN]))  | ((first|refine pC ?_|refine pQC ?_|refine pU ?_);push_cast [iO,tN])|(refine pif (fun h=>?_) (fun h=>?_)<;>first|exact pN h|push_cast [iO,tN]))
  (apply pwp_loop3 (α:=Nat × List Ext2) 7 [28,36,37,48,56,63,71] (fun z=>[]) (fun z=>[(1,tape L (k1+1+z.1)),(6,.arr 38 2 (z.2.map Ext2.d)),(7,.box 26 [.own 2 c.modules.length,.own 3 c.blocked.length,.own 4 c.off.length,.own 5 c.keep.length,.own 6 z.2.length])]) (fun z=>z.1+c.extra.length=z.2.length∧z.2.length≤129) (fun z=>130 - z.2.length) ((0,c.extra));(focus ((try push_cast [iO,tN]);rfl));(focus exact ⟨by simp,by simp only;omega⟩);(focus ((refine weak_fg ?_;try push_cast [iO,tN]))))
  rintro ⟨i,X⟩ ⟨hi,hX⟩
  simp only at hi hX ⊢
  push_cast [iO,tN]
  obtain ⟨n,hn,hn2⟩:=hfold (k1+1+i)
  have hx:=next_pure L (k1+1+i) 2 (by omega) (by omega) hL hl
  rw [hn] at hx
  by_cases hlt:X.length < 128+n
  ·have hlt':(X.length:Int) < 128+(n:Int):=by omega
   repeat' (first|((refine pwp_cut 7 [28,36,37,48,56,63,71] ?_;apply pwp_drawn_to;(focus kernel_rfl);(focus (simp only [List.length_cons,List.length_nil,Nat.reduceAdd];(repeat' first|((refine plc [1] (hx) ?_ ?_;push_cast [iO,tN,  hlt'];rintro r os ⟨rfl,rfl⟩;push_cast [iO,tN,  hlt']))|((first|refine pah 0 ?_|refine pah 2 ?_|refine pah 3 ?_|refine pah 5 ?_|refine pah 6 ?_);push_cast [iO,tN,  hlt'])|(refine pad ?_;first|with_reducible exact weak_cutS 7 [28,36,37,48,56,63,71] _|(refine weak_fg ?_;push_cast [iO,tN,  hlt']))|((first|refine pas [1] ?_|refine pas [4] ?_);push_cast [iO,tN,  hlt'])|((first|refine pas [1,4] ?_);push_cast [iO,tN,  hlt'];refine ⟨?_,?_⟩));done));push_cast [iO,tN,  hlt']))|(refine pwp_seq fun K hK=>?_)|(refine pwp_block ?_)|((first|refine pC ?_|refine pQC ?_|refine pU ?_);push_cast [iO,tN,hlt'])|(refine pif (fun h=>?_) (fun h=>?_)<;>first|exact pN h|push_cast [iO,tN,hlt']))
   refine pwp_cond ?_
   push_cast [iO,tN,hlt']
   refine pwp_skip ?_
   push_cast [iO,tN]
   refine pU ?_
   refine pwp_block ?_
   refine pwp_region ?_
   push_cast [iO,tN]
   repeat' (first|((first|refine pC ?_|refine pQC ?_|refine pU ?_);push_cast [iO,tN])|(refine pif (fun h=>?_) (fun h=>?_)<;>first|exact pN h|push_cast [iO,tN]))
   exact ⟨(i+1,X++[⟨⟨#[]⟩,⟨#[]⟩⟩]),⟨by simp only [List.length_append,List.length_cons,List.length_nil];omega,by simp only [List.length_append,List.length_cons,List.length_nil];omega⟩,(by (refine weak_fg ?_;push_cast [iO,tN,Ext2.d]);omega),by simp only [List.length_append,List.length_cons,List.length_nil];omega⟩
  ·have hlt':¬ (X.length:Int) < 128+(n:Int):=by omega
   repeat' (first|((refine pwp_cut 7 [28,36,37,48,56,63,71] ?_;apply pwp_drawn_to;(focus kernel_rfl);(focus (simp only [List.length_cons,List.length_nil,Nat.reduceAdd];(repeat' first|((refine plc [1] (hx) ?_ ?_;push_cast [iO,tN,  hlt'];rintro r os ⟨rfl,rfl⟩;push_cast [iO,tN,  hlt']))|((first|refine pah 0 ?_|refine pah 2 ?_|refine pah 3 ?_|refine pah 5 ?_|refine pah 6 ?_);push_cast [iO,tN,  hlt'])|(refine pad ?_;first|with_reducible exact weak_cutS 7 [28,36,37,48,56,63,71] _|(refine weak_fg ?_;push_cast [iO,tN,  hlt']))|((first|refine pas [1] ?_|refine pas [4] ?_);push_cast [iO,tN,  hlt'])|((first|refine pas [1,4] ?_);push_cast [iO,tN,  hlt'];refine ⟨?_,?_⟩));done));push_cast [iO,tN,  hlt']))|(refine pwp_seq fun K hK=>?_)|(refine pwp_block ?_)|((first|refine pC ?_|refine pQC ?_|refine pU ?_);push_cast [iO,tN,hlt'])|(refine pif (fun h=>?_) (fun h=>?_)<;>first|exact pN h|push_cast [iO,tN,hlt']))
   refine pwp_cond ?_
   push_cast [iO,tN,hlt']
   refine pwp_exit ?_
   push_cast [iO,tN]
   have hfx:X.length≤9223372036854775807:=by omega
   have hfd:FitC ⟨c.modules,c.blocked,c.off,c.keep,X⟩:=⟨hfm1,hfm2,(by simp only;omega),hfo,(by simp only;omega),hfx⟩
   have hAd:=acheck_pure _ hfd
   have hRd:=rcheck18_pure _ hfd
   obtain ⟨q1,hq1⟩:∃ q,chkC raw=q:=⟨_,rfl⟩
   obtain ⟨q2,hq2⟩:∃ q,chkC ⟨c.modules,c.blocked,c.off,c.keep,X⟩=q:=⟨_,rfl⟩
   rw [hq1] at hAr hRr
   rw [hq2] at hAd hRd
   push_cast [iO,tN]
   refine pwp_weak (weak_frz 2 (by omega)) ?_
   push_cast [iO,tN,take_ml,tkx]
   refine pwp_weak (weak_frz 3 (by omega)) ?_
   push_cast [iO,tN,take_ml,tkx]
   refine pwp_weak (weak_frz 4 (by omega)) ?_
   push_cast [iO,tN,take_ml,tkx]
   refine pwp_weak (weak_frz 5 (by omega)) ?_
   push_cast [iO,tN,take_ml,tkx]
   refine pwp_weak (weak_frz 6 (by omega)) ?_
   push_cast [iO,tN,take_ml,tkx]
   (refine pwp_cut 7 [28,36,37,48,56,63,71] ?_;apply pwp_drawn_to;(focus kernel_rfl);(focus (simp only [List.length_cons,List.length_nil,Nat.reduceAdd];(repeat' first|((refine plc [] (hAr) ?_ ?_;push_cast [iO,tN];rintro r os ⟨rfl,rfl⟩;push_cast [iO,tN]))|((refine plc [] (hRr) ?_ ?_;push_cast [iO,tN];rintro r os ⟨rfl,rfl⟩;push_cast [iO,tN]))|((refine plc [] (hAd) ?_ ?_;push_cast [iO,tN];rintro r os ⟨rfl,rfl⟩;push_cast [iO,tN]))|((refine plc [] (hRd) ?_ ?_;push_cast [iO,tN];rintro r os ⟨rfl,rfl⟩;push_cast [iO,tN]))|((refine plc [] (known18_pure) ?_ ?_;push_cast [iO,tN];rintro r os ⟨rfl,rfl⟩;push_cast [iO,tN]))|((first|refine pah 4 ?_|refine pah 5 ?_|refine pah 10 ?_|refine pah 11 ?_|refine pah 12 ?_|refine pah 14 ?_|refine pah 15 ?_);push_cast [iO,tN])|(refine pad ?_;first|with_reducible exact weak_cutS 7 [28,36,37,48,56,63,71] _|(refine weak_fg ?_;push_cast [iO,tN]))|((first|refine pas [0] ?_|refine pas [1] ?_|refine pas [2] ?_|refine pas [3] ?_|refine pas [6] ?_|refine pas [7] ?_|refine pas [8] ?_|refine pas [9] ?_|refine pas [13] ?_);push_cast [iO,tN])|((first|refine pas [0,2] ?_|refine pas [1,2] ?_|refine pas [6,8] ?_|refine pas [7,8] ?_);push_cast [iO,tN];refine ⟨?_,?_⟩));done));push_cast [iO,tN])
   (refine retK_of [] ?_;push_cast [iO,tN])
 have v1':¬ (v:Int)=1:=by omega
 by_cases v2:v=2
 ·subst v2
  repeat' (first |  ((refine plc [1] (hN) ?_ ?_;push_cast [iO,tN];rintro r os ⟨rfl,rfl⟩;push_cast [iO,tN]))  | ((first|refine pC ?_|refine pQC ?_|refine pU ?_);push_cast [iO,tN])|(refine pif (fun h=>?_) (fun h=>?_)<;>first|exact pN h|push_cast [iO,tN]))
  (apply pwp_loop3 (α:=Nat × List ByteArray) 7 [28,36,37,48,56,63,71] (fun z=>[]) (fun z=>[(1,tape L (k1+1+z.1)),(4,.arr 9 1 (z.2.map strD)),(7,.box 26 [.own 2 c.modules.length,.own 3 c.blocked.length,.own 4 z.2.length,.own 5 c.keep.length,.own 6 c.extra.length])]) (fun z=>z.1+c.off.length=z.2.length∧z.2.length≤129) (fun z=>130 - z.2.length) ((0,c.off));(focus ((try push_cast [iO,tN]);rfl));(focus exact ⟨by simp,by simp only;omega⟩);(focus ((refine weak_fg ?_;try push_cast [iO,tN]))))
  rintro ⟨i,O⟩ ⟨hi,hX⟩
  simp only at hi hX ⊢
  push_cast [iO,tN]
  obtain ⟨n,hn,hn2⟩:=hfold (k1+1+i)
  have hx:=next_pure L (k1+1+i) 2 (by omega) (by omega) hL hl
  rw [hn] at hx
  by_cases hlt:O.length < 128+n
  ·have hlt':(O.length:Int) < 128+(n:Int):=by omega
   repeat' (first|((refine pwp_cut 7 [28,36,37,48,56,63,71] ?_;apply pwp_drawn_to;(focus kernel_rfl);(focus (simp only [List.length_cons,List.length_nil,Nat.reduceAdd];(repeat' first|((refine plc [1] (hx) ?_ ?_;push_cast [iO,tN,  hlt'];rintro r os ⟨rfl,rfl⟩;push_cast [iO,tN,  hlt']))|((first|refine pah 0 ?_|refine pah 2 ?_|refine pah 3 ?_|refine pah 5 ?_|refine pah 6 ?_);push_cast [iO,tN,  hlt'])|(refine pad ?_;first|with_reducible exact weak_cutS 7 [28,36,37,48,56,63,71] _|(refine weak_fg ?_;push_cast [iO,tN,  hlt']))|((first|refine pas [1] ?_|refine pas [4] ?_);push_cast [iO,tN,  hlt'])|((first|refine pas [1,4] ?_);push_cast [iO,tN,  hlt'];refine ⟨?_,?_⟩));done));push_cast [iO,tN,  hlt']))|(refine pwp_seq fun K hK=>?_)|(refine pwp_block ?_)|((first|refine pC ?_|refine pQC ?_|refine pU ?_);push_cast [iO,tN,hlt'])|(refine pif (fun h=>?_) (fun h=>?_)<;>first|exact pN h|push_cast [iO,tN,hlt']))
   refine pwp_cond ?_
   push_cast [iO,tN,hlt']
   refine pwp_skip ?_
   push_cast [iO,tN]
   refine pU ?_
   refine pwp_block ?_
   refine pwp_region ?_
   push_cast [iO,tN]
   repeat' (first|((first|refine pC ?_|refine pQC ?_|refine pU ?_);push_cast [iO,tN])|(refine pif (fun h=>?_) (fun h=>?_)<;>first|exact pN h|push_cast [iO,tN]))
   exact ⟨(i+1,O++[⟨#[120]⟩]),⟨by simp only [List.length_append,List.length_cons,List.length_nil];omega,by simp only [List.length_append,List.length_cons,List.length_nil];omega⟩,(by (refine weak_fg ?_;push_cast [iO,tN,strD]);omega),by simp only [List.length_append,List.length_cons,List.length_nil];omega⟩
  ·have hlt':¬ (O.length:Int) < 128+(n:Int):=by omega
   repeat' (first|((refine pwp_cut 7 [28,36,37,48,56,63,71] ?_;apply pwp_drawn_to;(focus kernel_rfl);(focus (simp only [List.length_cons,List.length_nil,Nat.reduceAdd];(repeat' first|((refine plc [1] (hx) ?_ ?_;push_cast [iO,tN,  hlt'];rintro r os ⟨rfl,rfl⟩;push_cast [iO,tN,  hlt']))|((first|refine pah 0 ?_|refine pah 2 ?_|refine pah 3 ?_|refine pah 5 ?_|refine pah 6 ?_);push_cast [iO,tN,  hlt'])|(refine pad ?_;first|with_reducible exact weak_cutS 7 [28,36,37,48,56,63,71] _|(refine weak_fg ?_;push_cast [iO,tN,  hlt']))|((first|refine pas [1] ?_|refine pas [4] ?_);push_cast [iO,tN,  hlt'])|((first|refine pas [1,4] ?_);push_cast [iO,tN,  hlt'];refine ⟨?_,?_⟩));done));push_cast [iO,tN,  hlt']))|(refine pwp_seq fun K hK=>?_)|(refine pwp_block ?_)|((first|refine pC ?_|refine pQC ?_|refine pU ?_);push_cast [iO,tN,hlt'])|(refine pif (fun h=>?_) (fun h=>?_)<;>first|exact pN h|push_cast [iO,tN,hlt']))
   refine pwp_cond ?_
   push_cast [iO,tN,hlt']
   refine pwp_exit ?_
   push_cast [iO,tN]
   have hfo:O.length≤9223372036854775807:=by omega
   have hfd:FitC ⟨c.modules,c.blocked,O,c.keep,c.extra⟩:=⟨hfm1,hfm2,(by simp only;omega),hfo,(by simp only;omega),hfx⟩
   have hAd:=acheck_pure _ hfd
   have hRd:=rcheck18_pure _ hfd
   obtain ⟨q1,hq1⟩:∃ q,chkC raw=q:=⟨_,rfl⟩
   obtain ⟨q2,hq2⟩:∃ q,chkC ⟨c.modules,c.blocked,O,c.keep,c.extra⟩=q:=⟨_,rfl⟩
   rw [hq1] at hAr hRr
   rw [hq2] at hAd hRd
   push_cast [iO,tN]
   refine pwp_weak (weak_frz 2 (by omega)) ?_
   push_cast [iO,tN,take_ml,tkx]
   refine pwp_weak (weak_frz 3 (by omega)) ?_
   push_cast [iO,tN,take_ml,tkx]
   refine pwp_weak (weak_frz 4 (by omega)) ?_
   push_cast [iO,tN,take_ml,tkx]
   refine pwp_weak (weak_frz 5 (by omega)) ?_
   push_cast [iO,tN,take_ml,tkx]
   refine pwp_weak (weak_frz 6 (by omega)) ?_
   push_cast [iO,tN,take_ml,tkx]
   (refine pwp_cut 7 [28,36,37,48,56,63,71] ?_;apply pwp_drawn_to;(focus kernel_rfl);(focus (simp only [List.length_cons,List.length_nil,Nat.reduceAdd];(repeat' first|((refine plc [] (hAr) ?_ ?_;push_cast [iO,tN];rintro r os ⟨rfl,rfl⟩;push_cast [iO,tN]))|((refine plc [] (hRr) ?_ ?_;push_cast [iO,tN];rintro r os ⟨rfl,rfl⟩;push_cast [iO,tN]))|((refine plc [] (hAd) ?_ ?_;push_cast [iO,tN];rintro r os ⟨rfl,rfl⟩;push_cast [iO,tN]))|((refine plc [] (hRd) ?_ ?_;push_cast [iO,tN];rintro r os ⟨rfl,rfl⟩;push_cast [iO,tN]))|((refine plc [] (known18_pure) ?_ ?_;push_cast [iO,tN];rintro r os ⟨rfl,rfl⟩;push_cast [iO,tN]))|((first|refine pah 4 ?_|refine pah 5 ?_|refine pah 10 ?_|refine pah 11 ?_|refine pah 12 ?_|refine pah 14 ?_|refine pah 15 ?_);push_cast [iO,tN])|(refine pad ?_;first|with_reducible exact weak_cutS 7 [28,36,37,48,56,63,71] _|(refine weak_fg ?_;push_cast [iO,tN]))|((first|refine pas [0] ?_|refine pas [1] ?_|refine pas [2] ?_|refine pas [3] ?_|refine pas [6] ?_|refine pas [7] ?_|refine pas [8] ?_|refine pas [9] ?_|refine pas [13] ?_);push_cast [iO,tN])|((first|refine pas [0,2] ?_|refine pas [1,2] ?_|refine pas [6,8] ?_|refine pas [7,8] ?_);push_cast [iO,tN];refine ⟨?_,?_⟩));done));push_cast [iO,tN])
   (refine retK_of [] ?_;push_cast [iO,tN])
 ·have v2':¬ (v:Int)=2:=by omega
  repeat' (first|((refine plc [1] (hN) ?_ ?_;push_cast [iO,tN,v0',v1',v2'];rintro r os ⟨rfl,rfl⟩;push_cast [iO,tN,v0',v1',v2']))|(refine hidR 14 ?_)|((first|refine pC ?_|refine pQC ?_|refine pU ?_);push_cast [iO,tN,v0',v1',v2'])|(refine pif (fun h=>?_) (fun h=>?_)<;>first|exact pN h|push_cast [iO,tN,v0',v1',v2']))
  refine unhid ?_
  have hfd:FitC ⟨c.modules,c.blocked,c.off,c.keep,c.extra⟩:=⟨hfm1,hfm2,(by simp only;omega),hfo,(by simp only;omega),hfx⟩
  have hAd:=acheck_pure _ hfd
  have hRd:=rcheck18_pure _ hfd
  obtain ⟨q1,hq1⟩:∃ q,chkC raw=q:=⟨_,rfl⟩
  obtain ⟨q2,hq2⟩:∃ q,chkC ⟨c.modules,c.blocked,c.off,c.keep,c.extra⟩=q:=⟨_,rfl⟩
  rw [hq1] at hAr hRr
  rw [hq2] at hAd hRd
  push_cast [iO,tN]
  refine pwp_weak (weak_frz 2 (by omega)) ?_
  push_cast [iO,tN,take_ml,tkx]
  refine pwp_weak (weak_frz 3 (by omega)) ?_
  push_cast [iO,tN,take_ml,tkx]
  refine pwp_weak (weak_frz 4 (by omega)) ?_
  push_cast [iO,tN,take_ml,tkx]
  refine pwp_weak (weak_frz 5 (by omega)) ?_
  push_cast [iO,tN,take_ml,tkx]
  refine pwp_weak (weak_frz 6 (by omega)) ?_
  push_cast [iO,tN,take_ml,tkx]
  (refine pwp_cut 7 [28,36,37,48,56,63,71] ?_;apply pwp_drawn_to;(focus kernel_rfl);(focus (simp only [List.length_cons,List.length_nil,Nat.reduceAdd];(repeat' first|((refine plc [] (hAr) ?_ ?_;push_cast [iO,tN];rintro r os ⟨rfl,rfl⟩;push_cast [iO,tN]))|((refine plc [] (hRr) ?_ ?_;push_cast [iO,tN];rintro r os ⟨rfl,rfl⟩;push_cast [iO,tN]))|((refine plc [] (hAd) ?_ ?_;push_cast [iO,tN];rintro r os ⟨rfl,rfl⟩;push_cast [iO,tN]))|((refine plc [] (hRd) ?_ ?_;push_cast [iO,tN];rintro r os ⟨rfl,rfl⟩;push_cast [iO,tN]))|((refine plc [] (known18_pure) ?_ ?_;push_cast [iO,tN];rintro r os ⟨rfl,rfl⟩;push_cast [iO,tN]))|((first|refine pah 4 ?_|refine pah 5 ?_|refine pah 10 ?_|refine pah 11 ?_|refine pah 12 ?_|refine pah 14 ?_|refine pah 15 ?_);push_cast [iO,tN])|(refine pad ?_;first|with_reducible exact weak_cutS 7 [28,36,37,48,56,63,71] _|(refine weak_fg ?_;push_cast [iO,tN]))|((first|refine pas [0] ?_|refine pas [1] ?_|refine pas [2] ?_|refine pas [3] ?_|refine pas [6] ?_|refine pas [7] ?_|refine pas [8] ?_|refine pas [9] ?_|refine pas [13] ?_);push_cast [iO,tN])|((first|refine pas [0,2] ?_|refine pas [1,2] ?_|refine pas [6,8] ?_|refine pas [7,8] ?_);push_cast [iO,tN];refine ⟨?_,?_⟩));done));push_cast [iO,tN])
  (refine retK_of [] ?_;push_cast [iO,tN])
end Go.Proofs.YthhfpcbpiphfiaaGreatDoor
namespace Go.Proofs.YthhfpcbpiphfiaaGreatDoor
open Go.ChangeShapes Go.WideShapes Go.ChangeAt Go.RowKit
open Go.ChangeMaps (open_string shut_string)
set_option linter.unusedVariables false
set_option linter.unusedSimpArgs false
theorem int_bd {n:Int} (h:(Lit.int .i64 n).wf=true) : -9223372036854775808≤n∧n≤9223372036854775807:=by
 simpa [Lit.wf,IntKind.min,IntKind.max,IntKind.signed,IntKind.bits] using h
theorem trod_rows {H:Type} {enc:TypeId × Value → H} {P:Program} {W:World} {t e:TypeId} {size fuel:Nat} {A:Option Addr} {n c:Nat} {x:DataW H × List MemPlace}
  (ht:P.underlying t=some (.slice e)) (hC:P.cellsOf e=size) (hp:0 < size) (h:DataW.trod enc P W 0 (fun _=>true) true fuel t [.slice A n c]=some x) :
  ∃ F:Nat → List Value,n≤c∧c≤maxLen∧(∀ i,i < n → (F i).length=size∧∃ m y,DataW.trod enc P W 0 (fun _=>true) true m e (F i)=some y) ∧
   Rd W (fun _=>True) size A n ((List.range n).flatMap F):=by
 rcases Go.Deep.open_slice ht h with ⟨hcs,_⟩|⟨a,len,cap,m,fu,D,Pl,hcs,_,hl,hm,hmm,_,hi⟩
 ·simp at hcs
  obtain ⟨rfl,rfl,rfl⟩:=hcs
  exact ⟨fun _=>[],Nat.le_refl _,by simp [maxLen],fun i hi=>absurd hi (by omega),by simpa using Rd.nil⟩
 ·simp at hcs
  obtain ⟨rfl,rfl,rfl⟩:=hcs
  simp only [if_true] at hmm
  subst hmm
  obtain ⟨F,hF⟩:=Go.Deep.choose_lt (n:=n) (p:=fun i (cs':List Value)=>W.cells? 0 (a.add (i * P.cellsOf e)) (P.cellsOf e)=some cs'∧DataW.trod enc P W 0 (fun _=>true) true fu e cs'=some (D i,Pl i))
   (fun i h=>hi i (by omega))
  have hlen:∀ i,i < n → (F i).length=size:=fun i h=>by
   have:=(World.cells?_some (hF i h).1).2.1
   rw [this,hC]
  have hflat:∀ k,k≤n → ((List.range k).flatMap F).length=k * size:=by
   intro k
   induction k with
   | zero=>intro _;simp
   | succ k ih =>
    intro hk
    rw [List.range_succ,List.flatMap_append,List.length_append,ih (by omega)]
    simp [hlen k (by omega),Nat.add_mul]
  refine ⟨F,hl,hm,fun i h=>⟨hlen i h,fu,_,(hF i h).2⟩,hflat n (Nat.le_refl _),fun hn=>?_⟩
  have hcell:∀ i,i < n → ∀ j,j < size → W.cell? ((a.add (i * size)).add j)=(F i)[j]?:=fun i h j hj=>by
   have h1:=(World.cells?_some (hF i h).1).2.2 j (by rw [hC];exact hj)
   rw [hC] at h1
   exact h1
  have hget:∀ k,k≤n → ∀ j,((List.range k).flatMap F)[j]? = if j < k * size then (F (j / size))[j % size]? else none:=by
   intro k
   induction k with
   | zero=>intro _ j;simp
   | succ k ih =>
    intro hk j
    rw [List.range_succ,List.flatMap_append]
    by_cases hj:j < k * size
    ·rw [List.getElem?_append_left (by rw [hflat k (by omega)];exact hj),ih (by omega),if_pos hj,if_pos (by rw [Nat.add_mul];omega)]
    ·rw [List.getElem?_append_right (by rw [hflat k (by omega)];omega),hflat k (by omega)]
     simp only [List.flatMap_cons,List.flatMap_nil,List.append_nil]
     by_cases hj2:j < (k+1) * size
     ·have hj3:j - k * size < size:=by rw [Nat.add_mul] at hj2;omega
      have e1:j / size=k:=by
       rw [show j=(j - k * size)+k * size by omega,Nat.add_mul_div_right _ _ hp,Nat.div_eq_of_lt hj3];omega
      have e2:j % size=j - k * size:=by
       conv=>lhs;rw [show j=(j - k * size)+k * size by omega]
       rw [Nat.add_mul_mod_self_right,Nat.mod_eq_of_lt hj3]
      rw [if_pos hj2,e1,e2]
     ·rw [if_neg hj2,List.getElem?_eq_none (by rw [hlen k (by omega)];rw [Nat.add_mul] at hj2;omega)]
  obtain ⟨b,off,spot⟩:=a
  have h0:=hcell 0 (by omega) 0 hp
  have hs:spot=none:=by
   have hx:(F 0)[0]? = some ((F 0)[0]'(by rw [hlen 0 (by omega)];exact hp)):=List.getElem?_eq_getElem _
   rw [hx] at h0
   simpa [Addr.add] using World.cell?_spot h0
  subst hs
  have h0b:b < W.heap.size:=by
   have hx:(F 0)[0]? = some ((F 0)[0]'(by rw [hlen 0 (by omega)];exact hp)):=List.getElem?_eq_getElem _
   rw [hx] at h0
   have:=World.block_lt_of_cell? _ _ h0
   simpa [Addr.add_lit] using this
  refine ⟨b,off,rfl,trivial,h0b,fun j u hu=>?_⟩
  rw [hget n (Nat.le_refl _)] at hu
  split at hu
  ·rename_i hj
   have hq:j / size < n:=Nat.div_lt_of_lt_mul (by rw [Nat.mul_comm];exact hj)
   have h1:=hcell (j / size) hq (j % size) (Nat.mod_lt _ hp)
   rw [Addr.add_lit,Addr.add_lit,Nat.add_assoc,Nat.mul_comm,Nat.div_add_mod] at h1
   rw [h1,hu]
  ·cases hu
end Go.Proofs.YthhfpcbpiphfiaaGreatDoor
namespace Go.Proofs.YthhfpcbpiphfiaaGreatDoor
open Go.ChangeShapes Go.WideShapes Go.ChangeAt Go.RowKit
set_option linter.unusedVariables false
set_option linter.unusedSimpArgs false
inductive Sh where
 | int (k:IntKind)
 | str
 | bool
 | sl (els:List Sh)
mutual
def TD:Sh → D → Prop
 | .int k,d=>∃ n,d = .v (.int k n)∧(Lit.int k n).wf=true
 | .str,d=>∃ s:ByteArray,d = .v (.string s)∧s.size≤maxLen
 | .bool,d=>∃ b,d = .v (.bool b)
 | .sl ss,d=>∃ rows,d = .sl ss.length rows∧rows.length≤maxLen∧∀ r ∈ rows,TR ss r
def TR:List Sh → List D → Prop
 | [],r=>r=[]
 | s :: ss,r=>∃ d r',r=d :: r'∧TD s d∧TR ss r'
end
theorem TR.append:∀ {a b:List Sh} {x y:List D},TR a x → TR b y → TR (a++b) (x++y)
 | [],b,x,y,h1,h2=>by rw [TR] at h1;subst h1;exact h2
 | s :: a,b,x,y,h1,h2=>by
  rw [TR] at h1
  obtain ⟨d,r',rfl,h3,h4⟩:=h1
  show TR (s :: (a++b)) (d :: (r'++y))
  rw [TR]
  exact ⟨d,r'++y,rfl,h3,h4.append h2⟩
theorem TR.len:∀ {a:List Sh} {x:List D},TR a x → x.length=a.length
 | [],x,h=>by rw [TR] at h;subst h;rfl
 | s :: a,x,h=>by
  rw [TR] at h
  obtain ⟨d,r',rfl,h3,h4⟩:=h
  simp [h4.len]
mutual
def shOf (P:Program):Nat → TypeId → Option (List Sh)
 | 0,_=>none
 | n+1,t=>match P.underlying t with
  | some (.int k)=>some [.int k]
  | some .string=>some [.str]
  | some .bool=>some [.bool]
  | some (.slice e)=>match shOf P n e with
   | some ss=>if 0 < ss.length∧P.cellsOf e=ss.length then some [.sl ss] else none
   | none=>none
  | some (.struct fs)=>match shFs P n fs.toList 0 with
   | some ss=>if P.cellsOf t=ss.length then some ss else none
   | none=>none
  | _=>none
def shFs (P:Program):Nat → List Field → Nat → Option (List Sh)
 | 0,_,_=>none
 | n+1,[],_=>some []
 | n+1,f :: fs,o=>match shOf P n f.type,shFs P n fs (o+P.cellsOf f.type) with
  | some ss,some rest=>if f.offset=o∧P.cellsOf f.type=ss.length then some (ss++rest) else none
  | _,_=>none
end
section
variable {H:Type} {enc:TypeId × Value → H} {P:Program} {W:World}
def Here (W:World) (b:Nat):Prop:=b < W.heap.size
theorem rd_here {sz n:Nat} {A:Option Addr} {xs:List Value} (h:Rd W (fun _=>True) sz A n xs):Rd W (Here W) sz A n xs :=
 ⟨h.1,fun hn=>by obtain ⟨b,o,h1,_,h2,h3⟩:=h.2 hn;exact ⟨b,o,h1,h2,h2,h3⟩⟩
mutual
theorem sh_ok:∀ (n:Nat) (t:TypeId) (ss:List Sh) (cs:List Value) (fuel:Nat) (y:DataW H × List MemPlace),shOf P n t=some ss → DataW.trod enc P W 0 (fun _=>true) true fuel t cs=some y →
  ∃ ds,TR ss ds∧All2 (RD W (Here W)) ds cs
 | 0,t,ss,cs,fuel,y,h,_=>by simp [shOf] at h
 | n+1,t,ss,cs,fuel,y,h,ht=>by
  rw [shOf] at h
  split at h
  ·rename_i k hu
   cases h
   obtain ⟨m,rfl,_,hw⟩:=DataW.trod_int hu ht
   refine ⟨[.v (.int k m)],?_,?_⟩
   ·rw [TR];exact ⟨_,_,rfl,by rw [TD];exact ⟨m,rfl,hw⟩,by rw [TR]⟩
   ·exact ⟨by rw [RD];exact ⟨rfl,rfl⟩,trivial⟩
  ·rename_i hu
   cases h
   obtain ⟨s,rfl,_,hs⟩:=DataW.trod_string hu ht
   refine ⟨[.v (.string s)],?_,?_⟩
   ·rw [TR];exact ⟨_,_,rfl,by rw [TD];exact ⟨s,rfl,hs⟩,by rw [TR]⟩
   ·exact ⟨by rw [RD];exact ⟨rfl,rfl⟩,trivial⟩
  ·rename_i hu
   cases h
   obtain ⟨b,rfl,_⟩:=DataW.trod_bool hu ht
   refine ⟨[.v (.bool b)],?_,?_⟩
   ·rw [TR];exact ⟨_,_,rfl,by rw [TD];exact ⟨b,rfl⟩,by rw [TR]⟩
   ·exact ⟨by rw [RD];exact ⟨rfl,rfl⟩,trivial⟩
  ·rename_i e hu
   split at h
   ·rename_i es he
    split at h
    ·rename_i hc
     cases h
     have hcs:∃ A len c,cs=[.slice A len c]:=by
      rcases Go.Deep.open_slice hu ht with ⟨h1,_⟩|⟨a,len,cap,m,fu,D,Pl,h1,_⟩
      ·exact ⟨_,_,_,h1⟩
      ·exact ⟨_,_,_,h1⟩
     obtain ⟨A,len,c,rfl⟩:=hcs
     obtain ⟨F,h1,h2,h3,h4⟩:=trod_rows hu hc.2 hc.1 ht
     have hall:∀ i,i < len → ∃ ds,TR es ds∧All2 (RD W (Here W)) ds (F i):=fun i hi=>by
      obtain ⟨_,m,y',hy⟩:=h3 i hi
      exact sh_ok n e es (F i) m y' he hy
     obtain ⟨G,hG⟩:=Go.Deep.choose_lt (n:=len) (p:=fun i ds=>TR es ds∧All2 (RD W (Here W)) ds (F i)) hall
     have hrows:∀ k,k≤len → All2 (RD W (Here W)) ((List.range k).map G).flatten ((List.range k).flatMap F):=by
      intro k
      induction k with
      | zero=>intro _;trivial
      | succ k ih =>
       intro hk
       rw [List.range_succ,List.map_append,List.flatten_append,List.flatMap_append]
       exact (ih (by omega)).append (by simpa using (hG k (by omega)).2)
     have hlen:((List.range len).map G).length=len:=by simp
     refine ⟨[.sl es.length ((List.range len).map G)],?_,?_⟩
     ·rw [TR]
      refine ⟨_,_,rfl,?_,by rw [TR]⟩
      rw [TD]
      refine ⟨_,rfl,by rw [hlen];exact Nat.le_trans h1 h2,fun r hr=>?_⟩
      obtain ⟨i,hi,rfl⟩:=List.mem_map.1 hr
      exact (hG i (List.mem_range.1 hi)).1
     ·refine ⟨?_,trivial⟩
      rw [rd_sl]
      refine ⟨A,c,_,by rw [hlen],by rw [hlen];exact h1,by rw [hlen];exact rd_here h4,?_⟩
      refine ⟨fun r hr=>?_,hrows len (Nat.le_refl _)⟩
      obtain ⟨i,hi,rfl⟩:=List.mem_map.1 hr
      exact (hG i (List.mem_range.1 hi)).1.len
    ·cases h
   ·cases h
  ·rename_i fs hu
   split at h
   ·rename_i ss' hfs
    split at h
    ·rename_i hc
     cases h
     obtain ⟨xs,m,_,_,hl,hlen,hf⟩:=DataW.trod_struct hu ht
     obtain ⟨ds,h1,h2⟩:=shFs_ok n fs.toList 0 ss cs hfs (by omega) (fun i f hi=>by
      have h1:=hf i f (by simpa using hi)
      have hi2:i < xs.length:=by
       have:=(List.getElem?_eq_some_iff.1 hi).1
       simp at this
       omega
      rw [List.getElem?_eq_getElem hi2] at h1
      exact ⟨_,_,h1⟩)
     refine ⟨ds,h1,?_⟩
     rw [List.drop_zero,List.take_of_length_le (by omega)] at h2
     exact h2
    ·cases h
   ·cases h
  ·cases h
theorem shFs_ok:∀ (n:Nat) (fs:List Field) (o:Nat) (ss:List Sh) (cs:List Value),shFs P n fs o=some ss → o+ss.length≤cs.length →
  (∀ (i:Nat) (f:Field),fs[i]? = some f → ∃ m y,DataW.trod enc P W 0 (fun _=>true) true m f.type ((cs.drop f.offset).take (P.cellsOf f.type))=some y) →
  ∃ ds,TR ss ds∧All2 (RD W (Here W)) ds ((cs.drop o).take ss.length)
 | 0,fs,o,ss,cs,h,_,_=>by simp [shFs] at h
 | n+1,[],o,ss,cs,h,_,_=>by
  rw [shFs] at h
  cases h
  exact ⟨[],by rw [TR],by simp [All2]⟩
 | n+1,f :: fs,o,ss,cs,h,hle,hf=>by
  rw [shFs] at h
  split at h
  ·rename_i s1 s2 h1 h2
   split at h
   ·rename_i hc
    cases h
    rw [List.length_append] at hle
    obtain ⟨m,y,hy⟩:=hf 0 f rfl
    rw [hc.1,hc.2] at hy
    obtain ⟨d1,t1,a1⟩:=sh_ok n f.type s1 _ m y h1 hy
    obtain ⟨d2,t2,a2⟩:=shFs_ok n fs (o+P.cellsOf f.type) s2 cs h2 (by omega) (fun i g hi=>hf (i+1) g (by simpa using hi))
    refine ⟨d1++d2,t1.append t2,?_⟩
    rw [List.length_append,List.take_add,List.drop_drop,← hc.2]
    have:=a1.append (by simpa using a2)
    rw [hc.2] at this ⊢
    exact this
   ·cases h
  ·cases h
end
end
def G0 (W:World):G:=⟨0,fun _=>0,fun _=>0,Here W⟩
theorem mem0 {W:World} (hp:Pin W) (hb:∀ b,PinB b → b < W.heap.size):MemOk (G0 W) [] W :=
 ⟨rfl,fun k o h=>by simp at h,fun k k' h=>absurd h (by simp [G0]),fun k h=>absurd h (by simp [G0]),fun b h=>h,hp,hb⟩
theorem calls_of_pure {P:Program} {g:FuncId} {args:List PV} {vs:Array Value} {W:World} {v:Value} (h:PCalls P g args [] fun r os=>r = .c (.v v)∧os=[]) (hp:Pin W) (hb:∀ b,PinB b → b < W.heap.size)
  (hx:All2 (RP W (G0 W)) args vs.toList):Calls P g vs W fun e W'=>e = .returned v∧Ext No W W':=by
 have:=h (G0 W) W vs.toList (mem0 hp hb) hx
 rw [Array.toArray_toList] at this
 refine this.mono ?_
 rintro e w' ⟨r,os',Γ',y,rfl,⟨rfl,_⟩,hr,_,_,hg⟩
 have h1:y=v:=hr.1
 subst h1
 exact ⟨rfl,hg.ext.mono fun b ⟨k,hk,_⟩=>absurd hk (by simp [G0])⟩
section
variable {H:Type} {enc:TypeId × Value → H} {P:Program} {W:World}
theorem open_sl {base:Nat} {t e:TypeId} {v:Value} {d:DataW H} {ps:List MemPlace} (n:Nat) (ss:List Sh) (ht:P.underlying t=some (.slice e)) (hs:shOf P n t=some [.sl ss]) (hv:Value.okWide P W .any base t v) (h:DataW.Trod enc P W 0 (fun _=>true) true t v d ps) :
  ∃ rows,rows.length≤maxLen∧(∀ r ∈ rows,TR ss r)∧RP W (G0 W) (.c (.sl ss.length rows)) v:=by
 obtain ⟨A,len,c,rfl⟩:=okWide_slice ht hv
 obtain ⟨fuel,hf⟩:=h
 obtain ⟨ds,h1,h2⟩:=sh_ok n t [.sl ss] [.slice A len c] fuel _ hs (by simpa [Value.cells] using hf)
 rw [TR] at h1
 obtain ⟨d',r',rfl,h3,h4⟩:=h1
 rw [TR] at h4
 subst h4
 rw [TD] at h3
 obtain ⟨rows,rfl,h5,h6⟩:=h3
 exact ⟨rows,h5,h6,h2.1⟩
theorem open_st {base:Nat} {t:TypeId} {fs:Array Field} {v:Value} {d:DataW H} {ps:List MemPlace} (n:Nat) (ss:List Sh) (ht:P.underlying t=some (.struct fs)) (hs:shOf P n t=some ss) (hv:Value.okWide P W .any base t v) (h:DataW.Trod enc P W 0 (fun _=>true) true t v d ps) :
  ∃ ds,TR ss ds∧RP W (G0 W) (.agg (ds.map D.e)) v:=by
 obtain ⟨cs,rfl,_⟩:=okWide_struct ht hv
 obtain ⟨fuel,hf⟩:=h
 obtain ⟨ds,h1,h2⟩:=sh_ok n t ss cs.toList fuel _ hs (by simpa [Value.cells] using hf)
 exact ⟨ds,h1,cs.toList,by simp,re_of_d (Γ:=G0 W) h2⟩
end
theorem rows_of {α:Type} {f:α → List D} {ss:List Sh} {rows:List (List D)} (h:∀ r ∈ rows,TR ss r) (dec:∀ r,TR ss r → ∃ x,r=f x):∃ l:List α,rows=l.map f:=by
 induction rows with
 | nil=>exact ⟨[],rfl⟩
 | cons r rows ih =>
  obtain ⟨x,rfl⟩:=dec r (h r (by simp))
  obtain ⟨l,rfl⟩:=ih fun r' hr'=>h r' (by simp [hr'])
  exact ⟨x :: l,rfl⟩
theorem ints_of {rows:List (List D)} (h:∀ r ∈ rows,TR [.int .i64] r):∃ L:List Int,rows=L.map (fun x=>[D.v (.int .i64 x)])∧∀ x ∈ L,-9223372036854775808≤x∧x≤9223372036854775807:=by
 induction rows with
 | nil=>exact ⟨[],rfl,by simp⟩
 | cons r rows ih =>
  obtain ⟨L,rfl,h2⟩:=ih fun r' hr'=>h r' (by simp [hr'])
  have h1:=h r (by simp)
  simp only [TR,TD] at h1
  obtain ⟨_,_,rfl,⟨n,rfl,hn⟩,rfl⟩:=h1
  refine ⟨n :: L,rfl,fun x hx=>?_⟩
  rcases List.mem_cons.1 hx with rfl|hx
  ·exact int_bd hn
  ·exact h2 x hx
end Go.Proofs.YthhfpcbpiphfiaaGreatDoor
