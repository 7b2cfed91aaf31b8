/- What the program computes, and the plain laws of it, part 35. -/
import Derived.WideKeyEntry
import Derived.Lib.IndexAny
import Derived.Test.YthhfpcbpiphfiaaR34
namespace Go.Proofs.Ythhfpcbpiphfiaa
attribute [local irreducible] PL QL PWPr PCalls Weak RetK Kontr PA
open Go.RowKit
open IntWalk renaming iteOmega → iO, toNatUp → tN
set_option linter.unusedVariables false
set_option linter.unusedSimpArgs false
set_option maxRecDepth 20000
def wl1:List ByteArray:=[⟨#[104,105,100]⟩,⟨#[110,105,99]⟩,⟨#[111,116,104,101,114]⟩,⟨#[103,111,110,101]⟩]
def wl2:List ByteArray:=[⟨#[99,111,114,101]⟩,⟨#[101,120,116,114,97]⟩,⟨#[104,105,100]⟩,⟨#[103,111,110,101]⟩]
def wl3:List ByteArray:=[⟨#[111,116,104,101,114]⟩,⟨#[99,111,114,101]⟩,⟨#[114,105,110,103]⟩,⟨#[98,97,100]⟩,⟨#[103,111,110,101]⟩]
def wl4:List ByteArray:=[⟨#[117,115,98,58,42]⟩,⟨#[112,99,105,58,100,50]⟩,⟨#[120,58,63]⟩,⟨#[91]⟩,⟨#[118,105,114,116,42]⟩]
def wl5:List ByteArray:=[⟨#[104,105,100]⟩,⟨#[101,120,116,114,97]⟩,⟨#[103,111,110,101]⟩,⟨#[98,97,100]⟩]
theorem wm_ok {c:Cfg} (h:c.modules.Sublist wmL) (ho:c.off.length≤10):OkCfg c:=by
 have ha:∀ m ∈ wmL,OkMod m:=by
  intro m hm
  have hd:∀ m ∈ wmL,m.needs.length≤10∧m.pre.length≤10∧m.post.length≤10∧(∀ x ∈ m.needs,x.size≤10)∧(∀ x ∈ m.pre,x.size≤10)∧(∀ x ∈ m.post,x.size≤10)∧m.name≠⟨#[]⟩∧m.name.size≤10:=by decide +kernel
  obtain ⟨h1,h2,h3,h4,h5,h6,h7,h8⟩:=hd m hm
  exact ⟨h1,h2,h3,h4,h5,h6,h7,h8⟩
 refine ⟨fun m hm=>ha m (h.subset hm),?_,(h.map Mod.name).nodup (by decide +kernel),ho⟩
 have:=h.length_le
 have:wmL.length=8:=rfl
 omega
structure WCfg (c:Cfg):Prop where
 sub:c.modules.Sublist wmL
 bl:c.blocked.length≤10
 keep:c.keep.length≤10
 ext:c.extra.length≤10
 pat:∀ y ∈ c.extra,y.name.size≤10
set_option maxRecDepth 20000 in
set_option maxHeartbeats 4000000 in
theorem wconfig_full (L:List Int) (k:Nat) (hk:k < 1000) (hL:∀ x ∈ L,-9223372036854775808≤x∧x≤9223372036854775807) (hl:L.length≤9223372036854775807) :
  PCalls Try.prog 8 [.c (.ptr 0 0)] [tape L k] fun r os=>∃ (c:Cfg) (k':Nat),((OkCfg c∧WCfg c)∧k'≤k+90)∧r = .agg c.e∧os=[tape L k']:=by
 refine pcalls_of Try.func8 rfl (by simp [Try.ntmps8]) ?_
 rw [Try.ntmps8,Try.results8]
 push_cast [iO,tN]
 repeat' (first |  (refine plc [0] (wmods_pure L k (by omega) hL hl) ?_ ?_;push_cast [iO,tN];rintro r os ⟨mods,hmods,rfl,rfl⟩;push_cast [iO,tN])  | ((first|refine pG ?_|refine pQ ?_|refine pU ?_);push_cast [iO,tN])|(refine pif (fun h=>?_) (fun h=>?_)<;>first|exact pN h|push_cast [iO,tN]))
 obtain ⟨hb1,hc1⟩:=fold_bds (tapeAt L (k+8)) 3 (by omega)
 obtain ⟨v1,hv1⟩:∃ v,fold (tapeAt L (k+8)) 3=v:=⟨_,rfl⟩
 rw [hv1] at hb1 hc1
 repeat' (first|(refine plc [0] (next_pure L (k+8) 3 (by omega) (by omega) hL hl) ?_ ?_;push_cast [iO,tN,hv1];rintro r os ⟨rfl,rfl⟩;push_cast [iO,tN,hv1])|((first|refine pG ?_|refine pQ ?_|refine pU ?_);push_cast [iO,tN,hv1])|(refine pif (fun h=>?_) (fun h=>?_)<;>first|exact pN h|push_cast [iO,tN,hv1]))
 refine pwp_weak (weak_adopt_box 2 1 9 1 (by omega) 31 _ (by push_cast [iO,tN];rfl) (by push_cast [iO,tN])) ?_
 push_cast [iO,tN]
 refine pwp_loop2 (α:=Nat × List ByteArray) (fun x=>x.1+x.2.length=v1.toNat) (fun x=>⟨[(4,.c (.v (.int .i64 x.1))),(3,.c (.ptr 2 0)),(2,.c (.ptr 1 0)),(0,.c (.ptr 0 0))],[tape L (k+8+1+x.2.length),.box 31 [.v (.slice none 0 0),.v (.slice none 0 0),.v (.slice none 0 0),.v (.slice none 0 0),.v (.slice none 0 0)],.box 31 [.sl 6 (mods.map Mod.d),.own 3 x.2.length,.v (.slice none 0 0),.v (.slice none 0 0),.v (.slice none 0 0)],.arr 9 1 ((x.2).map strD)]⟩) (fun x=>x.1) (v1.toNat,[]) (by simp) (by (refine weak_fg ?_;push_cast [iO,tN]);try omega) ?_
 rintro ⟨j1,x1⟩ hj1
 simp only at hj1
 by_cases hj01:0 < j1
 ·repeat' (first|((refine pwp_drawn_to ⟨[(4,.c (.v (.int .i64 j1))),(3,.c (.ptr 2 0)),(2,.c (.ptr 1 0)),(0,.c (.ptr 0 0))],[tape L (k+8+1+x1.length+1),.box 31 [.v (.slice none 0 0),.v (.slice none 0 0),.v (.slice none 0 0),.v (.slice none 0 0),.v (.slice none 0 0)],.box 31 [.sl 6 (mods.map Mod.d),.own 3 (x1.length+1),.v (.slice none 0 0),.v (.slice none 0 0),.v (.slice none 0 0)],.arr 9 1 ((x1++[(pick L (k+8+1+x1.length) wl1)]).map strD)]⟩ (by kernel_rfl) ?_ ?_;(focus (simp only [List.length_cons,List.length_nil,Nat.reduceAdd];(repeat' first|(refine plc [0] (one_pure L (k+8+1+x1.length) wl1 (by omega) (by decide) (by decide) hL hl) ?_ ?_;push_cast [iO,tN,  wl1 ];rintro r os ⟨rfl,rfl⟩;push_cast [iO,tN,  wl1 ])|((first|refine pah 0 ?_|refine pah 2 ?_|refine pah 7 ?_);push_cast [iO,tN,  wl1 ])|(refine pad ?_;refine weak_fg ?_;push_cast [iO,tN,  wl1 ])|((first|refine pas [1] ?_|refine pas [3] ?_|refine pas [4] ?_|refine pas [5] ?_|refine pas [6] ?_|refine pas [8] ?_);push_cast [iO,tN,  wl1 ])|((first|refine pas [1,3] ?_|refine pas [1,4] ?_|refine pas [1,5] ?_|refine pas [1,6] ?_|refine pas [1,8] ?_|refine pas [3,4] ?_|refine pas [3,5] ?_|refine pas [3,6] ?_|refine pas [3,8] ?_|refine pas [4,5] ?_|refine pas [4,6] ?_|refine pas [4,8] ?_|refine pas [5,6] ?_|refine pas [5,8] ?_|refine pas [6,8] ?_);push_cast [iO,tN,  wl1 ];refine ⟨?_,?_⟩)|((first|refine pas [1,3,4] ?_|refine pas [1,3,5] ?_|refine pas [1,3,6] ?_|refine pas [1,3,8] ?_|refine pas [1,4,5] ?_|refine pas [1,4,6] ?_|refine pas [1,4,8] ?_|refine pas [1,5,6] ?_|refine pas [1,5,8] ?_|refine pas [1,6,8] ?_|refine pas [3,4,5] ?_|refine pas [3,4,6] ?_|refine pas [3,4,8] ?_|refine pas [3,5,6] ?_|refine pas [3,5,8] ?_|refine pas [3,6,8] ?_|refine pas [4,5,6] ?_|refine pas [4,5,8] ?_|refine pas [4,6,8] ?_|refine pas [5,6,8] ?_);push_cast [iO,tN,  wl1 ];refine ⟨?_,?_,?_⟩));done));push_cast [iO,tN,  wl1 ]))|((first|refine pG ?_|refine pQ ?_|refine pU ?_);push_cast [iO,tN,wl1])|(refine pif (fun h=>?_) (fun h=>?_)<;>first|exact pN h|push_cast [iO,tN,wl1]))
  exact ⟨(j1 - 1,x1++[(pick L (k+8+1+x1.length) wl1)]),by simp;omega,by (refine weak_fg ?_;push_cast [iO,tN,wl1]);try omega,by simp only;omega⟩
 ·have hx1:x1.length≤3:=by omega
  have he1:=List.take_of_length_le (l:=(x1).map strD) (i:=x1.length) (by simp)
  repeat' (first|((first|refine pG ?_|refine pQ ?_|refine pU ?_);push_cast [iO,tN])|(refine pif (fun h=>?_) (fun h=>?_)<;>first|exact pN h|push_cast [iO,tN]))
  refine pl_weak (weak_frz 3 (by omega)) ?_
  refine pl_weak (s':=⟨[(25,.c (.ptr 0 0)),(3,.c (.ptr 2 0)),(2,.c (.ptr 1 0)),(0,.c (.ptr 0 0))],[tape L (k+8+1+x1.length),.box 31 [.v (.slice none 0 0),.v (.slice none 0 0),.v (.slice none 0 0),.v (.slice none 0 0),.v (.slice none 0 0)],.box 31 [.sl 6 (mods.map Mod.d),.sl 1 ((x1).map strD),.v (.slice none 0 0),.v (.slice none 0 0),.v (.slice none 0 0)]]⟩) (by (refine weak_fg ?_;push_cast [iO,tN,he1])) ?_
  refine pl_of_pops ?_
  push_cast [iO,tN]
  obtain ⟨hb2,hc2⟩:=fold_bds (tapeAt L (k+8+1+x1.length)) 2 (by omega)
  obtain ⟨v2,hv2⟩:∃ v,fold (tapeAt L (k+8+1+x1.length)) 2=v:=⟨_,rfl⟩
  rw [hv2] at hb2 hc2
  repeat' (first|(refine plc [0] (next_pure L (k+8+1+x1.length) 2 (by omega) (by omega) hL hl) ?_ ?_;push_cast [iO,tN,hv2];rintro r os ⟨rfl,rfl⟩;push_cast [iO,tN,hv2])|((first|refine pG ?_|refine pQ ?_|refine pU ?_);push_cast [iO,tN,hv2])|(refine pif (fun h=>?_) (fun h=>?_)<;>first|exact pN h|push_cast [iO,tN,hv2]))
  refine pwp_weak (weak_adopt_box 2 2 9 1 (by omega) 31 _ (by push_cast [iO,tN];rfl) (by push_cast [iO,tN])) ?_
  push_cast [iO,tN]
  refine pwp_loop2 (α:=Nat × List ByteArray) (fun x=>x.1+x.2.length=v2.toNat) (fun x=>⟨[(5,.c (.v (.int .i64 x.1))),(3,.c (.ptr 2 0)),(2,.c (.ptr 1 0)),(0,.c (.ptr 0 0))],[tape L (k+8+1+x1.length+1+x.2.length),.box 31 [.v (.slice none 0 0),.v (.slice none 0 0),.v (.slice none 0 0),.v (.slice none 0 0),.v (.slice none 0 0)],.box 31 [.sl 6 (mods.map Mod.d),.sl 1 ((x1).map strD),.own 3 x.2.length,.v (.slice none 0 0),.v (.slice none 0 0)],.arr 9 1 ((x.2).map strD)]⟩) (fun x=>x.1) (v2.toNat,[]) (by simp) (by (refine weak_fg ?_;push_cast [iO,tN]);try omega) ?_
  rintro ⟨j2,x2⟩ hj2
  simp only at hj2
  by_cases hj02:0 < j2
  ·repeat' (first|((refine pwp_drawn_to ⟨[(5,.c (.v (.int .i64 j2))),(3,.c (.ptr 2 0)),(2,.c (.ptr 1 0)),(0,.c (.ptr 0 0))],[tape L (k+8+1+x1.length+1+x2.length+1),.box 31 [.v (.slice none 0 0),.v (.slice none 0 0),.v (.slice none 0 0),.v (.slice none 0 0),.v (.slice none 0 0)],.box 31 [.sl 6 (mods.map Mod.d),.sl 1 ((x1).map strD),.own 3 (x2.length+1),.v (.slice none 0 0),.v (.slice none 0 0)],.arr 9 1 ((x2++[(pick L (k+8+1+x1.length+1+x2.length) wl2)]).map strD)]⟩ (by kernel_rfl) ?_ ?_;(focus (simp only [List.length_cons,List.length_nil,Nat.reduceAdd];(repeat' first|(refine plc [0] (one_pure L (k+8+1+x1.length+1+x2.length) wl2 (by omega) (by decide) (by decide) hL hl) ?_ ?_;push_cast [iO,tN,  wl2 ];rintro r os ⟨rfl,rfl⟩;push_cast [iO,tN,  wl2 ])|((first|refine pah 0 ?_|refine pah 2 ?_|refine pah 7 ?_);push_cast [iO,tN,  wl2 ])|(refine pad ?_;refine weak_fg ?_;push_cast [iO,tN,  wl2 ])|((first|refine pas [1] ?_|refine pas [3] ?_|refine pas [4] ?_|refine pas [5] ?_|refine pas [6] ?_|refine pas [8] ?_);push_cast [iO,tN,  wl2 ])|((first|refine pas [1,3] ?_|refine pas [1,4] ?_|refine pas [1,5] ?_|refine pas [1,6] ?_|refine pas [1,8] ?_|refine pas [3,4] ?_|refine pas [3,5] ?_|refine pas [3,6] ?_|refine pas [3,8] ?_|refine pas [4,5] ?_|refine pas [4,6] ?_|refine pas [4,8] ?_|refine pas [5,6] ?_|refine pas [5,8] ?_|refine pas [6,8] ?_);push_cast [iO,tN,  wl2 ];refine ⟨?_,?_⟩)|((first|refine pas [1,3,4] ?_|refine pas [1,3,5] ?_|refine pas [1,3,6] ?_|refine pas [1,3,8] ?_|refine pas [1,4,5] ?_|refine pas [1,4,6] ?_|refine pas [1,4,8] ?_|refine pas [1,5,6] ?_|refine pas [1,5,8] ?_|refine pas [1,6,8] ?_|refine pas [3,4,5] ?_|refine pas [3,4,6] ?_|refine pas [3,4,8] ?_|refine pas [3,5,6] ?_|refine pas [3,5,8] ?_|refine pas [3,6,8] ?_|refine pas [4,5,6] ?_|refine pas [4,5,8] ?_|refine pas [4,6,8] ?_|refine pas [5,6,8] ?_);push_cast [iO,tN,  wl2 ];refine ⟨?_,?_,?_⟩));done));push_cast [iO,tN,  wl2 ]))|((first|refine pG ?_|refine pQ ?_|refine pU ?_);push_cast [iO,tN,wl2])|(refine pif (fun h=>?_) (fun h=>?_)<;>first|exact pN h|push_cast [iO,tN,wl2]))
   exact ⟨(j2 - 1,x2++[(pick L (k+8+1+x1.length+1+x2.length) wl2)]),by simp;omega,by (refine weak_fg ?_;push_cast [iO,tN,wl2]);try omega,by simp only;omega⟩
  ·have hx2:x2.length≤2:=by omega
   have he2:=List.take_of_length_le (l:=(x2).map strD) (i:=x2.length) (by simp)
   repeat' (first|((first|refine pG ?_|refine pQ ?_|refine pU ?_);push_cast [iO,tN])|(refine pif (fun h=>?_) (fun h=>?_)<;>first|exact pN h|push_cast [iO,tN]))
   refine pl_weak (weak_frz 3 (by omega)) ?_
   refine pl_weak (s':=⟨[(39,.c (.ptr 0 0)),(3,.c (.ptr 2 0)),(2,.c (.ptr 1 0)),(0,.c (.ptr 0 0))],[tape L (k+8+1+x1.length+1+x2.length),.box 31 [.v (.slice none 0 0),.v (.slice none 0 0),.v (.slice none 0 0),.v (.slice none 0 0),.v (.slice none 0 0)],.box 31 [.sl 6 (mods.map Mod.d),.sl 1 ((x1).map strD),.sl 1 ((x2).map strD),.v (.slice none 0 0),.v (.slice none 0 0)]]⟩) (by (refine weak_fg ?_;push_cast [iO,tN,he2])) ?_
   refine pl_of_pops ?_
   push_cast [iO,tN]
   obtain ⟨hb3,hc3⟩:=fold_bds (tapeAt L (k+8+1+x1.length+1+x2.length)) 2 (by omega)
   obtain ⟨v3,hv3⟩:∃ v,fold (tapeAt L (k+8+1+x1.length+1+x2.length)) 2=v:=⟨_,rfl⟩
   rw [hv3] at hb3 hc3
   repeat' (first|(refine plc [0] (next_pure L (k+8+1+x1.length+1+x2.length) 2 (by omega) (by omega) hL hl) ?_ ?_;push_cast [iO,tN,hv3];rintro r os ⟨rfl,rfl⟩;push_cast [iO,tN,hv3])|((first|refine pG ?_|refine pQ ?_|refine pU ?_);push_cast [iO,tN,hv3])|(refine pif (fun h=>?_) (fun h=>?_)<;>first|exact pN h|push_cast [iO,tN,hv3]))
   refine pwp_weak (weak_adopt_box 2 3 9 1 (by omega) 31 _ (by push_cast [iO,tN];rfl) (by push_cast [iO,tN])) ?_
   push_cast [iO,tN]
   refine pwp_loop2 (α:=Nat × List ByteArray) (fun x=>x.1+x.2.length=v3.toNat) (fun x=>⟨[(6,.c (.v (.int .i64 x.1))),(3,.c (.ptr 2 0)),(2,.c (.ptr 1 0)),(0,.c (.ptr 0 0))],[tape L (k+8+1+x1.length+1+x2.length+1+x.2.length),.box 31 [.v (.slice none 0 0),.v (.slice none 0 0),.v (.slice none 0 0),.v (.slice none 0 0),.v (.slice none 0 0)],.box 31 [.sl 6 (mods.map Mod.d),.sl 1 ((x1).map strD),.sl 1 ((x2).map strD),.own 3 x.2.length,.v (.slice none 0 0)],.arr 9 1 ((x.2).map strD)]⟩) (fun x=>x.1) (v3.toNat,[]) (by simp) (by (refine weak_fg ?_;push_cast [iO,tN]);try omega) ?_
   rintro ⟨j3,x3⟩ hj3
   simp only at hj3
   by_cases hj03:0 < j3
   ·repeat' (first|((refine pwp_drawn_to ⟨[(6,.c (.v (.int .i64 j3))),(3,.c (.ptr 2 0)),(2,.c (.ptr 1 0)),(0,.c (.ptr 0 0))],[tape L (k+8+1+x1.length+1+x2.length+1+x3.length+1),.box 31 [.v (.slice none 0 0),.v (.slice none 0 0),.v (.slice none 0 0),.v (.slice none 0 0),.v (.slice none 0 0)],.box 31 [.sl 6 (mods.map Mod.d),.sl 1 ((x1).map strD),.sl 1 ((x2).map strD),.own 3 (x3.length+1),.v (.slice none 0 0)],.arr 9 1 ((x3++[(pick L (k+8+1+x1.length+1+x2.length+1+x3.length) wl3)]).map strD)]⟩ (by kernel_rfl) ?_ ?_;(focus (simp only [List.length_cons,List.length_nil,Nat.reduceAdd];(repeat' first|(refine plc [0] (one_pure L (k+8+1+x1.length+1+x2.length+1+x3.length) wl3 (by omega) (by decide) (by decide) hL hl) ?_ ?_;push_cast [iO,tN,  wl3 ];rintro r os ⟨rfl,rfl⟩;push_cast [iO,tN,  wl3 ])|((first|refine pah 0 ?_|refine pah 2 ?_|refine pah 7 ?_);push_cast [iO,tN,  wl3 ])|(refine pad ?_;refine weak_fg ?_;push_cast [iO,tN,  wl3 ])|((first|refine pas [1] ?_|refine pas [3] ?_|refine pas [4] ?_|refine pas [5] ?_|refine pas [6] ?_|refine pas [8] ?_);push_cast [iO,tN,  wl3 ])|((first|refine pas [1,3] ?_|refine pas [1,4] ?_|refine pas [1,5] ?_|refine pas [1,6] ?_|refine pas [1,8] ?_|refine pas [3,4] ?_|refine pas [3,5] ?_|refine pas [3,6] ?_|refine pas [3,8] ?_|refine pas [4,5] ?_|refine pas [4,6] ?_|refine pas [4,8] ?_|refine pas [5,6] ?_|refine pas [5,8] ?_|refine pas [6,8] ?_);push_cast [iO,tN,  wl3 ];refine ⟨?_,?_⟩)|((first|refine pas [1,3,4] ?_|refine pas [1,3,5] ?_|refine pas [1,3,6] ?_|refine pas [1,3,8] ?_|refine pas [1,4,5] ?_|refine pas [1,4,6] ?_|refine pas [1,4,8] ?_|refine pas [1,5,6] ?_|refine pas [1,5,8] ?_|refine pas [1,6,8] ?_|refine pas [3,4,5] ?_|refine pas [3,4,6] ?_|refine pas [3,4,8] ?_|refine pas [3,5,6] ?_|refine pas [3,5,8] ?_|refine pas [3,6,8] ?_|refine pas [4,5,6] ?_|refine pas [4,5,8] ?_|refine pas [4,6,8] ?_|refine pas [5,6,8] ?_);push_cast [iO,tN,  wl3 ];refine ⟨?_,?_,?_⟩));done));push_cast [iO,tN,  wl3 ]))|((first|refine pG ?_|refine pQ ?_|refine pU ?_);push_cast [iO,tN,wl3])|(refine pif (fun h=>?_) (fun h=>?_)<;>first|exact pN h|push_cast [iO,tN,wl3]))
    exact ⟨(j3 - 1,x3++[(pick L (k+8+1+x1.length+1+x2.length+1+x3.length) wl3)]),by simp;omega,by (refine weak_fg ?_;push_cast [iO,tN,wl3]);try omega,by simp only;omega⟩
   ·have hx3:x3.length≤2:=by omega
    have he3:=List.take_of_length_le (l:=(x3).map strD) (i:=x3.length) (by simp)
    repeat' (first|((first|refine pG ?_|refine pQ ?_|refine pU ?_);push_cast [iO,tN])|(refine pif (fun h=>?_) (fun h=>?_)<;>first|exact pN h|push_cast [iO,tN]))
    refine pl_weak (weak_frz 3 (by omega)) ?_
    refine pl_weak (s':=⟨[(53,.c (.ptr 0 0)),(3,.c (.ptr 2 0)),(2,.c (.ptr 1 0)),(0,.c (.ptr 0 0))],[tape L (k+8+1+x1.length+1+x2.length+1+x3.length),.box 31 [.v (.slice none 0 0),.v (.slice none 0 0),.v (.slice none 0 0),.v (.slice none 0 0),.v (.slice none 0 0)],.box 31 [.sl 6 (mods.map Mod.d),.sl 1 ((x1).map strD),.sl 1 ((x2).map strD),.sl 1 ((x3).map strD),.v (.slice none 0 0)]]⟩) (by (refine weak_fg ?_;push_cast [iO,tN,he3])) ?_
    refine pl_of_pops ?_
    push_cast [iO,tN]
    obtain ⟨hb4,hc4⟩:=fold_bds (tapeAt L (k+8+1+x1.length+1+x2.length+1+x3.length)) 3 (by omega)
    obtain ⟨v4,hv4⟩:∃ v,fold (tapeAt L (k+8+1+x1.length+1+x2.length+1+x3.length)) 3=v:=⟨_,rfl⟩
    rw [hv4] at hb4 hc4
    repeat' (first|(refine plc [0] (next_pure L (k+8+1+x1.length+1+x2.length+1+x3.length) 3 (by omega) (by omega) hL hl) ?_ ?_;push_cast [iO,tN,hv4];rintro r os ⟨rfl,rfl⟩;push_cast [iO,tN,hv4])|((first|refine pG ?_|refine pQ ?_|refine pU ?_);push_cast [iO,tN,hv4])|(refine pif (fun h=>?_) (fun h=>?_)<;>first|exact pN h|push_cast [iO,tN,hv4]))
    refine pwp_weak (weak_adopt_box 2 4 42 2 (by omega) 31 _ (by push_cast [iO,tN];rfl) (by push_cast [iO,tN])) ?_
    push_cast [iO,tN]
    refine pwp_loop2 (α:=Nat × List Ext2) (fun x=>x.1+x.2.length=v4.toNat∧∀ y ∈ x.2,y.name.size≤10) (fun x=>⟨[(7,.c (.v (.int .i64 x.1))),(3,.c (.ptr 2 0)),(2,.c (.ptr 1 0)),(0,.c (.ptr 0 0))],[tape L (k+8+1+x1.length+1+x2.length+1+x3.length+1+2 * x.2.length),.box 31 [.v (.slice none 0 0),.v (.slice none 0 0),.v (.slice none 0 0),.v (.slice none 0 0),.v (.slice none 0 0)],.box 31 [.sl 6 (mods.map Mod.d),.sl 1 ((x1).map strD),.sl 1 ((x2).map strD),.sl 1 ((x3).map strD),.own 3 x.2.length],.arr 42 2 ((x.2).map Ext2.d)]⟩) (fun x=>x.1) (v4.toNat,[]) ⟨by simp,by simp⟩ (by (refine weak_fg ?_;push_cast [iO,tN]);try omega) ?_
    rintro ⟨j4,x4⟩ ⟨hj4,hn4⟩
    simp only at hj4 hn4
    by_cases hj04:0 < j4
    ·repeat' (first|((refine pwp_drawn_to ⟨[(7,.c (.v (.int .i64 j4))),(3,.c (.ptr 2 0)),(2,.c (.ptr 1 0)),(0,.c (.ptr 0 0))],[tape L (k+8+1+x1.length+1+x2.length+1+x3.length+1+2 * x4.length+2),.box 31 [.v (.slice none 0 0),.v (.slice none 0 0),.v (.slice none 0 0),.v (.slice none 0 0),.v (.slice none 0 0)],.box 31 [.sl 6 (mods.map Mod.d),.sl 1 ((x1).map strD),.sl 1 ((x2).map strD),.sl 1 ((x3).map strD),.own 3 (x4.length+1)],.arr 42 2 ((x4++[(⟨pick L (k+8+1+x1.length+1+x2.length+1+x3.length+1+2 * x4.length) wl4,pick L (k+8+1+x1.length+1+x2.length+1+x3.length+1+2 * x4.length+1) wl5⟩:Ext2)]).map Ext2.d)]⟩ (by kernel_rfl) ?_ ?_;(focus (simp only [List.length_cons,List.length_nil,Nat.reduceAdd];(repeat' first|(refine plc [0] (one_pure L (k+8+1+x1.length+1+x2.length+1+x3.length+1+2 * x4.length) wl4 (by omega) (by decide) (by decide) hL hl) ?_ ?_;push_cast [iO,tN,  wl4,wl5 ];rintro r os ⟨rfl,rfl⟩;push_cast [iO,tN,  wl4,wl5 ])|(refine plc [0] (one_pure L (k+8+1+x1.length+1+x2.length+1+x3.length+1+2 * x4.length+1) wl5 (by omega) (by decide) (by decide) hL hl) ?_ ?_;push_cast [iO,tN,  wl4,wl5 ];rintro r os ⟨rfl,rfl⟩;push_cast [iO,tN,  wl4,wl5 ])|((first|refine pah 0 ?_|refine pah 2 ?_|refine pah 5 ?_|refine pah 8 ?_|refine pah 11 ?_);push_cast [iO,tN,  wl4,wl5 ])|(refine pad ?_;refine weak_fg ?_;push_cast [iO,tN,  wl4,wl5 ])|((first|refine pas [1] ?_|refine pas [3] ?_|refine pas [4] ?_|refine pas [6] ?_|refine pas [7] ?_|refine pas [9] ?_|refine pas [10] ?_|refine pas [12] ?_);push_cast [iO,tN,  wl4,wl5 ])|((first|refine pas [1,3] ?_|refine pas [1,4] ?_|refine pas [1,6] ?_|refine pas [1,7] ?_|refine pas [1,9] ?_|refine pas [1,10] ?_|refine pas [1,12] ?_|refine pas [3,4] ?_|refine pas [3,6] ?_|refine pas [3,7] ?_|refine pas [3,9] ?_|refine pas [3,10] ?_|refine pas [3,12] ?_|refine pas [4,6] ?_|refine pas [4,7] ?_|refine pas [4,9] ?_|refine pas [4,10] ?_|refine pas [4,12] ?_|refine pas [6,7] ?_|refine pas [6,9] ?_|refine pas [6,10] ?_|refine pas [6,12] ?_|refine pas [7,9] ?_|refine pas [7,10] ?_|refine pas [7,12] ?_|refine pas [9,10] ?_|refine pas [9,12] ?_|refine pas [10,12] ?_);push_cast [iO,tN,  wl4,wl5 ];refine ⟨?_,?_⟩)|((first|refine pas [1,3,4] ?_|refine pas [1,3,6] ?_|refine pas [1,3,7] ?_|refine pas [1,3,9] ?_|refine pas [1,3,10] ?_|refine pas [1,3,12] ?_|refine pas [1,4,6] ?_|refine pas [1,4,7] ?_|refine pas [1,4,9] ?_|refine pas [1,4,10] ?_|refine pas [1,4,12] ?_|refine pas [1,6,7] ?_|refine pas [1,6,9] ?_|refine pas [1,6,10] ?_|refine pas [1,6,12] ?_|refine pas [1,7,9] ?_|refine pas [1,7,10] ?_|refine pas [1,7,12] ?_|refine pas [1,9,10] ?_|refine pas [1,9,12] ?_|refine pas [1,10,12] ?_|refine pas [3,4,6] ?_|refine pas [3,4,7] ?_|refine pas [3,4,9] ?_|refine pas [3,4,10] ?_|refine pas [3,4,12] ?_|refine pas [3,6,7] ?_|refine pas [3,6,9] ?_|refine pas [3,6,10] ?_|refine pas [3,6,12] ?_|refine pas [3,7,9] ?_|refine pas [3,7,10] ?_|refine pas [3,7,12] ?_|refine pas [3,9,10] ?_|refine pas [3,9,12] ?_|refine pas [3,10,12] ?_|refine pas [4,6,7] ?_|refine pas [4,6,9] ?_|refine pas [4,6,10] ?_|refine pas [4,6,12] ?_|refine pas [4,7,9] ?_|refine pas [4,7,10] ?_|refine pas [4,7,12] ?_|refine pas [4,9,10] ?_|refine pas [4,9,12] ?_|refine pas [4,10,12] ?_|refine pas [6,7,9] ?_|refine pas [6,7,10] ?_|refine pas [6,7,12] ?_|refine pas [6,9,10] ?_|refine pas [6,9,12] ?_|refine pas [6,10,12] ?_|refine pas [7,9,10] ?_|refine pas [7,9,12] ?_|refine pas [7,10,12] ?_|refine pas [9,10,12] ?_);push_cast [iO,tN,  wl4,wl5 ];refine ⟨?_,?_,?_⟩));done));push_cast [iO,tN,  wl4,wl5 ]))|((first|refine pG ?_|refine pQ ?_|refine pU ?_);push_cast [iO,tN,wl4,wl5])|(refine pif (fun h=>?_) (fun h=>?_)<;>first|exact pN h|push_cast [iO,tN,wl4,wl5]))
     exact ⟨(j4 - 1,x4++[(⟨pick L (k+8+1+x1.length+1+x2.length+1+x3.length+1+2 * x4.length) wl4,pick L (k+8+1+x1.length+1+x2.length+1+x3.length+1+2 * x4.length+1) wl5⟩:Ext2)]),⟨by simp;omega,fun y hy=>(List.mem_append.1 hy).elim (hn4 y) fun h=>by rw [List.mem_singleton.1 h];exact pick_size (by decide) (by decide)⟩,by (refine weak_fg ?_;push_cast [iO,tN,wl4,wl5]);try omega,by simp only;omega⟩
    ·have hx4:x4.length≤3:=by omega
     have he4:=List.take_of_length_le (l:=(x4).map Ext2.d) (i:=x4.length) (by simp)
     repeat' (first|((first|refine pG ?_|refine pQ ?_|refine pU ?_);push_cast [iO,tN])|(refine pif (fun h=>?_) (fun h=>?_)<;>first|exact pN h|push_cast [iO,tN]))
     (refine retK_of [0] ?_;push_cast [iO,tN])
     exact ⟨.agg (Cfg.e ⟨mods,x1,x2,x3,x4⟩),[tape L (k+8+1+x1.length+1+x2.length+1+x3.length+1+2 * x4.length)],by push_cast [iO,tN,he4],by push_cast [iO,tN],⟨mods,x1,x2,x3,x4⟩,k+8+1+x1.length+1+x2.length+1+x3.length+1+2 * x4.length,⟨⟨wm_ok hmods (by simp only;omega),⟨hmods,by simp only;omega,by simp only;omega,by simp only;omega,hn4⟩⟩,by omega⟩,rfl,rfl⟩
set_option maxRecDepth 20000
theorem wm_small:∀ m ∈ wmL,m.aliases.length≤2∧(∀ x ∈ m.aliases,x.size≤10)∧m.name.size≤10:=by decide +kernel
structure SmallC (c:Cfg):Prop where
 mods:c.modules.length≤8
 als:∀ m ∈ c.modules,m.aliases.length≤2∧(∀ x ∈ m.aliases,x.size≤10)∧m.name.size≤10
 bl:c.blocked.length≤20
 ext:c.extra.length≤20
 pat:∀ y ∈ c.extra,y.name.size≤10
theorem WCfg.smallC {c:Cfg} (h:WCfg c):SmallC c :=
 ⟨by have:=h.sub.length_le;have:wmL.length=8:=rfl;omega,fun m hm=>wm_small m (h.sub.subset hm),by have:=h.bl;omega,by have:=h.ext;omega,h.pat⟩
theorem SmallC.few {c:Cfg} (h:SmallC c):FewA c:=⟨by have:=h.mods;omega,fun m hx=>by have:=(h.als m hx).1;omega,by have:=h.ext;omega,by have:=h.bl;omega⟩
theorem SmallC.ents {c:Cfg} (h:SmallC c):∀ y ∈ entsC c,y.pat.size≤1000000000:=fun y hy=>by
 unfold entsC at hy
 rcases List.mem_append.1 hy with hy|hy
 ·obtain ⟨m,h1,h2⟩:=List.mem_flatMap.1 hy
  unfold entM at h2
  split at h2
  ·cases h2
  ·obtain ⟨p,h3,rfl⟩:=List.mem_map.1 h2
   have:=(h.als m h1).2.1 p h3
   show p.size≤_
   omega
 ·obtain ⟨e,h1,h2⟩:=List.mem_flatMap.1 hy
  unfold entX at h2
  split at h2
  ·rw [List.mem_singleton] at h2
   subst h2
   have:=h.pat e h1
   show e.name.size≤_
   omega
  ·cases h2
theorem SmallC.find {c:Cfg} (h:SmallC c):FindOk c:=⟨by have:=h.mods;omega,fun m hm=>by have:=(h.als m hm).1;omega,fun m hm p hp=>by have:=(h.als m hm).2.1 p hp;omega,by have:=h.bl;omega,by have:=h.ext;omega,fun x hx=>by have:=h.pat x hx;omega⟩
def al18:List ByteArray:=[⟨#[117,115,98,58,118,49]⟩,⟨#[117,115,98,58,118,49,50]⟩,⟨#[117,115,98,58,118,50]⟩,⟨#[112,99,105,58,100,50]⟩,⟨#[112,99,105,58,100,51]⟩,⟨#[120,58,49]⟩,⟨#[118,105,114,116,105,111]⟩,⟨#[]⟩]
theorem pick_le {L:List Int} {k:Nat} {l:List ByteArray} {n:Nat} (h0:0 < l.length) (h:∀ x ∈ l,x.size≤n):(pick L k l).size≤n:=by
 unfold pick
 by_cases hlt:(fold (tapeAt L k) l.length).toNat < l.length
 ·rw [getD_lt l hlt];exact h _ (List.getElem_mem _)
 ·rw [List.getD_eq_getElem?_getD,List.getElem?_eq_none (by omega)];exact Nat.zero_le _
set_option maxHeartbeats 4000000 in
theorem walias18_pure (L:List Int) (k:Nat) (hk:k < 100000) (hL:∀ x ∈ L,-9223372036854775808≤x∧x≤9223372036854775807) (hl:L.length≤9223372036854775807) :
  PCalls Try.prog 10 [.c (.ptr 0 0)] [tape L k] fun r os=>r = .c (.v (.string (pick L k al18)))∧os=[tape L (k+1)]:=by
 have ho:=one_pure L k al18 (by omega) (by decide) (by decide) hL hl
 obtain ⟨s,hs⟩:∃ s,pick L k al18=s:=⟨_,rfl⟩
 rw [hs] at ho ⊢
 unfold al18 at ho
 refine pcalls_of Try.func10 rfl (by simp [Try.ntmps10]) ?_
 rw [Try.ntmps10,Try.results10]
 push_cast [iO,tN]
 repeat' (first |  ((refine plc [0] (ho) ?_ ?_;push_cast [iO,tN];rintro r os ⟨rfl,rfl⟩;push_cast [iO,tN]))  | ((first|refine pG ?_|refine pQ ?_|refine pU ?_);push_cast [iO,tN])|(refine pif (fun h=>?_) (fun h=>?_)<;>first|exact pN h|push_cast [iO,tN]))
 (refine retK_of [0] ?_;push_cast [iO,tN])
end Go.Proofs.Ythhfpcbpiphfiaa
namespace Go.Proofs.Ythhfpcbpiphfiaa
open Go.RowKit
open IntWalk renaming iteOmega → iO, toNatUp → tN
set_option linter.unusedVariables false
set_option linter.unusedSimpArgs false
def isPt (P:Program) (t:TypeId):Bool:=match P.underlying t with
 | some (.pointer _)=>true
 | _=>false
theorem isPt_ok {P:Program} {t:TypeId} (h:isPt P t=true):∃ e,P.underlying t=some (.pointer e):=by
 unfold isPt at h
 split at h
 ·exact ⟨_,by assumption⟩
 ·cases h
theorem run_ptrq {P:Program} {t:TypeId} (h:isPt P t=true) (w:World) (A:Option Addr) :
  (binOp .eql t (.pointer A) (.pointer none)).run P w = .ok (.bool A.isNone) w∧(binOp .neq t (.pointer A) (.pointer none)).run P w = .ok (.bool (!A.isNone)) w:=by
 obtain ⟨e,he⟩:=isPt_ok h
 have h1:∀ d,(Op.equalIn (d+1) t (.pointer A) (.pointer none)).run P w = .ok A.isNone w:=by intro d;cases A<;>simp [Op.equalIn,run_underlying he]
 exact run_binOp_eq t w (by simp) (by simp) (h1 9999)
section
variable {P:Program} {N p:Nat} {ops:Array Oper} {o:Oper} {rest:List Oper} {s:S} {K:S → Prop}
theorem pl_ptreq {t t':TypeId} {x z:Operand} {k off:Nat} (ho:o.op = .binOp .eql t x z t') (hg:gd ops s o.guard=some true) (hx:s.ev x=some (.c (.ptr k off))) (hz:s.ev z=some (.c (.v (.pointer none)))) (ht:isPt P t=true) (hd:dstOk N o.dst)
  (hK:PL P N p ops rest (s.put o.dst (.c (.v (.bool false)))) K):PL P N p ops (o :: rest) s K:=by
 refine pl_same (q:=.c (.v (.bool false))) hg (fun Γ a w hI=>?_) hd hK
 obtain ⟨_,hx1⟩:=S.ev_ok hx hI
 obtain ⟨hz1,_⟩:=S.ev_ok hz hI
 exact ⟨_,⟨rfl,rfl⟩,fun w' _=>by simp [execOp,ho,hx1,hz1,guard_scalar,(run_ptrq ht w' (some _)).1]⟩
end
end Go.Proofs.Ythhfpcbpiphfiaa
namespace Go.Proofs.Ythhfpcbpiphfiaa
attribute [local irreducible] PL QL PWPr PCalls Weak RetK Kontr PA
open Go.RowKit
open IntWalk renaming iteOmega → iO, toNatUp → tN
set_option linter.unusedVariables false
set_option linter.unusedSimpArgs false
set_option maxRecDepth 20000
set_option maxHeartbeats 8000000 in
theorem finds18_pure (L:List Int) (s:ByteArray) (hL:∀ x ∈ L,-9223372036854775808≤x∧x≤9223372036854775807) (hl:L.length≤9223372036854775807) (hs:s.size≤9223372036854775807) :
  PCalls Try.prog 3 [.c (.sl 1 (L.map fun x=>[D.v (.int .i64 x)])),.c (.v (.string s))] [] fun r os=>r = .c (.v (.bool true))∧os=[]:=by
 refine pcalls_of Try.func3 rfl (by simp [Try.ntmps3]) ?_
 rw [Try.ntmps3,Try.results3]
 push_cast [iO,tN]
 have cB:CutB 11 [13,27,37,65]:=trivial
 by_cases h300:300 < s.size
 ·have h300':(300:Int) < (s.size:Int):=by omega
  repeat' (first|((refine plc [] (known18_pure) ?_ ?_;push_cast [iO,tN,h300'];rintro r os ⟨rfl,rfl⟩;push_cast [iO,tN,h300']))|((first|refine pC ?_|refine pQC ?_|refine pU ?_);push_cast [iO,tN,h300'])|(refine pif (fun h=>?_) (fun h=>?_)<;>first|exact pN h|push_cast [iO,tN,h300']))
  (refine retK_of [] ?_;push_cast [iO,tN])
 have h300':¬ (300:Int) < (s.size:Int):=by omega
 repeat' (first|((refine plc [0] (wconfig_full L 0 (by omega) hL hl) ?_ ?_;push_cast [iO,tN,h300'];rintro r os ⟨c,k1,⟨⟨hc,hwc⟩,hk1⟩,rfl,rfl⟩;push_cast [iO,tN,h300']))|((refine plc [] (new_pure c hwc.smallC.few hwc.smallC.ents) ?_ ?_;push_cast [iO,tN,h300'];rintro r os ⟨rfl,rfl⟩;push_cast [iO,tN,h300']))|((refine plc [] (known18_pure) ?_ ?_;push_cast [iO,tN,h300'];rintro r os ⟨rfl,rfl⟩;push_cast [iO,tN,h300']))|(refine pl_ptreq rfl rfl rfl rfl (by kernel_rfl) (by simp [dstOk]) (pl_of_pops ?_);push_cast [iO,tN,h300'])|((refine plc [0] (walias18_pure L k1 (by omega) hL hl) ?_ ?_;push_cast [iO,tN,h300'];rintro r os ⟨rfl,rfl⟩;push_cast [iO,tN,h300']))|((refine plc [0] (walias18_pure L (k1+1) (by omega) hL hl) ?_ ?_;push_cast [iO,tN,h300'];rintro r os ⟨rfl,rfl⟩;push_cast [iO,tN,h300']))|((first|refine pC ?_|refine pQC ?_|refine pU ?_);push_cast [iO,tN,h300'])|(refine pif (fun h=>?_) (fun h=>?_)<;>first|exact pN h|push_cast [iO,tN,h300']))
 have hz1:=pick_le (L:=L) (k:=k1) (l:=al18) (n:=300) (by decide) (by decide +kernel)
 have hz2:=pick_le (L:=L) (k:=k1+1) (l:=al18) (n:=300) (by decide) (by decide +kernel)
 obtain ⟨T,hT⟩:∃ T,[s,pick L k1 al18,pick L (k1+1) al18]=T:=⟨_,rfl⟩
 have hTl:T.length=3:=by rw [← hT];rfl
 have hTz:∀ x ∈ T,x.size≤300:=fun x hx=>by
  rw [← hT] at hx
  simp only [List.mem_cons,List.not_mem_nil,or_false] at hx
  rcases hx with rfl|rfl|rfl<;>omega
 refine pwp_weak (weak_rows 8 (T.map strD) rfl (by rw [← hT];simp [leRows,leDs,leD,strD])) ?_
 push_cast [iO,tN]
 refine pwp_weak (s':=⟨[(9,.c (.v (.int .i64 ((0:Int))))),(8,.c (.sl 1 (T.map strD))),(7,.c (.ptr 3 0)),(6,.c (.ptr 1 0)),(4,.c (.v (.bool false)))],[.box 26 [.sl 1 (L.map fun x=>[D.v (.int .i64 x)]),.v (.int .i64 ((k1:Int)+1+1))],.box 31 c.e,.map none false (idxDa (entsC c)),.box 57 [.mp 2]]⟩) (by (refine weak_fg ?_;push_cast [iO,tN])) ?_
 push_cast [iO,tN]
 have hsc:=hwc.smallC
 clear hT hz1 hz2
 (apply pwp_loop3 (α:=Nat) 11 [13,27,37,65] (fun i=>[(9,.c (.v (.int .i64 i)))]) (fun i=>[]) (fun i=>i≤3) (fun i=>3 - i) (0);(focus ((try push_cast [iO,tN]);rfl));(focus exact (by omega));(focus ((refine weak_fg ?_;try push_cast [iO,tN]))))
 intro i hi
 push_cast [iO,tN]
 by_cases hlt:i < 3
 ·have hxz:=hTz (T.getD i default) (by rw [getD_lt T (by omega)];exact List.getElem_mem _)
  have hiT:(i:Int) < (T.length:Int):=by omega
  have hi3:(i:Int) < 3:=by omega
  obtain ⟨x,hx⟩:∃ x,T.getD i default=x:=⟨_,rfl⟩
  rw [hx] at hxz
  have hR:=rfind18_pure c x hsc.find (by omega)
  have hF:=afind_pure c x hsc.few hsc.ents (by omega)
  have hN:=find_pure (entsC c) x (entsC_len hsc.few) hsc.ents (by omega)
  rw [findN_A] at hN
  unfold ixOs at hN
  have hfl:(findA c x).length≤1000000:=by have:=findA_len c x;have:=hsc.mods;omega
  obtain ⟨F,hFF⟩:∃ F,findA c x=F:=⟨_,rfl⟩
  rw [hFF] at hR hF hN hfl
  have hS:=same18_pure F F (by omega) (by omega)
  rw [decide_eq_true rfl] at hS
  repeat' (first|(refine hidR 12 ?_)|((first|refine pC ?_|refine pQC ?_|refine pU ?_);push_cast [iO,tN,hi3,hTl,hx])|(refine pif (fun h=>?_) (fun h=>?_)<;>first|exact pN h|push_cast [iO,tN,hi3,hTl,hx]))
  refine unhid ?_
  (refine pwp_cut 11 [13,27,37,65] ?_;apply pwp_drawn_to;(focus kernel_rfl);(focus (simp only [List.length_cons,List.length_nil,Nat.reduceAdd];(repeat' first|((refine plc [] (hR) ?_ ?_;push_cast [iO,tN,  hi3,hTl,hx];rintro r os ⟨rfl,rfl⟩;push_cast [iO,tN,  hi3,hTl,hx]))|((first|refine pah 1 ?_|refine pah 2 ?_|refine pah 3 ?_|refine pah 6 ?_);push_cast [iO,tN,  hi3,hTl,hx])|((first|refine pal 0 ?_|refine pal 4 ?_);push_cast [iO,tN,  hi3,hTl,hx])|(refine pad ?_;first|with_reducible exact weak_cutS 11 [13,27,37,65] _|(refine weak_fg ?_;push_cast [iO,tN,  hi3,hTl,hx]))|((first|refine pas [5] ?_);push_cast [iO,tN,  hi3,hTl,hx]));done));push_cast [iO,tN,  hi3,hTl,hx])
  (refine pwp_cut 11 [13,27,37,65] ?_;apply pwp_drawn_to;(focus kernel_rfl);(focus (simp only [List.length_cons,List.length_nil,Nat.reduceAdd];(repeat' first|((refine plc [] (hF) ?_ ?_;push_cast [iO,tN,  hi3,hTl,hx];rintro r os ⟨rfl,rfl⟩;push_cast [iO,tN,  hi3,hTl,hx]))|((refine plc [2,3] (hN) ?_ ?_;push_cast [iO,tN,  hi3,hTl,hx];rintro r os ⟨rfl,rfl⟩;push_cast [iO,tN,  hi3,hTl,hx]))|((refine plc [] (hS) ?_ ?_;push_cast [iO,tN,  hi3,hTl,hx];rintro r os ⟨rfl,rfl⟩;push_cast [iO,tN,  hi3,hTl,hx]))|((first|refine pah 1 ?_|refine pah 2 ?_|refine pah 3 ?_|refine pah 6 ?_|refine pah 8 ?_|refine pah 9 ?_|refine pah 10 ?_|refine pah 11 ?_|refine pah 12 ?_|refine pah 13 ?_|refine pah 16 ?_|refine pah 18 ?_|refine pah 19 ?_);push_cast [iO,tN,  hi3,hTl,hx])|((first|refine pal 0 ?_|refine pal 4 ?_|refine pal 14 ?_);push_cast [iO,tN,  hi3,hTl,hx])|(refine pad ?_;first|with_reducible exact weak_cutS 11 [13,27,37,65] _|(refine weak_fg ?_;push_cast [iO,tN,  hi3,hTl,hx]))|((first|refine pas [5] ?_|refine pas [7] ?_|refine pas [15] ?_|refine pas [17] ?_);push_cast [iO,tN,  hi3,hTl,hx]));done));push_cast [iO,tN,  hi3,hTl,hx])
  exact ⟨i+1,by omega,by (refine weak_fg ?_;push_cast [iO,tN]),by omega⟩
 ·have hi3:i=3:=by omega
  subst hi3
  repeat' (first|((first|refine pC ?_|refine pQC ?_|refine pU ?_);push_cast [iO,tN])|(refine pif (fun h=>?_) (fun h=>?_)<;>first|exact pN h|push_cast [iO,tN]))
  (refine retK_of [] ?_;push_cast [iO,tN])
end Go.Proofs.Ythhfpcbpiphfiaa
