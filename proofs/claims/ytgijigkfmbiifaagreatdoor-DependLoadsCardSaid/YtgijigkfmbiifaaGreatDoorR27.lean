/- What the program computes, and the plain laws of it, part 27. -/
import Derived.Lib.ItoaNum
import Derived.Test.YtgijigkfmbiifaaGreatDoorR26
namespace Go.Proofs.YtgijigkfmbiifaaGreatDoor
attribute [local irreducible] PL QL PWPr PCalls Weak RetK Kontr PA
open Go.RowKit
open IntWalk renaming iteOmega → iO, toNatUp → tN
set_option linter.unusedVariables false
set_option linter.unusedSimpArgs false
set_option maxRecDepth 20000
def wl1:List ByteArray:=[⟨#[104,105,100]⟩,⟨#[110,105,99]⟩,⟨#[111,116,104,101,114]⟩,⟨#[103,111,110,101]⟩]
def wl2:List ByteArray:=[⟨#[99,111,114,101]⟩,⟨#[101,120,116,114,97]⟩,⟨#[104,105,100]⟩,⟨#[103,111,110,101]⟩]
def wl3:List ByteArray:=[⟨#[111,116,104,101,114]⟩,⟨#[99,111,114,101]⟩,⟨#[114,105,110,103]⟩,⟨#[98,97,100]⟩,⟨#[103,111,110,101]⟩]
def wl4:List ByteArray:=[⟨#[117,115,98,58,42]⟩,⟨#[112,99,105,58,100,50]⟩,⟨#[120,58,63]⟩,⟨#[91]⟩,⟨#[118,105,114,116,42]⟩]
def wl5:List ByteArray:=[⟨#[104,105,100]⟩,⟨#[101,120,116,114,97]⟩,⟨#[103,111,110,101]⟩,⟨#[98,97,100]⟩]
theorem wm_ok {c:Cfg} (h:c.modules.Sublist wmL) (ho:c.off.length≤10):OkCfg c:=by
 have ha:∀ m ∈ wmL,OkMod m:=by
  intro m hm
  have hd:∀ m ∈ wmL,m.needs.length≤10∧m.pre.length≤10∧m.post.length≤10∧(∀ x ∈ m.needs,x.size≤10)∧(∀ x ∈ m.pre,x.size≤10)∧(∀ x ∈ m.post,x.size≤10)∧m.name≠⟨#[]⟩∧m.name.size≤10:=by decide +kernel
  obtain ⟨h1,h2,h3,h4,h5,h6,h7,h8⟩:=hd m hm
  exact ⟨h1,h2,h3,h4,h5,h6,h7,h8⟩
 refine ⟨fun m hm=>ha m (h.subset hm),?_,(h.map Mod.name).nodup (by decide +kernel),ho⟩
 have:=h.length_le
 have:wmL.length=8:=rfl
 omega
structure WCfg (c:Cfg):Prop where
 sub:c.modules.Sublist wmL
 bl:c.blocked.length≤10
 keep:c.keep.length≤10
 ext:c.extra.length≤10
 pat:∀ y ∈ c.extra,y.name.size≤10
set_option maxRecDepth 20000 in
set_option maxHeartbeats 4000000 in
theorem wconfig_full (L:List Int) (k:Nat) (hk:k < 1000) (hL:∀ x ∈ L,-9223372036854775808≤x∧x≤9223372036854775807) (hl:L.length≤9223372036854775807) :
  PCalls Tryz.prog 15 [.c (.ptr 0 0)] [tape L k] fun r os=>∃ (c:Cfg) (k':Nat),((OkCfg c∧WCfg c)∧k'≤k+90)∧r = .agg c.e∧os=[tape L k']:=by
 refine pcalls_of Tryz.func15 rfl (by simp [Tryz.ntmps15]) ?_
 rw [Tryz.ntmps15,Tryz.results15]
 push_cast [iO,tN]
 repeat' (first |  (refine plc [0] (wmods_pure L k (by omega) hL hl) ?_ ?_;push_cast [iO,tN];rintro r os ⟨mods,hmods,rfl,rfl⟩;push_cast [iO,tN])  | ((first|refine pG ?_|refine pQ ?_|refine pU ?_);push_cast [iO,tN])|(refine pif (fun h=>?_) (fun h=>?_)<;>first|exact pN h|push_cast [iO,tN]))
 obtain ⟨hb1,hc1⟩:=fold_bds (tapeAt L (k+8)) 3 (by omega)
 obtain ⟨v1,hv1⟩:∃ v,fold (tapeAt L (k+8)) 3=v:=⟨_,rfl⟩
 rw [hv1] at hb1 hc1
 repeat' (first|(refine plc [0] (next_pure L (k+8) 3 (by omega) (by omega) hL hl) ?_ ?_;push_cast [iO,tN,hv1];rintro r os ⟨rfl,rfl⟩;push_cast [iO,tN,hv1])|((first|refine pG ?_|refine pQ ?_|refine pU ?_);push_cast [iO,tN,hv1])|(refine pif (fun h=>?_) (fun h=>?_)<;>first|exact pN h|push_cast [iO,tN,hv1]))
 refine pwp_weak (weak_adopt_box 2 1 9 1 (by omega) 30 _ (by push_cast [iO,tN];rfl) (by push_cast [iO,tN])) ?_
 push_cast [iO,tN]
 refine pwp_loop2 (α:=Nat × List ByteArray) (fun x=>x.1+x.2.length=v1.toNat) (fun x=>⟨[(4,.c (.v (.int .i64 x.1))),(3,.c (.ptr 2 0)),(2,.c (.ptr 1 0)),(0,.c (.ptr 0 0))],[tape L (k+8+1+x.2.length),.box 30 [.v (.slice none 0 0),.v (.slice none 0 0),.v (.slice none 0 0),.v (.slice none 0 0),.v (.slice none 0 0)],.box 30 [.sl 6 (mods.map Mod.d),.own 3 x.2.length,.v (.slice none 0 0),.v (.slice none 0 0),.v (.slice none 0 0)],.arr 9 1 ((x.2).map strD)]⟩) (fun x=>x.1) (v1.toNat,[]) (by simp) (by (refine weak_fg ?_;push_cast [iO,tN]);try omega) ?_
 rintro ⟨j1,x1⟩ hj1
 simp only at hj1
 by_cases hj01:0 < j1
 ·repeat' (first|((refine pwp_drawn_to ⟨[(4,.c (.v (.int .i64 j1))),(3,.c (.ptr 2 0)),(2,.c (.ptr 1 0)),(0,.c (.ptr 0 0))],[tape L (k+8+1+x1.length+1),.box 30 [.v (.slice none 0 0),.v (.slice none 0 0),.v (.slice none 0 0),.v (.slice none 0 0),.v (.slice none 0 0)],.box 30 [.sl 6 (mods.map Mod.d),.own 3 (x1.length+1),.v (.slice none 0 0),.v (.slice none 0 0),.v (.slice none 0 0)],.arr 9 1 ((x1++[(pick L (k+8+1+x1.length) wl1)]).map strD)]⟩ (by kernel_rfl) ?_ ?_;(focus (simp only [List.length_cons,List.length_nil,Nat.reduceAdd];(repeat' first|(refine plc [0] (one_pure L (k+8+1+x1.length) wl1 (by omega) (by decide) (by decide) hL hl) ?_ ?_;push_cast [iO,tN,  wl1 ];rintro r os ⟨rfl,rfl⟩;push_cast [iO,tN,  wl1 ])|((first|refine pah 0 ?_|refine pah 2 ?_|refine pah 7 ?_);push_cast [iO,tN,  wl1 ])|(refine pad ?_;refine weak_fg ?_;push_cast [iO,tN,  wl1 ])|((first|refine pas [1] ?_|refine pas [3] ?_|refine pas [4] ?_|refine pas [5] ?_|refine pas [6] ?_|refine pas [8] ?_);push_cast [iO,tN,  wl1 ])|((first|refine pas [1,3] ?_|refine pas [1,4] ?_|refine pas [1,5] ?_|refine pas [1,6] ?_|refine pas [1,8] ?_|refine pas [3,4] ?_|refine pas [3,5] ?_|refine pas [3,6] ?_|refine pas [3,8] ?_|refine pas [4,5] ?_|refine pas [4,6] ?_|refine pas [4,8] ?_|refine pas [5,6] ?_|refine pas [5,8] ?_|refine pas [6,8] ?_);push_cast [iO,tN,  wl1 ];refine ⟨?_,?_⟩)|((first|refine pas [1,3,4] ?_|refine pas [1,3,5] ?_|refine pas [1,3,6] ?_|refine pas [1,3,8] ?_|refine pas [1,4,5] ?_|refine pas [1,4,6] ?_|refine pas [1,4,8] ?_|refine pas [1,5,6] ?_|refine pas [1,5,8] ?_|refine pas [1,6,8] ?_|refine pas [3,4,5] ?_|refine pas [3,4,6] ?_|refine pas [3,4,8] ?_|refine pas [3,5,6] ?_|refine pas [3,5,8] ?_|refine pas [3,6,8] ?_|refine pas [4,5,6] ?_|refine pas [4,5,8] ?_|refine pas [4,6,8] ?_|refine pas [5,6,8] ?_);push_cast [iO,tN,  wl1 ];refine ⟨?_,?_,?_⟩));done));push_cast [iO,tN,  wl1 ]))|((first|refine pG ?_|refine pQ ?_|refine pU ?_);push_cast [iO,tN,wl1])|(refine pif (fun h=>?_) (fun h=>?_)<;>first|exact pN h|push_cast [iO,tN,wl1]))
  exact ⟨(j1 - 1,x1++[(pick L (k+8+1+x1.length) wl1)]),by simp;omega,by (refine weak_fg ?_;push_cast [iO,tN,wl1]);try omega,by simp only;omega⟩
 ·have hx1:x1.length≤3:=by omega
  have he1:=List.take_of_length_le (l:=(x1).map strD) (i:=x1.length) (by simp)
  repeat' (first|((first|refine pG ?_|refine pQ ?_|refine pU ?_);push_cast [iO,tN])|(refine pif (fun h=>?_) (fun h=>?_)<;>first|exact pN h|push_cast [iO,tN]))
  refine pl_weak (weak_frz 3 (by omega)) ?_
  refine pl_weak (s':=⟨[(25,.c (.ptr 0 0)),(3,.c (.ptr 2 0)),(2,.c (.ptr 1 0)),(0,.c (.ptr 0 0))],[tape L (k+8+1+x1.length),.box 30 [.v (.slice none 0 0),.v (.slice none 0 0),.v (.slice none 0 0),.v (.slice none 0 0),.v (.slice none 0 0)],.box 30 [.sl 6 (mods.map Mod.d),.sl 1 ((x1).map strD),.v (.slice none 0 0),.v (.slice none 0 0),.v (.slice none 0 0)]]⟩) (by (refine weak_fg ?_;push_cast [iO,tN,he1])) ?_
  refine pl_of_pops ?_
  push_cast [iO,tN]
  obtain ⟨hb2,hc2⟩:=fold_bds (tapeAt L (k+8+1+x1.length)) 2 (by omega)
  obtain ⟨v2,hv2⟩:∃ v,fold (tapeAt L (k+8+1+x1.length)) 2=v:=⟨_,rfl⟩
  rw [hv2] at hb2 hc2
  repeat' (first|(refine plc [0] (next_pure L (k+8+1+x1.length) 2 (by omega) (by omega) hL hl) ?_ ?_;push_cast [iO,tN,hv2];rintro r os ⟨rfl,rfl⟩;push_cast [iO,tN,hv2])|((first|refine pG ?_|refine pQ ?_|refine pU ?_);push_cast [iO,tN,hv2])|(refine pif (fun h=>?_) (fun h=>?_)<;>first|exact pN h|push_cast [iO,tN,hv2]))
  refine pwp_weak (weak_adopt_box 2 2 9 1 (by omega) 30 _ (by push_cast [iO,tN];rfl) (by push_cast [iO,tN])) ?_
  push_cast [iO,tN]
  refine pwp_loop2 (α:=Nat × List ByteArray) (fun x=>x.1+x.2.length=v2.toNat) (fun x=>⟨[(5,.c (.v (.int .i64 x.1))),(3,.c (.ptr 2 0)),(2,.c (.ptr 1 0)),(0,.c (.ptr 0 0))],[tape L (k+8+1+x1.length+1+x.2.length),.box 30 [.v (.slice none 0 0),.v (.slice none 0 0),.v (.slice none 0 0),.v (.slice none 0 0),.v (.slice none 0 0)],.box 30 [.sl 6 (mods.map Mod.d),.sl 1 ((x1).map strD),.own 3 x.2.length,.v (.slice none 0 0),.v (.slice none 0 0)],.arr 9 1 ((x.2).map strD)]⟩) (fun x=>x.1) (v2.toNat,[]) (by simp) (by (refine weak_fg ?_;push_cast [iO,tN]);try omega) ?_
  rintro ⟨j2,x2⟩ hj2
  simp only at hj2
  by_cases hj02:0 < j2
  ·repeat' (first|((refine pwp_drawn_to ⟨[(5,.c (.v (.int .i64 j2))),(3,.c (.ptr 2 0)),(2,.c (.ptr 1 0)),(0,.c (.ptr 0 0))],[tape L (k+8+1+x1.length+1+x2.length+1),.box 30 [.v (.slice none 0 0),.v (.slice none 0 0),.v (.slice none 0 0),.v (.slice none 0 0),.v (.slice none 0 0)],.box 30 [.sl 6 (mods.map Mod.d),.sl 1 ((x1).map strD),.own 3 (x2.length+1),.v (.slice none 0 0),.v (.slice none 0 0)],.arr 9 1 ((x2++[(pick L (k+8+1+x1.length+1+x2.length) wl2)]).map strD)]⟩ (by kernel_rfl) ?_ ?_;(focus (simp only [List.length_cons,List.length_nil,Nat.reduceAdd];(repeat' first|(refine plc [0] (one_pure L (k+8+1+x1.length+1+x2.length) wl2 (by omega) (by decide) (by decide) hL hl) ?_ ?_;push_cast [iO,tN,  wl2 ];rintro r os ⟨rfl,rfl⟩;push_cast [iO,tN,  wl2 ])|((first|refine pah 0 ?_|refine pah 2 ?_|refine pah 7 ?_);push_cast [iO,tN,  wl2 ])|(refine pad ?_;refine weak_fg ?_;push_cast [iO,tN,  wl2 ])|((first|refine pas [1] ?_|refine pas [3] ?_|refine pas [4] ?_|refine pas [5] ?_|refine pas [6] ?_|refine pas [8] ?_);push_cast [iO,tN,  wl2 ])|((first|refine pas [1,3] ?_|refine pas [1,4] ?_|refine pas [1,5] ?_|refine pas [1,6] ?_|refine pas [1,8] ?_|refine pas [3,4] ?_|refine pas [3,5] ?_|refine pas [3,6] ?_|refine pas [3,8] ?_|refine pas [4,5] ?_|refine pas [4,6] ?_|refine pas [4,8] ?_|refine pas [5,6] ?_|refine pas [5,8] ?_|refine pas [6,8] ?_);push_cast [iO,tN,  wl2 ];refine ⟨?_,?_⟩)|((first|refine pas [1,3,4] ?_|refine pas [1,3,5] ?_|refine pas [1,3,6] ?_|refine pas [1,3,8] ?_|refine pas [1,4,5] ?_|refine pas [1,4,6] ?_|refine pas [1,4,8] ?_|refine pas [1,5,6] ?_|refine pas [1,5,8] ?_|refine pas [1,6,8] ?_|refine pas [3,4,5] ?_|refine pas [3,4,6] ?_|refine pas [3,4,8] ?_|refine pas [3,5,6] ?_|refine pas [3,5,8] ?_|refine pas [3,6,8] ?_|refine pas [4,5,6] ?_|refine pas [4,5,8] ?_|refine pas [4,6,8] ?_|refine pas [5,6,8] ?_);push_cast [iO,tN,  wl2 ];refine ⟨?_,?_,?_⟩));done));push_cast [iO,tN,  wl2 ]))|((first|refine pG ?_|refine pQ ?_|refine pU ?_);push_cast [iO,tN,wl2])|(refine pif (fun h=>?_) (fun h=>?_)<;>first|exact pN h|push_cast [iO,tN,wl2]))
   exact ⟨(j2 - 1,x2++[(pick L (k+8+1+x1.length+1+x2.length) wl2)]),by simp;omega,by (refine weak_fg ?_;push_cast [iO,tN,wl2]);try omega,by simp only;omega⟩
  ·have hx2:x2.length≤2:=by omega
   have he2:=List.take_of_length_le (l:=(x2).map strD) (i:=x2.length) (by simp)
   repeat' (first|((first|refine pG ?_|refine pQ ?_|refine pU ?_);push_cast [iO,tN])|(refine pif (fun h=>?_) (fun h=>?_)<;>first|exact pN h|push_cast [iO,tN]))
   refine pl_weak (weak_frz 3 (by omega)) ?_
   refine pl_weak (s':=⟨[(39,.c (.ptr 0 0)),(3,.c (.ptr 2 0)),(2,.c (.ptr 1 0)),(0,.c (.ptr 0 0))],[tape L (k+8+1+x1.length+1+x2.length),.box 30 [.v (.slice none 0 0),.v (.slice none 0 0),.v (.slice none 0 0),.v (.slice none 0 0),.v (.slice none 0 0)],.box 30 [.sl 6 (mods.map Mod.d),.sl 1 ((x1).map strD),.sl 1 ((x2).map strD),.v (.slice none 0 0),.v (.slice none 0 0)]]⟩) (by (refine weak_fg ?_;push_cast [iO,tN,he2])) ?_
   refine pl_of_pops ?_
   push_cast [iO,tN]
   obtain ⟨hb3,hc3⟩:=fold_bds (tapeAt L (k+8+1+x1.length+1+x2.length)) 2 (by omega)
   obtain ⟨v3,hv3⟩:∃ v,fold (tapeAt L (k+8+1+x1.length+1+x2.length)) 2=v:=⟨_,rfl⟩
   rw [hv3] at hb3 hc3
   repeat' (first|(refine plc [0] (next_pure L (k+8+1+x1.length+1+x2.length) 2 (by omega) (by omega) hL hl) ?_ ?_;push_cast [iO,tN,hv3];rintro r os ⟨rfl,rfl⟩;push_cast [iO,tN,hv3])|((first|refine pG ?_|refine pQ ?_|refine pU ?_);push_cast [iO,tN,hv3])|(refine pif (fun h=>?_) (fun h=>?_)<;>first|exact pN h|push_cast [iO,tN,hv3]))
   refine pwp_weak (weak_adopt_box 2 3 9 1 (by omega) 30 _ (by push_cast [iO,tN];rfl) (by push_cast [iO,tN])) ?_
   push_cast [iO,tN]
   refine pwp_loop2 (α:=Nat × List ByteArray) (fun x=>x.1+x.2.length=v3.toNat) (fun x=>⟨[(6,.c (.v (.int .i64 x.1))),(3,.c (.ptr 2 0)),(2,.c (.ptr 1 0)),(0,.c (.ptr 0 0))],[tape L (k+8+1+x1.length+1+x2.length+1+x.2.length),.box 30 [.v (.slice none 0 0),.v (.slice none 0 0),.v (.slice none 0 0),.v (.slice none 0 0),.v (.slice none 0 0)],.box 30 [.sl 6 (mods.map Mod.d),.sl 1 ((x1).map strD),.sl 1 ((x2).map strD),.own 3 x.2.length,.v (.slice none 0 0)],.arr 9 1 ((x.2).map strD)]⟩) (fun x=>x.1) (v3.toNat,[]) (by simp) (by (refine weak_fg ?_;push_cast [iO,tN]);try omega) ?_
   rintro ⟨j3,x3⟩ hj3
   simp only at hj3
   by_cases hj03:0 < j3
   ·repeat' (first|((refine pwp_drawn_to ⟨[(6,.c (.v (.int .i64 j3))),(3,.c (.ptr 2 0)),(2,.c (.ptr 1 0)),(0,.c (.ptr 0 0))],[tape L (k+8+1+x1.length+1+x2.length+1+x3.length+1),.box 30 [.v (.slice none 0 0),.v (.slice none 0 0),.v (.slice none 0 0),.v (.slice none 0 0),.v (.slice none 0 0)],.box 30 [.sl 6 (mods.map Mod.d),.sl 1 ((x1).map strD),.sl 1 ((x2).map strD),.own 3 (x3.length+1),.v (.slice none 0 0)],.arr 9 1 ((x3++[(pick L (k+8+1+x1.length+1+x2.length+1+x3.length) wl3)]).map strD)]⟩ (by kernel_rfl) ?_ ?_;(focus (simp only [List.length_cons,List.length_nil,Nat.reduceAdd];(repeat' first|(refine plc [0] (one_pure L (k+8+1+x1.length+1+x2.length+1+x3.length) wl3 (by omega) (by decide) (by decide) hL hl) ?_ ?_;push_cast [iO,tN,  wl3 ];rintro r os ⟨rfl,rfl⟩;push_cast [iO,tN,  wl3 ])|((first|refine pah 0 ?_|refine pah 2 ?_|refine pah 7 ?_);push_cast [iO,tN,  wl3 ])|(refine pad ?_;refine weak_fg ?_;push_cast [iO,tN,  wl3 ])|((first|refine pas [1] ?_|refine pas [3] ?_|refine pas [4] ?_|refine pas [5] ?_|refine pas [6] ?_|refine pas [8] ?_);push_cast [iO,tN,  wl3 ])|((first|refine pas [1,3] ?_|refine pas [1,4] ?_|refine pas [1,5] ?_|refine pas [1,6] ?_|refine pas [1,8] ?_|refine pas [3,4] ?_|refine pas [3,5] ?_|refine pas [3,6] ?_|refine pas [3,8] ?_|refine pas [4,5] ?_|refine pas [4,6] ?_|refine pas [4,8] ?_|refine pas [5,6] ?_|refine pas [5,8] ?_|refine pas [6,8] ?_);push_cast [iO,tN,  wl3 ];refine ⟨?_,?_⟩)|((first|refine pas [1,3,4] ?_|refine pas [1,3,5] ?_|refine pas [1,3,6] ?_|refine pas [1,3,8] ?_|refine pas [1,4,5] ?_|refine pas [1,4,6] ?_|refine pas [1,4,8] ?_|refine pas [1,5,6] ?_|refine pas [1,5,8] ?_|refine pas [1,6,8] ?_|refine pas [3,4,5] ?_|refine pas [3,4,6] ?_|refine pas [3,4,8] ?_|refine pas [3,5,6] ?_|refine pas [3,5,8] ?_|refine pas [3,6,8] ?_|refine pas [4,5,6] ?_|refine pas [4,5,8] ?_|refine pas [4,6,8] ?_|refine pas [5,6,8] ?_);push_cast [iO,tN,  wl3 ];refine ⟨?_,?_,?_⟩));done));push_cast [iO,tN,  wl3 ]))|((first|refine pG ?_|refine pQ ?_|refine pU ?_);push_cast [iO,tN,wl3])|(refine pif (fun h=>?_) (fun h=>?_)<;>first|exact pN h|push_cast [iO,tN,wl3]))
    exact ⟨(j3 - 1,x3++[(pick L (k+8+1+x1.length+1+x2.length+1+x3.length) wl3)]),by simp;omega,by (refine weak_fg ?_;push_cast [iO,tN,wl3]);try omega,by simp only;omega⟩
   ·have hx3:x3.length≤2:=by omega
    have he3:=List.take_of_length_le (l:=(x3).map strD) (i:=x3.length) (by simp)
    repeat' (first|((first|refine pG ?_|refine pQ ?_|refine pU ?_);push_cast [iO,tN])|(refine pif (fun h=>?_) (fun h=>?_)<;>first|exact pN h|push_cast [iO,tN]))
    refine pl_weak (weak_frz 3 (by omega)) ?_
    refine pl_weak (s':=⟨[(53,.c (.ptr 0 0)),(3,.c (.ptr 2 0)),(2,.c (.ptr 1 0)),(0,.c (.ptr 0 0))],[tape L (k+8+1+x1.length+1+x2.length+1+x3.length),.box 30 [.v (.slice none 0 0),.v (.slice none 0 0),.v (.slice none 0 0),.v (.slice none 0 0),.v (.slice none 0 0)],.box 30 [.sl 6 (mods.map Mod.d),.sl 1 ((x1).map strD),.sl 1 ((x2).map strD),.sl 1 ((x3).map strD),.v (.slice none 0 0)]]⟩) (by (refine weak_fg ?_;push_cast [iO,tN,he3])) ?_
    refine pl_of_pops ?_
    push_cast [iO,tN]
    obtain ⟨hb4,hc4⟩:=fold_bds (tapeAt L (k+8+1+x1.length+1+x2.length+1+x3.length)) 3 (by omega)
    obtain ⟨v4,hv4⟩:∃ v,fold (tapeAt L (k+8+1+x1.length+1+x2.length+1+x3.length)) 3=v:=⟨_,rfl⟩
    rw [hv4] at hb4 hc4
    repeat' (first|(refine plc [0] (next_pure L (k+8+1+x1.length+1+x2.length+1+x3.length) 3 (by omega) (by omega) hL hl) ?_ ?_;push_cast [iO,tN,hv4];rintro r os ⟨rfl,rfl⟩;push_cast [iO,tN,hv4])|((first|refine pG ?_|refine pQ ?_|refine pU ?_);push_cast [iO,tN,hv4])|(refine pif (fun h=>?_) (fun h=>?_)<;>first|exact pN h|push_cast [iO,tN,hv4]))
    refine pwp_weak (weak_adopt_box 2 4 93 2 (by omega) 30 _ (by push_cast [iO,tN];rfl) (by push_cast [iO,tN])) ?_
    push_cast [iO,tN]
    refine pwp_loop2 (α:=Nat × List Ext2) (fun x=>x.1+x.2.length=v4.toNat∧∀ y ∈ x.2,y.name.size≤10) (fun x=>⟨[(7,.c (.v (.int .i64 x.1))),(3,.c (.ptr 2 0)),(2,.c (.ptr 1 0)),(0,.c (.ptr 0 0))],[tape L (k+8+1+x1.length+1+x2.length+1+x3.length+1+2 * x.2.length),.box 30 [.v (.slice none 0 0),.v (.slice none 0 0),.v (.slice none 0 0),.v (.slice none 0 0),.v (.slice none 0 0)],.box 30 [.sl 6 (mods.map Mod.d),.sl 1 ((x1).map strD),.sl 1 ((x2).map strD),.sl 1 ((x3).map strD),.own 3 x.2.length],.arr 93 2 ((x.2).map Ext2.d)]⟩) (fun x=>x.1) (v4.toNat,[]) ⟨by simp,by simp⟩ (by (refine weak_fg ?_;push_cast [iO,tN]);try omega) ?_
    rintro ⟨j4,x4⟩ ⟨hj4,hn4⟩
    simp only at hj4 hn4
    by_cases hj04:0 < j4
    ·repeat' (first|((refine pwp_drawn_to ⟨[(7,.c (.v (.int .i64 j4))),(3,.c (.ptr 2 0)),(2,.c (.ptr 1 0)),(0,.c (.ptr 0 0))],[tape L (k+8+1+x1.length+1+x2.length+1+x3.length+1+2 * x4.length+2),.box 30 [.v (.slice none 0 0),.v (.slice none 0 0),.v (.slice none 0 0),.v (.slice none 0 0),.v (.slice none 0 0)],.box 30 [.sl 6 (mods.map Mod.d),.sl 1 ((x1).map strD),.sl 1 ((x2).map strD),.sl 1 ((x3).map strD),.own 3 (x4.length+1)],.arr 93 2 ((x4++[(⟨pick L (k+8+1+x1.length+1+x2.length+1+x3.length+1+2 * x4.length) wl4,pick L (k+8+1+x1.length+1+x2.length+1+x3.length+1+2 * x4.length+1) wl5⟩:Ext2)]).map Ext2.d)]⟩ (by kernel_rfl) ?_ ?_;(focus (simp only [List.length_cons,List.length_nil,Nat.reduceAdd];(repeat' first|(refine plc [0] (one_pure L (k+8+1+x1.length+1+x2.length+1+x3.length+1+2 * x4.length) wl4 (by omega) (by decide) (by decide) hL hl) ?_ ?_;push_cast [iO,tN,  wl4,wl5 ];rintro r os ⟨rfl,rfl⟩;push_cast [iO,tN,  wl4,wl5 ])|(refine plc [0] (one_pure L (k+8+1+x1.length+1+x2.length+1+x3.length+1+2 * x4.length+1) wl5 (by omega) (by decide) (by decide) hL hl) ?_ ?_;push_cast [iO,tN,  wl4,wl5 ];rintro r os ⟨rfl,rfl⟩;push_cast [iO,tN,  wl4,wl5 ])|((first|refine pah 0 ?_|refine pah 2 ?_|refine pah 5 ?_|refine pah 8 ?_|refine pah 11 ?_);push_cast [iO,tN,  wl4,wl5 ])|(refine pad ?_;refine weak_fg ?_;push_cast [iO,tN,  wl4,wl5 ])|((first|refine pas [1] ?_|refine pas [3] ?_|refine pas [4] ?_|refine pas [6] ?_|refine pas [7] ?_|refine pas [9] ?_|refine pas [10] ?_|refine pas [12] ?_);push_cast [iO,tN,  wl4,wl5 ])|((first|refine pas [1,3] ?_|refine pas [1,4] ?_|refine pas [1,6] ?_|refine pas [1,7] ?_|refine pas [1,9] ?_|refine pas [1,10] ?_|refine pas [1,12] ?_|refine pas [3,4] ?_|refine pas [3,6] ?_|refine pas [3,7] ?_|refine pas [3,9] ?_|refine pas [3,10] ?_|refine pas [3,12] ?_|refine pas [4,6] ?_|refine pas [4,7] ?_|refine pas [4,9] ?_|refine pas [4,10] ?_|refine pas [4,12] ?_|refine pas [6,7] ?_|refine pas [6,9] ?_|refine pas [6,10] ?_|refine pas [6,12] ?_|refine pas [7,9] ?_|refine pas [7,10] ?_|refine pas [7,12] ?_|refine pas [9,10] ?_|refine pas [9,12] ?_|refine pas [10,12] ?_);push_cast [iO,tN,  wl4,wl5 ];refine ⟨?_,?_⟩)|((first|refine pas [1,3,4] ?_|refine pas [1,3,6] ?_|refine pas [1,3,7] ?_|refine pas [1,3,9] ?_|refine pas [1,3,10] ?_|refine pas [1,3,12] ?_|refine pas [1,4,6] ?_|refine pas [1,4,7] ?_|refine pas [1,4,9] ?_|refine pas [1,4,10] ?_|refine pas [1,4,12] ?_|refine pas [1,6,7] ?_|refine pas [1,6,9] ?_|refine pas [1,6,10] ?_|refine pas [1,6,12] ?_|refine pas [1,7,9] ?_|refine pas [1,7,10] ?_|refine pas [1,7,12] ?_|refine pas [1,9,10] ?_|refine pas [1,9,12] ?_|refine pas [1,10,12] ?_|refine pas [3,4,6] ?_|refine pas [3,4,7] ?_|refine pas [3,4,9] ?_|refine pas [3,4,10] ?_|refine pas [3,4,12] ?_|refine pas [3,6,7] ?_|refine pas [3,6,9] ?_|refine pas [3,6,10] ?_|refine pas [3,6,12] ?_|refine pas [3,7,9] ?_|refine pas [3,7,10] ?_|refine pas [3,7,12] ?_|refine pas [3,9,10] ?_|refine pas [3,9,12] ?_|refine pas [3,10,12] ?_|refine pas [4,6,7] ?_|refine pas [4,6,9] ?_|refine pas [4,6,10] ?_|refine pas [4,6,12] ?_|refine pas [4,7,9] ?_|refine pas [4,7,10] ?_|refine pas [4,7,12] ?_|refine pas [4,9,10] ?_|refine pas [4,9,12] ?_|refine pas [4,10,12] ?_|refine pas [6,7,9] ?_|refine pas [6,7,10] ?_|refine pas [6,7,12] ?_|refine pas [6,9,10] ?_|refine pas [6,9,12] ?_|refine pas [6,10,12] ?_|refine pas [7,9,10] ?_|refine pas [7,9,12] ?_|refine pas [7,10,12] ?_|refine pas [9,10,12] ?_);push_cast [iO,tN,  wl4,wl5 ];refine ⟨?_,?_,?_⟩));done));push_cast [iO,tN,  wl4,wl5 ]))|((first|refine pG ?_|refine pQ ?_|refine pU ?_);push_cast [iO,tN,wl4,wl5])|(refine pif (fun h=>?_) (fun h=>?_)<;>first|exact pN h|push_cast [iO,tN,wl4,wl5]))
     exact ⟨(j4 - 1,x4++[(⟨pick L (k+8+1+x1.length+1+x2.length+1+x3.length+1+2 * x4.length) wl4,pick L (k+8+1+x1.length+1+x2.length+1+x3.length+1+2 * x4.length+1) wl5⟩:Ext2)]),⟨by simp;omega,fun y hy=>(List.mem_append.1 hy).elim (hn4 y) fun h=>by rw [List.mem_singleton.1 h];exact pick_size (by decide) (by decide)⟩,by (refine weak_fg ?_;push_cast [iO,tN,wl4,wl5]);try omega,by simp only;omega⟩
    ·have hx4:x4.length≤3:=by omega
     have he4:=List.take_of_length_le (l:=(x4).map Ext2.d) (i:=x4.length) (by simp)
     repeat' (first|((first|refine pG ?_|refine pQ ?_|refine pU ?_);push_cast [iO,tN])|(refine pif (fun h=>?_) (fun h=>?_)<;>first|exact pN h|push_cast [iO,tN]))
     (refine retK_of [0] ?_;push_cast [iO,tN])
     exact ⟨.agg (Cfg.e ⟨mods,x1,x2,x3,x4⟩),[tape L (k+8+1+x1.length+1+x2.length+1+x3.length+1+2 * x4.length)],by push_cast [iO,tN,he4],by push_cast [iO,tN],⟨mods,x1,x2,x3,x4⟩,k+8+1+x1.length+1+x2.length+1+x3.length+1+2 * x4.length,⟨⟨wm_ok hmods (by simp only;omega),⟨hmods,by simp only;omega,by simp only;omega,by simp only;omega,hn4⟩⟩,by omega⟩,rfl,rfl⟩
theorem cfgN_pure (L:List Int) (hL:∀ x ∈ L,-9223372036854775808≤x∧x≤9223372036854775807) (hl:L.length≤9223372036854775807) :
  PCalls Tryz.prog 4 [.c (.ptr 0 0)] [tape L 0] fun r os=>∃ (c:Cfg) (k':Nat),((OkCfg c∧∀ m ∈ c.modules,WMod m)∧k'≤100)∧r = .agg c.e∧os=[tape L k']:=by
 have:=config_pure L 0 (by omega) hL hl ((wconfig_full L (0+1) (by omega) hL hl).mono (by
  rintro r os ⟨c,k',⟨⟨h1,h2⟩,h3⟩,rfl,rfl⟩
  exact ⟨c,k',⟨⟨h1,fun m hm=>okMs_w wmL_ok m (h2.sub.subset hm)⟩,by omega⟩,rfl,rfl⟩))
 exact this.mono (by rintro r os ⟨c,k',⟨h1,h2⟩,h3⟩;exact ⟨c,k',⟨h1,by omega⟩,h3⟩)
set_option maxRecDepth 20000
set_option maxRecDepth 20000
set_option maxRecDepth 20000
set_option maxRecDepth 20000
theorem dWhy_pure (c:Cfg) (n:ByteArray) (hc:CfgOk c) (hn:n.size≤maxLen) :
  PCalls Tryz.prog 37 [.agg c.e,.c (.v (.string n))] [] fun r os=>r = .c (.v (.int .i64 (whyV c.modules c.off n)))∧os=[]:=by
 have hS:=hc.small
 have hML:=hS.len
 refine pcalls_of Tryz.func37 rfl (by simp [Tryz.ntmps37]) ?_
 rw [Tryz.ntmps37,Tryz.results37]
 push_cast [iO,tN]
 repeat' (first |  ((refine pwp_drawn_to ⟨[(4,.c (.v (.int .i64 (whyV c.modules c.off n))))],[.box 30 c.e,.map none true (modsE c.modules)]⟩ (by kernel_rfl) ?_ ?_;(focus (simp only [List.length_cons,List.length_nil,Nat.reduceAdd];(repeat' first|(refine plc [] (modules_pure c hS.nodup (by omega)) ?_ ?_;push_cast [iO,tN];rintro r os ⟨rfl,rfl⟩;push_cast [iO,tN])|(refine plc [1] (why_pure c n hc hn) ?_ ?_;push_cast [iO,tN];rintro r os ⟨rfl,rfl⟩;push_cast [iO,tN])|((first|refine pah 3 ?_|refine pah 5 ?_);push_cast [iO,tN])|(refine pad ?_;refine weak_fg ?_;push_cast [iO,tN])|((first|refine pas [0] ?_|refine pas [1] ?_|refine pas [2] ?_|refine pas [4] ?_);push_cast [iO,tN])|((first|refine pas [0,1] ?_|refine pas [0,2] ?_|refine pas [0,4] ?_|refine pas [1,2] ?_|refine pas [1,4] ?_|refine pas [2,4] ?_);push_cast [iO,tN];refine ⟨?_,?_⟩)|((first|refine pas [0,1,2] ?_|refine pas [0,1,4] ?_|refine pas [0,2,4] ?_|refine pas [1,2,4] ?_);push_cast [iO,tN];refine ⟨?_,?_,?_⟩));done));push_cast [iO,tN]))  | ((first|refine pG ?_|refine pQ ?_|refine pU ?_);push_cast [iO,tN])|(refine pif (fun h=>?_) (fun h=>?_)<;>first|exact pN h|push_cast [iO,tN]))
 (refine retK_of [] ?_;push_cast [iO,tN])
theorem dCan_pure (c:Cfg) (n:ByteArray) (hc:CfgOk c) (hn:n.size≤maxLen) :
  PCalls Tryz.prog 38 [.agg c.e,.c (.v (.string n))] [] fun r os=>r = .c (.v (.bool (decide (whyV c.modules c.off n=0))))∧os=[]:=by
 refine pcalls_of Tryz.func38 rfl (by simp [Tryz.ntmps38]) ?_
 rw [Tryz.ntmps38,Tryz.results38]
 push_cast [iO,tN]
 repeat' (first |  (refine plc [] (dWhy_pure c n hc hn) ?_ ?_;push_cast [iO,tN];rintro r os ⟨rfl,rfl⟩;push_cast [iO,tN])  | ((first|refine pG ?_|refine pQ ?_|refine pU ?_);push_cast [iO,tN])|(refine pif (fun h=>?_) (fun h=>?_)<;>first|exact pN h|push_cast [iO,tN]))
 (refine retK_of [] ?_;push_cast [iO,tN])
theorem same_pure (a b:List ByteArray) (ha:a.length≤1000000000) (hb:b.length≤1000000000) :
  PCalls Tryz.prog 12 [.c (.sl 1 (a.map strD)),.c (.sl 1 (b.map strD))] [] fun r os=>r = .c (.v (.bool (decide (a=b))))∧os=[]:=by
 refine pcalls_of Tryz.func12 rfl (by simp [Tryz.ntmps12]) ?_
 rw [Tryz.ntmps12,Tryz.results12]
 push_cast [iO,tN]
 by_cases hl:a.length=b.length
 ·repeat' (first|((first|refine pG ?_|refine pQ ?_|refine pU ?_);push_cast [iO,tN])|(refine pif (fun h=>?_) (fun h=>?_)<;>first|exact pN h|push_cast [iO,tN]))
  refine pwp_loop2 (α:=Nat) (fun k=>k≤a.length∧a.take k=b.take k) (fun k=>⟨[(5,.c (.v (.int .i64 k))),(0,.c (.sl 1 (a.map strD))),(1,.c (.sl 1 (b.map strD)))],[]⟩) (fun k=>a.length - k) 0 ⟨by omega,by simp⟩ (by (refine weak_fg ?_;push_cast [iO,tN])) ?_
  rintro k ⟨hk,hpre⟩
  by_cases hlt:k < a.length
  ·have hlt':k < b.length:=by omega
   have e1:=getD_lt a hlt
   have e2:=getD_lt b hlt'
   repeat' (first|((first|refine pG ?_|refine pQ ?_|refine pU ?_);push_cast [iO,tN])|(refine pif (fun h=>?_) (fun h=>?_)<;>first|exact pN h|push_cast [iO,tN]))
   ·(refine retK_of [] ?_;push_cast [iO,tN])
    rw [e1,e2] at h
    have:¬ a=b:=fun e=>by subst e;simp at h
    simp [this]
   ·refine ⟨k+1,⟨by omega,?_⟩,by (refine weak_fg ?_;push_cast [iO,tN]),by omega⟩
    rw [e1,e2] at h
    have h':a[k]=b[k]:=by simpa using h
    rw [List.take_succ_eq_append_getElem hlt,List.take_succ_eq_append_getElem hlt',hpre,h']
  ·rw [List.take_of_length_le (by omega),List.take_of_length_le (by omega)] at hpre
   repeat' (first|((first|refine pG ?_|refine pQ ?_|refine pU ?_);push_cast [iO,tN])|(refine pif (fun h=>?_) (fun h=>?_)<;>first|exact pN h|push_cast [iO,tN]))
   (refine retK_of [] ?_;push_cast [iO,tN])
   simp [hpre]
 ·have:¬ a=b:=fun e=>hl (by rw [e])
  repeat' (first|((first|refine pG ?_|refine pQ ?_|refine pU ?_);push_cast [iO,tN])|(refine pif (fun h=>?_) (fun h=>?_)<;>first|exact pN h|push_cast [iO,tN]))
  (refine retK_of [] ?_;push_cast [iO,tN])
  simp [this]
end Go.Proofs.YtgijigkfmbiifaaGreatDoor
