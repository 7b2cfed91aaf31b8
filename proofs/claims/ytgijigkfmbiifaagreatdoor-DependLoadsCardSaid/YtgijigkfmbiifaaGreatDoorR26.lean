/- What the program computes, and the plain laws of it, part 26. -/
import Derived.Lib.ItoaNum
import Derived.Test.YtgijigkfmbiifaaGreatDoorR25
namespace Go.Proofs.YtgijigkfmbiifaaGreatDoor
attribute [local irreducible] PL QL PWPr PCalls Weak RetK Kontr PA
open Go.RowKit
open IntWalk renaming iteOmega → iO, toNatUp → tN
set_option linter.unusedVariables false
set_option linter.unusedSimpArgs false
set_option maxRecDepth 20000
def abL:List ByteArray:=[⟨#[97]⟩,⟨#[98]⟩,⟨#[99]⟩,⟨#[100]⟩,⟨#[101]⟩]
def afL:List ByteArray:=[⟨#[97]⟩,⟨#[98]⟩,⟨#[99]⟩,⟨#[100]⟩,⟨#[101]⟩,⟨#[102]⟩]
def acL:List ByteArray:=[⟨#[97]⟩,⟨#[98]⟩,⟨#[99]⟩]
theorem pick_mem {L:List Int} {k:Nat} {l:List ByteArray} (h0:0 < l.length):pick L k l ∈ l:=by
 have:=fold_bds (tapeAt L k) l.length (by omega)
 unfold pick
 rw [getD_lt _ (by omega)]
 exact List.getElem_mem _
theorem afL_ok:∀ x ∈ afL,validS x=true:=by decide +kernel
theorem abL_ok:∀ i,i < 5 → validS (abL.getD i default)=true:=by decide +kernel
theorem afL_size:∀ x ∈ afL,x.size≤10:=by intro x hx;simp [afL] at hx;rcases hx with h|h|h|h|h|h<;>(subst h;decide)
structure CI (k i kt:Nat) (mods:List Mod):Prop where
 hi:i≤5
 hkt:kt≤k+1+14 * i
 len:mods.length≤i
 ok:∀ m ∈ mods,OkMod m
 w:∀ m ∈ mods,WMod m
 names:(mods.map Mod.name).Sublist (abL.take i)
theorem CI.zero (k:Nat):CI k 0 (k+1) []:=⟨by omega,by omega,by simp,by simp,by simp,by simp⟩
theorem abL_nodup:abL.Nodup:=by decide
theorem CI.skip {k i kt kt':Nat} {mods:List Mod} (h:CI k i kt mods) (hi:i < 5) (hk:kt'≤kt+14):CI k (i+1) kt' mods :=
 ⟨by omega,by have:=h.hkt;omega,by have:=h.len;omega,h.ok,h.w,h.names.trans (List.take_sublist_take_left (by omega))⟩
theorem abL_name:∀ i,i < 5 → abL.getD i default≠⟨#[]⟩:=by
 intro i hi
 have:i=0∨i=1∨i=2∨i=3∨i=4:=by omega
 rcases this with h|h|h|h|h<;>(subst h;decide)
theorem abL_nsz:∀ i,i < 5 → (abL.getD i default).size≤10:=by
 intro i hi
 have:i=0∨i=1∨i=2∨i=3∨i=4:=by omega
 rcases this with h|h|h|h|h<;>(subst h;decide)
theorem law_mod {n:ByteArray} {a b c:List ByteArray} {f:Bool} (hn:validS n=true) (hz:n.size≤10) (h1:a.length≤2) (h2:b.length≤2) (h3:c.length≤2) (h4:∀ x ∈ a,x ∈ afL) (h5:∀ x ∈ b,x ∈ afL) (h6:∀ x ∈ c,x ∈ afL):WMod ⟨n,[],a,b,c,f⟩:=by
 have hz4:∀ x ∈ a,Fit x:=fun x hx=>fit_of (afL_size x (h4 x hx)) (by decide)
 have hz5:∀ x ∈ b,Fit x:=fun x hx=>fit_of (afL_size x (h5 x hx)) (by decide)
 have hz6:∀ x ∈ c,Fit x:=fun x hx=>fit_of (afL_size x (h6 x hx)) (by decide)
 refine ⟨?_,⟨fit_of hz (by decide),(fun s hs=>by cases hs),hz4,hz5,hz6,by simp,by simp only;omega,by simp only;omega,by simp only;omega⟩,by simp,by simp only;omega,(fun s hs=>by cases hs)⟩
 have hv:((a++b++c).any fun s=>!validS s)=false:=by
  rw [List.any_eq_false]
  intro x hx
  rw [List.mem_append,List.mem_append] at hx
  have:x ∈ afL:=by
   rcases hx with (hx|hx)|hx
   ·exact h4 x hx
   ·exact h5 x hx
   ·exact h6 x hx
  simp [afL_ok x this]
 have hfe:fewB ⟨n,[],a,b,c,f⟩=true:=by
  unfold fewB
  simp
  omega
 unfold modB
 rw [hv,hfe,hn]
 rfl
theorem CI.add {k i kt kt':Nat} {mods:List Mod} (h:CI k i kt mods) (hi:i < 5) (hk:kt'≤kt+14) (a b c:List ByteArray) (f:Bool) (h1:a.length≤2) (h2:b.length≤2) (h3:c.length≤2) (h4:∀ x ∈ a,x ∈ afL) (h5:∀ x ∈ b,x ∈ afL) (h6:∀ x ∈ c,x ∈ afL):CI k (i+1) kt' (mods++[⟨abL.getD i default,[],a,b,c,f⟩]):=by
 refine ⟨by omega,by have:=h.hkt;omega,by have:=h.len;simp;omega,fun x hx=>?_,fun x hx=>?_,?_⟩
 ·rcases List.mem_append.1 hx with hx|hx
  ·exact h.ok x hx
  ·simp only [List.mem_singleton] at hx
   subst hx
   exact ⟨by simp only;omega,by simp only;omega,by simp only;omega,fun x hx=>afL_size x (h4 x hx),fun x hx=>afL_size x (h5 x hx),fun x hx=>afL_size x (h6 x hx),abL_name i hi,abL_nsz i hi⟩
 ·rcases List.mem_append.1 hx with hx|hx
  ·exact h.w x hx
  ·simp only [List.mem_singleton] at hx
   subst hx
   exact law_mod (abL_ok i hi) (abL_nsz i hi) h1 h2 h3 h4 h5 h6
 ·have hl:i < abL.length:=hi
  rw [List.take_succ_eq_append_getElem hl,List.map_append]
  refine h.names.append ?_
  rw [List.map_cons,List.map_nil,getD_lt abL hl]
  exact List.Sublist.refl _
set_option maxRecDepth 200000 in
set_option maxHeartbeats 4000000 in
theorem config_pure (L:List Int) (k:Nat) (hk:k < 1000) (hL:∀ x ∈ L,-9223372036854775808≤x∧x≤9223372036854775807) (hl:L.length≤9223372036854775807)
  (hw:PCalls Tryz.prog 15 [.c (.ptr 0 0)] [tape L (k+1)] fun r os=>∃ (c:Cfg) (k':Nat),((OkCfg c∧∀ m ∈ c.modules,WMod m)∧k'≤k+100)∧r = .agg c.e∧os=[tape L k']) :
  PCalls Tryz.prog 4 [.c (.ptr 0 0)] [tape L k] fun r os=>∃ (c:Cfg) (k':Nat),((OkCfg c∧∀ m ∈ c.modules,WMod m)∧k'≤k+100)∧r = .agg c.e∧os=[tape L k']:=by
 refine pcalls_of Tryz.func4 rfl (by simp [Tryz.ntmps4]) ?_
 rw [Tryz.ntmps4,Tryz.results4]
 obtain ⟨v0,hv0⟩:∃ v,fold (tapeAt L k) 3=v:=⟨_,rfl⟩
 by_cases h0:v0=0
 ·subst h0
  push_cast [iO,tN]
  repeat' (first|(refine plc [0] (next_pure L k 3 (by omega) (by omega) hL hl) ?_ ?_;push_cast [iO,tN,hv0];rintro r os ⟨rfl,rfl⟩;push_cast [iO,tN,hv0])|(refine plc [0] (hw) ?_ ?_;push_cast [iO,tN,hv0];rintro r os ⟨c,k',⟨hc1,hc2⟩,rfl,rfl⟩;push_cast [iO,tN,hv0])|((first|refine pG ?_|refine pQ ?_|refine pU ?_);push_cast [iO,tN,hv0])|(refine pif (fun h=>?_) (fun h=>?_)<;>first|exact pN h|push_cast [iO,tN,hv0]))
  (refine retK_of [0] ?_;push_cast [iO,tN])
  exact ⟨_,_,leP_refl _,leOs_refl _,c,k',⟨hc1,hc2⟩,rfl,rfl⟩
 ·push_cast [iO,tN]
  repeat' (first|(refine plc [0] (next_pure L k 3 (by omega) (by omega) hL hl) ?_ ?_;push_cast [iO,tN,hv0,h0];rintro r os ⟨rfl,rfl⟩;push_cast [iO,tN,hv0,h0])|((first|refine pG ?_|refine pQ ?_|refine pU ?_);push_cast [iO,tN,hv0,h0])|(refine pif (fun h=>?_) (fun h=>?_)<;>first|exact pN h|push_cast [iO,tN,hv0,h0]))
  refine pwp_weak (weak_adopt_box 2 0 52 6 (by omega) 30 _ (by push_cast [iO,tN];rfl) (by push_cast [iO,tN])) ?_
  push_cast [iO,tN]
  refine pwp_loop2 (α:=Nat × Nat × List Mod) (fun x=>CI k x.1 x.2.1 x.2.2) (fun x=>⟨[(5,.c (.v (.int .i64 x.1))),(4,.c (.full 1 (abL.map strD))),(3,.c (.ptr 2 0)),(2,.c (.ptr 1 0)),(0,.c (.ptr 0 0))],[tape L (x.2.1),.box 30 [.v (.slice none 0 0),.v (.slice none 0 0),.v (.slice none 0 0),.v (.slice none 0 0),.v (.slice none 0 0)],.box 30 [.own 3 x.2.2.length,.v (.slice none 0 0),.v (.slice none 0 0),.v (.slice none 0 0),.v (.slice none 0 0)],.arr 52 6 (x.2.2.map Mod.d)]⟩) (fun x=>5 - x.1) (0,k+1,[]) (CI.zero k) (by (refine weak_fg ?_;push_cast [iO,tN,abL])) ?_
  rintro ⟨i,kt,mods⟩ hI
  simp only at hI
  have hi5:=hI.hi
  have hkt:=hI.hkt
  have hml:=hI.len
  have habl:abL.length=5:=rfl
  by_cases hlt:i < 5
  ·obtain ⟨f,hf⟩:∃ f,decide (fold (tapeAt L kt) 12=0)=f:=⟨_,rfl⟩
   repeat' (first|((refine pwp_drawn_to ⟨[(6,.c (.ptr 4 0)),(5,.c (.v (.int .i64 i))),(4,.c (.full 1 (abL.map strD))),(3,.c (.ptr 2 0)),(2,.c (.ptr 1 0)),(0,.c (.ptr 0 0))],[tape L (kt+1),.box 30 [.v (.slice none 0 0),.v (.slice none 0 0),.v (.slice none 0 0),.v (.slice none 0 0),.v (.slice none 0 0)],.box 30 [.own 3 mods.length,.v (.slice none 0 0),.v (.slice none 0 0),.v (.slice none 0 0),.v (.slice none 0 0)],.arr 52 6 (mods.map Mod.d),.box 52 [.v (.string (abL.getD i default)),.v (.slice none 0 0),.v (.slice none 0 0),.v (.slice none 0 0),.v (.slice none 0 0),.v (.bool f)]]⟩ (by kernel_rfl) ?_ ?_;(focus (simp only [List.length_cons,List.length_nil,Nat.reduceAdd];(repeat' first|(refine plc [0] (next_pure L kt 12 (by omega) (by omega) hL hl) ?_ ?_;push_cast [iO,tN,  habl,hf ];rintro r os ⟨rfl,rfl⟩;push_cast [iO,tN,  habl,hf ])|((first|refine pah 0 ?_|refine pah 1 ?_|refine pah 2 ?_|refine pah 4 ?_|refine pah 6 ?_|refine pah 7 ?_);push_cast [iO,tN,  habl,hf ])|(refine pad ?_;refine weak_fg ?_;push_cast [iO,tN,  habl,hf ])|((first|refine pas [3] ?_|refine pas [5] ?_|refine pas [8] ?_|refine pas [9] ?_);push_cast [iO,tN,  habl,hf ])|((first|refine pas [3,5] ?_|refine pas [3,8] ?_|refine pas [3,9] ?_|refine pas [5,8] ?_|refine pas [5,9] ?_|refine pas [8,9] ?_);push_cast [iO,tN,  habl,hf ];refine ⟨?_,?_⟩)|((first|refine pas [3,5,8] ?_|refine pas [3,5,9] ?_|refine pas [3,8,9] ?_|refine pas [5,8,9] ?_);push_cast [iO,tN,  habl,hf ];refine ⟨?_,?_,?_⟩));done));push_cast [iO,tN,  habl,hf ]))|(refine plc [0] (next_pure L (kt+1) 3 (by omega) (by omega) hL hl) ?_ ?_;push_cast [iO,tN,habl];rintro r os ⟨rfl,rfl⟩;push_cast [iO,tN,habl])|((first|refine pG ?_|refine pQ ?_|refine pU ?_);push_cast [iO,tN,habl])|(refine pif (fun h=>?_) (fun h=>?_)<;>first|exact pN h|push_cast [iO,tN,habl]))
   obtain ⟨hb2,hc2⟩:=fold_bds (tapeAt L (kt+1)) 3 (by omega)
   obtain ⟨v2,hv2⟩:∃ v,fold (tapeAt L (kt+1)) 3=v:=⟨_,rfl⟩
   rw [hv2] at hb2 hc2
   simp only [hv2]
   refine pwp_weak (weak_adopt_box 4 2 9 1 (by omega) 52 _ (by push_cast [iO,tN];rfl) (by push_cast [iO,tN])) ?_
   push_cast [iO,tN]
   refine pwp_loop2 (α:=Nat × List ByteArray) (fun x=>x.1+x.2.length=v2.toNat∧∀ y ∈ x.2,y ∈ afL) (fun x=>⟨[(7,.c (.v (.int .i64 x.1))),(6,.c (.ptr 4 0)),(5,.c (.v (.int .i64 i))),(4,.c (.full 1 (abL.map strD))),(3,.c (.ptr 2 0)),(2,.c (.ptr 1 0)),(0,.c (.ptr 0 0))],[tape L (kt+1+1+x.2.length),.box 30 [.v (.slice none 0 0),.v (.slice none 0 0),.v (.slice none 0 0),.v (.slice none 0 0),.v (.slice none 0 0)],.box 30 [.own 3 mods.length,.v (.slice none 0 0),.v (.slice none 0 0),.v (.slice none 0 0),.v (.slice none 0 0)],.arr 52 6 (mods.map Mod.d),.box 52 [.v (.string (abL.getD i default)),.v (.slice none 0 0),.own 5 x.2.length,.v (.slice none 0 0),.v (.slice none 0 0),.v (.bool f)],.arr 9 1 (x.2.map strD)]⟩) (fun x=>x.1) (v2.toNat,[]) ⟨by simp,by simp⟩ (by (refine weak_fg ?_;push_cast [iO,tN]);omega) ?_
   rintro ⟨j,x2⟩ ⟨hj,hs2⟩
   simp only at hj hs2
   by_cases hj0:0 < j
   ·repeat' (first|((refine pwp_drawn_to ⟨[(7,.c (.v (.int .i64 j))),(6,.c (.ptr 4 0)),(5,.c (.v (.int .i64 i))),(4,.c (.full 1 (abL.map strD))),(3,.c (.ptr 2 0)),(2,.c (.ptr 1 0)),(0,.c (.ptr 0 0))],[tape L (kt+1+1+x2.length+1),.box 30 [.v (.slice none 0 0),.v (.slice none 0 0),.v (.slice none 0 0),.v (.slice none 0 0),.v (.slice none 0 0)],.box 30 [.own 3 mods.length,.v (.slice none 0 0),.v (.slice none 0 0),.v (.slice none 0 0),.v (.slice none 0 0)],.arr 52 6 (mods.map Mod.d),.box 52 [.v (.string (abL.getD i default)),.v (.slice none 0 0),.own 5 (x2.length+1),.v (.slice none 0 0),.v (.slice none 0 0),.v (.bool f)],.arr 9 1 ((x2++[(pick L (kt+1+1+x2.length) afL)]).map strD)]⟩ (by kernel_rfl) ?_ ?_;(focus (simp only [List.length_cons,List.length_nil,Nat.reduceAdd];(repeat' first|(refine plc [0] (one_pure L (kt+1+1+x2.length) afL (by omega) (by decide) (by decide) hL hl) ?_ ?_;push_cast [iO,tN,  afL ];rintro r os ⟨rfl,rfl⟩;push_cast [iO,tN,  afL ])|((first|refine pah 0 ?_|refine pah 2 ?_|refine pah 7 ?_);push_cast [iO,tN,  afL ])|(refine pad ?_;refine weak_fg ?_;push_cast [iO,tN,  afL ])|((first|refine pas [1] ?_|refine pas [3] ?_|refine pas [4] ?_|refine pas [5] ?_|refine pas [6] ?_|refine pas [8] ?_);push_cast [iO,tN,  afL ])|((first|refine pas [1,3] ?_|refine pas [1,4] ?_|refine pas [1,5] ?_|refine pas [1,6] ?_|refine pas [1,8] ?_|refine pas [3,4] ?_|refine pas [3,5] ?_|refine pas [3,6] ?_|refine pas [3,8] ?_|refine pas [4,5] ?_|refine pas [4,6] ?_|refine pas [4,8] ?_|refine pas [5,6] ?_|refine pas [5,8] ?_|refine pas [6,8] ?_);push_cast [iO,tN,  afL ];refine ⟨?_,?_⟩)|((first|refine pas [1,3,4] ?_|refine pas [1,3,5] ?_|refine pas [1,3,6] ?_|refine pas [1,3,8] ?_|refine pas [1,4,5] ?_|refine pas [1,4,6] ?_|refine pas [1,4,8] ?_|refine pas [1,5,6] ?_|refine pas [1,5,8] ?_|refine pas [1,6,8] ?_|refine pas [3,4,5] ?_|refine pas [3,4,6] ?_|refine pas [3,4,8] ?_|refine pas [3,5,6] ?_|refine pas [3,5,8] ?_|refine pas [3,6,8] ?_|refine pas [4,5,6] ?_|refine pas [4,5,8] ?_|refine pas [4,6,8] ?_|refine pas [5,6,8] ?_);push_cast [iO,tN,  afL ];refine ⟨?_,?_,?_⟩));done));push_cast [iO,tN,  afL ]))|((first|refine pG ?_|refine pQ ?_|refine pU ?_);push_cast [iO,tN,afL])|(refine pif (fun h=>?_) (fun h=>?_)<;>first|exact pN h|push_cast [iO,tN,afL]))
    refine ⟨(j - 1,x2++[(pick L (kt+1+1+x2.length) afL)]),⟨by simp;omega,fun y hy=>?_⟩,by (refine weak_fg ?_;push_cast [iO,tN,afL]);omega,by simp only;omega⟩
    rcases List.mem_append.1 hy with hy|hy
    ·exact hs2 y hy
    ·simp at hy;subst hy;exact pick_mem (by decide)
   ·have hx2:x2.length≤2:=by omega
    have he2:=List.take_of_length_le (l:=x2.map strD) (i:=x2.length) (by simp)
    repeat' (first|((first|refine pG ?_|refine pQ ?_|refine pU ?_);push_cast [iO,tN])|(refine pif (fun h=>?_) (fun h=>?_)<;>first|exact pN h|push_cast [iO,tN]))
    refine pl_weak (weak_frz 5 (by omega)) ?_
    refine pl_weak (s':=⟨[(43,.c (.ptr 0 0)),(6,.c (.ptr 4 0)),(5,.c (.v (.int .i64 i))),(4,.c (.full 1 (abL.map strD))),(3,.c (.ptr 2 0)),(2,.c (.ptr 1 0)),(0,.c (.ptr 0 0))],[tape L (kt+1+1+x2.length),.box 30 [.v (.slice none 0 0),.v (.slice none 0 0),.v (.slice none 0 0),.v (.slice none 0 0),.v (.slice none 0 0)],.box 30 [.own 3 mods.length,.v (.slice none 0 0),.v (.slice none 0 0),.v (.slice none 0 0),.v (.slice none 0 0)],.arr 52 6 (mods.map Mod.d),.box 52 [.v (.string (abL.getD i default)),.v (.slice none 0 0),.sl 1 (x2.map strD),.v (.slice none 0 0),.v (.slice none 0 0),.v (.bool f)]]⟩) (by (refine weak_fg ?_;push_cast [iO,tN,he2])) ?_
    refine pl_of_pops ?_
    push_cast [iO,tN]
    repeat' (first |  (refine plc [0] (next_pure L (kt+1+1+x2.length) 3 (by omega) (by omega) hL hl) ?_ ?_;push_cast [iO,tN];rintro r os ⟨rfl,rfl⟩;push_cast [iO,tN])  | ((first|refine pG ?_|refine pQ ?_|refine pU ?_);push_cast [iO,tN])|(refine pif (fun h=>?_) (fun h=>?_)<;>first|exact pN h|push_cast [iO,tN]))
    obtain ⟨hb3,hc3⟩:=fold_bds (tapeAt L (kt+1+1+x2.length)) 3 (by omega)
    obtain ⟨v3,hv3⟩:∃ v,fold (tapeAt L (kt+1+1+x2.length)) 3=v:=⟨_,rfl⟩
    rw [hv3] at hb3 hc3
    simp only [hv3]
    refine pwp_weak (weak_adopt_box 4 3 9 1 (by omega) 52 _ (by push_cast [iO,tN];rfl) (by push_cast [iO,tN])) ?_
    push_cast [iO,tN]
    refine pwp_loop2 (α:=Nat × List ByteArray) (fun x=>x.1+x.2.length=v3.toNat∧∀ y ∈ x.2,y ∈ afL) (fun x=>⟨[(8,.c (.v (.int .i64 x.1))),(6,.c (.ptr 4 0)),(5,.c (.v (.int .i64 i))),(4,.c (.full 1 (abL.map strD))),(3,.c (.ptr 2 0)),(2,.c (.ptr 1 0)),(0,.c (.ptr 0 0))],[tape L (kt+1+1+x2.length+1+x.2.length),.box 30 [.v (.slice none 0 0),.v (.slice none 0 0),.v (.slice none 0 0),.v (.slice none 0 0),.v (.slice none 0 0)],.box 30 [.own 3 mods.length,.v (.slice none 0 0),.v (.slice none 0 0),.v (.slice none 0 0),.v (.slice none 0 0)],.arr 52 6 (mods.map Mod.d),.box 52 [.v (.string (abL.getD i default)),.v (.slice none 0 0),.sl 1 (x2.map strD),.own 5 x.2.length,.v (.slice none 0 0),.v (.bool f)],.arr 9 1 (x.2.map strD)]⟩) (fun x=>x.1) (v3.toNat,[]) ⟨by simp,by simp⟩ (by (refine weak_fg ?_;push_cast [iO,tN]);omega) ?_
    rintro ⟨j,x3⟩ ⟨hj,hs3⟩
    simp only at hj hs3
    by_cases hj0:0 < j
    ·repeat' (first|((refine pwp_drawn_to ⟨[(8,.c (.v (.int .i64 j))),(6,.c (.ptr 4 0)),(5,.c (.v (.int .i64 i))),(4,.c (.full 1 (abL.map strD))),(3,.c (.ptr 2 0)),(2,.c (.ptr 1 0)),(0,.c (.ptr 0 0))],[tape L (kt+1+1+x2.length+1+x3.length+1),.box 30 [.v (.slice none 0 0),.v (.slice none 0 0),.v (.slice none 0 0),.v (.slice none 0 0),.v (.slice none 0 0)],.box 30 [.own 3 mods.length,.v (.slice none 0 0),.v (.slice none 0 0),.v (.slice none 0 0),.v (.slice none 0 0)],.arr 52 6 (mods.map Mod.d),.box 52 [.v (.string (abL.getD i default)),.v (.slice none 0 0),.sl 1 (x2.map strD),.own 5 (x3.length+1),.v (.slice none 0 0),.v (.bool f)],.arr 9 1 ((x3++[(pick L (kt+1+1+x2.length+1+x3.length) afL)]).map strD)]⟩ (by kernel_rfl) ?_ ?_;(focus (simp only [List.length_cons,List.length_nil,Nat.reduceAdd];(repeat' first|(refine plc [0] (one_pure L (kt+1+1+x2.length+1+x3.length) afL (by omega) (by decide) (by decide) hL hl) ?_ ?_;push_cast [iO,tN,  afL ];rintro r os ⟨rfl,rfl⟩;push_cast [iO,tN,  afL ])|((first|refine pah 0 ?_|refine pah 2 ?_|refine pah 7 ?_);push_cast [iO,tN,  afL ])|(refine pad ?_;refine weak_fg ?_;push_cast [iO,tN,  afL ])|((first|refine pas [1] ?_|refine pas [3] ?_|refine pas [4] ?_|refine pas [5] ?_|refine pas [6] ?_|refine pas [8] ?_);push_cast [iO,tN,  afL ])|((first|refine pas [1,3] ?_|refine pas [1,4] ?_|refine pas [1,5] ?_|refine pas [1,6] ?_|refine pas [1,8] ?_|refine pas [3,4] ?_|refine pas [3,5] ?_|refine pas [3,6] ?_|refine pas [3,8] ?_|refine pas [4,5] ?_|refine pas [4,6] ?_|refine pas [4,8] ?_|refine pas [5,6] ?_|refine pas [5,8] ?_|refine pas [6,8] ?_);push_cast [iO,tN,  afL ];refine ⟨?_,?_⟩)|((first|refine pas [1,3,4] ?_|refine pas [1,3,5] ?_|refine pas [1,3,6] ?_|refine pas [1,3,8] ?_|refine pas [1,4,5] ?_|refine pas [1,4,6] ?_|refine pas [1,4,8] ?_|refine pas [1,5,6] ?_|refine pas [1,5,8] ?_|refine pas [1,6,8] ?_|refine pas [3,4,5] ?_|refine pas [3,4,6] ?_|refine pas [3,4,8] ?_|refine pas [3,5,6] ?_|refine pas [3,5,8] ?_|refine pas [3,6,8] ?_|refine pas [4,5,6] ?_|refine pas [4,5,8] ?_|refine pas [4,6,8] ?_|refine pas [5,6,8] ?_);push_cast [iO,tN,  afL ];refine ⟨?_,?_,?_⟩));done));push_cast [iO,tN,  afL ]))|((first|refine pG ?_|refine pQ ?_|refine pU ?_);push_cast [iO,tN,afL])|(refine pif (fun h=>?_) (fun h=>?_)<;>first|exact pN h|push_cast [iO,tN,afL]))
     refine ⟨(j - 1,x3++[(pick L (kt+1+1+x2.length+1+x3.length) afL)]),⟨by simp;omega,fun y hy=>?_⟩,by (refine weak_fg ?_;push_cast [iO,tN,afL]);omega,by simp only;omega⟩
     rcases List.mem_append.1 hy with hy|hy
     ·exact hs3 y hy
     ·simp at hy;subst hy;exact pick_mem (by decide)
    ·have hx3:x3.length≤2:=by omega
     have he3:=List.take_of_length_le (l:=x3.map strD) (i:=x3.length) (by simp)
     repeat' (first|((first|refine pG ?_|refine pQ ?_|refine pU ?_);push_cast [iO,tN])|(refine pif (fun h=>?_) (fun h=>?_)<;>first|exact pN h|push_cast [iO,tN]))
     refine pl_weak (weak_frz 5 (by omega)) ?_
     refine pl_weak (s':=⟨[(57,.c (.ptr 0 0)),(6,.c (.ptr 4 0)),(5,.c (.v (.int .i64 i))),(4,.c (.full 1 (abL.map strD))),(3,.c (.ptr 2 0)),(2,.c (.ptr 1 0)),(0,.c (.ptr 0 0))],[tape L (kt+1+1+x2.length+1+x3.length),.box 30 [.v (.slice none 0 0),.v (.slice none 0 0),.v (.slice none 0 0),.v (.slice none 0 0),.v (.slice none 0 0)],.box 30 [.own 3 mods.length,.v (.slice none 0 0),.v (.slice none 0 0),.v (.slice none 0 0),.v (.slice none 0 0)],.arr 52 6 (mods.map Mod.d),.box 52 [.v (.string (abL.getD i default)),.v (.slice none 0 0),.sl 1 (x2.map strD),.sl 1 (x3.map strD),.v (.slice none 0 0),.v (.bool f)]]⟩) (by (refine weak_fg ?_;push_cast [iO,tN,he3])) ?_
     refine pl_weak (weak_adopt_box 4 4 9 1 (by omega) 52 _ (by push_cast [iO,tN];rfl) (by push_cast [iO,tN])) ?_
     obtain ⟨x0,hx0⟩:∃ x:List ByteArray,x=[]:=⟨_,rfl⟩
     have hl0:x0.length≤0:=by rw [hx0];simp
     refine pl_weak (s':=⟨[(57,.c (.ptr 0 0)),(6,.c (.ptr 4 0)),(5,.c (.v (.int .i64 i))),(4,.c (.full 1 (abL.map strD))),(3,.c (.ptr 2 0)),(2,.c (.ptr 1 0)),(0,.c (.ptr 0 0))],[tape L (kt+1+1+x2.length+1+x3.length),.box 30 [.v (.slice none 0 0),.v (.slice none 0 0),.v (.slice none 0 0),.v (.slice none 0 0),.v (.slice none 0 0)],.box 30 [.own 3 mods.length,.v (.slice none 0 0),.v (.slice none 0 0),.v (.slice none 0 0),.v (.slice none 0 0)],.arr 52 6 (mods.map Mod.d),.box 52 [.v (.string (abL.getD i default)),.v (.slice none 0 0),.sl 1 (x2.map strD),.sl 1 (x3.map strD),.own 5 x0.length,.v (.bool f)],.arr 9 1 (x0.map strD)]⟩) (by rw [hx0];(refine weak_fg ?_;push_cast [iO,tN])) ?_
     refine pl_of_pops ?_
     push_cast [iO,tN]
     obtain ⟨k3,hk3⟩:∃ k3,kt+1+1+x2.length+1+x3.length=k3:=⟨_,rfl⟩
     obtain ⟨hb4,hc4⟩:=fold_bds (tapeAt L k3) 3 (by omega)
     obtain ⟨v4,hv4⟩:∃ v,fold (tapeAt L k3) 3=v:=⟨_,rfl⟩
     rw [hv4] at hb4 hc4
     have hk3':(kt:Int)+1+1+x2.length+1+x3.length=k3:=by omega
     simp only [hk3']
     by_cases h4:v4=0
     ·subst h4
      repeat' (first|((refine pwp_drawn_to ⟨[(6,.c (.ptr 4 0)),(5,.c (.v (.int .i64 i))),(4,.c (.full 1 (abL.map strD))),(3,.c (.ptr 2 0)),(2,.c (.ptr 1 0)),(0,.c (.ptr 0 0))],[tape L (k3+2),.box 30 [.v (.slice none 0 0),.v (.slice none 0 0),.v (.slice none 0 0),.v (.slice none 0 0),.v (.slice none 0 0)],.box 30 [.own 3 mods.length,.v (.slice none 0 0),.v (.slice none 0 0),.v (.slice none 0 0),.v (.slice none 0 0)],.arr 52 6 (mods.map Mod.d),.box 52 [.v (.string (abL.getD i default)),.v (.slice none 0 0),.sl 1 (x2.map strD),.sl 1 (x3.map strD),.own 5 (x0.length+1),.v (.bool f)],.arr 9 1 ((x0++[pick L (k3+1) afL]).map strD)]⟩ (by kernel_rfl) ?_ ?_;(focus (simp only [List.length_cons,List.length_nil,Nat.reduceAdd];(repeat' first|(refine plc [0] (one_pure L (k3+1) afL (by omega) (by decide) (by decide) hL hl) ?_ ?_;push_cast [iO,tN,  afL ];rintro r os ⟨rfl,rfl⟩;push_cast [iO,tN,  afL ])|((first|refine pah 0 ?_|refine pah 2 ?_|refine pah 7 ?_);push_cast [iO,tN,  afL ])|(refine pad ?_;refine weak_fg ?_;push_cast [iO,tN,  afL ])|((first|refine pas [1] ?_|refine pas [3] ?_|refine pas [4] ?_|refine pas [5] ?_|refine pas [6] ?_|refine pas [8] ?_);push_cast [iO,tN,  afL ])|((first|refine pas [1,3] ?_|refine pas [1,4] ?_|refine pas [1,5] ?_|refine pas [1,6] ?_|refine pas [1,8] ?_|refine pas [3,4] ?_|refine pas [3,5] ?_|refine pas [3,6] ?_|refine pas [3,8] ?_|refine pas [4,5] ?_|refine pas [4,6] ?_|refine pas [4,8] ?_|refine pas [5,6] ?_|refine pas [5,8] ?_|refine pas [6,8] ?_);push_cast [iO,tN,  afL ];refine ⟨?_,?_⟩)|((first|refine pas [1,3,4] ?_|refine pas [1,3,5] ?_|refine pas [1,3,6] ?_|refine pas [1,3,8] ?_|refine pas [1,4,5] ?_|refine pas [1,4,6] ?_|refine pas [1,4,8] ?_|refine pas [1,5,6] ?_|refine pas [1,5,8] ?_|refine pas [1,6,8] ?_|refine pas [3,4,5] ?_|refine pas [3,4,6] ?_|refine pas [3,4,8] ?_|refine pas [3,5,6] ?_|refine pas [3,5,8] ?_|refine pas [3,6,8] ?_|refine pas [4,5,6] ?_|refine pas [4,5,8] ?_|refine pas [4,6,8] ?_|refine pas [5,6,8] ?_);push_cast [iO,tN,  afL ];refine ⟨?_,?_,?_⟩));done));push_cast [iO,tN,  afL ]))|(refine plc [0] (next_pure L k3 3 (by omega) (by omega) hL hl) ?_ ?_;push_cast [iO,tN,afL,hv4];rintro r os ⟨rfl,rfl⟩;push_cast [iO,tN,afL,hv4])|((first|refine pG ?_|refine pQ ?_|refine pU ?_);push_cast [iO,tN,afL,hv4])|(refine pif (fun h=>?_) (fun h=>?_)<;>first|exact pN h|push_cast [iO,tN,afL,hv4]))
      refine pl_weak (weak_frz 5 (by omega)) ?_
      obtain ⟨x4,hx4⟩:∃ x,x0++[pick L (k3+1) afL]=x:=⟨_,rfl⟩
      have hl4:x4.length≤1:=by rw [← hx4];simp;omega
      have hs4:∀ y ∈ x4,y ∈ afL:=by rw [← hx4,hx0];intro y hy;simp at hy;subst hy;exact pick_mem (by decide)
      have he4:=List.take_of_length_le (l:=x4.map strD) (i:=x0.length+1) (by rw [← hx4];simp)
      obtain ⟨k4,hk4⟩:∃ k4,k3+2=k4:=⟨_,rfl⟩
      have hk4b:k4≤k3+2:=by omega
      refine pl_weak (s':=⟨[(68,.c (.ptr 0 0)),(6,.c (.ptr 4 0)),(5,.c (.v (.int .i64 i))),(4,.c (.full 1 (abL.map strD))),(3,.c (.ptr 2 0)),(2,.c (.ptr 1 0)),(0,.c (.ptr 0 0))],[tape L (k4),.box 30 [.v (.slice none 0 0),.v (.slice none 0 0),.v (.slice none 0 0),.v (.slice none 0 0),.v (.slice none 0 0)],.box 30 [.own 3 mods.length,.v (.slice none 0 0),.v (.slice none 0 0),.v (.slice none 0 0),.v (.slice none 0 0)],.arr 52 6 (mods.map Mod.d),.box 52 [.v (.string (abL.getD i default)),.v (.slice none 0 0),.sl 1 (x2.map strD),.sl 1 (x3.map strD),.sl 1 (x4.map strD),.v (.bool f)]]⟩) (by rw [← hx4] at he4 ⊢;simp only [List.map_append,List.map_cons,List.map_nil,strD,afL] at he4;rw [← hk4];(refine weak_fg ?_;push_cast [iO,tN,afL,he4])) ?_
      refine pl_of_pops ?_
      push_cast [iO,tN]
      obtain ⟨hb5,hc5⟩:=fold_bds (tapeAt L k4) 3 (by omega)
      obtain ⟨hb6,hc6⟩:=fold_bds (tapeAt L (k4+1)) 8 (by omega)
      obtain ⟨v5,hv5⟩:∃ v,fold (tapeAt L k4) 3=v:=⟨_,rfl⟩
      obtain ⟨v6,hv6⟩:∃ v,fold (tapeAt L (k4+1)) 8=v:=⟨_,rfl⟩
      rw [hv5] at hb5 hc5
      rw [hv6] at hb6 hc6
      by_cases h5:0 < v5<;>by_cases h6:0 < v6
      all_goals repeat' (first|(refine plc [0] (next_pure L k4 3 (by omega) (by omega) hL hl) ?_ ?_;push_cast [iO,tN,hv5,hv6];rintro r os ⟨rfl,rfl⟩;push_cast [iO,tN,hv5,hv6])|(refine plc [0] (next_pure L (k4+1) 8 (by omega) (by omega) hL hl) ?_ ?_;push_cast [iO,tN,hv5,hv6];rintro r os ⟨rfl,rfl⟩;push_cast [iO,tN,hv5,hv6])|((first|refine pG ?_|refine pQ ?_|refine pU ?_);push_cast [iO,tN,hv5,hv6])|(refine pif (fun h=>?_) (fun h=>?_)<;>first|exact pN h|push_cast [iO,tN,hv5,hv6]))
      ·exact ⟨(i+1,k4+2,mods++[⟨abL.getD i default,[],[],x3,x4,f⟩]),hI.add hlt (by simp only;omega) [] x3 x4 f (by simp) (by omega) (by omega) (by simp) hs3 hs4,Weak.trans (weak_last 3 (Mod.d ⟨abL.getD i default,[],[],x3,x4,f⟩) rfl (by push_cast [iO,tN])) (by (refine weak_fg ?_;push_cast [iO,tN])),by simp only;omega⟩
      ·exact ⟨(i+1,k4+2,mods),hI.skip hlt (by simp only;omega),by (refine weak_fg ?_;push_cast [iO,tN]),by simp only;omega⟩
      ·exact ⟨(i+1,k4+2,mods++[⟨abL.getD i default,[],x2,x3,x4,f⟩]),hI.add hlt (by simp only;omega) x2 x3 x4 f (by omega) (by omega) (by omega) hs2 hs3 hs4,Weak.trans (weak_last 3 (Mod.d ⟨abL.getD i default,[],x2,x3,x4,f⟩) rfl (by push_cast [iO,tN])) (by (refine weak_fg ?_;push_cast [iO,tN])),by simp only;omega⟩
      ·exact ⟨(i+1,k4+2,mods),hI.skip hlt (by simp only;omega),by (refine weak_fg ?_;push_cast [iO,tN]),by simp only;omega⟩
     ·repeat' (first|(refine plc [0] (next_pure L k3 3 (by omega) (by omega) hL hl) ?_ ?_;push_cast [iO,tN,h4,hv4];rintro r os ⟨rfl,rfl⟩;push_cast [iO,tN,h4,hv4])|((first|refine pG ?_|refine pQ ?_|refine pU ?_);push_cast [iO,tN,h4,hv4])|(refine pif (fun h=>?_) (fun h=>?_)<;>first|exact pN h|push_cast [iO,tN,h4,hv4]))
      obtain ⟨x4,hx4⟩:∃ x:List ByteArray,x0=x:=⟨_,rfl⟩
      have hl4:x4.length≤1:=by rw [← hx4];omega
      have hs4:∀ y ∈ x4,y ∈ afL:=by rw [← hx4,hx0];simp
      have he4:=List.take_of_length_le (l:=x4.map strD) (i:=x4.length) (by simp)
      obtain ⟨k4,hk4⟩:∃ k4,k3+1=k4:=⟨_,rfl⟩
      have hk4b:k4≤k3+2:=by omega
      refine pl_weak (weak_frz 5 (by omega)) ?_
      refine pl_weak (s':=⟨[(68,.c (.ptr 0 0)),(6,.c (.ptr 4 0)),(5,.c (.v (.int .i64 i))),(4,.c (.full 1 (abL.map strD))),(3,.c (.ptr 2 0)),(2,.c (.ptr 1 0)),(0,.c (.ptr 0 0))],[tape L (k4),.box 30 [.v (.slice none 0 0),.v (.slice none 0 0),.v (.slice none 0 0),.v (.slice none 0 0),.v (.slice none 0 0)],.box 30 [.own 3 mods.length,.v (.slice none 0 0),.v (.slice none 0 0),.v (.slice none 0 0),.v (.slice none 0 0)],.arr 52 6 (mods.map Mod.d),.box 52 [.v (.string (abL.getD i default)),.v (.slice none 0 0),.sl 1 (x2.map strD),.sl 1 (x3.map strD),.sl 1 (x4.map strD),.v (.bool f)]]⟩) (by rw [← hx4] at he4 ⊢;rw [← hk4];(refine weak_fg ?_;push_cast [iO,tN,he4])) ?_
      refine pl_of_pops ?_
      push_cast [iO,tN]
      obtain ⟨hb5,hc5⟩:=fold_bds (tapeAt L k4) 3 (by omega)
      obtain ⟨hb6,hc6⟩:=fold_bds (tapeAt L (k4+1)) 8 (by omega)
      obtain ⟨v5,hv5⟩:∃ v,fold (tapeAt L k4) 3=v:=⟨_,rfl⟩
      obtain ⟨v6,hv6⟩:∃ v,fold (tapeAt L (k4+1)) 8=v:=⟨_,rfl⟩
      rw [hv5] at hb5 hc5
      rw [hv6] at hb6 hc6
      by_cases h5:0 < v5<;>by_cases h6:0 < v6
      all_goals repeat' (first|(refine plc [0] (next_pure L k4 3 (by omega) (by omega) hL hl) ?_ ?_;push_cast [iO,tN,hv5,hv6];rintro r os ⟨rfl,rfl⟩;push_cast [iO,tN,hv5,hv6])|(refine plc [0] (next_pure L (k4+1) 8 (by omega) (by omega) hL hl) ?_ ?_;push_cast [iO,tN,hv5,hv6];rintro r os ⟨rfl,rfl⟩;push_cast [iO,tN,hv5,hv6])|((first|refine pG ?_|refine pQ ?_|refine pU ?_);push_cast [iO,tN,hv5,hv6])|(refine pif (fun h=>?_) (fun h=>?_)<;>first|exact pN h|push_cast [iO,tN,hv5,hv6]))
      ·exact ⟨(i+1,k4+2,mods++[⟨abL.getD i default,[],[],x3,x4,f⟩]),hI.add hlt (by simp only;omega) [] x3 x4 f (by simp) (by omega) (by omega) (by simp) hs3 hs4,Weak.trans (weak_last 3 (Mod.d ⟨abL.getD i default,[],[],x3,x4,f⟩) rfl (by push_cast [iO,tN])) (by (refine weak_fg ?_;push_cast [iO,tN])),by simp only;omega⟩
      ·exact ⟨(i+1,k4+2,mods),hI.skip hlt (by simp only;omega),by (refine weak_fg ?_;push_cast [iO,tN]),by simp only;omega⟩
      ·exact ⟨(i+1,k4+2,mods++[⟨abL.getD i default,[],x2,x3,x4,f⟩]),hI.add hlt (by simp only;omega) x2 x3 x4 f (by omega) (by omega) (by omega) hs2 hs3 hs4,Weak.trans (weak_last 3 (Mod.d ⟨abL.getD i default,[],x2,x3,x4,f⟩) rfl (by push_cast [iO,tN])) (by (refine weak_fg ?_;push_cast [iO,tN])),by simp only;omega⟩
      ·exact ⟨(i+1,k4+2,mods),hI.skip hlt (by simp only;omega),by (refine weak_fg ?_;push_cast [iO,tN]),by simp only;omega⟩
  ·have hi:i=5:=by omega
   subst hi
   obtain ⟨hb7,hc7⟩:=fold_bds (tapeAt L kt) 4 (by omega)
   obtain ⟨v7,hv7⟩:∃ v,fold (tapeAt L kt) 4=v:=⟨_,rfl⟩
   have he:=List.take_of_length_le (l:=mods.map Mod.d) (i:=mods.length) (by simp)
   by_cases h7:v7=0
   ·subst h7
    repeat' (first|(refine plc [0] (next_pure L kt 4 (by omega) (by omega) hL hl) ?_ ?_;push_cast [iO,tN,acL,hv7];rintro r os ⟨rfl,rfl⟩;push_cast [iO,tN,acL,hv7])|(refine plc [0] (one_pure L (kt+1) acL (by omega) (by decide) (by decide) hL hl) ?_ ?_;push_cast [iO,tN,acL,hv7];rintro r os ⟨rfl,rfl⟩;push_cast [iO,tN,acL,hv7])|((first|refine pG ?_|refine pQ ?_|refine pU ?_);push_cast [iO,tN,acL,hv7])|(refine pif (fun h=>?_) (fun h=>?_)<;>first|exact pN h|push_cast [iO,tN,acL,hv7]))
    (refine retK_of [0] ?_;push_cast [iO,tN])
    exact ⟨.agg (Cfg.e ⟨mods,[],[pick L (kt+1) acL],[],[]⟩),[tape L (kt+2)],by push_cast [iO,tN,he,acL],by push_cast [iO,tN],⟨mods,[],[pick L (kt+1) acL],[],[]⟩,kt+2,⟨⟨⟨hI.ok,by simp only;omega,(hI.names.trans (List.take_sublist _ _)).nodup abL_nodup,by simp⟩,hI.w⟩,by omega⟩,rfl,rfl⟩
   ·repeat' (first|(refine plc [0] (next_pure L kt 4 (by omega) (by omega) hL hl) ?_ ?_;push_cast [iO,tN,h7,hv7];rintro r os ⟨rfl,rfl⟩;push_cast [iO,tN,h7,hv7])|((first|refine pG ?_|refine pQ ?_|refine pU ?_);push_cast [iO,tN,h7,hv7])|(refine pif (fun h=>?_) (fun h=>?_)<;>first|exact pN h|push_cast [iO,tN,h7,hv7]))
    (refine retK_of [0] ?_;push_cast [iO,tN])
    exact ⟨.agg (Cfg.e ⟨mods,[],[],[],[]⟩),[tape L (kt+1)],by push_cast [iO,tN,he,acL],by push_cast [iO,tN],⟨mods,[],[],[],[]⟩,kt+1,⟨⟨⟨hI.ok,by simp only;omega,(hI.names.trans (List.take_sublist _ _)).nodup abL_nodup,by simp⟩,hI.w⟩,by omega⟩,rfl,rfl⟩
end Go.Proofs.YtgijigkfmbiifaaGreatDoor
