/- What the program computes, and the plain laws of it, part 30. -/
import Derived.Test.YtmjffgienmcabaaGreatDoorS29
namespace Go.Proofs.YtmjffgienmcabaaGreatDoor
open Go.RowKit
open IntWalk renaming iteOmega → iO, toNatUp → tN
set_option linter.unusedVariables false
set_option linter.unusedSimpArgs false
def leD:D → D → Prop
 | .v x,.v y=>x=y
 | .v x,.sl _ l=>isEmp x=true∧l=[]
 | .sl sz l,.sl sz' l'=>sz=sz'∧l=l'
 | _,_=>False
def leDs:List D → List D → Prop
 | [],[]=>True
 | a :: l,b :: m=>leD a b∧leDs l m
 | _,_=>False
theorem leD_ok {w:World} {I:Nat → Prop} {d d':D} {y:Value} (h:leD d d') (hr:RD w I d y):RD w I d' y:=by
 cases d with
 | v x =>
  cases d' with
  | v z=>obtain rfl:x=z:=h;exact hr
  | sl sz l =>
   obtain ⟨h,rfl⟩:=h
   obtain ⟨A,c,rfl⟩:=isEmp_ok h
   rw [RD] at hr
   rw [rd_sl,hr.1]
   exact ⟨A,c,[],rfl,Nat.zero_le _,Rd.nil,by simp,trivial⟩
 | sl sz l =>
  cases d' with
  | v z=>exact h.elim
  | sl sz' l'=>obtain ⟨rfl,rfl⟩:=h;exact hr
theorem leDs_ok {w:World} {I:Nat → Prop}:∀ {r r':List D} {ys:List Value},leDs r r' → All2 (RD w I) r ys → All2 (RD w I) r' ys
 | [],[],_,_,hr=>hr
 | a :: l,b :: m,y :: ys,h,hr=>⟨leD_ok h.1 hr.1,leDs_ok h.2 hr.2⟩
 | _ :: _,_ :: _,[],_,hr=>hr.elim
 | [],_ :: _,_,h,_=>h.elim
 | _ :: _,[],_,h,_=>h.elim
theorem leDs_length:∀ {r r':List D},leDs r r' → r.length=r'.length
 | [],[],_=>rfl
 | a :: l,b :: m,h=>by simp [leDs_length h.2]
 | [],_ :: _,h=>h.elim
 | _ :: _,[],h=>h.elim
attribute [push_cast] leD leDs
def leRows:List (List D) → List (List D) → Prop
 | [],[]=>True
 | a :: l,b :: m=>leDs a b∧leRows l m
 | _,_=>False
theorem leRows_ok {w:World} {I:Nat → Prop}:∀ {r r':List (List D)} {ys:List Value},leRows r r' → All2 (RD w I) r.flatten ys → All2 (RD w I) r'.flatten ys
 | [],[],_,_,hr=>hr
 | a :: l,b :: m,ys,h,hr=>by
  simp only [List.flatten_cons] at hr ⊢
  obtain ⟨x,y,rfl,h1,h2⟩:=hr.split
  exact (leDs_ok h.1 h1).append (leRows_ok h.2 h2)
 | [],_ :: _,_,h,_=>h.elim
 | _ :: _,[],_,h,_=>h.elim
theorem leRows_length:∀ {r r':List (List D)},leRows r r' → r.length=r'.length
 | [],[],_=>rfl
 | a :: l,b :: m,h=>by simp [leRows_length h.2]
 | [],_ :: _,h=>h.elim
 | _ :: _,[],h=>h.elim
theorem leRows_mem {sz:Nat}:∀ {r r':List (List D)},leRows r r' → (∀ x ∈ r,x.length=sz) → ∀ x ∈ r',x.length=sz
 | [],[],_,_,x,hx=>by simp at hx
 | a :: l,b :: m,h,hr,x,hx=>by
  rcases List.mem_cons.1 hx with rfl|hx
  ·rw [← leDs_length h.1];exact hr a (by simp)
  ·exact leRows_mem h.2 (fun y hy=>hr y (by simp [hy])) x hx
 | [],_ :: _,h,_,_,_=>h.elim
 | _ :: _,[],h,_,_,_=>h.elim
attribute [push_cast] leRows
theorem weak_rows {N p:Nat} {s:S} (i:Nat) {sz:Nat} {l:List (List D)} (l':List (List D)) (hi:s.get i=some (.c (.full sz l))) (h:leRows l l'):Weak N p s ⟨(i,.c (.sl sz l')) :: s.t,s.o⟩:=by
 intro Γ a w hA
 refine ⟨Γ,⟨⟨hA.inv.size,hA.inv.defers,fun j q hq=>?_,hA.inv.m⟩,hA.le⟩,Grow.refl _ _ _⟩
 simp only [S.get,look] at hq
 split at hq
 ·rename_i e
  subst e
  cases hq
  obtain ⟨h1,h2,_⟩:=hA.inv.t j _ hi
  refine ⟨h1,?_⟩
  obtain ⟨A,c,xs,h3,h4,h5,h6,h7⟩:=rd_sl.1 h2
  show RD w Γ.I (.sl sz l') _
  rw [rd_sl,h3]
  have hl:=leRows_length h
  exact ⟨A,c,xs,by rw [hl],by omega,by rw [← hl];exact h5,leRows_mem h h6,leRows_ok h h7⟩
 ·exact hA.inv.t j q hq
structure OkMod (m:Mod):Prop where
 needs:m.needs.length≤10
 pre:m.pre.length≤10
 post:m.post.length≤10
 needsz:∀ x ∈ m.needs,x.size≤10
 prez:∀ x ∈ m.pre,x.size≤10
 postz:∀ x ∈ m.post,x.size≤10
 name:m.name≠⟨#[]⟩
 namez:m.name.size≤10
structure OkCfg (c:Cfg):Prop where
 mods:∀ m ∈ c.modules,OkMod m
 len:c.modules.length≤10
 nodup:(c.modules.map Mod.name).Nodup
 off:c.off.length≤10
theorem pick_size {L:List Int} {k:Nat} {l:List ByteArray} (h0:0 < l.length) (h:∀ x ∈ l,x.size≤10):(pick L k l).size≤10:=by
 have:=fold_bds (tapeAt L k) l.length (by omega)
 unfold pick
 rw [getD_lt _ (by omega)]
 exact h _ (List.getElem_mem _)
theorem OkCfg.soft {c:Cfg} (h:OkCfg c) (n:ByteArray):(softOf c.modules n).length≤20∧∀ x ∈ softOf c.modules n,x.size≤10:=by
 unfold softOf
 cases hm:modOf c.modules n with
 | none=>simp [noMod]
 | some m =>
  have hk:=h.mods m (mod_mem hm).1
  refine ⟨by have:=hk.pre;have:=hk.post;simp only [Option.getD_some,List.length_append];omega,fun x hx=>?_⟩
  rcases List.mem_append.1 hx with hx|hx
  ·exact hk.prez x hx
  ·exact hk.postz x hx
theorem OkCfg.ok {c:Cfg} (h:OkCfg c):CfgOk2 c:=by
 have hz:(10:Nat)≤maxLen:=by unfold maxLen;omega
 refine ⟨⟨⟨by have:=h.len;omega,fun m hm=>by have:=(h.mods m hm).needs;omega,fun m hm=>by have:=(h.mods m hm).pre;omega,fun m hm=>by have:=(h.mods m hm).post;omega,h.nodup,fun m hm=>(h.mods m hm).name⟩,⟨fun x hx=>?_⟩,by have:=h.off;omega⟩,fun n x hx=>Nat.le_trans ((h.soft n).2 x hx) hz,fun n=>by have:=(h.soft n).1;omega⟩
 obtain ⟨m,hm,hx⟩:=List.mem_flatMap.1 hx
 exact Nat.le_trans ((h.mods m hm).needsz x hx) hz
theorem OkCfg.hnz {c:Cfg} (h:OkCfg c):∀ x ∈ c.modules.map Mod.name,x.size≤maxLen:=by
 have hz:(10:Nat)≤maxLen:=by unfold maxLen;omega
 intro x hx
 obtain ⟨m,hm,rfl⟩:=List.mem_map.1 hx
 exact Nat.le_trans (h.mods m hm).namez hz
end Go.Proofs.YtmjffgienmcabaaGreatDoor
namespace Go.Proofs.YtmjffgienmcabaaGreatDoor
attribute [local irreducible] PL QL PWPr PCalls Weak RetK Kontr PA
open Go.RowKit
open IntWalk renaming iteOmega → iO, toNatUp → tN
set_option linter.unusedVariables false
set_option linter.unusedSimpArgs false
set_option maxRecDepth 20000
def wmL:List Mod:=[⟨⟨#[104,105,100]⟩,[⟨#[117,115,98,58,118,49,42]⟩],[],[],[],false⟩,⟨⟨#[110,105,99]⟩,[⟨#[112,99,105,58,100,50]⟩,⟨#[117,115,98,58,118,50]⟩],[⟨#[99,111,114,101]⟩],[],[],false⟩,⟨⟨#[99,111,114,101]⟩,[],[],[],[⟨#[101,120,116,114,97]⟩],false⟩,⟨⟨#[101,120,116,114,97]⟩,[],[],[⟨#[104,105,100]⟩],[],false⟩,⟨⟨#[111,116,104,101,114]⟩,[⟨#[117,115,98,58,42]⟩],[],[⟨#[101,120,116,114,97]⟩],[],false⟩,⟨⟨#[98,97,100]⟩,[⟨#[112,99,105,58,42]⟩],[],[],[],true⟩,⟨⟨#[114,105,110,103]⟩,[],[⟨#[114,105,110,103,50]⟩],[],[],false⟩,⟨⟨#[114,105,110,103,50]⟩,[],[⟨#[114,105,110,103]⟩],[],[],false⟩]
set_option maxHeartbeats 2000000 in
theorem wmods_pure (L:List Int) (k:Nat) (hk:k < 2000) (hL:∀ x ∈ L,-9223372036854775808≤x∧x≤9223372036854775807) (hl:L.length≤9223372036854775807) :
  PCalls Tryz.prog 18 [.c (.ptr 0 0)] [tape L k] fun r os=>∃ l:List Mod,l.Sublist wmL∧r = .c (.sl 6 (l.map Mod.d))∧os=[tape L (k+8)]:=by
 refine pcalls_of Tryz.func18 rfl (by simp [Tryz.ntmps18]) ?_
 rw [Tryz.ntmps18,Tryz.results18]
 push_cast [iO,tN]
 repeat' (first|((first|refine pG ?_|refine pQ ?_|refine pU ?_);push_cast [iO,tN])|(refine pif (fun h=>?_) (fun h=>?_)<;>first|exact pN h|push_cast [iO,tN]))
 refine pwp_weak (weak_rows 3 (wmL.map Mod.d) rfl (by simp [wmL,Mod.d,leRows,leDs,leD,isEmp,strD])) ?_
 refine pwp_weak (weak_adopt 4 46 6 (by omega) (by push_cast [iO,tN])) ?_
 push_cast [iO,tN]
 refine pwp_loop2 (α:=Nat × List Mod) (fun x=>x.1≤8∧x.2.Sublist (wmL.take x.1)) (fun x=>⟨[(5,.c (.v (.int .i64 x.1))),(4,.c (.own 1 x.2.length)),(3,.c (.sl 6 (wmL.map Mod.d))),(0,.c (.ptr 0 0))],[tape L (k+x.1),.arr 46 6 (x.2.map Mod.d)]⟩) (fun x=>8 - x.1) (0,[]) ⟨by simp,by simp⟩ (by (refine weak_fg ?_;push_cast [iO,tN]);try omega) ?_
 rintro ⟨i,l⟩ ⟨hi,hs⟩
 simp only at hi hs
 have h8:wmL.length=8:=rfl
 have hll:=hs.length_le
 rw [List.length_take] at hll
 by_cases hlt:i < 8
 ·obtain ⟨hb,hc⟩:=fold_bds (tapeAt L (k+i)) 4 (by omega)
  obtain ⟨v,hv⟩:∃ v,fold (tapeAt L (k+i)) 4=v:=⟨_,rfl⟩
  rw [hv] at hb hc
  have hst:wmL.take (i+1)=wmL.take i++[wmL[i]]:=List.take_succ_eq_append_getElem (by omega)
  by_cases h0:0 < v
  all_goals repeat' (first|(refine plc [0] (next_pure L (k+i) 4 (by omega) (by omega) hL hl) ?_ ?_;push_cast [iO,tN,hv,h8];rintro r os ⟨rfl,rfl⟩;push_cast [iO,tN,hv,h8])|((first|refine pG ?_|refine pQ ?_|refine pU ?_);push_cast [iO,tN,hv,h8])|(refine pif (fun h=>?_) (fun h=>?_)<;>first|exact pN h|push_cast [iO,tN,hv,h8]))
  ·refine ⟨(i+1,l++[wmL.getD i default]),⟨by simp only;omega,?_⟩,by (refine weak_fg ?_;push_cast [iO,tN]);try omega,by simp only;omega⟩
   simp only [hst]
   rw [getD_lt wmL (by omega)]
   exact hs.append (List.Sublist.refl _)
  ·exact ⟨(i+1,l),⟨by simp only;omega,by simp only [hst];exact hs.trans (List.sublist_append_left _ _)⟩,by (refine weak_fg ?_;push_cast [iO,tN]);try omega,by simp only;omega⟩
 ·have h:i=8:=by omega
  subst h
  have he:=List.take_of_length_le (l:=l.map Mod.d) (i:=l.length) (by simp)
  repeat' (first|((first|refine pG ?_|refine pQ ?_|refine pU ?_);push_cast [iO,tN,h8])|(refine pif (fun h=>?_) (fun h=>?_)<;>first|exact pN h|push_cast [iO,tN,h8]))
  (refine retK_of [0] ?_;push_cast [iO,tN])
  exact ⟨.c (.sl 6 (l.map Mod.d)),[tape L (k+8)],by first|exact ⟨rfl,rfl⟩|(rw [he];exact ⟨rfl,rfl⟩),by push_cast [iO,tN],l,hs.trans (List.take_sublist _ _),rfl,rfl⟩
def wl1:List ByteArray:=[⟨#[104,105,100]⟩,⟨#[110,105,99]⟩,⟨#[111,116,104,101,114]⟩,⟨#[103,111,110,101]⟩]
def wl2:List ByteArray:=[⟨#[99,111,114,101]⟩,⟨#[101,120,116,114,97]⟩,⟨#[104,105,100]⟩,⟨#[103,111,110,101]⟩]
def wl3:List ByteArray:=[⟨#[111,116,104,101,114]⟩,⟨#[99,111,114,101]⟩,⟨#[114,105,110,103]⟩,⟨#[98,97,100]⟩,⟨#[103,111,110,101]⟩]
def wl4:List ByteArray:=[⟨#[117,115,98,58,42]⟩,⟨#[112,99,105,58,100,50]⟩,⟨#[120,58,63]⟩,⟨#[91]⟩,⟨#[118,105,114,116,42]⟩]
def wl5:List ByteArray:=[⟨#[104,105,100]⟩,⟨#[101,120,116,114,97]⟩,⟨#[103,111,110,101]⟩,⟨#[98,97,100]⟩]
theorem wm_ok {c:Cfg} (h:c.modules.Sublist wmL) (ho:c.off.length≤10):OkCfg c:=by
 have ha:∀ m ∈ wmL,OkMod m:=by
  intro m hm
  have hd:∀ m ∈ wmL,m.needs.length≤10∧m.pre.length≤10∧m.post.length≤10∧(∀ x ∈ m.needs,x.size≤10)∧(∀ x ∈ m.pre,x.size≤10)∧(∀ x ∈ m.post,x.size≤10)∧m.name≠⟨#[]⟩∧m.name.size≤10:=by decide +kernel
  obtain ⟨h1,h2,h3,h4,h5,h6,h7,h8⟩:=hd m hm
  exact ⟨h1,h2,h3,h4,h5,h6,h7,h8⟩
 refine ⟨fun m hm=>ha m (h.subset hm),?_,(h.map Mod.name).nodup (by decide +kernel),ho⟩
 have:=h.length_le
 have:wmL.length=8:=rfl
 omega
structure WCfg (c:Cfg):Prop where
 sub:c.modules.Sublist wmL
 bl:c.blocked.length≤10
 keep:c.keep.length≤10
 ext:c.extra.length≤10
 pat:∀ y ∈ c.extra,y.name.size≤10
set_option maxRecDepth 20000 in
set_option maxHeartbeats 4000000 in
theorem wconfig_full (L:List Int) (k:Nat) (hk:k < 1000) (hL:∀ x ∈ L,-9223372036854775808≤x∧x≤9223372036854775807) (hl:L.length≤9223372036854775807) :
  PCalls Tryz.prog 6 [.c (.ptr 0 0)] [tape L k] fun r os=>∃ (c:Cfg) (k':Nat),((OkCfg c∧WCfg c)∧k'≤k+90)∧r = .agg c.e∧os=[tape L k']:=by
 refine pcalls_of Tryz.func6 rfl (by simp [Tryz.ntmps6]) ?_
 rw [Tryz.ntmps6,Tryz.results6]
 push_cast [iO,tN]
 repeat' (first |  (refine plc [0] (wmods_pure L k (by omega) hL hl) ?_ ?_;push_cast [iO,tN];rintro r os ⟨mods,hmods,rfl,rfl⟩;push_cast [iO,tN])  | ((first|refine pG ?_|refine pQ ?_|refine pU ?_);push_cast [iO,tN])|(refine pif (fun h=>?_) (fun h=>?_)<;>first|exact pN h|push_cast [iO,tN]))
 obtain ⟨hb1,hc1⟩:=fold_bds (tapeAt L (k+8)) 3 (by omega)
 obtain ⟨v1,hv1⟩:∃ v,fold (tapeAt L (k+8)) 3=v:=⟨_,rfl⟩
 rw [hv1] at hb1 hc1
 repeat' (first|(refine plc [0] (next_pure L (k+8) 3 (by omega) (by omega) hL hl) ?_ ?_;push_cast [iO,tN,hv1];rintro r os ⟨rfl,rfl⟩;push_cast [iO,tN,hv1])|((first|refine pG ?_|refine pQ ?_|refine pU ?_);push_cast [iO,tN,hv1])|(refine pif (fun h=>?_) (fun h=>?_)<;>first|exact pN h|push_cast [iO,tN,hv1]))
 refine pwp_weak (weak_adopt_box 2 1 9 1 (by omega) 32 _ (by push_cast [iO,tN];rfl) (by push_cast [iO,tN])) ?_
 push_cast [iO,tN]
 refine pwp_loop2 (α:=Nat × List ByteArray) (fun x=>x.1+x.2.length=v1.toNat) (fun x=>⟨[(4,.c (.v (.int .i64 x.1))),(3,.c (.ptr 2 0)),(2,.c (.ptr 1 0)),(0,.c (.ptr 0 0))],[tape L (k+8+1+x.2.length),.box 32 [.v (.slice none 0 0),.v (.slice none 0 0),.v (.slice none 0 0),.v (.slice none 0 0),.v (.slice none 0 0)],.box 32 [.sl 6 (mods.map Mod.d),.own 3 x.2.length,.v (.slice none 0 0),.v (.slice none 0 0),.v (.slice none 0 0)],.arr 9 1 ((x.2).map strD)]⟩) (fun x=>x.1) (v1.toNat,[]) (by simp) (by (refine weak_fg ?_;push_cast [iO,tN]);try omega) ?_
 rintro ⟨j1,x1⟩ hj1
 simp only at hj1
 by_cases hj01:0 < j1
 ·repeat' (first|((refine pwp_drawn_to ⟨[(4,.c (.v (.int .i64 j1))),(3,.c (.ptr 2 0)),(2,.c (.ptr 1 0)),(0,.c (.ptr 0 0))],[tape L (k+8+1+x1.length+1),.box 32 [.v (.slice none 0 0),.v (.slice none 0 0),.v (.slice none 0 0),.v (.slice none 0 0),.v (.slice none 0 0)],.box 32 [.sl 6 (mods.map Mod.d),.own 3 (x1.length+1),.v (.slice none 0 0),.v (.slice none 0 0),.v (.slice none 0 0)],.arr 9 1 ((x1++[(pick L (k+8+1+x1.length) wl1)]).map strD)]⟩ (by kernel_rfl) ?_ ?_;(focus (simp only [List.length_cons,List.length_nil,Nat.reduceAdd];(repeat' first|(refine plc [0] (one_pure L (k+8+1+x1.length) wl1 (by omega) (by decide) (by decide) hL hl) ?_ ?_;push_cast [iO,tN,  wl1 ];rintro r os ⟨rfl,rfl⟩;push_cast [iO,tN,  wl1 ])|((first|refine pah 0 ?_|refine pah 2 ?_|refine pah 7 ?_);push_cast [iO,tN,  wl1 ])|(refine pad ?_;refine weak_fg ?_;push_cast [iO,tN,  wl1 ])|((first|refine pas [1] ?_|refine pas [3] ?_|refine pas [4] ?_|refine pas [5] ?_|refine pas [6] ?_|refine pas [8] ?_);push_cast [iO,tN,  wl1 ])|((first|refine pas [1,3] ?_|refine pas [1,4] ?_|refine pas [1,5] ?_|refine pas [1,6] ?_|refine pas [1,8] ?_|refine pas [3,4] ?_|refine pas [3,5] ?_|refine pas [3,6] ?_|refine pas [3,8] ?_|refine pas [4,5] ?_|refine pas [4,6] ?_|refine pas [4,8] ?_|refine pas [5,6] ?_|refine pas [5,8] ?_|refine pas [6,8] ?_);push_cast [iO,tN,  wl1 ];refine ⟨?_,?_⟩)|((first|refine pas [1,3,4] ?_|refine pas [1,3,5] ?_|refine pas [1,3,6] ?_|refine pas [1,3,8] ?_|refine pas [1,4,5] ?_|refine pas [1,4,6] ?_|refine pas [1,4,8] ?_|refine pas [1,5,6] ?_|refine pas [1,5,8] ?_|refine pas [1,6,8] ?_|refine pas [3,4,5] ?_|refine pas [3,4,6] ?_|refine pas [3,4,8] ?_|refine pas [3,5,6] ?_|refine pas [3,5,8] ?_|refine pas [3,6,8] ?_|refine pas [4,5,6] ?_|refine pas [4,5,8] ?_|refine pas [4,6,8] ?_|refine pas [5,6,8] ?_);push_cast [iO,tN,  wl1 ];refine ⟨?_,?_,?_⟩));done));push_cast [iO,tN,  wl1 ]))|((first|refine pG ?_|refine pQ ?_|refine pU ?_);push_cast [iO,tN,wl1])|(refine pif (fun h=>?_) (fun h=>?_)<;>first|exact pN h|push_cast [iO,tN,wl1]))
  exact ⟨(j1 - 1,x1++[(pick L (k+8+1+x1.length) wl1)]),by simp;omega,by (refine weak_fg ?_;push_cast [iO,tN,wl1]);try omega,by simp only;omega⟩
 ·have hx1:x1.length≤3:=by omega
  have he1:=List.take_of_length_le (l:=(x1).map strD) (i:=x1.length) (by simp)
  repeat' (first|((first|refine pG ?_|refine pQ ?_|refine pU ?_);push_cast [iO,tN])|(refine pif (fun h=>?_) (fun h=>?_)<;>first|exact pN h|push_cast [iO,tN]))
  refine pl_weak (weak_frz 3 (by omega)) ?_
  refine pl_weak (s':=⟨[(25,.c (.ptr 0 0)),(3,.c (.ptr 2 0)),(2,.c (.ptr 1 0)),(0,.c (.ptr 0 0))],[tape L (k+8+1+x1.length),.box 32 [.v (.slice none 0 0),.v (.slice none 0 0),.v (.slice none 0 0),.v (.slice none 0 0),.v (.slice none 0 0)],.box 32 [.sl 6 (mods.map Mod.d),.sl 1 ((x1).map strD),.v (.slice none 0 0),.v (.slice none 0 0),.v (.slice none 0 0)]]⟩) (by (refine weak_fg ?_;push_cast [iO,tN,he1])) ?_
  refine pl_of_pops ?_
  push_cast [iO,tN]
  obtain ⟨hb2,hc2⟩:=fold_bds (tapeAt L (k+8+1+x1.length)) 2 (by omega)
  obtain ⟨v2,hv2⟩:∃ v,fold (tapeAt L (k+8+1+x1.length)) 2=v:=⟨_,rfl⟩
  rw [hv2] at hb2 hc2
  repeat' (first|(refine plc [0] (next_pure L (k+8+1+x1.length) 2 (by omega) (by omega) hL hl) ?_ ?_;push_cast [iO,tN,hv2];rintro r os ⟨rfl,rfl⟩;push_cast [iO,tN,hv2])|((first|refine pG ?_|refine pQ ?_|refine pU ?_);push_cast [iO,tN,hv2])|(refine pif (fun h=>?_) (fun h=>?_)<;>first|exact pN h|push_cast [iO,tN,hv2]))
  refine pwp_weak (weak_adopt_box 2 2 9 1 (by omega) 32 _ (by push_cast [iO,tN];rfl) (by push_cast [iO,tN])) ?_
  push_cast [iO,tN]
  refine pwp_loop2 (α:=Nat × List ByteArray) (fun x=>x.1+x.2.length=v2.toNat) (fun x=>⟨[(5,.c (.v (.int .i64 x.1))),(3,.c (.ptr 2 0)),(2,.c (.ptr 1 0)),(0,.c (.ptr 0 0))],[tape L (k+8+1+x1.length+1+x.2.length),.box 32 [.v (.slice none 0 0),.v (.slice none 0 0),.v (.slice none 0 0),.v (.slice none 0 0),.v (.slice none 0 0)],.box 32 [.sl 6 (mods.map Mod.d),.sl 1 ((x1).map strD),.own 3 x.2.length,.v (.slice none 0 0),.v (.slice none 0 0)],.arr 9 1 ((x.2).map strD)]⟩) (fun x=>x.1) (v2.toNat,[]) (by simp) (by (refine weak_fg ?_;push_cast [iO,tN]);try omega) ?_
  rintro ⟨j2,x2⟩ hj2
  simp only at hj2
  by_cases hj02:0 < j2
  ·repeat' (first|((refine pwp_drawn_to ⟨[(5,.c (.v (.int .i64 j2))),(3,.c (.ptr 2 0)),(2,.c (.ptr 1 0)),(0,.c (.ptr 0 0))],[tape L (k+8+1+x1.length+1+x2.length+1),.box 32 [.v (.slice none 0 0),.v (.slice none 0 0),.v (.slice none 0 0),.v (.slice none 0 0),.v (.slice none 0 0)],.box 32 [.sl 6 (mods.map Mod.d),.sl 1 ((x1).map strD),.own 3 (x2.length+1),.v (.slice none 0 0),.v (.slice none 0 0)],.arr 9 1 ((x2++[(pick L (k+8+1+x1.length+1+x2.length) wl2)]).map strD)]⟩ (by kernel_rfl) ?_ ?_;(focus (simp only [List.length_cons,List.length_nil,Nat.reduceAdd];(repeat' first|(refine plc [0] (one_pure L (k+8+1+x1.length+1+x2.length) wl2 (by omega) (by decide) (by decide) hL hl) ?_ ?_;push_cast [iO,tN,  wl2 ];rintro r os ⟨rfl,rfl⟩;push_cast [iO,tN,  wl2 ])|((first|refine pah 0 ?_|refine pah 2 ?_|refine pah 7 ?_);push_cast [iO,tN,  wl2 ])|(refine pad ?_;refine weak_fg ?_;push_cast [iO,tN,  wl2 ])|((first|refine pas [1] ?_|refine pas [3] ?_|refine pas [4] ?_|refine pas [5] ?_|refine pas [6] ?_|refine pas [8] ?_);push_cast [iO,tN,  wl2 ])|((first|refine pas [1,3] ?_|refine pas [1,4] ?_|refine pas [1,5] ?_|refine pas [1,6] ?_|refine pas [1,8] ?_|refine pas [3,4] ?_|refine pas [3,5] ?_|refine pas [3,6] ?_|refine pas [3,8] ?_|refine pas [4,5] ?_|refine pas [4,6] ?_|refine pas [4,8] ?_|refine pas [5,6] ?_|refine pas [5,8] ?_|refine pas [6,8] ?_);push_cast [iO,tN,  wl2 ];refine ⟨?_,?_⟩)|((first|refine pas [1,3,4] ?_|refine pas [1,3,5] ?_|refine pas [1,3,6] ?_|refine pas [1,3,8] ?_|refine pas [1,4,5] ?_|refine pas [1,4,6] ?_|refine pas [1,4,8] ?_|refine pas [1,5,6] ?_|refine pas [1,5,8] ?_|refine pas [1,6,8] ?_|refine pas [3,4,5] ?_|refine pas [3,4,6] ?_|refine pas [3,4,8] ?_|refine pas [3,5,6] ?_|refine pas [3,5,8] ?_|refine pas [3,6,8] ?_|refine pas [4,5,6] ?_|refine pas [4,5,8] ?_|refine pas [4,6,8] ?_|refine pas [5,6,8] ?_);push_cast [iO,tN,  wl2 ];refine ⟨?_,?_,?_⟩));done));push_cast [iO,tN,  wl2 ]))|((first|refine pG ?_|refine pQ ?_|refine pU ?_);push_cast [iO,tN,wl2])|(refine pif (fun h=>?_) (fun h=>?_)<;>first|exact pN h|push_cast [iO,tN,wl2]))
   exact ⟨(j2 - 1,x2++[(pick L (k+8+1+x1.length+1+x2.length) wl2)]),by simp;omega,by (refine weak_fg ?_;push_cast [iO,tN,wl2]);try omega,by simp only;omega⟩
  ·have hx2:x2.length≤2:=by omega
   have he2:=List.take_of_length_le (l:=(x2).map strD) (i:=x2.length) (by simp)
   repeat' (first|((first|refine pG ?_|refine pQ ?_|refine pU ?_);push_cast [iO,tN])|(refine pif (fun h=>?_) (fun h=>?_)<;>first|exact pN h|push_cast [iO,tN]))
   refine pl_weak (weak_frz 3 (by omega)) ?_
   refine pl_weak (s':=⟨[(39,.c (.ptr 0 0)),(3,.c (.ptr 2 0)),(2,.c (.ptr 1 0)),(0,.c (.ptr 0 0))],[tape L (k+8+1+x1.length+1+x2.length),.box 32 [.v (.slice none 0 0),.v (.slice none 0 0),.v (.slice none 0 0),.v (.slice none 0 0),.v (.slice none 0 0)],.box 32 [.sl 6 (mods.map Mod.d),.sl 1 ((x1).map strD),.sl 1 ((x2).map strD),.v (.slice none 0 0),.v (.slice none 0 0)]]⟩) (by (refine weak_fg ?_;push_cast [iO,tN,he2])) ?_
   refine pl_of_pops ?_
   push_cast [iO,tN]
   obtain ⟨hb3,hc3⟩:=fold_bds (tapeAt L (k+8+1+x1.length+1+x2.length)) 2 (by omega)
   obtain ⟨v3,hv3⟩:∃ v,fold (tapeAt L (k+8+1+x1.length+1+x2.length)) 2=v:=⟨_,rfl⟩
   rw [hv3] at hb3 hc3
   repeat' (first|(refine plc [0] (next_pure L (k+8+1+x1.length+1+x2.length) 2 (by omega) (by omega) hL hl) ?_ ?_;push_cast [iO,tN,hv3];rintro r os ⟨rfl,rfl⟩;push_cast [iO,tN,hv3])|((first|refine pG ?_|refine pQ ?_|refine pU ?_);push_cast [iO,tN,hv3])|(refine pif (fun h=>?_) (fun h=>?_)<;>first|exact pN h|push_cast [iO,tN,hv3]))
   refine pwp_weak (weak_adopt_box 2 3 9 1 (by omega) 32 _ (by push_cast [iO,tN];rfl) (by push_cast [iO,tN])) ?_
   push_cast [iO,tN]
   refine pwp_loop2 (α:=Nat × List ByteArray) (fun x=>x.1+x.2.length=v3.toNat) (fun x=>⟨[(6,.c (.v (.int .i64 x.1))),(3,.c (.ptr 2 0)),(2,.c (.ptr 1 0)),(0,.c (.ptr 0 0))],[tape L (k+8+1+x1.length+1+x2.length+1+x.2.length),.box 32 [.v (.slice none 0 0),.v (.slice none 0 0),.v (.slice none 0 0),.v (.slice none 0 0),.v (.slice none 0 0)],.box 32 [.sl 6 (mods.map Mod.d),.sl 1 ((x1).map strD),.sl 1 ((x2).map strD),.own 3 x.2.length,.v (.slice none 0 0)],.arr 9 1 ((x.2).map strD)]⟩) (fun x=>x.1) (v3.toNat,[]) (by simp) (by (refine weak_fg ?_;push_cast [iO,tN]);try omega) ?_
   rintro ⟨j3,x3⟩ hj3
   simp only at hj3
   by_cases hj03:0 < j3
   ·repeat' (first|((refine pwp_drawn_to ⟨[(6,.c (.v (.int .i64 j3))),(3,.c (.ptr 2 0)),(2,.c (.ptr 1 0)),(0,.c (.ptr 0 0))],[tape L (k+8+1+x1.length+1+x2.length+1+x3.length+1),.box 32 [.v (.slice none 0 0),.v (.slice none 0 0),.v (.slice none 0 0),.v (.slice none 0 0),.v (.slice none 0 0)],.box 32 [.sl 6 (mods.map Mod.d),.sl 1 ((x1).map strD),.sl 1 ((x2).map strD),.own 3 (x3.length+1),.v (.slice none 0 0)],.arr 9 1 ((x3++[(pick L (k+8+1+x1.length+1+x2.length+1+x3.length) wl3)]).map strD)]⟩ (by kernel_rfl) ?_ ?_;(focus (simp only [List.length_cons,List.length_nil,Nat.reduceAdd];(repeat' first|(refine plc [0] (one_pure L (k+8+1+x1.length+1+x2.length+1+x3.length) wl3 (by omega) (by decide) (by decide) hL hl) ?_ ?_;push_cast [iO,tN,  wl3 ];rintro r os ⟨rfl,rfl⟩;push_cast [iO,tN,  wl3 ])|((first|refine pah 0 ?_|refine pah 2 ?_|refine pah 7 ?_);push_cast [iO,tN,  wl3 ])|(refine pad ?_;refine weak_fg ?_;push_cast [iO,tN,  wl3 ])|((first|refine pas [1] ?_|refine pas [3] ?_|refine pas [4] ?_|refine pas [5] ?_|refine pas [6] ?_|refine pas [8] ?_);push_cast [iO,tN,  wl3 ])|((first|refine pas [1,3] ?_|refine pas [1,4] ?_|refine pas [1,5] ?_|refine pas [1,6] ?_|refine pas [1,8] ?_|refine pas [3,4] ?_|refine pas [3,5] ?_|refine pas [3,6] ?_|refine pas [3,8] ?_|refine pas [4,5] ?_|refine pas [4,6] ?_|refine pas [4,8] ?_|refine pas [5,6] ?_|refine pas [5,8] ?_|refine pas [6,8] ?_);push_cast [iO,tN,  wl3 ];refine ⟨?_,?_⟩)|((first|refine pas [1,3,4] ?_|refine pas [1,3,5] ?_|refine pas [1,3,6] ?_|refine pas [1,3,8] ?_|refine pas [1,4,5] ?_|refine pas [1,4,6] ?_|refine pas [1,4,8] ?_|refine pas [1,5,6] ?_|refine pas [1,5,8] ?_|refine pas [1,6,8] ?_|refine pas [3,4,5] ?_|refine pas [3,4,6] ?_|refine pas [3,4,8] ?_|refine pas [3,5,6] ?_|refine pas [3,5,8] ?_|refine pas [3,6,8] ?_|refine pas [4,5,6] ?_|refine pas [4,5,8] ?_|refine pas [4,6,8] ?_|refine pas [5,6,8] ?_);push_cast [iO,tN,  wl3 ];refine ⟨?_,?_,?_⟩));done));push_cast [iO,tN,  wl3 ]))|((first|refine pG ?_|refine pQ ?_|refine pU ?_);push_cast [iO,tN,wl3])|(refine pif (fun h=>?_) (fun h=>?_)<;>first|exact pN h|push_cast [iO,tN,wl3]))
    exact ⟨(j3 - 1,x3++[(pick L (k+8+1+x1.length+1+x2.length+1+x3.length) wl3)]),by simp;omega,by (refine weak_fg ?_;push_cast [iO,tN,wl3]);try omega,by simp only;omega⟩
   ·have hx3:x3.length≤2:=by omega
    have he3:=List.take_of_length_le (l:=(x3).map strD) (i:=x3.length) (by simp)
    repeat' (first|((first|refine pG ?_|refine pQ ?_|refine pU ?_);push_cast [iO,tN])|(refine pif (fun h=>?_) (fun h=>?_)<;>first|exact pN h|push_cast [iO,tN]))
    refine pl_weak (weak_frz 3 (by omega)) ?_
    refine pl_weak (s':=⟨[(53,.c (.ptr 0 0)),(3,.c (.ptr 2 0)),(2,.c (.ptr 1 0)),(0,.c (.ptr 0 0))],[tape L (k+8+1+x1.length+1+x2.length+1+x3.length),.box 32 [.v (.slice none 0 0),.v (.slice none 0 0),.v (.slice none 0 0),.v (.slice none 0 0),.v (.slice none 0 0)],.box 32 [.sl 6 (mods.map Mod.d),.sl 1 ((x1).map strD),.sl 1 ((x2).map strD),.sl 1 ((x3).map strD),.v (.slice none 0 0)]]⟩) (by (refine weak_fg ?_;push_cast [iO,tN,he3])) ?_
    refine pl_of_pops ?_
    push_cast [iO,tN]
    obtain ⟨hb4,hc4⟩:=fold_bds (tapeAt L (k+8+1+x1.length+1+x2.length+1+x3.length)) 3 (by omega)
    obtain ⟨v4,hv4⟩:∃ v,fold (tapeAt L (k+8+1+x1.length+1+x2.length+1+x3.length)) 3=v:=⟨_,rfl⟩
    rw [hv4] at hb4 hc4
    repeat' (first|(refine plc [0] (next_pure L (k+8+1+x1.length+1+x2.length+1+x3.length) 3 (by omega) (by omega) hL hl) ?_ ?_;push_cast [iO,tN,hv4];rintro r os ⟨rfl,rfl⟩;push_cast [iO,tN,hv4])|((first|refine pG ?_|refine pQ ?_|refine pU ?_);push_cast [iO,tN,hv4])|(refine pif (fun h=>?_) (fun h=>?_)<;>first|exact pN h|push_cast [iO,tN,hv4]))
    refine pwp_weak (weak_adopt_box 2 4 57 2 (by omega) 32 _ (by push_cast [iO,tN];rfl) (by push_cast [iO,tN])) ?_
    push_cast [iO,tN]
    refine pwp_loop2 (α:=Nat × List Ext2) (fun x=>x.1+x.2.length=v4.toNat∧∀ y ∈ x.2,y.name.size≤10) (fun x=>⟨[(7,.c (.v (.int .i64 x.1))),(3,.c (.ptr 2 0)),(2,.c (.ptr 1 0)),(0,.c (.ptr 0 0))],[tape L (k+8+1+x1.length+1+x2.length+1+x3.length+1+2 * x.2.length),.box 32 [.v (.slice none 0 0),.v (.slice none 0 0),.v (.slice none 0 0),.v (.slice none 0 0),.v (.slice none 0 0)],.box 32 [.sl 6 (mods.map Mod.d),.sl 1 ((x1).map strD),.sl 1 ((x2).map strD),.sl 1 ((x3).map strD),.own 3 x.2.length],.arr 57 2 ((x.2).map Ext2.d)]⟩) (fun x=>x.1) (v4.toNat,[]) ⟨by simp,by simp⟩ (by (refine weak_fg ?_;push_cast [iO,tN]);try omega) ?_
    rintro ⟨j4,x4⟩ ⟨hj4,hn4⟩
    simp only at hj4 hn4
    by_cases hj04:0 < j4
    ·repeat' (first|((refine pwp_drawn_to ⟨[(7,.c (.v (.int .i64 j4))),(3,.c (.ptr 2 0)),(2,.c (.ptr 1 0)),(0,.c (.ptr 0 0))],[tape L (k+8+1+x1.length+1+x2.length+1+x3.length+1+2 * x4.length+2),.box 32 [.v (.slice none 0 0),.v (.slice none 0 0),.v (.slice none 0 0),.v (.slice none 0 0),.v (.slice none 0 0)],.box 32 [.sl 6 (mods.map Mod.d),.sl 1 ((x1).map strD),.sl 1 ((x2).map strD),.sl 1 ((x3).map strD),.own 3 (x4.length+1)],.arr 57 2 ((x4++[(⟨pick L (k+8+1+x1.length+1+x2.length+1+x3.length+1+2 * x4.length) wl4,pick L (k+8+1+x1.length+1+x2.length+1+x3.length+1+2 * x4.length+1) wl5⟩:Ext2)]).map Ext2.d)]⟩ (by kernel_rfl) ?_ ?_;(focus (simp only [List.length_cons,List.length_nil,Nat.reduceAdd];(repeat' first|(refine plc [0] (one_pure L (k+8+1+x1.length+1+x2.length+1+x3.length+1+2 * x4.length) wl4 (by omega) (by decide) (by decide) hL hl) ?_ ?_;push_cast [iO,tN,  wl4,wl5 ];rintro r os ⟨rfl,rfl⟩;push_cast [iO,tN,  wl4,wl5 ])|(refine plc [0] (one_pure L (k+8+1+x1.length+1+x2.length+1+x3.length+1+2 * x4.length+1) wl5 (by omega) (by decide) (by decide) hL hl) ?_ ?_;push_cast [iO,tN,  wl4,wl5 ];rintro r os ⟨rfl,rfl⟩;push_cast [iO,tN,  wl4,wl5 ])|((first|refine pah 0 ?_|refine pah 2 ?_|refine pah 5 ?_|refine pah 8 ?_|refine pah 11 ?_);push_cast [iO,tN,  wl4,wl5 ])|(refine pad ?_;refine weak_fg ?_;push_cast [iO,tN,  wl4,wl5 ])|((first|refine pas [1] ?_|refine pas [3] ?_|refine pas [4] ?_|refine pas [6] ?_|refine pas [7] ?_|refine pas [9] ?_|refine pas [10] ?_|refine pas [12] ?_);push_cast [iO,tN,  wl4,wl5 ])|((first|refine pas [1,3] ?_|refine pas [1,4] ?_|refine pas [1,6] ?_|refine pas [1,7] ?_|refine pas [1,9] ?_|refine pas [1,10] ?_|refine pas [1,12] ?_|refine pas [3,4] ?_|refine pas [3,6] ?_|refine pas [3,7] ?_|refine pas [3,9] ?_|refine pas [3,10] ?_|refine pas [3,12] ?_|refine pas [4,6] ?_|refine pas [4,7] ?_|refine pas [4,9] ?_|refine pas [4,10] ?_|refine pas [4,12] ?_|refine pas [6,7] ?_|refine pas [6,9] ?_|refine pas [6,10] ?_|refine pas [6,12] ?_|refine pas [7,9] ?_|refine pas [7,10] ?_|refine pas [7,12] ?_|refine pas [9,10] ?_|refine pas [9,12] ?_|refine pas [10,12] ?_);push_cast [iO,tN,  wl4,wl5 ];refine ⟨?_,?_⟩)|((first|refine pas [1,3,4] ?_|refine pas [1,3,6] ?_|refine pas [1,3,7] ?_|refine pas [1,3,9] ?_|refine pas [1,3,10] ?_|refine pas [1,3,12] ?_|refine pas [1,4,6] ?_|refine pas [1,4,7] ?_|refine pas [1,4,9] ?_|refine pas [1,4,10] ?_|refine pas [1,4,12] ?_|refine pas [1,6,7] ?_|refine pas [1,6,9] ?_|refine pas [1,6,10] ?_|refine pas [1,6,12] ?_|refine pas [1,7,9] ?_|refine pas [1,7,10] ?_|refine pas [1,7,12] ?_|refine pas [1,9,10] ?_|refine pas [1,9,12] ?_|refine pas [1,10,12] ?_|refine pas [3,4,6] ?_|refine pas [3,4,7] ?_|refine pas [3,4,9] ?_|refine pas [3,4,10] ?_|refine pas [3,4,12] ?_|refine pas [3,6,7] ?_|refine pas [3,6,9] ?_|refine pas [3,6,10] ?_|refine pas [3,6,12] ?_|refine pas [3,7,9] ?_|refine pas [3,7,10] ?_|refine pas [3,7,12] ?_|refine pas [3,9,10] ?_|refine pas [3,9,12] ?_|refine pas [3,10,12] ?_|refine pas [4,6,7] ?_|refine pas [4,6,9] ?_|refine pas [4,6,10] ?_|refine pas [4,6,12] ?_|refine pas [4,7,9] ?_|refine pas [4,7,10] ?_|refine pas [4,7,12] ?_|refine pas [4,9,10] ?_|refine pas [4,9,12] ?_|refine pas [4,10,12] ?_|refine pas [6,7,9] ?_|refine pas [6,7,10] ?_|refine pas [6,7,12] ?_|refine pas [6,9,10] ?_|refine pas [6,9,12] ?_|refine pas [6,10,12] ?_|refine pas [7,9,10] ?_|refine pas [7,9,12] ?_|refine pas [7,10,12] ?_|refine pas [9,10,12] ?_);push_cast [iO,tN,  wl4,wl5 ];refine ⟨?_,?_,?_⟩));done));push_cast [iO,tN,  wl4,wl5 ]))|((first|refine pG ?_|refine pQ ?_|refine pU ?_);push_cast [iO,tN,wl4,wl5])|(refine pif (fun h=>?_) (fun h=>?_)<;>first|exact pN h|push_cast [iO,tN,wl4,wl5]))
     exact ⟨(j4 - 1,x4++[(⟨pick L (k+8+1+x1.length+1+x2.length+1+x3.length+1+2 * x4.length) wl4,pick L (k+8+1+x1.length+1+x2.length+1+x3.length+1+2 * x4.length+1) wl5⟩:Ext2)]),⟨by simp;omega,fun y hy=>(List.mem_append.1 hy).elim (hn4 y) fun h=>by rw [List.mem_singleton.1 h];exact pick_size (by decide) (by decide)⟩,by (refine weak_fg ?_;push_cast [iO,tN,wl4,wl5]);try omega,by simp only;omega⟩
    ·have hx4:x4.length≤3:=by omega
     have he4:=List.take_of_length_le (l:=(x4).map Ext2.d) (i:=x4.length) (by simp)
     repeat' (first|((first|refine pG ?_|refine pQ ?_|refine pU ?_);push_cast [iO,tN])|(refine pif (fun h=>?_) (fun h=>?_)<;>first|exact pN h|push_cast [iO,tN]))
     (refine retK_of [0] ?_;push_cast [iO,tN])
     exact ⟨.agg (Cfg.e ⟨mods,x1,x2,x3,x4⟩),[tape L (k+8+1+x1.length+1+x2.length+1+x3.length+1+2 * x4.length)],by push_cast [iO,tN,he4],by push_cast [iO,tN],⟨mods,x1,x2,x3,x4⟩,k+8+1+x1.length+1+x2.length+1+x3.length+1+2 * x4.length,⟨⟨wm_ok hmods (by simp only;omega),⟨hmods,by simp only;omega,by simp only;omega,by simp only;omega,hn4⟩⟩,by omega⟩,rfl,rfl⟩
end Go.Proofs.YtmjffgienmcabaaGreatDoor
