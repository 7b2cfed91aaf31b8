/- What the program computes, and the plain laws of it, part 19. -/
import Derived.WideKeyEntry
import Derived.Test.YtmbbkfffcflfcaaGreatDoorT18
namespace Go.Proofs.YtmbbkfffcflfcaaGreatDoor
open List renaming reduceReplicate → rR
open Go.Proofs.Tryz
set_option linter.unusedSimpArgs false
set_option linter.unusedVariables false
open Go.RowKit
open IntWalk renaming iteOmega → O, toNatUp → U
def fB (l:List El) (i:Nat):Bool:=decide (i < l.length) && (l.getD i default).star
def plN (l:List El) (a:List Bool):Nat → List Bool
 | 0=>a
 | i+1=>if (plN l a i).getD i false && (l.getD i default).star then (plN l a i).set (i+1) true else plN l a i
def eV (l:List El) (a:List Bool):List Bool:=plN l a l.length
theorem nj (l:List El) (a:List Bool):∀ i,(plN l a i).length=a.length
 | 0=>rfl
 | i+1=>by rw [plN];split<;>simp [nj l a i]
theorem nk {l:List Bool} {i j:Nat} (h:i < l.length):(l.set i true).getD j false=if j=i then true else l.getD j false:=by
 rw [List.getD_eq_getElem?_getD];by_cases e:j=i
 ·subst e;rw [List.getElem?_set_self h,if_pos rfl];rfl
 ·rw [List.getElem?_set_ne (Ne.symm e),if_neg e,← List.getD_eq_getElem?_getD]
theorem nl (l:List El) (a:List Bool) (ha:a.length=l.length+1):∀ i,i≤l.length → ∀ j,(plN l a i).getD j false=if 0 < j∧j≤i then a.getD j false || ((plN l a (j - 1)).getD (j - 1) false && (l.getD (j - 1) default).star) else a.getD j false
 | 0,_,j=>by rw [if_neg ac,plN]
 | i+1,h,j=>by
  have ih:=nl l a ha i ac;rw [plN];by_cases hj:j=i+1
  ·subst hj;have h0:=ih (i+1);rw [if_neg ac] at h0;have hpp:(0 < i+1∧i+1≤i+1)=True:=eq_true ⟨ac,Nat.le_refl _⟩;simp only [hpp,if_true,Nat.add_sub_cancel];cases hc:((plN l a i).getD i false && (l.getD i default).star)
   ·rw [Bool.or_false];simp only [Bool.false_eq_true,if_false];exact h0
   ·rw [if_pos rfl,nk (by rw [nj];omega),if_pos rfl,Bool.or_true]
  ·have h1:(if ((plN l a i).getD i false && (l.getD i default).star)=true then (plN l a i).set (i+1) true else plN l a i).getD j false=(plN l a i).getD j false:=by
    split
    ·rw [nk (by rw [nj];omega),if_neg hj]
    ·rfl
   rw [h1,ih j];by_cases h2:0 < j∧j≤i
   ·rw [if_pos h2,if_pos ac]
   ·rw [if_neg h2,if_neg ac]
theorem EQ (l:List El) (a:List Bool) (ha:a.length=l.length+1) {i j:Nat} (hi:i≤l.length) (hj:j≤i):(plN l a i).getD j false=(plN l a j).getD j false:=by
 rw [nl l a ha i hi j,nl l a ha j ac j];by_cases h:0 < j
 ·rw [if_pos ⟨h,hj⟩,if_pos ⟨h,Nat.le_refl _⟩]
 ·rw [if_neg ac,if_neg ac]
theorem nn (l:List El) (a:List Bool) (ha:a.length=l.length+1):(eV l a).getD 0 false=a.getD 0 false:=by
 unfold eV;rw [nl l a ha _ (Nat.le_refl _) 0,if_neg ac]
theorem np (l:List El) (a:List Bool) (ha:a.length=l.length+1) {j:Nat} (hj:j < l.length):(eV l a).getD (j+1) false=(a.getD (j+1) false || ((eV l a).getD j false && (l.getD j default).star)):=by
 unfold eV;rw [nl l a ha _ (Nat.le_refl _) (j+1),if_pos ac,Nat.add_sub_cancel,EQ l a ha (Nat.le_refl _) (by omega:j≤l.length)]
theorem kR (l:List El) (a:List Bool):(eV l a).length=a.length:=nj _ _ _
def nxN (l:List El) (a:List Bool) (b:UInt8):Nat → List Bool
 | 0=>List.replicate (l.length+1) false
 | i+1 =>
  let u:=if a.getD i false && (l.getD i default).star then (nxN l a b i).set i true else nxN l a b i
  if (a.getD i false && !(l.getD i default).star) && (l.getD i default).has b then u.set (i+1) true else u
theorem qo (l:List El) (a:List Bool) (b:UInt8):∀ i,(nxN l a b i).length=l.length+1
 | 0=>by simp [nxN]
 | i+1=>by
  have ih:=qo l a b i;rw [nxN];split<;>split<;>simp [ih]
theorem uX (l:List El) (a:List Bool) (b:UInt8):∀ i,i≤l.length → ∀ j,(nxN l a b i).getD j false=((decide (j < i) && (a.getD j false && (l.getD j default).star)) || (decide (0 < j∧j≤i) && ((a.getD (j - 1) false && !(l.getD (j - 1) default).star) && (l.getD (j - 1) default).has b)))
 | 0,_,j=>by
  rw [nxN,decide_eq_false ac,decide_eq_false ac,List.getD_eq_getElem?_getD,List.getElem?_replicate];simp only [Bool.false_and,Bool.or_self];split<;>rfl
 | i+1,h,j=>by
  have ih:=uX l a b i ac j;have hl:=qo l a b i;rw [nxN];obtain ⟨c1,hc1⟩:∃ c,(a.getD i false && (l.getD i default).star)=c:=⟨_,rfl⟩
  obtain ⟨c2,hc2⟩:∃ c,((a.getD i false && !(l.getD i default).star) && (l.getD i default).has b)=c:=⟨_,rfl⟩
  rw [hc1,hc2];have hu:(if c1=true then (nxN l a b i).set i true else nxN l a b i).getD j false=((decide (j=i) && c1) || (nxN l a b i).getD j false):=by
   cases c1
   ·simp
   ·rw [if_pos rfl,nk ac];by_cases e:j=i<;>simp [e]
  have hul:(if c1=true then (nxN l a b i).set i true else nxN l a b i).length=l.length+1:=by split<;>simp [hl]
  have hv:(if c2=true then (if c1=true then (nxN l a b i).set i true else nxN l a b i).set (i+1) true else (if c1=true then (nxN l a b i).set i true else nxN l a b i)).getD j false=((decide (j=i+1) && c2) || ((decide (j=i) && c1) || (nxN l a b i).getD j false)):=by
   cases c2
   ·rw [if_neg (by simp),hu];simp
   ·rw [if_pos rfl,nk ac,hu];by_cases e:j=i+1<;>simp [e]
  rw [hv,ih];by_cases e1:j=i
  ·subst e1;rw [hc1,decide_eq_true (by omega:j < j+1),decide_eq_false (by omega:¬ j < j),decide_eq_false (by omega:¬ j=j+1)];by_cases h0:0 < j
   ·rw [decide_eq_true (by omega:0 < j∧j≤j),decide_eq_true (by omega:0 < j∧j≤j+1)];simp
   ·rw [decide_eq_false (by omega:¬ (0 < j∧j≤j)),decide_eq_false (by omega:¬ (0 < j∧j≤j+1))];simp
  ·by_cases e2:j=i+1
   ·subst e2;rw [Nat.add_sub_cancel,hc2,decide_eq_false (by omega:¬ i+1 < i),decide_eq_false (by omega:¬ i+1 < i+1),decide_eq_true (by omega:0 < i+1∧i+1≤i+1),decide_eq_false (by omega:¬ (0 < i+1∧i+1≤i)),decide_eq_false (by omega:¬ i+1=i)];simp
   ·have d1:decide (j < i+1)=decide (j < i):=decide_eq_decide.2 ac;have d2:decide (0 < j∧j≤i+1)=decide (0 < j∧j≤i):=decide_eq_decide.2 ac;rw [d1,d2,decide_eq_false e1,decide_eq_false e2];simp
def aM (l:List El) (i:Nat) (t:List UInt8):Bool:=if fB l i then mat (l.take (i+1)) t else mat (l.take i) t
theorem i9 {l:List El} {i:Nat} (h:i < l.length):l.take (i+1)=l.take i++[l.getD i default]:=by
 rw [List.take_succ_eq_append_getElem h];congr 2;simp [List.getD,h]
theorem lB {l:List El} {i:Nat} (h:i < l.length):fB l i=(l.getD i default).star:=by unfold fB;rw [decide_eq_true h,Bool.true_and]
def uY (l:List El) (a:List Bool) (t:List UInt8):Prop:=a.length=l.length+1∧∀ i,i≤l.length → a.getD i false=aM l i t
theorem yF (l:List El):∀ i,i≤l.length → aM l i []=mat (l.take i) []:=fun i hi=>by
 unfold aM;by_cases hs:fB l i=true
 ·rw [if_pos hs];have hlt:i < l.length:=by unfold fB at hs;simp only [Bool.and_eq_true,decide_eq_true_eq] at hs;exact hs.1
  rw [i9 hlt,mZ,← lB hlt,hs,Bool.and_true]
 ·rw [if_neg hs]
theorem uY.start (l:List El):uY l (eV l ((List.replicate (l.length+1) false).set 0 true)) []:=by
 have hl:((List.replicate (l.length+1) false).set 0 true).length=l.length+1:=by simp
 refine ⟨by rw [kR,hl],fun i=>?_⟩;induction i with
 | zero =>
  intro _;rw [nn l _ hl,yF l 0 (Nat.zero_le _),List.replicate_succ];rfl
 | succ i ih =>
  intro hi;rw [np l _ hl ac,ih ac,yF l i ac,yF l (i+1) hi,i9 ac,mZ];rw [List.getD_eq_getElem?_getD,List.getElem?_set_ne ac,List.getElem?_replicate];split<;>simp
theorem uY.step {l:List El} {a:List Bool} {t:List UInt8} (h:uY l a t) (b:UInt8):uY l (eV l (nxN l a b l.length)) (t++[b]):=by
 have hl:=qo l a b l.length;refine ⟨by rw [kR,hl],fun i=>?_⟩;induction i with
 | zero =>
  intro _;rw [nn l _ hl,uX l a b _ (Nat.le_refl _) 0,decide_eq_false (by omega:¬ (0 < 0∧0≤l.length)),Bool.false_and,Bool.or_false];have h0:=h.2 0 (Nat.zero_le _);unfold aM at h0 ⊢;by_cases hlt:0 < l.length
  ·rw [lB hlt] at *;rw [decide_eq_true hlt,Bool.true_and,h0];cases hs:(l.getD 0 default).star
   ·simp [mat]
   ·simp only [if_true,Bool.and_true];have h1:l.take (0+1)=[l.getD 0 default]:=by rw [i9 hlt];simp
    rw [h1];have hm:∀ u:List UInt8,mat [l.getD 0 default] u=true:=fun u=>(kL hs).2 ⟨u.length,Nat.le_refl _,by simp [mat]⟩
    rw [hm,hm]
  ·rw [decide_eq_false hlt,Bool.false_and];have hn:fB l 0=false:=by unfold fB;rw [decide_eq_false hlt];rfl
   rw [hn];simp [mat]
 | succ i ih =>
  intro hi;have hlt:i < l.length:=ac;have hi1:=h.2 i ac;have hi2:=h.2 (i+1) hi;rw [np l _ hl hlt,ih ac,uX l a b _ (Nat.le_refl _) (i+1),decide_eq_true (by omega:0 < i+1∧i+1≤l.length),Bool.true_and,Nat.add_sub_cancel,hi1];have hX:mat (l.take (i+1)) (t++[b])=if (l.getD i default).star then (mat (l.take i) (t++[b]) || mat (l.take (i+1)) t) else (mat (l.take i) t && (l.getD i default).has b):=by
   rw [i9 hlt];cases hs:(l.getD i default).star
   ·rw [uS hs];rfl
   ·rw [lS hs];rfl
  have hprev:(((aM l i t && !(l.getD i default).star) && (l.getD i default).has b) || (aM l i (t++[b]) && (l.getD i default).star))=mat (l.take (i+1)) (t++[b]):=by
   unfold aM;rw [lB hlt];cases hs:(l.getD i default).star
   ·rw [hX,hs];simp
   ·simp
  have hgo:(decide (i+1 < l.length) && (a.getD (i+1) false && (l.getD (i+1) default).star))=(fB l (i+1) && mat (l.take (i+1+1)) t):=by
   rw [hi2];unfold aM;cases hs:fB l (i+1)
   ·unfold fB at hs;cases hd:decide (i+1 < l.length)
    ·simp
    ·rw [hd,Bool.true_and] at hs;rw [hs];simp
   ·have hs2:=hs;unfold fB at hs2;simp only [Bool.and_eq_true] at hs2;rw [hs2.1,hs2.2];simp
  rw [Bool.or_assoc,hprev,hgo];show _=aM l (i+1) (t++[b]);unfold aM;cases hs:fB l (i+1)
  ·simp
  ·have hlt2:i+1 < l.length:=by unfold fB at hs;simp only [Bool.and_eq_true,decide_eq_true_eq] at hs;exact hs.1
   have hs':(l.getD (i+1) default).star=true:=by rw [← lB hlt2];exact hs
   simp only [Bool.true_and,if_true];rw [i9 hlt2,lS hs'];cases mat (List.take (i+1) l) (t++[b])<;>simp
theorem uY.fin {l:List El} {a:List Bool} {t:List UInt8} (h:uY l a t):a.getD l.length false=mat l t:=by
 rw [h.2 _ (Nat.le_refl _)];unfold aM fB;rw [decide_eq_false ac,Bool.false_and,List.take_length];rfl
section
attribute [local irreducible] PL QL aL ah bg La aV PA
set_option maxRecDepth 20000
def bD (b:Bool):List D:=[.v (.bool b)]
attribute [push_cast] bD
theorem uZ (a:List Bool) (i:Nat) (b:Bool):(a.map bD).set i [.v (.bool b)]=(a.set i b).map bD:=by rw [List.map_set];rfl
abbrev Hv (a:List Bool):Ob:=.arr 4 1 (a.map bD)
set_option maxRecDepth 20000 in
set_option maxHeartbeats 2000000 in
theorem px (l:List El) (a:List Bool) (hl:l.length≤1000000) (ha:a.length=l.length+1) :
  ah prog 258 [.c (.sl 130 (l.map El.r)),.c (.sl 1 (a.map bD))] [] fun r os=>r = .c (.own 0 a.length)∧os=[Hv (eV l a)]:=by
 refine aw func258 ntmps258 results258 ?_;push_cast [-rR,O,U];have cB:aH 7 []:=trivial;repeat' ((first|refine ae ?_|refine pif ?_ ?_<;>intro h<;>try exact pN h)<;>push_cast [-rR,O,U])
 (apply ap (α:=Nat) 7 [] (fun k=>[(6,.c (.v (.int .i64 k)))]) (fun k=>[(0,Hv (plN l a k))]) (fun k=>k≤l.length) (fun k=>l.length - k) (0);(focus ((try push_cast [-rR,O,U]);rfl));(focus exact (Nat.zero_le _));(focus ((refine weak_fg ?_;try push_cast [-rR,O,U]);(try (rfl)))));intro k hk;push_cast [-rR,O,U];have hlen:=nj l a k;by_cases hlt:k < l.length
 ·cases h1:(plN l a k).getD k default with
  | false =>
   have hs:plN l a (k+1)=plN l a k:=by rw [plN,show (plN l a k).getD k false=false from h1];rfl
   repeat' ((first|refine ae ?_|refine pif ?_ ?_<;>intro h<;>try exact pN h)<;>push_cast [-rR,O,U,hlen,h1])
   exact ⟨k+1,ac,by (refine weak_fg ?_;push_cast [-rR,O,U,hs]),ac⟩
  | true =>
   cases h2:(l.getD k default).star with
   | false =>
    have hs:plN l a (k+1)=plN l a k:=by rw [plN,show (plN l a k).getD k false=true from h1,h2];rfl
    repeat' ((first|refine ae ?_|refine pif ?_ ?_<;>intro h<;>try exact pN h)<;>push_cast [-rR,O,U,hlen,h1,h2,El.r])
    exact ⟨k+1,ac,by (refine weak_fg ?_;push_cast [-rR,O,U,hs]),ac⟩
   | true =>
    have hs:plN l a (k+1)=(plN l a k).set (k+1) true:=by rw [plN,show (plN l a k).getD k false=true from h1,h2];rfl
    repeat' ((first|refine ae ?_|refine pif ?_ ?_<;>intro h<;>try exact pN h)<;>push_cast [-rR,O,U,hlen,h1,h2,El.r])
    exact ⟨k+1,ac,by (refine weak_fg ?_;push_cast [-rR,O,U,hs]),ac⟩
 ·have hk2:k=l.length:=ac;subst hk2;repeat' ((first|refine ae ?_|refine pif ?_ ?_<;>intro h<;>try exact pN h)<;>push_cast [-rR,O,U,hlen])
  (refine K9 [0] ?_;push_cast [-rR,O,U,hlen]);rfl
theorem ER {e:El} (h:e.set.length=127):(rm e).length=128:=by
 unfold rm;split
 ·exact List.length_replicate
 ·rw [List.length_append,h];rfl
theorem ES {e:El} (h:e.set.length=127) (hs:e.star=false) {k:Nat} (hk:k≤126):(rm e).getD k false=e.set.getD k false:=by
 unfold rm;rw [hs,if_neg (by simp),List.getD_eq_getElem?_getD,List.getElem?_append_left ac,← List.getD_eq_getElem?_getD]
set_option maxRecDepth 20000 in
set_option maxHeartbeats 4000000 in
theorem BO (l:List El) (s:ByteArray) (hok:sF l) (hl:l.length≤100000) (hs:s.size≤9000000000000000000) (hb:∀ k,byt s k≤126) :
  ah prog 245 [.c (.sl 130 (l.map El.r)),.c (.v (.string s))] [] fun r os=>r = .c (.v (.bool (mat l s.data.toList)))∧os=[]:=by
 refine aw func245 ntmps245 results245 ?_;push_cast [-rR,O,U];have cB:aH 9 []:=trivial;obtain ⟨a0,ha0⟩:∃ a0,(List.replicate (l.length+1) false).set 0 true=a0:=⟨_,rfl⟩
 have hl0:a0.length=l.length+1:=by rw [← ha0];simp
 have hst:=uY.start l;rw [ha0] at hst;have hp0:=px l a0 ac hl0;have hm0:(List.replicate (l.length+1) [D.v (.bool false)]).set 0 [D.v (.bool true)]=a0.map bD:=by
  rw [← ha0,List.map_set,List.map_replicate];rfl
 have hd0:List.drop 1 ((List.replicate (l.length+1) [D.v (.bool false)]).getD 0 [])=[]:=by rw [List.replicate_succ];rfl
 have hmk:(l.length:Int)+1=((l.length+1:Nat):Int):=ac;repeat' ((first|(refine Aq (n:=l.length+1) (kx:=.i64) (kz:=.i64) (by':=1) (z0:=.v (.bool false)) (d:=.v (.bool false)) rfl rfl (by push_cast [-rR,O,U,hm0,hl0,hd0]) rfl aj aj rfl (by push_cast [-rR,O,U,hm0,hl0,hd0]) (by push_cast [-rR,O,U,hm0,hl0,hd0]) ac ac ac ?_;push_cast [-rR,O,U,hm0,hl0,hd0];refine an ?_)|(refine aW true [] rfl rfl aj (hp0) ?_ ?_ ?_;push_cast [-rR,O,U,hm0,hl0,hd0];(intro _ r os;rintro ⟨rfl,rfl⟩;push_cast [-rR,O,U,hm0,hl0,hd0]);rintro r os ⟨rfl,rfl⟩;refine an ?_)|refine ae ?_|refine pif ?_ ?_<;>intro h<;>try exact pN h)<;>push_cast [-rR,O,U,hm0,hl0,hd0])
 (apply ap (α:=Nat × List Bool) 9 [] (fun x=>[(6,.c (.v (.int .i64 x.1))),(5,.c (.own 1 (l.length+1)))]) (fun x=>[(1,Hv x.2)]) (fun x=>x.1≤s.size∧uY l x.2 (s.data.toList.take x.1)) (fun x=>s.size - x.1) ((0,eV l a0));(focus ((try push_cast [-rR,O,U]);rfl));(focus exact ⟨Nat.zero_le _,hst⟩);(focus ((refine weak_fg ?_;try push_cast [-rR,O,U]))));rintro ⟨k,a⟩ ⟨hk,ha⟩;simp only at hk ha ⊢;push_cast [-rR,O,U];have hal:=ha.1;by_cases hlt:k < s.size
 case neg =>
  have hk2:k=s.size:=ac;subst hk2;have hf:=ha.fin;rw [show s.data.toList.take s.size=s.data.toList from List.take_of_length_le (Nat.le_refl _)] at hf;have hf2:a.getD l.length default=mat l s.data.toList:=hf;repeat' ((first|refine ae ?_|refine pif ?_ ?_<;>intro h<;>try exact pN h)<;>push_cast [-rR,O,U,hal,hf2])
  (refine K9 [] ?_;push_cast [-rR,O,U])
 obtain ⟨b,hg⟩:∃ b,s.data.toList.getD k 0=b:=⟨_,rfl⟩
 have hb1:b.toNat≤126:=by rw [← hg];exact UInt8.le_iff_toNat_le.1 (hb k)
 have hstep:=ha.step b;have htk:s.data.toList.take k++[b]=s.data.toList.take (k+1):=by
  have hkl:k < s.data.toList.length:=hlt;rw [List.take_succ_eq_append_getElem hkl,← hg,List.getD_eq_getElem?_getD,List.getElem?_eq_getElem hkl];rfl
 rw [htk] at hstep;have hn0:List.replicate (l.length+1) [D.v (.bool false)]=(nxN l a b 0).map bD:=by rw [nxN,List.map_replicate];rfl
 repeat' ((first|(refine Aq (n:=l.length+1) (kx:=.i64) (kz:=.i64) (by':=1) (z0:=.v (.bool false)) (d:=.v (.bool false)) rfl rfl (by push_cast [-rR,O,U,hn0]) rfl aj aj rfl (by push_cast [-rR,O,U,hn0]) (by push_cast [-rR,O,U,hn0]) ac ac ac ?_;push_cast [-rR,O,U,hn0];refine an ?_)|refine ae ?_|refine pif ?_ ?_<;>intro h<;>try exact pN h)<;>push_cast [-rR,O,U,hn0])
 (apply ap (α:=Nat) 9 [] (fun j=>[(8,.c (.v (.int .i64 j)))]) (fun j=>[(2,Hv (nxN l a b j))]) (fun j=>j≤l.length) (fun j=>l.length - j) (0);(focus ((try push_cast [-rR,O,U]);rfl));(focus exact (Nat.zero_le _));(focus ((refine weak_fg ?_;try push_cast [-rR,O,U]))));intro j hj;push_cast [-rR,O,U];have hnl:=qo l a b j;by_cases hjl:j < l.length
 ·have h127:=wQ hok hjl;have hr128:=ER h127;have hd:List.map D.e (List.drop b.toNat ((rm (l.getD j default)).map kQ))=E.v (.bool ((rm (l.getD j default)).getD b.toNat false)) :: ((rm (l.getD j default)).drop (b.toNat+1)).map aN:=uV _ _ ac;obtain ⟨at1,hat⟩:∃ c,a.getD j default=c:=⟨_,rfl⟩
  obtain ⟨st,hst1⟩:∃ c,(l.getD j default).star=c:=⟨_,rfl⟩
  obtain ⟨nx,hnx⟩:∃ nx,nxN l a b (j+1)=nx:=⟨_,rfl⟩
  have hnx2:=hnx;rw [nxN,show a.getD j false=at1 from hat,hst1] at hnx2;cases at1 with
  | false =>
   have hs:nx=nxN l a b j:=by rw [← hnx2];simp
   repeat' ((first|refine ae ?_|refine pif ?_ ?_<;>intro h<;>try exact pN h)<;>push_cast [-rR,O,U,hal,hnl,hat])
   exact ⟨j+1,ac,by (refine weak_fg ?_;push_cast [-rR,O,U,hnx,uZ,hs]),ac⟩
  | true =>
   cases st with
   | true =>
    have hs:(nxN l a b j).set j true=nx:=by rw [← hnx2];simp
    repeat' ((first|refine ae ?_|refine pif ?_ ?_<;>intro h<;>try exact pN h)<;>push_cast [-rR,O,U,hal,hnl,hat,hst1,El.r])
    exact ⟨j+1,ac,by (refine weak_fg ?_;push_cast [-rR,O,U,hnx,uZ,hs]),ac⟩
   | false =>
    have hh:(rm (l.getD j default)).getD b.toNat false=(l.getD j default).has b:=ES h127 hst1 hb1;cases hv:(l.getD j default).has b with
    | true =>
     rw [hh,hv] at hd;have hs:(nxN l a b j).set (j+1) true=nx:=by rw [← hnx2,hv];simp
     repeat' ((first|refine ae ?_|refine pif ?_ ?_<;>intro h<;>try exact pN h)<;>push_cast [-rR,O,U,hal,hnl,hat,hst1,El.r,hg,hd,hr128])
     exact ⟨j+1,ac,by (refine weak_fg ?_;push_cast [-rR,O,U,hnx,uZ,hs]),ac⟩
    | false =>
     rw [hh,hv] at hd;have hs:nx=nxN l a b j:=by rw [← hnx2,hv];simp
     repeat' ((first|refine ae ?_|refine pif ?_ ?_<;>intro h<;>try exact pN h)<;>push_cast [-rR,O,U,hal,hnl,hat,hst1,El.r,hg,hd,hr128])
     exact ⟨j+1,ac,by (refine weak_fg ?_;push_cast [-rR,O,U,hnx,uZ,hs]),ac⟩
 have hj2:j=l.length:=ac;have hpl:=px l (nxN l a b j) ac hnl;repeat' ((first|(refine aW true [] rfl rfl aj (hpl) ?_ ?_ ?_;push_cast [-rR,O,U,hnl];(intro _ r os;rintro ⟨rfl,rfl⟩;push_cast [-rR,O,U,hnl]);rintro r os ⟨rfl,rfl⟩;refine an ?_)|refine ae ?_|refine pif ?_ ?_<;>intro h<;>try exact pN h)<;>push_cast [-rR,O,U,hnl])
 have hle:(eV l (nxN l a b j)).length=l.length+1:=by rw [kR,hnl]
 refine ⟨(k+1,eV l (nxN l a b j)),⟨by simp only;omega,by rw [hj2];exact hstep⟩,?_,by simp only;omega⟩;(refine gz true [0,3] ?_;push_cast [-rR,O,U])
set_option maxRecDepth 20000 in
set_option maxHeartbeats 4000000 in
theorem wS (p s:ByteArray) (hf:p.size≤9223372036854775807) (hs:s.size≤9000000000000000000):ah prog 221 [.c (.v (.string p)),.c (.v (.string s))] [] fun r os=>r = .c (.v (.bool (bH p s)))∧os=[]:=by
 have hc:=pw p hf;have hpr:=pu s ac;refine aw func221 ntmps221 results221 ?_;push_cast [-rR,O,U];have cB:aH 8 []:=trivial;by_cases h0:cA p=0
 case neg =>
  have hR:bH p s=false:=by unfold bH;rw [decide_eq_false h0];rfl
  repeat' ((first|refine plE [] hc ?_ ?_|refine ae ?_|refine pif ?_ ?_<;>intro h<;>try exact pN h)<;>push_cast [-rR,O,U,h0])
  (refine K9 [] ?_;push_cast [-rR,O,U,hR])
 rw [h0] at hc;cases ht:s.data.toList.all bR with
 | false =>
  have hR:bH p s=false:=by unfold bH;rw [ht];simp
  rw [ht] at hpr;repeat' ((first|refine plE [] hc ?_ ?_|refine plE [] hpr ?_ ?_|refine ae ?_|refine pif ?_ ?_<;>intro h<;>try exact pN h)<;>push_cast [-rR,O,U])
  (refine K9 [] ?_;push_cast [-rR,O,U,hR])
 | true =>
 rw [ht] at hpr;have hp256:p.size≤256:=by
  unfold cA at h0;split at h0
  ·cases h0
  ·omega
 have htp:p.data.toList.all bR=true:=by
  unfold cA at h0;rw [if_neg ac] at h0;cases h:p.data.toList.all bR
  ·rw [h] at h0;cases h0
  ·rfl
 obtain ⟨l,hq⟩:∃ l,eH p=some l:=by
  cases hq:eH p with
  | some l=>exact ⟨l,rfl⟩
  | none =>
   unfold cA at h0;rw [hq] at h0;split at h0
   ·cases h0
   ·split at h0<;>cases h0
 have hok:=wR hq;have hll:=tP (Nat.zero_le _) (Nat.zero_le _) (show bE p 0 [] []=some l from hq);have hR:bH p s=l.any fun x=>mat x s.data.toList:=by unfold bH;rw [decide_eq_true h0,ht,hq];rfl
 have hps:=pv p ac;unfold gr at hps;rw [hq,htp,if_pos ⟨rfl,rfl⟩,Option.getD_some,Av] at hps;simp only [Option.isSome_some,Bool.and_self] at hps;repeat' ((first|refine plE [] hc ?_ ?_|refine plE [] hpr ?_ ?_|refine plE [] hps ?_ ?_|refine ae ?_|refine pif ?_ ?_<;>intro h<;>try exact pN h)<;>push_cast [-rR,O,U])
 (apply ap (α:=Nat) 8 [] (fun k=>[(7,.c (.v (.int .i64 k)))]) (fun k=>[]) (fun k=>k≤l.length∧((l.take k).any fun x=>mat x s.data.toList)=false) (fun k=>l.length - k) (0);(focus ((try push_cast [-rR,O,U]);rfl));(focus exact ⟨ac,rfl⟩);(focus ((refine weak_fg ?_;try push_cast [-rR,O,U]))));rintro k ⟨hk,hn⟩;push_cast [-rR,O,U];by_cases hlt:k < l.length
 ·have hx:=hok (l.getD k default) (by rw [ai l hlt];exact List.getElem_mem _);have hm:=BO (l.getD k default) s hx.1 (by have:=hx.2;omega) hs (kO ht);cases hv:mat (l.getD k default) s.data.toList with
  | true =>
   rw [hv] at hm;have hR2:bH p s=true:=by rw [hR,List.any_eq_true];exact ⟨l.getD k default,by rw [ai l hlt];exact List.getElem_mem _,hv⟩
   repeat' ((first|refine plE [] hm ?_ ?_|refine ae ?_|refine pif ?_ ?_<;>intro h<;>try exact pN h)<;>push_cast [-rR,O,U])
   (refine K9 [] ?_;push_cast [-rR,O,U,hR2])
  | false =>
   rw [hv] at hm;have hn2:((l.take (k+1)).any fun x=>mat x s.data.toList)=false:=by
    rw [List.take_succ_eq_append_getElem hlt,List.any_append,hn,← ai l hlt];simp only [List.any_cons,List.any_nil,hv];rfl
   repeat' ((first|refine plE [] hm ?_ ?_|refine ae ?_|refine pif ?_ ?_<;>intro h<;>try exact pN h)<;>push_cast [-rR,O,U])
   exact ⟨k+1,⟨ac,hn2⟩,by (refine weak_fg ?_;push_cast [-rR,O,U]),ac⟩
 ·have hk2:k=l.length:=ac;subst hk2;rw [List.take_length] at hn;rw [hn] at hR;repeat' ((first|refine ae ?_|refine pif ?_ ?_<;>intro h<;>try exact pN h)<;>push_cast [-rR,O,U])
  (refine K9 [] ?_;push_cast [-rR,O,U,hR])
set_option maxRecDepth 20000
end
end Go.Proofs.YtmbbkfffcflfcaaGreatDoor
