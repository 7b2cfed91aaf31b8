/- What the program computes, and the plain laws of it, part 29. -/
import Derived.Lib.ItoaNum
import Derived.WideKeyEntry
import Derived.Test.YtmbbkfffcflfcaaGreatDoorT26
import Derived.Test.YtmbbkfffcflfcaaGreatDoorT28
namespace Go.Proofs.YtmbbkfffcflfcaaGreatDoor
open Go.Proofs.Tryz
set_option linter.unusedSimpArgs false
set_option linter.unusedVariables false
open Go.RowKit
open IntWalk renaming iteOmega → O, toNatUp → U
def ks1:Inh:=⟨1,[],[]⟩
theorem BX (l:List Dev) {i:Nat} (hi:i < l.length):l.getD i default ∈ l:=by rw [ai l hi];exact List.getElem_mem _
def g9 (l:List Dev) (n:Int) (i:Nat):List Dev:=(l.take i).filter fun d=>bO l d.index n
def eS (l:List Dev) (n:Int) (i:Nat):List (MK × List D):=(g9 l n i).map fun d=>(.i .i64 d.index,[.v (.bool true)])
theorem rM (l:List Dev) (n:Int):eS l n 0=[]:=rfl
theorem oM (n:Int):∀ m:List Dev,eC (m.map fun d=>((.i .i64 d.index:MK),[D.v (.bool true)])) (.i .i64 n)=(aG m n).map fun _=>[D.v (.bool true)]
 | []=>rfl
 | d :: m=>by
  rw [List.map_cons,eC];unfold aG;by_cases h:d.index=n
  ·rw [List.find?_cons_of_pos (by simpa using h)];subst h;simp
  ·rw [List.find?_cons_of_neg (by simpa using h),if_neg (by simp [h])];exact oM n m
theorem ve (l:List Dev) (n:Int) (i:Nat) (k:Int):lkP false (.c (.v (.bool false))) false (eC (eS l n i) (.i .i64 k))=some (.c (.v (.bool (aG (g9 l n i) k).isSome))):=by
 unfold eS;rw [oM];cases aG (g9 l n i) k<;>rfl
theorem rN {l:List Dev} (h:Okp l) (n:Int) {i:Nat} {d:Dev} (hd:d ∈ l.take i):(aG (g9 l n i) d.index).isSome=bO l d.index n:=by
 cases hb:bO l d.index n with
 | true =>
  have hm:d ∈ g9 l n i:=by unfold g9;rw [List.mem_filter];exact ⟨hd,hb⟩
  have hn:((g9 l n i).map Dev.index).Nodup:=h.nodup.sublist (((List.filter_sublist).trans (List.take_sublist _ _)).map _);rw [dj hn hm];rfl
 | false =>
  cases hf:aG (g9 l n i) d.index with
  | none=>rfl
  | some e =>
   obtain ⟨h3,h4⟩:=eu hf;unfold g9 at h3;rw [List.mem_filter,h4,hb] at h3;simp at h3
theorem rO {l:List Dev} (h:Okp l) (n:Int) {i:Nat} (hi:i < l.length):bO l (l.getD i default).index n=(decide ((l.getD i default).index=n) || (aG (g9 l n i) (l.getD i default).parent).isSome):=by
 have hm:=BX l hi;unfold bO;rw [ew h hm,List.any_cons];congr 1;rw [ai l hi];rcases h.par i hi with h0|⟨j,hj,hp⟩
 ·rw [h0,gY (iD h.pos ac),iD (fun d hd=>?_) ac]
  ·rfl
  ·unfold g9 at hd;exact h.pos d (List.mem_of_mem_take (List.mem_filter.1 hd).1)
 ·have hm:l[j] ∈ l.take i:=by rw [List.mem_take_iff_getElem];exact ⟨j,ac,rfl⟩
  rw [← hp,rN h n hm];rfl
theorem ub {l:List Dev} (h:Okp l) {n:Int} {i:Nat} (hi:i < l.length) (hb:bO l (l.getD i default).index n=true):lZ (eS l n i) (.i .i64 (l.getD i default).index) [.v (.bool true)]=eS l n (i+1):=by
 rw [nF]
 ·unfold eS g9;rw [List.take_add_one,List.getElem?_eq_getElem hi,← ai l hi,List.filter_append,List.map_append,Option.toList_some,List.filter_cons_of_pos (p:=fun d:Dev=>bO l d.index n) (a:=l.getD i default) (l:=[]) hb];rfl
 ·unfold eS;rw [oM,dQ.2 fun d hd e=>?_]
  ·rfl
  ·unfold g9 at hd;obtain ⟨j,hj,rfl⟩:=List.mem_take_iff_getElem.1 (List.mem_filter.1 hd).1;exact oI h hi j ac (by rw [ai l ac];exact e)
theorem xj {l:List Dev} {n:Int} {i:Nat} (hi:i < l.length) (hb:bO l (l.getD i default).index n=false):eS l n (i+1)=eS l n i:=by
 unfold eS g9;rw [List.take_add_one,List.getElem?_eq_getElem hi,← ai l hi,List.filter_append,Option.toList_some,List.filter_cons_of_neg (p:=fun d:Dev=>bO l d.index n) (a:=l.getD i default) (l:=[]) (by rw [hb];exact Bool.false_ne_true),List.filter_nil,List.append_nil]
theorem xk {l:List Dev} (h:Okp l) (n:Int) {d:Dev} (hd:d ∈ l):(aG (g9 l n l.length) d.index).isSome=bO l d.index n:=rN h n (by rw [List.take_length];exact hd)
theorem y0 {l:List Dev} (h:Okp l) {d:Dev} (hd:d ∈ l):bO l d.index d.index=true:=by unfold bO;rw [ew h hd,List.any_cons];simp
theorem HQ {l:List Dev} (h:Okp l) {d:Dev} (hd:d ∈ l):eS l d.index l.length≠[]:=by
 intro e;have h1:=xk h d.index hd;have h2:bO l d.index d.index=true:=by unfold bO;rw [ew h hd,List.any_cons];simp
 unfold eS at e;rw [List.map_eq_nil_iff] at e;rw [e,h2] at h1;cases h1
section
attribute [local irreducible] PL QL aL ah bg La aV PA
set_option maxRecDepth 20000
set_option maxHeartbeats 4000000 in
theorem xl (l:List Dev) (n:Int) (h:Okp l) (hf:(aG l n).isSome=true) (hl:l.length≤1000) (ha:∀ d ∈ l,d.attrs.length≤1000000000) :
  ah prog 144 [.agg (trE l),.c (.v (.int .i64 n))] [] fun r os=>r = .two (.agg (trE (fp l n))) (.c (.v (.int .i64 0)))∧os=[]:=by
 have hs:=nI l n;have hcp:=kX l ac ha;obtain ⟨d0,hd0⟩:=Option.isSome_iff_exists.1 hf;obtain ⟨hm0,hi0⟩:=eu hd0;have hdel:=pV l ac (eS l n l.length) (fun d=>bO l d.index n) (fun x hx=>by rw [ve,xk h n hx]) ⟨d0,hm0,by rw [← hi0];exact y0 h hm0⟩;have hne:(eS l n l.length).length≠0:=fun e=>by rw [← hi0] at e;exact HQ h hm0 (List.length_eq_zero_iff.1 e)
 refine aw func144 ntmps144 results144 ?_;push_cast [O,U];have cB:aH 8 [11]:=trivial;repeat' ((first|refine aK [] hs ?_|refine ae ?_|refine pif ?_ ?_<;>intro h<;>try exact pN h)<;>push_cast [O,U])
 refine lH (R:=fun lo r os'=>∃ L2 t2,os'=[.box 41 (trE l),.box 41 [.v (.slice none 0 0)],.map (some .i64) false (eS l n l.length),.box 227 [.mp 2],.box 41 (trE l),.box 3 [.v (.int .i64 n)],.loop lo L2 t2,.map (some .i64) false (eS l n l.length)]∧L2.st = .ready∧L2.pd=none) rfl aj (fun lo D fn=>?_) (fun lo r os' hR=>?_)
 ·refine bA func214 rfl (by simp [ntmps214]) ?_;rw [ntmps214,results214];push_cast [O,U];have cB:aH 7 [9,10,11]:=trivial;repeat' ((first|refine ae ?_|refine pif ?_ ?_<;>intro h<;>try exact pN h)<;>push_cast [O,U])
  (apply ap (α:=Nat) 7 [9,10,11] (fun i=>[(11,.c (.v (.int .i64 i)))]) (fun i=>[(2,.map (some .i64) false (eS l n i)),(7,.map (some .i64) false (eS l n i))]) (fun i=>i≤l.length) (fun i=>l.length - i) (0);(focus ((try push_cast [O,U]);rfl));(focus exact (Nat.zero_le _));(focus ((refine weak_fg ?_;try push_cast [O,U]);(try (simp [rM])))));intro i hi;push_cast [O,U];by_cases hlt:i < l.length
  ·have hbs:=rO h n hlt;have hlk:=ve l n i (l.getD i default).parent;cases hb:bO l (l.getD i default).index n with
   | false =>
    have hgn:=xj (n:=n) hlt hb;rw [hb] at hbs;have hbs:=hbs.symm;rw [Bool.or_eq_false_iff] at hbs;obtain ⟨h1,h2⟩:=hbs;have h1:=of_decide_eq_false h1;rw [h2] at hlk;repeat' ((first|refine ae ?_|refine pif ?_ ?_<;>intro h<;>try exact pN h)<;>push_cast [O,U,hlk,h1])
    exact ⟨i+1,ac,by (refine weak_fg ?_;push_cast [O,U,hgn]),ac⟩
   | true =>
    have hgy:=ub h hlt hb;rw [hb] at hbs;by_cases h1:(l.getD i default).index=n
    ·rw [h1] at hgy;repeat' ((first|refine ae ?_|refine pif ?_ ?_<;>intro h<;>try exact pN h)<;>push_cast [O,U,hlk,h1])
     refine jg 6 (qs:=[.agg (l.getD i default).e]) rfl rfl rfl (by push_cast [O,U]) rfl rfl (by push_cast [O,U,h1]) rfl rfl ?_;try dsimp only
     push_cast [O,U];have cB:aH 8 [11,12]:=trivial;repeat' ((first|refine ae ?_|refine pif ?_ ?_<;>intro h<;>try exact pN h)<;>push_cast [O,U])
     simp only [yY];refine ⟨_,_,rfl,rfl,?_⟩;try dsimp only
     repeat' ((first|refine ae ?_|refine pif ?_ ?_<;>intro h<;>try exact pN h)<;>push_cast [O,U,hgy,h1])
     simp only [yX];refine ⟨_,_,rfl,?_⟩;refine an ?_;push_cast [O,U,hgy,h1];have cB:aH 7 [9,10,11]:=trivial;repeat' ((first|refine ae ?_|refine pif ?_ ?_<;>intro h<;>try exact pN h)<;>push_cast [O,U,hgy,h1])
     exact ⟨i+1,ac,by (refine weak_fg ?_;push_cast [O,U,hgy,h1]),ac⟩
    ·rw [decide_eq_false h1,Bool.false_or] at hbs;rw [← hbs] at hlk;repeat' ((first|refine ae ?_|refine pif ?_ ?_<;>intro h<;>try exact pN h)<;>push_cast [O,U,hlk,h1])
     refine jg 6 (qs:=[.agg (l.getD i default).e]) rfl rfl rfl (by push_cast [O,U]) rfl rfl (by push_cast [O,U,h1]) rfl rfl ?_;try dsimp only
     push_cast [O,U];have cB:aH 8 [11,12]:=trivial;repeat' ((first|refine ae ?_|refine pif ?_ ?_<;>intro h<;>try exact pN h)<;>push_cast [O,U])
     simp only [yY];refine ⟨_,_,rfl,rfl,?_⟩;try dsimp only
     repeat' ((first|refine ae ?_|refine pif ?_ ?_<;>intro h<;>try exact pN h)<;>push_cast [O,U,hgy,h1])
     simp only [yX];refine ⟨_,_,rfl,?_⟩;refine an ?_;push_cast [O,U,hgy,h1];have cB:aH 7 [9,10,11]:=trivial;repeat' ((first|refine ae ?_|refine pif ?_ ?_<;>intro h<;>try exact pN h)<;>push_cast [O,U,hgy,h1])
     exact ⟨i+1,ac,by (refine weak_fg ?_;push_cast [O,U,hgy,h1]),ac⟩
  ·have hi2:i=l.length:=ac;subst hi2;repeat' ((first|refine ae ?_|refine pif ?_ ?_<;>intro h<;>try exact pN h)<;>push_cast [O,U])
   exact ⟨_,rfl,by push_cast [O,U],_,_,rfl,rfl,rfl⟩
 ·obtain ⟨L2,t2,rfl,h1,h2⟩:=hR;refine ⟨L2,t2,rfl,by rw [h1];simp,?_⟩;rw [h2];simp only [rK];have cB:aH 8 []:=trivial;have hne2:¬ ((eS l n l.length).length:Int)=0:=ac;push_cast [O,U];repeat' ((first|(refine BU (k:=2) (e:=4) rfl rfl rfl aj rfl (by push_cast [O,U,hne2]) ?_;refine an ?_)|refine plE [] hcp ?_ ?_;focus (push_cast [O,U,hne2];done)|(refine aW false [8,3,2] rfl rfl aj hdel ?_ nofun ?_;push_cast [O,U,hne2];rintro r os ⟨m,rfl,rfl⟩;refine bX (bQ 8 ac) ?_;push_cast [O,U,hne2];refine an ?_)|refine ae ?_|refine pif ?_ ?_<;>intro h<;>try exact pN h)<;>push_cast [O,U,hne2])
  (refine K9 [] ?_;push_cast [O,U]);rw [List.take_left' (List.length_map _)];rfl
end
structure Acc where
 path:ByteArray
 node:ByteArray
 user:ByteArray
 deriving DecidableEq
instance:Inhabited Acc:=⟨⟨⟨#[]⟩,⟨#[]⟩,⟨#[]⟩⟩⟩
structure Chg where
 kind:Int
 acc:Acc
instance:Inhabited Chg:=⟨⟨0,default⟩⟩
def sJ (a b:ByteArray):Int:=match dP a,dP b with
 | some l,some m=>cu l m
 | _,_=>0
theorem y4 {s:ByteArray} (h:jy s=true):s.data.toList=47 :: (gm s).data.toList:=by
 unfold gm;rw [if_pos h];unfold jy Lib.hasPrefix at h;rw [Lib.extract_to_end];cases e:s.data.toList with
 | nil=>rw [e] at h;simp [List.isPrefixOf] at h
 | cons b l=>rw [e] at h;simp [List.isPrefixOf] at h;subst h;rfl
def ltA (a b:Acc):Prop:=sJ a.path b.path < 0
instance (a b:Acc):Decidable (ltA a b):=inferInstanceAs (Decidable (sJ a.path b.path < 0))
theorem HT {α:Type} [Inhabited α] {q:α → Bool} {l:List α} {i:Nat} (hi:i < l.length) (hq:q (l.getD i default)=true) (hp:∀ x ∈ l.take i,q x=false):l.find? q=some (l.getD i default):=by
 rw [List.find?_eq_some_iff_append];refine ⟨hq,l.take i,l.drop (i+1),?_,fun a ha=>by simp [hp a ha]⟩;rw [ai l hi]
 conv=>lhs;rw [← List.take_append_drop i l,List.drop_eq_getElem_cons hi]
theorem HU {α:Type} {q:α → Bool} {l:List α} (h:∀ x ∈ l,q x=false):l.find? q=none:=by
 rw [List.find?_eq_none];intro x hx;simp [h x hx]
theorem xm {l:List Dev} (h:Okp l) (n:Int):(eC (ee l l.length) (.i .i64 n)=none∧aG l n=none)∨∃ j,j < l.length∧eC (ee l l.length) (.i .i64 n)=some [.v (.int .i64 (j:Int))]∧aG l n=some (l.getD j default):=by
 have key:∀ i,i≤l.length → (eC (ee l i) (.i .i64 n)=none∧aG (l.take i) n=none)∨∃ j,j < i∧eC (ee l i) (.i .i64 n)=some [.v (.int .i64 (j:Int))]∧aG (l.take i) n=some (l.getD j default):=by
  intro i;induction i with
  | zero=>intro _;exact .inl ⟨rfl,rfl⟩
  | succ i ih =>
   intro hi;have hlt:i < l.length:=ac;have hstep:ee l (i+1)=ee l i++[((.i .i64 (l.getD i default).index:MK),[D.v (.int .i64 (i:Int))])]:=by unfold ee;rw [List.range_succ,List.map_append];rfl
   have happ:∀ (es:List (MK × List D)) (k:MK) (r:List D) (m:MK),eC (es++[(k,r)]) m=match eC es m with|some x=>some x|none=>if k=m then some r else none:=by
    intro es k r m;induction es with
    | nil=>rfl
    | cons e es ihe =>
     obtain ⟨k',r'⟩:=e;rw [List.cons_append,eC,eC,ihe];split<;>rfl
   have hfind:aG (l.take (i+1)) n=match aG (l.take i) n with|some x=>some x|none=>if (l.getD i default).index=n then some (l.getD i default) else none:=by
    unfold aG;rw [List.take_succ_eq_append_getElem hlt,List.find?_append,ai l hlt];cases hc:List.find? (fun d=>decide (d.index=n)) (l.take i) with
    | some x=>rfl
    | none =>
     simp only [Option.none_or];by_cases hx:l[i].index=n
     ·rw [List.find?_cons_of_pos (by simpa using hx),if_pos hx]
     ·rw [List.find?_cons_of_neg (by simpa using hx),if_neg hx];rfl
   rw [hstep,happ,hfind];rcases ih ac with ⟨h1,h2⟩|⟨j,hj,h1,h2⟩
   ·rw [h1,h2];by_cases hx:(l.getD i default).index=n
    ·refine .inr ⟨i,ac,?_,?_⟩
     ·simp only [hx,if_true]
     ·simp only [hx,if_true]
    ·refine .inl ⟨?_,?_⟩
     ·simp only;rw [if_neg (fun e=>hx (by injection e))]
     ·simp only [if_neg hx]
   ·exact .inr ⟨j,ac,by rw [h1],by rw [h2]⟩
 have:=key l.length (Nat.le_refl _);rw [List.take_length] at this;rcases this with h|⟨j,hj,h1,h2⟩
 ·exact .inl h
 ·exact .inr ⟨j,hj,h1,h2⟩
def swN (k j:Nat):Nat:=if j=k then k+1 else if j=k+1 then k else j
theorem vf (k j:Nat):swN k (swN k j)=j:=by unfold swN;split<;>(try split)<;>(try split)<;>omega
theorem iM {k j n:Nat} (hk:k+1 < n) (hj:j < n):swN k j < n:=by unfold swN;split<;>(try split)<;>omega
def E.sw (k:Nat):E → E
 | .own j n=>.own (swN k j) n
 | .ptr j f=>.ptr (swN k j) f
 | .orow j z i f=>.orow (swN k j) z i f
 | .fn f ds ks=>.fn f ds (ks.map (swN k))
 | .mp j=>.mp (swN k j)
 | .seg j z lo n=>.seg (swN k j) z lo n
 | e=>e
def PV.sw (k:Nat):PV → PV
 | .c e=>.c (e.sw k)
 | .agg cs=>.agg (cs.map (E.sw k))
 | .undef=>.undef
 | .two x y=>.two (x.sw k) (y.sw k)
 | .three x y z=>.three (x.sw k) (y.sw k) (z.sw k)
def swT (k:Nat):List (Nat × PV) → List (Nat × PV)
 | []=>[]
 | (i,q) :: t=>(i,q.sw k) :: swT k t
def Ob.sw (k:Nat):Ob → Ob
 | .box ty cs=>.box ty (cs.map (E.sw k))
 | .loop l L t=>.loop l L (swT k t)
 | o=>o
def S.sw (s:S) (k:Nat):S:=match s.o[k]?,s.o[k+1]? with
 | some a,some b=>⟨swT k s.t,dw (dw (s.o.map (Ob.sw k)) k (b.sw k)) (k+1) (a.sw k)⟩
 | _,_=>s
theorem vg (k i:Nat):∀ t:List (Nat × PV),cM (swT k t) i=(cM t i).map (PV.sw k)
 | []=>rfl
 | (d,q) :: t=>by
  simp only [swT,cM];split
  ·rfl
  ·exact vg k i t
theorem eG {N p:Nat} {s:S} (k:Nat) (hp:p≤k):bg N p s (s.sw k):=by
 intro Γ a w hA;unfold S.sw;split
 case h_2=>exact ⟨Γ,hA,cq.refl _ _ _⟩
 rename_i oa ob ha hb;have hm:=hA.inv.m;have hn:=hm.n;have hkl:k+1 < s.o.length:=(List.getElem?_eq_some_iff.1 hb).1;have hkn:k+1 < Γ.n:=by rw [hn];exact hkl
 obtain ⟨Γ',hΓ⟩:∃ Γ':G,Γ'=⟨Γ.n,fun j=>Γ.β (swN k j),fun j=>Γ.cap (swN k j),Γ.I⟩:=⟨_,rfl⟩
 have q1:Γ'.n=Γ.n:=by rw [hΓ]
 have q2:Γ'.I=Γ.I:=by rw [hΓ]
 have q3:∀ j,Γ'.β (swN k j)=Γ.β j:=fun j=>by rw [hΓ];simp only [vf]
 have q4:∀ j,Γ'.cap (swN k j)=Γ.cap j:=fun j=>by rw [hΓ];simp only [vf]
 have q5:∀ j,Γ'.β j=Γ.β (swN k j):=fun j=>by rw [hΓ]
 have q6:∀ j,Γ'.cap j=Γ.cap (swN k j):=fun j=>by rw [hΓ]
 have hE:∀ (e:E) (y:Value),RE w Γ e y → RE w Γ' (e.sw k) y:=by
  intro e y h;cases e with
  | own j n =>
   refine ⟨by rw [q1];exact iM hkn h.1,?_⟩;have h2:=h.2;unfold iJ at h2 ⊢;rw [q3,q4];exact h2
  | ptr j f=>exact ⟨by rw [q1];exact iM hkn h.1,by rw [q3];exact h.2⟩
  | orow j z i f=>exact ⟨by rw [q1];exact iM hkn h.1,by rw [q3];exact h.2⟩
  | mp j=>exact ⟨by rw [q1];exact iM hkn h.1,by rw [q3];exact h.2⟩
  | seg j z lo n =>
   refine ⟨by rw [q1];exact iM hkn h.1,?_⟩;have h2:=h.2;unfold qt at h2 ⊢;rw [q3,q4];exact h2
  | fn f ds ks =>
   obtain ⟨xs,h1,h2,h3⟩:=h;refine ⟨xs,?_,by rw [q2];exact h2,fun j hj=>?_⟩
   ·rw [h1,List.map_map];congr 1;exact List.map_congr_left fun j _=>by simp only [Function.comp,eK,q3]
   ·obtain ⟨i,hi,rfl⟩:=List.mem_map.1 hj;rw [q1];exact iM hkn (h3 i hi)
  | v x=>exact h
  | sl z l=>unfold E.sw RE;rw [q2];exact h
  | full z l=>unfold E.sw RE;rw [q2];exact h
  | row cs=>unfold E.sw RE;rw [q2];exact h
  | any=>exact h
 have hEs:∀ {cs:List E} {ys:List Value},ay (RE w Γ) cs ys → ay (RE w Γ') (cs.map (E.sw k)) ys:=fun h=>ay.map_l.2 (h.mono hE)
 have hP:∀ (q:PV) (y:Value),RP w Γ q y → RP w Γ' (q.sw k) y:=by
  intro q;induction q with
  | c e=>intro y h;exact hE e y h
  | agg cs=>rintro y ⟨xs,h1,h2⟩;exact ⟨xs,h1,hEs h2⟩
  | undef=>intro y h;exact h
  | two x z ih1 ih2=>rintro y ⟨u,v,h1,h2,h3⟩;exact ⟨u,v,h1,ih1 u h2,ih2 v h3⟩
  | three x z t ih1 ih2 ih3=>rintro y ⟨u,v,r,h1,h2,h3,h4⟩;exact ⟨u,v,r,h1,ih1 u h2,ih2 v h3,ih3 r h4⟩
 have hO:∀ (j:Nat) (o:Ob),RO w Γ j o → RO w Γ' (swN k j) (o.sw k):=by
  intro j o h0;cases o with
  | box ty cs =>
   obtain ⟨j1,xs,j2,j3,j6⟩:=h0;exact ⟨by rw [q4];exact j1,xs,by rw [q3];exact j2,hEs j3,by unfold lW;rw [q4];exact j6⟩
  | arr el' sz' rows' =>
   obtain ⟨j1,j2,j3,j4⟩:=h0;refine ⟨j1,j2,by rw [q4];exact j3,fun hc=>?_⟩;rw [q4] at hc ⊢;obtain ⟨cur,m1,m2,m3,m4,m5⟩:=j4 hc;exact ⟨cur,by rw [q3];exact m1,m2,m3,m4,by rw [q2];exact m5⟩
  | map kk ag es =>
   obtain ⟨j1,ms,ck,j2,j3⟩:=h0;exact ⟨by rw [q4];exact j1,ms,ck,by rw [q3];exact j2,by rw [q2];exact j3⟩
  | loop l L t =>
   obtain ⟨j1,j2,tm,j3,j4,j5⟩:=h0;refine ⟨by rw [q4];exact j1,by rw [q3];exact j2,tm,j3,j4,fun i q hq=>?_⟩;rw [vg] at hq;obtain ⟨q0,hq0,rfl⟩:=Option.map_eq_some_iff.1 hq;obtain ⟨i1,i2⟩:=j5 i q0 hq0;exact ⟨i1,hP q0 _ i2⟩
 have hsk:swN k k=k+1:=by unfold swN;simp
 have hsk1:swN k (k+1)=k:=by unfold swN;simp
 refine ⟨Γ',⟨⟨hA.inv.size,hA.inv.defers,fun i q hq=>?_,⟨by rw [q1,hn];simp [dw],fun j o ho=>?_,fun j j' h1 h2 h3 h4 h5=>?_,fun j h1 h2=>?_,fun b hb=>?_,⟨hm.pin.1,fun b hb=>by rw [q2];exact hm.pin.2 b hb⟩⟩⟩,by rw [q1];exact hA.le⟩,⟨Ext.refl _ _,fun b hb=>by rw [q2];exact hb,fun j h1 h2=>?_,fun b hb=>?_,fun j hj=>?_⟩⟩
 ·simp only [S.get] at hq;rw [vg] at hq;obtain ⟨q0,hq0,rfl⟩:=Option.map_eq_some_iff.1 hq;obtain ⟨i1,i2⟩:=hA.inv.t i q0 hq0;exact ⟨i1,hP q0 _ i2⟩
 ·simp only [dw] at ho;by_cases e1:k+1=j
  ·subst e1;rw [List.getElem?_set_self (by simp;exact hkl)] at ho;cases ho;have:=hO k oa (hm.ob k oa ha)
   rwa [hsk] at this
  rw [List.getElem?_set_ne e1] at ho;by_cases e2:k=j
  ·subst e2;rw [List.getElem?_set_self (by simp;omega)] at ho;cases ho;have:=hO (k+1) ob (hm.ob (k+1) ob hb)
   rwa [hsk1] at this
  rw [List.getElem?_set_ne e2,List.getElem?_map] at ho;obtain ⟨o0,ho0,rfl⟩:=Option.map_eq_some_iff.1 ho;have:=hO j o0 (hm.ob j o0 ho0);have e3:swN k j=j:=by unfold swN;rw [if_neg ac,if_neg ac]
  rwa [e3] at this
 ·rw [q1] at h1 h2;rw [q6] at h3 h4;rw [q5,q5] at h5;have:=hm.sep _ _ (iM hkn h1) (iM hkn h2) h3 h4 h5;have h6:=congrArg (swN k) this
  rwa [vf,vf] at h6
 ·rw [q1] at h1;rw [q6] at h2;rw [q5,q2];exact hm.off _ (iM hkn h1) h2
 ·rw [q2] at hb;exact hm.lt b hb
 ·rw [q1] at h1;rw [q6] at h2;exact .inl ⟨swN k j,iM hkn h1,h2,(q5 j).symm⟩
 ·rw [q2] at hb;exact .inl hb
 ·have e3:swN k j=j:=by unfold swN;rw [if_neg ac,if_neg ac]
  rw [q5,q6,e3];exact ⟨rfl,rfl⟩
attribute [push_cast] S.sw E.sw PV.sw Ob.sw swT swN
section
attribute [local irreducible] PL QL aL ah bg La aV PA
set_option maxRecDepth 20000
abbrev Fj (l:List Dev):List Ob:=[.map (some .i64) false (ee l l.length),.map (some .i64) false (jf l l.length)]
theorem y5 (l:List Dev) (n:Int) (h:Okp l) (hl:l.length≤1000) :
  ah prog 109 [.agg [.sl 10 (l.map Dev.d),.mp 0,.mp 1],.c (.v (.int .i64 n))] (Fj l) fun r os=>r = .two (.agg ((aG l n).getD default).e) (.c (.v (.bool ((aG l n).isSome))))∧os=Fj l:=by
 rcases xm h n with ⟨h1,h2⟩|⟨j,hj,h1,h2⟩
 ·refine aw func109 ntmps109 results109 ?_;push_cast [O,U];repeat' ((first|refine au ?_|refine pif ?_ ?_<;>intro h<;>try exact pN h)<;>push_cast [O,U,h1])
  (refine K9 [0,1] ?_;push_cast [O,U,h2,Option.getD_none,Option.isSome_none]);repeat' (first|exact rfl|exact aB _|exact trivial|refine ⟨?_,?_⟩)
 ·refine aw func109 ntmps109 results109 ?_;push_cast [O,U];repeat' ((first|refine au ?_|refine pif ?_ ?_<;>intro h<;>try exact pN h)<;>push_cast [O,U,h1])
  (refine K9 [0,1] ?_;push_cast [O,U,h2,Option.getD_some,Option.isSome_some]);all_goals exact ⟨_,_,aE _,aB _,rfl,rfl⟩
theorem HW (l:List Dev) (n:Int) :
  ah prog 63 [.agg [.sl 10 (l.map Dev.d),.mp 0,.mp 1],.c (.v (.int .i64 n))] (Fj l) fun r os=>r = .c (.fn (.func 108) [] [2,3])∧os=[.map (some .i64) false (ee l l.length),.map (some .i64) false (jf l l.length),.box 120 [.sl 10 (l.map Dev.d),.mp 0,.mp 1],.box 3 [.v (.int .i64 n)]]:=by
 refine aw func63 ntmps63 results63 ?_;push_cast [O,U];repeat' ((first|refine au ?_|refine pif ?_ ?_<;>intro h<;>try exact pN h)<;>push_cast [O,U])
 exact am [0,1,2,3]
theorem y6 (n:Int) (d:Dev):ah prog 139 [.agg d.e,.c (.ptr 0 0)] [.box 3 [.v (.int .i64 n)]] fun r os=>r = .c (.v (.bool (decide (d.index=n))))∧os=[.box 3 [.v (.int .i64 n)]]:=by
 refine aw func139 ntmps139 results139 ?_;push_cast [O,U];repeat' ((first|refine au ?_|refine pif ?_ ?_<;>intro h<;>try exact pN h)<;>push_cast [O,U])
 exact am [0]
theorem xn (l:List Dev) (n:Int) (hl:l.length≤1000) (ha:∀ d ∈ l,d.attrs.length≤1000000000):ah prog 103 [.agg (trE l),.c (.fn (.func 139) [] [0])] [.box 3 [.v (.int .i64 n)]] fun r os=>r = .two (.agg ((aG l n).getD default).e) (.c (.v (.bool ((aG l n).isSome))))∧os=[.box 3 [.v (.int .i64 n)]]:=by
 have hi:=dX l ac 139 [0] [.box 3 [.v (.int .i64 n)]] (fun d=>decide (d.index=n)) ⟨aj,fun x _=>y6 n x⟩;refine aw func103 ntmps103 results103 ?_;push_cast [O,U];repeat' ((first|refine au ?_|refine pif ?_ ?_<;>intro h<;>try exact pN h)<;>push_cast [O,U])
 (refine plc [0] (hi) ?_ ?_;push_cast [O,U];rintro r os ⟨k,hk,rfl,rfl⟩;push_cast [O,U]);rcases hk with ⟨rfl,hn⟩|⟨i,rfl,hi2,hq,hpre⟩
 ·have hR:aG l n=none:=HU hn;repeat' ((first|refine au ?_|refine pif ?_ ?_<;>intro h<;>try exact pN h)<;>push_cast [O,U])
  (refine K9 [0] ?_;push_cast [O,U,hR,Option.getD_none,Option.isSome_none]);repeat' (first|exact rfl|exact aB _|exact trivial|refine ⟨?_,?_⟩)
 ·have hR:aG l n=some (l.getD i default):=HT hi2 hq hpre;have hcp:=fm (l.getD i default) (ha _ (by rw [ai l hi2];exact List.getElem_mem _));repeat' ((first|refine aK [] hcp ?_|refine au ?_|refine pif ?_ ?_<;>intro h<;>try exact pN h)<;>push_cast [O,U])
  (refine K9 [0] ?_;push_cast [O,U,hR,Option.getD_some,Option.isSome_some]);all_goals exact ⟨_,_,aE _,aB _,rfl,rfl⟩
theorem y7 (l:List Dev) (n:Int) (hl:l.length≤1000) (ha:∀ d ∈ l,d.attrs.length≤1000000000):ah prog 90 [.agg (trE l),.c (.v (.int .i64 n))] [] fun r os=>r = .two (.agg ((aG l n).getD default).e) (.c (.v (.bool ((aG l n).isSome))))∧os=[]:=by
 have hf:=xn l n hl ha;refine aw func90 ntmps90 results90 ?_;push_cast [O,U];repeat' ((first|refine aK [1] hf ?_|refine au ?_|refine pif ?_ ?_<;>intro h<;>try exact pN h)<;>push_cast [O,U])
 exact am []
set_option maxRecDepth 20000
theorem AD (a:ByteArray):(⟨#[]⟩:ByteArray)++a=a:=by apply u7;simp
theorem HY (a:ByteArray):a++(⟨#[]⟩:ByteArray)=a:=by apply u7;simp
theorem uc (a b c:ByteArray):a++b++c=a++(b++c):=by apply u7;simp
def pJ (l:List Dev) (k:Nat) (c:Int):ByteArray:=fC (((cK l k c).map Dev.name).reverse)
theorem y8 (l:List Dev) (n:Int):pJ l (l.length - 0) n++⟨#[]⟩=bF l n:=by rw [HY];rfl
theorem BY {l:List Dev} {acc:ByteArray} {n c:Int} {k:Nat} (h:pJ l k c++acc=bF l n) (hf:aG l c=none):acc=bF l n:=by
 unfold pJ at h;rw [dG hf] at h;rw [← h];exact (AD acc).symm
theorem BZ {l:List Dev} {acc:ByteArray} {n c:Int} (h:pJ l 0 c++acc=bF l n):acc=bF l n:=by
 rw [← h];exact (AD acc).symm
theorem B0 {l:List Dev} {acc:ByteArray} {n c:Int} {k:Nat} {d:Dev} (h:pJ l (k+1) c++acc=bF l n) (hf:aG l c=some d):pJ l k d.parent++(⟨#[47]⟩++d.name++acc)=bF l n:=by
 rw [← h];unfold pJ;rw [dR hf,List.map_cons,List.reverse_cons,gZ];simp only [uc]
set_option maxHeartbeats 8000000 in
theorem y9 (l:List Dev) (n:Int) (h:Okp l) (hl:l.length≤1000) (hz:∀ d ∈ l,d.original.size≤1000) (hnz:∀ d ∈ l,d.name.size≤1000) :
  ah prog 137 [.agg (trE l),.c (.v (.int .i64 n))] [] fun r os=>r = .two (.c (.v (.string (bF l n)))) (.c (.v (.bool (decide (bF l n≠⟨#[]⟩)))))∧os=[]:=by
 have hk:=oJ l h hl hz;have hu:=HW l n;refine aw func137 ntmps137 results137 ?_;push_cast [O,U];have cB:aH 8 [11]:=trivial;repeat' ((first|refine aK [] hk ?_|refine aK [2,3] hu ?_|refine ae ?_|refine pif ?_ ?_<;>intro h<;>try exact pN h)<;>push_cast [O,U])
 refine lH (R:=fun lo r os'=>∃ L2 t2 c j,os'=[.box 41 (trE l),.box 9 [.v (.string (bF l n))],.map (some .i64) false (ee l l.length),.map (some .i64) false (jf l l.length),.box 120 [.sl 10 (l.map Dev.d),.mp 2,.mp 3],.box 3 [.v (.int .i64 c)],.loop lo L2 t2]++j∧(j=[]∨∃ b,j=[b])∧L2.st = .ready∧L2.pd=none) rfl aj (fun lo D fn=>?_) (fun lo r os' hR=>?_)
 ·refine bA func108 rfl (by simp [ntmps108]) ?_;rw [ntmps108,results108];push_cast [O,U];have cB:aH 6 [7,8,9]:=trivial;repeat' ((first|refine ae ?_|refine pif ?_ ?_<;>intro h<;>try exact pN h)<;>push_cast [O,U])
  (apply ap (α:=Nat × Int × ByteArray) 6 [7,8,9] (fun x=>[(9,.c (.v (.int .i64 x.1)))]) (fun x=>[(1,.box 9 [.v (.string x.2.2)]),(5,.box 3 [.v (.int .i64 x.2.1)])]) (fun x=>x.1≤l.length∧x.2.2.size≤1001 * x.1∧pJ l (l.length - x.1) x.2.1++x.2.2=bF l n) (fun x=>l.length - x.1) ((0,n,⟨#[]⟩));(focus ((try push_cast [O,U]);rfl));(focus exact ⟨Nat.zero_le _,Nat.zero_le _,y8 l n⟩);(focus ((refine weak_fg ?_;try push_cast [O,U]))));rintro ⟨j,c,acc⟩ ⟨hj,hal,hacc⟩;simp only at hj hal hacc;push_cast [O,U];have hfd:=y5 l c h hl;by_cases hlt:j < l.length
  ·obtain ⟨m,hm⟩:∃ m,l.length - j=m+1:=⟨l.length - j - 1,ac⟩
   rw [hm] at hacc;cases hd:aG l c with
   | none =>
    rw [hd] at hfd;simp only [Option.getD_none,Option.isSome_none] at hfd;have he:=BY hacc hd;subst he;repeat' ((first|refine aK [2,3] hfd ?_|refine ae ?_|refine pif ?_ ?_<;>intro h<;>try exact pN h)<;>push_cast [O,U])
    exact ⟨_,rfl,by push_cast [O,U],_,_,_,[_],rfl,.inr ⟨_,rfl⟩,rfl,rfl⟩
   | some d =>
    rw [hd] at hfd;simp only [Option.getD_some,Option.isSome_some] at hfd;have hm2:l.length - (j+1)=m:=ac;have hdn:=hnz _ (eu hd).1;have hn2:=B0 hacc hd;have hf1:=oG (n:=d.name.size) ac;have hs1:(⟨#[47]⟩:ByteArray).size=1:=rfl;have hf2:(((⟨#[47]⟩++d.name:ByteArray).size:Nat):Int)+(acc.size:Int)≤9223372036854775807:=by rw [ByteArray.size_append,hs1];omega
    have hf3:(⟨#[47]⟩++d.name++acc).size≤1001 * (j+1):=by rw [ByteArray.size_append,ByteArray.size_append,hs1];omega
    repeat' ((first|refine aK [2,3] hfd ?_|refine ae ?_|refine pif ?_ ?_<;>intro h<;>try exact pN h)<;>push_cast [O,U])
    refine jg 6 (qs:=[.agg d.e]) rfl (by push_cast [O,U]) rfl (by push_cast [O,U]) rfl rfl (by push_cast [O,U]) rfl rfl ?_;try dsimp only
    push_cast [O,U];have cB:aH 8 [11,12]:=trivial;repeat' ((first|refine ae ?_|refine pif ?_ ?_<;>intro h<;>try exact pN h)<;>push_cast [O,U])
    simp only [yY];refine ⟨_,_,rfl,rfl,?_⟩;try dsimp only
    repeat' ((first|refine ae ?_|refine pif ?_ ?_<;>intro h<;>try exact pN h)<;>push_cast [O,U,hf1,hf2])
    simp only [yX];refine ⟨_,_,rfl,?_⟩;refine an ?_;push_cast [O,U];have cB:aH 6 [7,8,9]:=trivial;repeat' ((first|refine ae ?_|refine pif ?_ ?_<;>intro h<;>try exact pN h)<;>push_cast [O,U])
    exact ⟨(j+1,d.parent,⟨#[47]⟩++d.name++acc),⟨by simp only;omega,hf3,by simp only [hm2];exact hn2⟩,aA,by simp only;omega⟩
  ·have hj2:l.length - j=0:=ac;rw [hj2] at hacc;have he:=BZ hacc;subst he;repeat' ((first|refine ae ?_|refine pif ?_ ?_<;>intro h<;>try exact pN h)<;>push_cast [O,U])
   exact ⟨_,rfl,by push_cast [O,U],_,_,_,[],rfl,.inl rfl,rfl,rfl⟩
 ·obtain ⟨L2,t2,c,jj,rfl,hj,h1,h2⟩:=hR;rcases hj with rfl|⟨b,rfl⟩
  ·refine ⟨L2,t2,rfl,by rw [h1];simp,?_⟩;rw [h2];simp only [rK];have cB:aH 8 []:=trivial;push_cast [O,U];repeat' ((first|refine ae ?_|refine pif ?_ ?_<;>intro h<;>try exact pN h)<;>push_cast [O,U])
   exact am []
  ·refine ⟨L2,t2,rfl,by rw [h1];simp,?_⟩;rw [h2];simp only [rK];have cB:aH 8 []:=trivial;push_cast [O,U];repeat' ((first|refine ae ?_|refine pif ?_ ?_<;>intro h<;>try exact pN h)<;>push_cast [O,U])
   exact am []
set_option maxRecDepth 20000
theorem lV (k:Int):ah prog 154 [.c (.v (.int .i64 k))] [] fun r os=>r = .c (.v (.bool (decide (k=2) || decide (k=3))))∧os=[]:=by
 refine aw func154 ntmps154 results154 ?_;by_cases h:k=2
 ·have h':=eq_true h;push_cast [O,U];repeat' ((first|refine au ?_|refine pif ?_ ?_<;>intro h<;>try exact pN h)<;>push_cast [O,U,h'])
  (refine K9 [] ?_;push_cast [O,U]);all_goals simp [h]
 ·push_cast [O,U];repeat' ((first|refine au ?_|refine pif ?_ ?_<;>intro h<;>try exact pN h)<;>push_cast [O,U,h])
  (refine K9 [] ?_;push_cast [O,U]);all_goals simp [h]
theorem oN (d:Dev) (hd:d.original.size≤1048576):ah prog 115 [.agg d.e] [] fun r os=>r = .two (.c (.v (.string (bq d)))) (.c (.v (.bool (hasN d))))∧os=[]:=by
 have hn:=lV d.kind;have hr:=tJ d.original ac;unfold bq;have e:hasN d=(decide (d.kind=2) || decide (d.kind=3)):=rfl;obtain ⟨b,hb⟩:∃ b,(decide (d.kind=2) || decide (d.kind=3))=b:=⟨_,rfl⟩
 rw [e,hb];rw [hb] at hn;refine aw func115 ntmps115 results115 ?_;cases b
 ·push_cast [O,U];repeat' ((first|refine aK [] hn ?_|refine au ?_|refine pif ?_ ?_<;>intro h<;>try exact pN h)<;>push_cast [O,U])
  exact am []
 ·push_cast [O,U];repeat' ((first|refine aK [] hn ?_|refine aK [] hr ?_|refine au ?_|refine pif ?_ ?_<;>intro h<;>try exact pN h)<;>push_cast [O,U])
  exact am []
end
theorem B1 (s:ByteArray):(⟨(Lib.trimPrefix s.data.toList [47]).toArray⟩:ByteArray)=gm s:=by
 unfold gm jy Lib.trimPrefix;split
 ·have e:=Lib.extract_to_end s 1;generalize s.extract 1 s.size=t at e;cases t;simp only at e;congr;rw [show ([47]:List UInt8).length=1 from rfl,← e]
 ·rfl
theorem B2 (s:ByteArray):ah prog 163 [.c (.v (.string s)),.c (.v (.string ⟨#[47]⟩))] [] fun r os=>r = .two (.c (.v (.string (gm s)))) (.c (.v (.bool (jy s))))∧os=[] :=
 sC [.string s,.string ⟨#[47]⟩] _ _ rfl rfl fun w _=>(strings_CutPrefix s ⟨#[47]⟩ w).mono fun e w' ⟨he,hw⟩=>by
  rw [he,hw];refine ⟨?_,Below.refl _ _⟩;show Ending.returned (.tuple #[.string ⟨(Lib.trimPrefix s.data.toList [47]).toArray⟩,.bool (Lib.hasPrefix s.data.toList [47])])=_;rw [B1];rfl
end Go.Proofs.YtmbbkfffcflfcaaGreatDoor
