/- What the program computes, and the plain laws of it, part 41. -/
import Derived.Lib.ItoaNum
import Derived.WideKeyEntry
import Derived.Test.YtmbbkfffcflfcaaGreatDoorT40
namespace Go.Proofs.YtmbbkfffcflfcaaGreatDoor
open Nat renaming reduceAdd → rA
open Go.Proofs.Tryz
set_option linter.unusedSimpArgs false
set_option linter.unusedVariables false
open Go.RowKit
open IntWalk renaming iteOmega → O, toNatUp → U
section
attribute [local irreducible] PL QL aL ah bg La aV PA
set_option maxRecDepth 20000
theorem xK (l:List Dev) (n:Int):(eI l n).length≤l.length:=List.length_filter_le _ _
def kc (l:List Dev) (n:Int) (i:Nat):List Dev:=(l.take i).filter fun d=>bO l d.index n
theorem xM {l:List Dev} {n:Int} {i:Nat} (hi:i < l.length) (h:bO l (l.getD i default).index n=true):kc l n (i+1)=kc l n i++[l.getD i default]:=by
 unfold kc;rw [List.take_succ_eq_append_getElem hi,List.filter_append];rw [ai l hi] at h ⊢;simp [h]
theorem AI {l:List Dev} {n:Int} {i:Nat} (hi:i < l.length) (h:bO l (l.getD i default).index n=false):kc l n (i+1)=kc l n i:=by
 unfold kc;rw [List.take_succ_eq_append_getElem hi,List.filter_append];rw [ai l hi] at h;simp [h]
theorem xN {l:List Dev} {n:Int} {i:Nat} (hi:i≤l.length):(kc l n i).length≤i:=by
 have h1:((l.take i).filter fun d=>bO l d.index n).length≤(l.take i).length:=List.length_filter_le _ _;rw [List.length_take] at h1;unfold kc;omega
set_option maxHeartbeats 8000000 in
theorem CS (l:List Dev) (n:Int) (h:Okp l) (hl:l.length≤1000) (ha:∀ d ∈ l,d.attrs.length≤1000000000) :
  ah prog 143 [.agg (trE l),.c (.v (.int .i64 n))] [] fun r os=>r = .c (.sl 10 ((eI l n).map Dev.d))∧os=[]:=by
 have hs:=nI l n;refine aw func143 ntmps143 results143 ?_;push_cast [O,U];have cB:aH 7 [9]:=trivial;repeat' ((first|refine aK [] hs ?_|refine ae ?_|refine pif ?_ ?_<;>intro h<;>try exact pN h)<;>push_cast [O,U])
 refine lH (R:=fun lo r os'=>∃ L2 t2,os'=[.box 41 (trE l),.box 39 [.own 5 (eI l n).length],.box 41 (trE l),.box 3 [.v (.int .i64 n)],.loop lo L2 t2,.arr 53 10 ((eI l n).map Dev.d),.map (some .i64) false (eS l n l.length)]∧L2.st = .ready∧L2.pd=none) rfl aj (fun lo D fn=>?_) (fun lo r os' hR=>?_)
 ·refine bA func214 rfl (by simp [ntmps214]) ?_;rw [ntmps214,results214];push_cast [O,U];refine aF (bP 1 0 53 10 ac 39 [.v (.slice none 0 0)] rfl rfl) ?_;push_cast [O,U];have cB:aH 7 [9,10,11]:=trivial;repeat' ((first|refine ae ?_|refine pif ?_ ?_<;>intro h<;>try exact pN h)<;>push_cast [O,U])
  (apply ap (α:=Nat) 7 [9,10,11] (fun i=>[(11,.c (.v (.int .i64 i)))]) (fun i=>[(1,.box 39 [.own 5 (kc l n i).length]),(5,.arr 53 10 ((kc l n i).map Dev.d)),(6,.map (some .i64) false (eS l n i))]) (fun i=>i≤l.length) (fun i=>l.length - i) (0);(focus ((try push_cast [O,U]);rfl));(focus exact (Nat.zero_le _));(focus ((refine weak_fg ?_;try push_cast [O,U]);(try (simp [rM,kc])))));intro i hi;push_cast [O,U];by_cases hlt:i < l.length
  ·have hbs:=rO h n hlt;have hlk:=ve l n i (l.getD i default).parent;have hm:l.getD i default ∈ l:=by rw [ai l hlt];exact List.getElem_mem _
   have hcp:=fm (l.getD i default) (ha _ hm);have hsl:=xN (n:=n) hi;cases hb:bO l (l.getD i default).index n with
   | false =>
    have hgn:=xj (n:=n) hlt hb;have hsn:=AI hlt hb;rw [hb] at hbs;have hbs:=hbs.symm;rw [Bool.or_eq_false_iff] at hbs;obtain ⟨h1,h2⟩:=hbs;have h1:=of_decide_eq_false h1;rw [h2] at hlk;repeat' ((first|refine ae ?_|refine pif ?_ ?_<;>intro h<;>try exact pN h)<;>push_cast [O,U,hlk,h1])
    exact ⟨i+1,ac,by (refine weak_fg ?_;push_cast [O,U,hgn,hsn]),ac⟩
   | true =>
    have hgy:=ub h hlt hb;have hsy:=xM hlt hb;rw [hb] at hbs;obtain ⟨acc,hacc⟩:∃ acc,kc l n i=acc:=⟨_,rfl⟩
    rw [hacc] at hsl hsy ⊢;have hq:(decide ((l.getD i default).index=n)=true)∨(decide ((l.getD i default).index=n)=false):=by cases decide ((l.getD i default).index=n)<;>simp
    rcases hq with h1|h1
    ·have h1:=of_decide_eq_true h1;rw [h1] at hgy;repeat' ((first|refine ae ?_|refine pif ?_ ?_<;>intro h<;>try exact pN h)<;>push_cast [O,U,hlk,h1])
     refine jg 4 (qs:=[.agg (l.getD i default).e]) rfl rfl rfl (by push_cast [O,U]) rfl rfl (by push_cast [O,U,h1]) rfl rfl ?_;try dsimp only
     push_cast [O,U];have cB:aH 7 [9,10]:=trivial;repeat' ((first|refine ae ?_|refine pif ?_ ?_<;>intro h<;>try exact pN h)<;>push_cast [O,U])
     simp only [yY];refine ⟨_,_,rfl,rfl,?_⟩;try dsimp only
     repeat' ((first|(refine aO aj ?_;try simp only [aP,rA];repeat' first|((refine plE [] hcp ?_ ?_<;>push_cast [O,U,  h1]))|(refine mY (e:=53) (sz:=10) (by':=136) (rows:=acc.map Dev.d) (ys:=[(l.getD i default).d]) 5 rfl (by push_cast [O,U,  h1]) (by push_cast [O,U,  h1]) (by push_cast [O,U,  h1]) (by push_cast [O,U,h1]) ac (by push_cast [O,U,  h1]) (by push_cast [O,U,  h1]) (by push_cast [O,U,  h1]) (by push_cast [O,U,  h1]) (by simp) (by push_cast [O,U,  h1];omega) (by push_cast [O,U,  h1];omega) ?_ ?_<;>(refine an ?_;push_cast [O,U,h1]))|(refine pad ?_;try push_cast [O,U,  h1])|((first|refine pas [0] ?_|refine pas [1] ?_|refine pas [2] ?_|refine pas [3] ?_|refine pas [4] ?_|refine pas [5] ?_);push_cast [O,U,  h1])|((first|refine pas [0,1] ?_|refine pas [0,2] ?_|refine pas [0,3] ?_|refine pas [0,4] ?_|refine pas [0,5] ?_|refine pas [1,2] ?_|refine pas [1,3] ?_|refine pas [1,4] ?_|refine pas [1,5] ?_|refine pas [2,3] ?_|refine pas [2,4] ?_|refine pas [2,5] ?_|refine pas [3,4] ?_|refine pas [3,5] ?_|refine pas [4,5] ?_);push_cast [O,U,  h1];refine ⟨?_,?_⟩)|((first|refine pas [0,1,2] ?_|refine pas [0,1,3] ?_|refine pas [0,1,4] ?_|refine pas [0,1,5] ?_|refine pas [0,2,3] ?_|refine pas [0,2,4] ?_|refine pas [0,2,5] ?_|refine pas [0,3,4] ?_|refine pas [0,3,5] ?_|refine pas [0,4,5] ?_|refine pas [1,2,3] ?_|refine pas [1,2,4] ?_|refine pas [1,2,5] ?_|refine pas [1,3,4] ?_|refine pas [1,3,5] ?_|refine pas [1,4,5] ?_|refine pas [2,3,4] ?_|refine pas [2,3,5] ?_|refine pas [2,4,5] ?_|refine pas [3,4,5] ?_);push_cast [O,U,  h1];refine ⟨?_,?_,?_⟩))|refine ae ?_|refine pif ?_ ?_<;>intro h<;>try exact pN h)<;>push_cast [O,U,h1])
     all_goals simp only [yX]
     all_goals refine ⟨_,_,rfl,?_⟩
     all_goals push_cast [O,U,hgy,h1]
     have cB:aH 7 [9,10,11]:=trivial;all_goals have cB6:aH 7 [9,10,11]:=trivial
     all_goals first
      | (refine an ?_;push_cast [O,U,hgy,h1];(repeat' ((first|refine ae ?_|refine pif ?_ ?_<;>intro h<;>try exact pN h)<;>push_cast [O,U,hgy,h1]));refine ⟨i+1,ac,?_,ac⟩;(refine weak_fg ?_;push_cast [O,U,hgy,h1,hsy]);done)
      | (refine bX (eG 8 ac) ?_;push_cast [O,U];refine bX (eG 7 ac) ?_;push_cast [O,U];refine bX (eG 6 ac) ?_;push_cast [O,U];refine bX (eG 5 ac) ?_;push_cast [O,U];refine bX (eG 6 ac) ?_;push_cast [O,U];refine an ?_;push_cast [O,U,hgy,h1];(repeat' ((first|refine ae ?_|refine pif ?_ ?_<;>intro h<;>try exact pN h)<;>push_cast [O,U,hgy,h1]));refine ⟨i+1,ac,?_,ac⟩;(refine weak_fg ?_;push_cast [O,U,hgy,h1,hsy]);done)
    ·rw [h1,Bool.false_or] at hbs;have h1:=of_decide_eq_false h1;rw [← hbs] at hlk;repeat' ((first|refine ae ?_|refine pif ?_ ?_<;>intro h<;>try exact pN h)<;>push_cast [O,U,hlk,h1])
     refine jg 4 (qs:=[.agg (l.getD i default).e]) rfl rfl rfl (by push_cast [O,U]) rfl rfl (by push_cast [O,U,h1]) rfl rfl ?_;try dsimp only
     push_cast [O,U];have cB:aH 7 [9,10]:=trivial;repeat' ((first|refine ae ?_|refine pif ?_ ?_<;>intro h<;>try exact pN h)<;>push_cast [O,U])
     simp only [yY];refine ⟨_,_,rfl,rfl,?_⟩;try dsimp only
     repeat' ((first|(refine aO aj ?_;try simp only [aP,rA];repeat' first|((refine plE [] hcp ?_ ?_<;>push_cast [O,U]))|(refine mY (e:=53) (sz:=10) (by':=136) (rows:=acc.map Dev.d) (ys:=[(l.getD i default).d]) 5 rfl (by push_cast [O,U]) (by push_cast [O,U]) (by push_cast [O,U]) (by push_cast [O,U]) ac (by push_cast [O,U]) (by push_cast [O,U]) (by push_cast [O,U]) (by push_cast [O,U]) (by simp) (by push_cast [O,U];omega) (by push_cast [O,U];omega) ?_ ?_<;>(refine an ?_;push_cast [O,U]))|(refine pad ?_;try push_cast [O,U])|((first|refine pas [0] ?_|refine pas [1] ?_|refine pas [2] ?_|refine pas [3] ?_|refine pas [4] ?_|refine pas [5] ?_);push_cast [O,U])|((first|refine pas [0,1] ?_|refine pas [0,2] ?_|refine pas [0,3] ?_|refine pas [0,4] ?_|refine pas [0,5] ?_|refine pas [1,2] ?_|refine pas [1,3] ?_|refine pas [1,4] ?_|refine pas [1,5] ?_|refine pas [2,3] ?_|refine pas [2,4] ?_|refine pas [2,5] ?_|refine pas [3,4] ?_|refine pas [3,5] ?_|refine pas [4,5] ?_);push_cast [O,U];refine ⟨?_,?_⟩)|((first|refine pas [0,1,2] ?_|refine pas [0,1,3] ?_|refine pas [0,1,4] ?_|refine pas [0,1,5] ?_|refine pas [0,2,3] ?_|refine pas [0,2,4] ?_|refine pas [0,2,5] ?_|refine pas [0,3,4] ?_|refine pas [0,3,5] ?_|refine pas [0,4,5] ?_|refine pas [1,2,3] ?_|refine pas [1,2,4] ?_|refine pas [1,2,5] ?_|refine pas [1,3,4] ?_|refine pas [1,3,5] ?_|refine pas [1,4,5] ?_|refine pas [2,3,4] ?_|refine pas [2,3,5] ?_|refine pas [2,4,5] ?_|refine pas [3,4,5] ?_);push_cast [O,U];refine ⟨?_,?_,?_⟩))|refine ae ?_|refine pif ?_ ?_<;>intro h<;>try exact pN h)<;>push_cast [O,U])
     all_goals simp only [yX]
     all_goals refine ⟨_,_,rfl,?_⟩
     all_goals push_cast [O,U,hgy]
     have cB:aH 7 [9,10,11]:=trivial;all_goals have cB6:aH 7 [9,10,11]:=trivial
     all_goals first
      | (refine an ?_;push_cast [O,U,hgy];(repeat' ((first|refine ae ?_|refine pif ?_ ?_<;>intro h<;>try exact pN h)<;>push_cast [O,U,hgy]));refine ⟨i+1,ac,?_,ac⟩;(refine weak_fg ?_;push_cast [O,U,hgy,hsy]);done)
      | (refine bX (eG 8 ac) ?_;push_cast [O,U];refine bX (eG 7 ac) ?_;push_cast [O,U];refine bX (eG 6 ac) ?_;push_cast [O,U];refine bX (eG 5 ac) ?_;push_cast [O,U];refine bX (eG 6 ac) ?_;push_cast [O,U];refine an ?_;push_cast [O,U,hgy];(repeat' ((first|refine ae ?_|refine pif ?_ ?_<;>intro h<;>try exact pN h)<;>push_cast [O,U,hgy]));refine ⟨i+1,ac,?_,ac⟩;(refine weak_fg ?_;push_cast [O,U,hgy,hsy]);done)
  ·have hi2:i=l.length:=ac;subst hi2;have hall:kc l n l.length=eI l n:=by unfold kc eI;rw [List.take_length]
   rw [hall];repeat' ((first|refine ae ?_|refine pif ?_ ?_<;>intro h<;>try exact pN h)<;>push_cast [O,U])
   exact ⟨_,rfl,by push_cast [O,U],_,_,rfl,rfl,rfl⟩
 ·obtain ⟨L2,t2,rfl,h1,h2⟩:=hR;refine ⟨L2,t2,rfl,by rw [h1];simp,?_⟩;rw [h2];simp only [rK];have cB:aH 7 []:=trivial;push_cast [O,U];have htk:=List.take_of_length_le (l:=(eI l n).map Dev.d) (i:=(eI l n).length) (by simp);(refine K9 [] ?_;push_cast [O,U,htk])
end
section
attribute [local irreducible] PL QL aL ah bg La aV PA bm
set_option maxRecDepth 20000
theorem zA (l:List Dev):ah prog 142 [.c (.sl 10 (l.map Dev.d))] [] fun r os=>r = .c (.fn (.func 177) [] [0])∧os=[.box 39 [.sl 10 (l.map Dev.d)]]:=by
 refine aw func142 ntmps142 results142 ?_;push_cast [O,U];repeat' ((first|refine au ?_|refine pif ?_ ?_<;>intro h<;>try exact pN h)<;>push_cast [O,U])
 exact am [0]
def evD (l sub:List Dev) (j:Nat):List Evt:=nB l (sub.drop j).reverse
theorem FV {l sub:List Dev} {j:Nat} (hj:j < sub.length):evD l sub j=evD l sub (j+1)++[⟨0,2,(sub.getD j default).index,bF l (sub.getD j default).index,⟨#[]⟩⟩]:=by
 unfold evD nB;rw [List.drop_eq_getElem_cons hj,List.reverse_cons,List.map_append,ai sub hj];rfl
theorem If (l sub:List Dev):evD l sub sub.length=[]:=by unfold evD nB;simp
theorem AK (l sub:List Dev) (j:Nat):(evD l sub j).length≤sub.length:=by
 unfold evD nB;rw [List.length_map,List.length_reverse,List.length_drop];omega
set_option maxHeartbeats 8000000 in
theorem CU (k:Ker) (op:Opr) (d:Dev) (hB:bL k) (hd:d ∈ k.tree) (hn:k.evs.length+300≤1000000) :
  bm 1 prog 97 [.c (.ptr 0 0),.agg op.e,.agg d.e] (bI k) fun r os=>r = .c (.v (.int .i64 ((k.remove d).2)))∧os=bI (k.remove d).1:=by
 have hkt:=hB.len;have hs:=CS k.tree d.index hB.okp ac hB.att;have hsl:=xK k.tree d.index;rw [nC,show (k.remove d).2=0 from rfl];have hrm:=xl k.tree d.index hB.okp (by rw [dj hB.inv.tree.okt.nodup hd];rfl) ac hB.att;obtain ⟨K1,hK1⟩:∃ K1,k.withT (fp k.tree d.index)=K1:=⟨_,rfl⟩
 have e1:fp k.tree d.index=K1.tree:=by rw [← hK1];rfl
 have e2:k.mods=K1.mods:=by rw [← hK1];rfl
 have e3:k.loaded=K1.loaded:=by rw [← hK1];rfl
 have e4:k.evs=K1.evs:=by rw [← hK1];rfl
 have e5:k.top=K1.top:=by rw [← hK1];rfl
 rw [e1] at hrm;rw [hK1];obtain ⟨sub,hsub⟩:∃ sub,eI k.tree d.index=sub:=⟨_,rfl⟩
 rw [hsub] at hs hsl ⊢;have hem:=fa K1 (evD k.tree sub 0) (by have:=AK k.tree sub 0;rw [← e4];omega);have he0:nB k.tree sub.reverse=evD k.tree sub 0:=by unfold evD;rw [List.drop_zero]
 rw [he0];have hbw:=zA sub;refine cG 1 (by simp [bI]) func97 rfl (by simp [ntmps97]) (by rintro r os ⟨rfl,rfl⟩;simp [bI]) ?_;rw [ntmps97,results97];push_cast [O,U];have cB:aH 12 [19]:=trivial;repeat' ((first|(refine av 12 [19] ?_;apply ak;(focus kernel_rfl);(focus (simp only [aP,rA];(repeat' first|((refine plE [] hs ?_ ?_<;>push_cast [O,U]))|((refine plE [] hbw ?_ ?_<;>push_cast [O,U]))|((first|refine pah 1 ?_|refine pah 2 ?_|refine pah 4 ?_);push_cast [O,U])|(refine pad ?_;first|with_reducible exact ao 12 [19] _|(refine weak_fg ?_;push_cast [O,U]))|((first|refine pas [0] ?_|refine pas [3] ?_|refine pas [5] ?_|refine pas [6] ?_|refine pas [7] ?_);push_cast [O,U])|((first|refine pas [0,3] ?_|refine pas [0,5] ?_|refine pas [3,5] ?_);push_cast [O,U];refine ⟨?_,?_⟩));done));push_cast [O,U])|(refine bf fun K hK=>?_)|(refine cf ?_)|refine ae ?_|refine pif ?_ ?_<;>intro h<;>try exact pN h)<;>push_cast [O,U])
 refine lH (R:=fun lo r os'=>∃ L2 t2,os'=[jd 1 2 k,jI k,je k,.box 35 [.ptr 0 0],.box 55 op.e,.box 53 d.e,.box 42 [.own 9 (evD k.tree sub 0).length],.box 39 [.sl 10 (sub.map Dev.d)],.loop lo L2 t2,.arr 69 5 ((evD k.tree sub 0).map Evt.d)]∧L2.st = .ready∧L2.pd=none) rfl aj (fun lo D fn=>?_) (fun lo r os' hR=>?_)
 ·refine bA func177 rfl (by simp [ntmps177]) ?_;rw [ntmps177,results177];push_cast [O,U];refine aF (bP 6 0 69 5 ac 42 [.v (.slice none 0 0)] rfl rfl) ?_;push_cast [O,U];have cB:aH 4 []:=trivial;repeat' ((first|refine ae ?_|refine pif ?_ ?_<;>intro h<;>try exact pN h)<;>push_cast [O,U])
  (apply ap (α:=Nat) 4 [] (fun j=>[(3,.c (.v (.int .i64 ((j:Int) - 1))))]) (fun j=>[(6,.box 42 [.own 9 (evD k.tree sub j).length]),(9,.arr 69 5 ((evD k.tree sub j).map Evt.d))]) (fun j=>j≤sub.length) (fun j=>j) (sub.length);(focus ((try push_cast [O,U]);rfl));(focus exact (Nat.le_refl _));(focus ((refine weak_fg ?_;try push_cast [O,U]);(try (simp [If])))));intro j hj;push_cast [O,U];cases j with
  | zero =>
   repeat' ((first|refine ae ?_|refine pif ?_ ?_<;>intro h<;>try exact pN h)<;>push_cast [O,U])
   exact ⟨_,rfl,by push_cast [O,U],_,_,rfl,rfl,rfl⟩
  | succ i =>
   have hlt:i < sub.length:=ac;have hji:((i+1:Nat):Int) - 1=(i:Int):=ac;have hji2:(i:Int)+1 - 1=(i:Int):=ac;have hst:=FV (l:=k.tree) hlt;have hll:=AK k.tree sub (i+1);have hev:=gb k 2 (sub.getD i default).index hB.inv.tree;obtain ⟨acc,hacc⟩:∃ acc,evD k.tree sub (i+1)=acc:=⟨_,rfl⟩
   rw [hacc] at hst hll ⊢;obtain ⟨x,hx⟩:∃ x,sub.getD i default=x:=⟨_,rfl⟩
   rw [hx] at hst hev;repeat' ((first|refine ae ?_|refine pif ?_ ?_<;>intro h<;>try exact pN h)<;>push_cast [O,U,hji,hji2,hx])
   refine jg 8 (qs:=[.c (.v (.int .i64 i)),.agg x.e]) rfl rfl rfl (by push_cast [O,U,hji,hji2,hx]) rfl rfl (by push_cast [O,U,hji,hji2,hx]) rfl rfl ?_;try dsimp only
   push_cast [O,U];have cB:aH 12 [19,20,21]:=trivial;repeat' ((first|refine ae ?_|refine pif ?_ ?_<;>intro h<;>try exact pN h)<;>push_cast [O,U])
   simp only [yY];refine ⟨_,_,rfl,rfl,?_⟩;try dsimp only
   repeat' ((first|(refine aO aj ?_;try simp only [aP,rA];repeat' first|((refine plE [0,1,2] hev ?_ ?_<;>push_cast [O,U]))|(refine mY (e:=69) (sz:=5) (by':=56) (rows:=acc.map Evt.d) (ys:=[Evt.d ⟨0,2,x.index,bF k.tree x.index,⟨#[]⟩⟩]) 9 rfl (by push_cast [O,U]) (by push_cast [O,U]) (by push_cast [O,U]) (by push_cast [O,U]) ac (by push_cast [O,U]) (by push_cast [O,U]) (by push_cast [O,U]) (by push_cast [O,U]) (by simp) (by push_cast [O,U];omega) (by push_cast [O,U];omega) ?_ ?_<;>(refine an ?_;push_cast [O,U]))|((first|refine pah 2 ?_);push_cast [O,U])|(refine pad ?_;try push_cast [O,U])|((first|refine pas [0] ?_|refine pas [1] ?_|refine pas [3] ?_|refine pas [4] ?_|refine pas [5] ?_|refine pas [6] ?_|refine pas [7] ?_);push_cast [O,U])|((first|refine pas [0,1] ?_|refine pas [0,3] ?_|refine pas [0,4] ?_|refine pas [0,5] ?_|refine pas [0,6] ?_|refine pas [0,7] ?_|refine pas [1,3] ?_|refine pas [1,4] ?_|refine pas [1,5] ?_|refine pas [1,6] ?_|refine pas [1,7] ?_|refine pas [3,4] ?_|refine pas [3,5] ?_|refine pas [3,6] ?_|refine pas [3,7] ?_|refine pas [4,5] ?_|refine pas [4,6] ?_|refine pas [4,7] ?_|refine pas [5,6] ?_|refine pas [5,7] ?_|refine pas [6,7] ?_);push_cast [O,U];refine ⟨?_,?_⟩)|((first|refine pas [0,1,3] ?_|refine pas [0,1,4] ?_|refine pas [0,1,5] ?_|refine pas [0,1,6] ?_|refine pas [0,1,7] ?_|refine pas [0,3,4] ?_|refine pas [0,3,5] ?_|refine pas [0,3,6] ?_|refine pas [0,3,7] ?_|refine pas [0,4,5] ?_|refine pas [0,4,6] ?_|refine pas [0,4,7] ?_|refine pas [0,5,6] ?_|refine pas [0,5,7] ?_|refine pas [0,6,7] ?_|refine pas [1,3,4] ?_|refine pas [1,3,5] ?_|refine pas [1,3,6] ?_|refine pas [1,3,7] ?_|refine pas [1,4,5] ?_|refine pas [1,4,6] ?_|refine pas [1,4,7] ?_|refine pas [1,5,6] ?_|refine pas [1,5,7] ?_|refine pas [1,6,7] ?_|refine pas [3,4,5] ?_|refine pas [3,4,6] ?_|refine pas [3,4,7] ?_|refine pas [3,5,6] ?_|refine pas [3,5,7] ?_|refine pas [3,6,7] ?_|refine pas [4,5,6] ?_|refine pas [4,5,7] ?_|refine pas [4,6,7] ?_|refine pas [5,6,7] ?_);push_cast [O,U];refine ⟨?_,?_,?_⟩))|refine ae ?_|refine pif ?_ ?_<;>intro h<;>try exact pN h)<;>push_cast [O,U])
   all_goals simp only [yX]
   all_goals refine ⟨_,_,rfl,?_⟩
   all_goals push_cast [O,U]
   have cB:aH 4 []:=trivial;all_goals have cB4:aH 4 []:=trivial
   all_goals first
    | (refine an ?_;push_cast [O,U,hji,hji2];(repeat' ((first|refine ae ?_|refine pif ?_ ?_<;>intro h<;>try exact pN h)<;>push_cast [O,U,hji,hji2]));refine ⟨i,ac,?_,ac⟩;(refine weak_fg ?_;push_cast [O,U,hst,hji,hji2]);done)
    | (refine bX (eG 10 ac) ?_;push_cast [O,U];refine bX (eG 9 ac) ?_;push_cast [O,U];refine an ?_;push_cast [O,U,hji,hji2];(repeat' ((first|refine ae ?_|refine pif ?_ ?_<;>intro h<;>try exact pN h)<;>push_cast [O,U,hji,hji2]));refine ⟨i,ac,?_,ac⟩;(refine weak_fg ?_;push_cast [O,U,hst,hji,hji2]);done)
 ·obtain ⟨L2,t2,rfl,h1,h2⟩:=hR;refine ⟨L2,t2,rfl,by rw [h1];simp,?_⟩;rw [h2];simp only [rK];have cB:aH 12 []:=trivial;push_cast [O,U];refine pU ?_;refine aF (bQ 9 ac) ?_;have htk:=List.take_of_length_le (l:=(evD k.tree sub 0).map Evt.d) (i:=(evD k.tree sub 0).length) (by simp);push_cast [O,U,htk];refine aF (s':=⟨[(7,.c (.ptr 6 0)),(6,.c (.v (.int .i64 0))),(5,.c (.ptr 5 0)),(4,.c (.ptr 4 0)),(3,.c (.ptr 3 0))],[jd 1 2 k,jI k,je k,.box 35 [.ptr 0 0],.box 55 op.e,.box 53 d.e,.box 42 [.sl 5 ((evD k.tree sub 0).map Evt.d)]]⟩) aA ?_;push_cast [O,U,e2,e3,e4,e5];refine bf fun K hK=>?_
  repeat' ((first|(refine av 12 [] ?_;apply ak;(focus kernel_rfl);(focus (simp only [aP,rA];(repeat' first|(refine plE [] hrm ?_ ?_<;>push_cast [O,U,  e2,e3,e4,e5])|((first|refine pah 1 ?_|refine pah 2 ?_|refine pah 4 ?_|refine pah 7 ?_|refine pah 8 ?_|refine pah 9 ?_|refine pah 12 ?_);push_cast [O,U,  e2,e3,e4,e5])|(refine pad ?_;first|with_reducible exact ao 12 [] _|(refine weak_fg ?_;push_cast [O,U,  e2,e3,e4,e5]))|((first|refine pas [0] ?_|refine pas [3] ?_|refine pas [5] ?_|refine pas [6] ?_|refine pas [10] ?_|refine pas [11] ?_);push_cast [O,U,  e2,e3,e4,e5])|((first|refine pas [0,5] ?_|refine pas [0,10] ?_|refine pas [3,5] ?_|refine pas [3,10] ?_|refine pas [5,10] ?_|refine pas [6,10] ?_);push_cast [O,U,  e2,e3,e4,e5];refine ⟨?_,?_⟩)|((first|refine pas [0,5,10] ?_|refine pas [3,5,10] ?_);push_cast [O,U,  e2,e3,e4,e5];refine ⟨?_,?_,?_⟩));done));push_cast [O,U,  e2,e3,e4,e5])|(refine eZ 1 [0,1,2] (hem) ?_ ?_;push_cast [O,U,e2,e3,e4,e5];rintro r os ⟨rfl,rfl⟩)|refine ae ?_|refine pif ?_ ?_<;>intro h<;>try exact pN h)<;>push_cast [O,U,e2,e3,e4,e5])
  exact am [0,1,2]
end
section
theorem FW {N p:Nat} {s:S} (i:Nat) {f:Fn} (hi:s.get i=some (.c (.v (.func f #[] #[])))):bg N p s ⟨(i,.c (.fn f [] [])) :: s.t,s.o⟩:=by
 intro Γ a w hA;refine ⟨Γ,⟨⟨hA.inv.size,hA.inv.defers,fun j q hq=>?_,hA.inv.m⟩,hA.le⟩,cq.refl _ _ _⟩;simp only [S.get,cM] at hq;split at hq
 ·rename_i e;subst e;cases hq;obtain ⟨h0,h⟩:=hA.inv.t _ _ hi;refine ⟨h0,[],h.1,fun _=>trivial,fun k hk=>?_⟩;cases hk
 ·exact hA.inv.t j q hq
section
variable {P:Program} {N p:Nat} {s:S} {o:Oper} {ops:Array Oper} {rest:List Oper} {K:S → Prop}
end
theorem CV {P:Program} {N p:Nat} {ops:Array Oper} {o:Oper} {rest:List Oper} {s:S} {K:S → Prop} {t:TypeId} {m k x:Operand} (ho:o.op = .insert t m k x) (h:fY P N p ops ({ o with op:=.mapUpdate t m k x } :: rest) s K):PL P N p ops (o :: rest) s K:=fun Γ a w Q hA hQ=>by
 have h1:=an h Γ a w Q hA hQ;have hE:execOp a.eval ({ o with op:=.mapUpdate t m k x }:Oper)=execOp a.eval o:=by simp [execOp,ho]
 have hb:({ o with op:=.mapUpdate t m k x }:Oper).about P w a.eval=o.about P w a.eval:=by simp [Oper.about,ho]
 unfold wpListIn at h1 ⊢;have hw:Region.wanted ({ o with op:=.mapUpdate t m k x }:Oper) (yielded ops a.tmps)=Region.wanted o (yielded ops a.tmps):=rfl;rw [hw] at h1;split
 ·rename_i h2;rw [if_pos h2] at h1;unfold Oper.wpIn at h1 ⊢;rw [show (Fw none).round=none from rfl,Oper.semAt_none] at h1 ⊢;rw [hE,hb] at h1;exact h1
 ·rename_i h2;rw [if_neg h2] at h1;rw [hb] at h1;exact h1
end
section
attribute [local irreducible] PL QL aL ah bg La aV PA bm
set_option maxRecDepth 20000
def CW:List (MK × List D):=[(.i .i64 2,[.v (.func (.func 97) #[] #[])]),(.i .i64 3,[.v (.func (.func 98) #[] #[])]),(.i .i64 4,[.v (.func (.func 99) #[] #[])]),(.i .i64 5,[.v (.func (.func 100) #[] #[])]),(.i .i64 6,[.v (.func (.func 101) #[] #[])]),(.i .i64 7,[.v (.func (.func 102) #[] #[])])]
theorem zB:ah prog 56 [] [] fun r os=>r = .c (.mp 0)∧os=[.map (some .i64) false CW]:=by
 refine aw func56 ntmps56 results56 ?_;push_cast [O,U];repeat' ((first|(refine CV rfl ?_)|refine au ?_|refine pif ?_ ?_<;>intro h<;>try exact pN h)<;>push_cast [O,U])
 (refine K9 [0] ?_;push_cast [O,U]);all_goals rfl
theorem CX (k:Ker) (op:Opr) (d:Dev) (f:FuncId) (hB:bL k) (ho:eA op) (hd:d ∈ k.tree) (hn:k.evs.length+300≤1000000) (hk:(op.kind=2∧f=97)∨(op.kind=3∧f=98)∨(op.kind=4∧f=99)∨(op.kind=5∧f=100)∨(op.kind=6∧f=101)∨(op.kind=7∧f=102)) :
  bm 1 prog f [.c (.ptr 0 0),.agg op.e,.agg d.e] (bI k) fun r os=>r = .c (.v (.int .i64 ((k.one db op d).2)))∧os=bI (k.one db op d).1:=by
 unfold Ker.one;rcases hk with ⟨h,rfl⟩|⟨h,rfl⟩|⟨h,rfl⟩|⟨h,rfl⟩|⟨h,rfl⟩|⟨h,rfl⟩<;>rw [h]
 ·exact CU k op d hB hd hn
 ·exact CH k op d hB ho hd ac
 ·exact zk k op d hB ac
 ·exact CJ k op d hB ho hd ac
 ·exact zl k op d hB ho hd ac
 ·exact vn k op d hB hd ac
def bM (k:Ker) (op:Opr):Ker × Int × Int:=k.doM db op
set_option maxHeartbeats 8000000 in
theorem hU (k:Ker) (op:Opr) (hB:bL k) (ho:eA op) (hn:k.evs.length+300≤1000000) (ht:k.top+1≤1000000) :
  bm 1 prog 21 [.c (.ptr 0 0),.agg op.e] (bI k) fun r os=>r = .two (.c (.v (.int .i64 ((bM k op).2.1)))) (.c (.v (.int .i64 ((bM k op).2.2))))∧os=bI (bM k op).1:=by
 have hkt:=hB.len;have hadd:=CQ k op hB ho ac ht;have hlod:=zp k op.value hB ho.value hn;have hunl:=vq k op.value hB hn;have hops:=zB;have hat:=AB k.tree op.path hB.okp ac hB.orig hB.att;obtain ⟨X,hX⟩:∃ X,bM k op=X:=⟨_,rfl⟩
 rw [hX];unfold bM Ker.doM at hX;refine cG 1 (by simp [bI]) func21 rfl (by simp [ntmps21]) (by rintro r os ⟨rfl,rfl⟩;simp [bI]) ?_;rw [ntmps21,results21];push_cast [O,U];have cB:aH 9 [10,11,18,24]:=trivial;by_cases k1:op.kind=1
 ·rw [if_pos k1] at hX;rw [hX] at hadd;repeat' ((first|(refine eZ 1 [0,1,2] (hadd) ?_ ?_;push_cast [O,U,k1];rintro r os ⟨rfl,rfl⟩)|refine ae ?_|refine pif ?_ ?_<;>intro h<;>try exact pN h)<;>push_cast [O,U,k1])
  exact am [0,1,2]
 rw [if_neg k1] at hX;by_cases k8:op.kind=8
 ·rw [if_pos k8] at hX;obtain ⟨Y,hY⟩:∃ Y,k.load op.value=Y:=⟨_,rfl⟩
  rw [hY] at hlod hX;subst hX;repeat' ((first|(refine eZ 1 [0,1,2] (hlod) ?_ ?_;push_cast [O,U,k8];rintro r os ⟨rfl,rfl⟩)|refine ae ?_|refine pif ?_ ?_<;>intro h<;>try exact pN h)<;>push_cast [O,U,k8])
  exact am [0,1,2]
 rw [if_neg k8] at hX;by_cases k9:op.kind=9
 ·rw [if_pos k9] at hX;obtain ⟨Y,hY⟩:∃ Y,k.unload op.value=Y:=⟨_,rfl⟩
  rw [hY] at hunl hX;subst hX;repeat' ((first|(refine eZ 1 [0,1,2] (hunl) ?_ ?_;push_cast [O,U,k9];rintro r os ⟨rfl,rfl⟩)|refine ae ?_|refine pif ?_ ?_<;>intro h<;>try exact pN h)<;>push_cast [O,U,k9])
  exact am [0,1,2]
 rw [if_neg k9] at hX;by_cases kr:op.kind < 2∨7 < op.kind
 ·rw [if_pos kr] at hX;subst hX;have hno:eC CW (.i .i64 op.kind)=none:=by
   unfold CW;simp only [eC];rw [if_neg (by simp only [MK.i.injEq,true_and];omega),if_neg (by simp only [MK.i.injEq,true_and];omega),if_neg (by simp only [MK.i.injEq,true_and];omega),if_neg (by simp only [MK.i.injEq,true_and];omega),if_neg (by simp only [MK.i.injEq,true_and];omega),if_neg (by simp only [MK.i.injEq,true_and];omega)]
  obtain ⟨OE,hOE⟩:∃ OE,CW=OE:=⟨_,rfl⟩
  rw [hOE] at hno hops;repeat' ((first|(refine av 9 [10,11,18,24] ?_;apply ak;(focus kernel_rfl);(focus (simp only [aP,rA];(repeat' first|(refine plE [] hops ?_ ?_<;>push_cast [O,U,  k1,k8,k9,hno])|((first|refine pah 1 ?_|refine pah 4 ?_|refine pah 5 ?_|refine pah 6 ?_|refine pah 7 ?_|refine pah 8 ?_);push_cast [O,U,  k1,k8,k9,hno])|(refine pad ?_;first|with_reducible exact ao 9 [10,11,18,24] _|(refine weak_fg ?_;push_cast [O,U,  k1,k8,k9,hno]))|((first|refine pas [0] ?_|refine pas [2] ?_|refine pas [3] ?_);push_cast [O,U,  k1,k8,k9,hno])|((first|refine pas [0,2] ?_);push_cast [O,U,  k1,k8,k9,hno];refine ⟨?_,?_⟩));done));push_cast [O,U,  k1,k8,k9,hno])|refine ae ?_|refine pif ?_ ?_<;>intro h<;>try exact pN h)<;>push_cast [O,U,k1,k8,k9,hno])
  exact am [0,1,2]
 rw [if_neg kr] at hX;have hf:∃ f,eC CW (.i .i64 op.kind)=some [.v (.func (.func f) #[] #[])]∧((op.kind=2∧f=97)∨(op.kind=3∧f=98)∨(op.kind=4∧f=99)∨(op.kind=5∧f=100)∨(op.kind=6∧f=101)∨(op.kind=7∧f=102)):=by
  have h6:op.kind=2∨op.kind=3∨op.kind=4∨op.kind=5∨op.kind=6∨op.kind=7:=ac;rcases h6 with h|h|h|h|h|h<;>rw [h]<;>exact ⟨_,rfl,by simp⟩
 obtain ⟨f,hf,hk⟩:=hf;have hbf:dK prog f=true:=by
  rcases hk with ⟨_,rfl⟩|⟨_,rfl⟩|⟨_,rfl⟩|⟨_,rfl⟩|⟨_,rfl⟩|⟨_,rfl⟩<;>kernel_rfl
 obtain ⟨OE,hOE⟩:∃ OE,CW=OE:=⟨_,rfl⟩
 rw [hOE] at hf hops;cases ha:atD k.tree op.path with
 | none =>
  rw [ha] at hX hat;simp only [Option.getD_none,Option.isSome_none] at hat;simp only at hX;subst hX;repeat' ((first|(refine av 9 [10,11,18,24] ?_;apply ak;(focus kernel_rfl);(focus (simp only [aP,rA];(repeat' first|(refine plE [] hops ?_ ?_<;>push_cast [O,U,  k1,k8,k9,hf])|((first|refine pah 1 ?_|refine pah 4 ?_|refine pah 5 ?_|refine pah 6 ?_|refine pah 7 ?_|refine pah 8 ?_);push_cast [O,U,  k1,k8,k9,hf])|(refine pad ?_;first|with_reducible exact ao 9 [10,11,18,24] _|(refine weak_fg ?_;push_cast [O,U,  k1,k8,k9,hf]))|((first|refine pas [0] ?_|refine pas [2] ?_|refine pas [3] ?_);push_cast [O,U,  k1,k8,k9,hf])|((first|refine pas [0,2] ?_);push_cast [O,U,  k1,k8,k9,hf];refine ⟨?_,?_⟩));done));push_cast [O,U,  k1,k8,k9,hf])|(refine av 9 [10,11,18,24] ?_;apply ak;(focus kernel_rfl);(focus (simp only [aP,rA];(repeat' first|(refine plE [] hat ?_ ?_<;>push_cast [O,U,  k1,k8,k9,hf])|((first|refine pah 0 ?_|refine pah 1 ?_|refine pah 2 ?_|refine pah 4 ?_|refine pah 7 ?_|refine pah 8 ?_|refine pah 9 ?_|refine pah 12 ?_);push_cast [O,U,  k1,k8,k9,hf])|(refine pad ?_;first|with_reducible exact ao 9 [10,11,18,24] _|(refine weak_fg ?_;push_cast [O,U,  k1,k8,k9,hf]))|((first|refine pas [3] ?_|refine pas [5] ?_|refine pas [6] ?_|refine pas [10] ?_|refine pas [11] ?_);push_cast [O,U,  k1,k8,k9,hf])|((first|refine pas [3,5] ?_|refine pas [3,10] ?_|refine pas [5,10] ?_|refine pas [6,10] ?_);push_cast [O,U,  k1,k8,k9,hf];refine ⟨?_,?_⟩)|((first|refine pas [3,5,10] ?_);push_cast [O,U,  k1,k8,k9,hf];refine ⟨?_,?_,?_⟩));done));push_cast [O,U,  k1,k8,k9,hf])|refine ae ?_|refine pif ?_ ?_<;>intro h<;>try exact pN h)<;>push_cast [O,U,k1,k8,k9,hf])
  exact am [0,1,2]
 | some d =>
  rw [ha] at hX hat;simp only [Option.getD_some,Option.isSome_some] at hat;simp only at hX;have hone:=CX k op d f hB ho (EZ ha) hn hk;obtain ⟨Y,hY⟩:∃ Y,k.one db op d=Y:=⟨_,rfl⟩
  rw [hY] at hone hX;subst hX;repeat' ((first|(refine av 9 [10,11,18,24] ?_;apply ak;(focus kernel_rfl);(focus (simp only [aP,rA];(repeat' first|(refine plE [] hops ?_ ?_<;>push_cast [O,U,  k1,k8,k9,hf])|((first|refine pah 1 ?_|refine pah 4 ?_|refine pah 5 ?_|refine pah 6 ?_|refine pah 7 ?_|refine pah 8 ?_);push_cast [O,U,  k1,k8,k9,hf])|(refine pad ?_;first|with_reducible exact ao 9 [10,11,18,24] _|(refine weak_fg ?_;push_cast [O,U,  k1,k8,k9,hf]))|((first|refine pas [0] ?_|refine pas [2] ?_|refine pas [3] ?_);push_cast [O,U,  k1,k8,k9,hf])|((first|refine pas [0,2] ?_);push_cast [O,U,  k1,k8,k9,hf];refine ⟨?_,?_⟩));done));push_cast [O,U,  k1,k8,k9,hf])|(refine eQ 11 ?_)|refine ae ?_|refine pif ?_ ?_<;>intro h<;>try exact pN h)<;>push_cast [O,U,k1,k8,k9,hf])
  refine dd ?_;refine aF (FW 6 (f:=.func f) (by push_cast [O,U])) ?_;push_cast [O,U];repeat' ((first|(refine av 9 [10,11,18,24] ?_;apply ak;(focus kernel_rfl);(focus (simp only [aP,rA];(repeat' first|(refine plE [] hat ?_ ?_<;>push_cast [O,U,  k1,k8,k9,hf])|((first|refine pah 0 ?_|refine pah 1 ?_|refine pah 2 ?_|refine pah 4 ?_|refine pah 7 ?_|refine pah 8 ?_|refine pah 9 ?_|refine pah 12 ?_);push_cast [O,U,  k1,k8,k9,hf])|(refine pad ?_;first|with_reducible exact ao 9 [10,11,18,24] _|(refine weak_fg ?_;push_cast [O,U,  k1,k8,k9,hf]))|((first|refine pas [3] ?_|refine pas [5] ?_|refine pas [6] ?_|refine pas [10] ?_|refine pas [11] ?_);push_cast [O,U,  k1,k8,k9,hf])|((first|refine pas [3,5] ?_|refine pas [3,10] ?_|refine pas [5,10] ?_|refine pas [6,10] ?_);push_cast [O,U,  k1,k8,k9,hf];refine ⟨?_,?_⟩)|((first|refine pas [3,5,10] ?_);push_cast [O,U,  k1,k8,k9,hf];refine ⟨?_,?_,?_⟩));done));push_cast [O,U,  k1,k8,k9,hf])|(refine eZ 1 [0,1,2] (hone) ?_ ?_ (hb:=hbf);push_cast [O,U,k1,k8,k9,hf];rintro r os ⟨rfl,rfl⟩)|refine ae ?_|refine pif ?_ ?_<;>intro h<;>try exact pN h)<;>push_cast [O,U,k1,k8,k9,hf])
  exact am [0,1,2]
end
section
def Ig (P:Program) (t:TypeId):Bool:=match P.underlying t with
 | some (.pointer _)=>true
 | _=>false
theorem Ih {P:Program} {t:TypeId} (h:Ig P t=true):∃ e,P.underlying t=some (.pointer e):=by
 unfold Ig at h;split at h
 ·exact ⟨_,by assumption⟩
 ·cases h
theorem FX {P:Program} {t:TypeId} (h:Ig P t=true) (w:World) (A:Option Addr) :
  (binOp .eql t (.pointer A) (.pointer none)).run P w = .ok (.bool A.isNone) w∧(binOp .neq t (.pointer A) (.pointer none)).run P w = .ok (.bool (!A.isNone)) w:=by
 obtain ⟨e,he⟩:=Ih h;have h1:∀ d,(Op.equalIn (d+1) t (.pointer A) (.pointer none)).run P w = .ok A.isNone w:=by intro d;cases A<;>simp [Op.equalIn,run_underlying he]
 exact eB t w (by simp) (by simp) (h1 9999)
section
variable {P:Program} {N p:Nat} {ops:Array Oper} {o:Oper} {rest:List Oper} {s:S} {K:S → Prop}
theorem fD {t t':TypeId} {x z:Operand} {k off:Nat} (ho:o.op = .binOp .eql t x z t') (hg:gd ops s o.guard=some true) (hx:s.ev x=some (.c (.ptr k off))) (hz:s.ev z=some (.c (.v (.pointer none)))) (ht:Ig P t=true) (hd:bp N o.dst)
  (hK:PL P N p ops rest (s.put o.dst (.c (.v (.bool false)))) K):PL P N p ops (o :: rest) s K:=by
 refine AC (q:=.c (.v (.bool false))) hg (fun Γ a w hI=>?_) hd hK;obtain ⟨_,hx1⟩:=S.ev_ok hx hI;obtain ⟨hz1,_⟩:=S.ev_ok hz hI;exact ⟨_,⟨rfl,rfl⟩,fun w' _=>by simp [execOp,ho,hx1,hz1,cZ,(FX ht w' (some _)).1]⟩
end
end
end Go.Proofs.YtmbbkfffcflfcaaGreatDoor
