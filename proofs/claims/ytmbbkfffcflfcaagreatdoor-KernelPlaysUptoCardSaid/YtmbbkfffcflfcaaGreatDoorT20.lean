/- What the program computes, and the plain laws of it, part 20. -/
import Derived.WideKeyEntry
import Derived.Test.YtmbbkfffcflfcaaGreatDoorT19
namespace Go.Proofs.YtmbbkfffcflfcaaGreatDoor
open Go.Proofs.Tryz
set_option linter.unusedSimpArgs false
set_option linter.unusedVariables false
attribute [local irreducible] PL QL aL ah bg La aV PA
open Go.RowKit
open IntWalk renaming iteOmega → O, toNatUp → U
set_option maxRecDepth 20000
theorem rn (l:List ByteArray) (s:ByteArray) (hl:l.length≤1000000000) :
  ah prog 94 [.c (.sl 1 (l.map aU)),.c (.v (.string s))] [] fun r os=>∃ k:Int,((k = -1∧s ∉ l)∨∃ i:Nat,k=i∧i < l.length∧l.getD i default=s)∧r = .c (.v (.int .i64 k))∧os=[]:=by
 refine aw func94 ntmps94 results94 ?_;push_cast [O,U];repeat' ((first|refine au ?_|refine pif ?_ ?_<;>intro h<;>try exact pN h)<;>push_cast [O,U])
 refine dh (α:=Nat) (fun k=>k≤l.length∧s ∉ l.take k) (fun k=>⟨[(8,.c (.v (.int .i64 k))),(7,.c (.v (.int .i64 l.length))),(6,.c (.sl 1 (l.map aU))),(0,.c (.sl 1 (l.map aU))),(1,.c (.v (.string s)))],[]⟩) (fun k=>l.length - k) 0 ⟨ac,by simp⟩ aA ?_;rintro k ⟨hk,hpre⟩;by_cases hlt:k < l.length
 ·have e1:=ai l hlt;repeat' ((first|refine au ?_|refine pif ?_ ?_<;>intro h<;>try exact pN h)<;>push_cast [O,U])
  ·(refine K9 [] ?_;push_cast [O,U]);exact ⟨_,_,aE _,aB _,k,.inr ⟨k,rfl,hlt,h.symm⟩,rfl,rfl⟩
  ·refine ⟨k+1,⟨ac,?_⟩,aA,ac⟩;rw [List.take_succ_eq_append_getElem hlt];simp only [List.mem_append,List.mem_singleton,not_or];exact ⟨hpre,by rw [← e1];exact h⟩
 ·rw [List.take_of_length_le ac] at hpre;repeat' ((first|refine au ?_|refine pif ?_ ?_<;>intro h<;>try exact pN h)<;>push_cast [O,U])
  (refine K9 [] ?_;push_cast [O,U]);exact ⟨_,_,aE _,aB _,-1,.inl ⟨rfl,hpre⟩,rfl,rfl⟩
theorem gX (l:List ByteArray) (s:ByteArray) (hl:l.length≤1000000000) :
  ah prog 92 [.c (.sl 1 (l.map aU)),.c (.v (.string s))] [] fun r os=>r = .c (.v (.bool (inM s l)))∧os=[]:=by
 refine aw func92 ntmps92 results92 ?_;push_cast [O,U];repeat' ((first|(refine plc [] (rn l s hl) ?_ ?_;push_cast [O,U];rintro r os ⟨k,hk,rfl,rfl⟩)|refine au ?_|refine pif ?_ ?_<;>intro h<;>try exact pN h)<;>push_cast [O,U])
 (refine K9 [] ?_;push_cast [O,U]);rcases hk with ⟨rfl,h⟩|⟨i,rfl,hi,rfl⟩
 ·rw [gA.2 h];rfl
 ·rw [gp.2 (by rw [ai l hi];exact List.getElem_mem _)];simp
theorem wT (l:List ByteArray) (i:Nat) (hi:i < l.length) (hl:l.length≤1000000000) :
  ah prog 96 [.c (.own 0 l.length),.c (.v (.int .i64 i)),.c (.v (.int .i64 (i+1)))] [.arr 9 1 (l.map aU)] fun r os=>r = .c (.own 0 (l.length - 1))∧os=[.arr 9 1 ((l.take i++(l.drop (i+1)++[(⟨#[]⟩:ByteArray)])).map aU)]:=by
 refine aw func96 ntmps96 results96 ?_;have e1:i+(l.length - (i+1))=l.length - 1:=ac;push_cast [O,U];repeat' ((first|(refine ak ⟨[(7,.c (.v (.int .i64 l.length))),(0,.c (.own 0 (l.length - 1)))],[.arr 9 1 ((l.map aU).take i++((l.map aU).drop (i+1)++(l.map aU).drop (l.length - 1)))]⟩ aj ?_ ?_;(focus (simp only [aP,Nat.reduceAdd];(repeat' first|((first|refine pah 0 ?_|refine pah 1 ?_|refine pah 2 ?_|refine pah 3 ?_|refine pah 4 ?_|refine pah 5 ?_|refine pah 7 ?_);push_cast [O,U,  e1 ])|(refine pad ?_;refine weak_fg ?_;push_cast [O,U,  e1 ])|((first|refine pas [6] ?_);push_cast [O,U,  e1 ]));done));push_cast [O,U,  e1 ])|refine au ?_|refine pif ?_ ?_<;>intro h<;>try exact pN h)<;>push_cast [O,U,e1])
 (refine K9 [0] ?_;push_cast [O,U]);have h1:l.length - (l.length - 1)=1:=ac;have h2:((l.map aU).take i++(l.map aU).drop (i+1)).length=l.length - 1:=by simp;omega
 have h3:((l.map aU).take i++((l.map aU).drop (i+1)++(l.map aU).drop (l.length - 1)))=((l.map aU).take i++(l.map aU).drop (i+1))++(l.map aU).drop (l.length - 1):=by rw [List.append_assoc]
 have h4:(((l.map aU).take i++(l.map aU).drop (i+1))++(l.map aU).drop (l.length - 1)).drop (l.length - 1+1)=[]:=List.drop_eq_nil_of_le (by simp only [List.length_append,List.length_take,List.length_drop,List.length_map];omega);rw [h1,h3,List.take_left' h2,h4];simp [List.map_take,List.map_drop,List.append_assoc,aU]
def Kz (P:Program) (g:FuncId) (ks:List Nat) (os:List Ob) (l:List ByteArray) (q:ByteArray → Bool):Prop:=dK P g=true∧∀ x ∈ l,ah P g (.c (.v (.string x)) :: ks.map fun k=>.c (.ptr k 0)) os fun r os'=>r = .c (.v (.bool (q x)))∧os'=os
def K6 (q:ByteArray → Bool) (l:List ByteArray) (k:Int):Prop:=(k = -1∧∀ x ∈ l,q x=false)∨∃ i:Nat,k=i∧i < l.length∧q (l.getD i default)=true∧∀ x ∈ l.take i,q x=false
theorem py:∀ ks:List Nat,fS (ks.map fun k=>some (PV.c (.ptr k 0))) (ks.map fun k=>PV.c (.ptr k 0))
 | []=>trivial
 | k :: ks=>⟨aE _,py ks⟩
theorem rp (l:List ByteArray) (hl:l.length≤1000000000) (g:FuncId) (ks:List Nat) (rest:List Ob) (q:ByteArray → Bool) (hp:Kz prog g ks (.arr 9 1 (l.map aU) :: rest) l q) :
  ah prog 123 [.c (.own 0 l.length),.c (.fn (.func g) [] ks)] (.arr 9 1 (l.map aU) :: rest) fun r os=>∃ k,K6 q l k∧r = .c (.v (.int .i64 k))∧os = .arr 9 1 (l.map aU) :: rest:=by
 refine bA func123 rfl (by simp [ntmps123]) ?_;rw [ntmps123,results123];push_cast [O,U];repeat' ((first|refine au ?_|refine pif ?_ ?_<;>intro h<;>try exact pN h)<;>push_cast [O,U])
 refine dh (α:=Nat) (fun k=>k≤l.length∧∀ x ∈ l.take k,q x=false) (fun k=>⟨[(8,.c (.v (.int .i64 k))),(7,.c (.v (.int .i64 l.length))),(6,.c (.own 0 l.length)),(0,.c (.own 0 l.length)),(1,.c (.fn (.func g) [] ks))],.arr 9 1 (l.map aU) :: rest⟩) (fun k=>l.length - k) 0 ⟨ac,by simp⟩ (cV (by push_cast [O,U]) rfl) ?_;rintro k ⟨hk,hpre⟩;by_cases hlt:k < l.length
 ·have hm:l.getD k default ∈ l:=by rw [ai l hlt];exact List.getElem_mem _
  have hc:=hp.2 _ hm;have hpre2:q (l.getD k default)=false → ∀ x ∈ l.take (k+1),q x=false:=fun h x hx=>by
   rw [List.take_succ_eq_append_getElem hlt] at hx;rcases List.mem_append.1 hx with hx|hx
   ·exact hpre x hx
   ·simp at hx;subst hx;rw [← ai l hlt];exact h
  cases hq:q (l.getD k default);all_goals rw [hq] at hc
  all_goals repeat' ((first|(refine dc rfl (by push_cast [O,U]) rfl hp.1 (by push_cast [O,U]) ?_ hc ?_;(focus (unfold bC;push_cast [O,U];exact py ks));rintro r os ⟨rfl,rfl⟩;refine an ?_)|refine au ?_|refine pif ?_ ?_<;>intro h<;>try exact pN h)<;>push_cast [O,U])
  ·exact ⟨k+1,⟨ac,hpre2 hq⟩,cV (by push_cast [O,U]) rfl,ac⟩
  ·exact ⟨_,rfl,by push_cast [O,U],k,.inr ⟨k,rfl,hlt,hq,hpre⟩,rfl,rfl⟩
 ·rw [List.take_of_length_le ac] at hpre;repeat' ((first|refine au ?_|refine pif ?_ ?_<;>intro h<;>try exact pN h)<;>push_cast [O,U])
  exact ⟨_,rfl,by push_cast [O,U],-1,.inl ⟨rfl,hpre⟩,rfl,rfl⟩
theorem nr (l:List ByteArray) (hl:l.length≤1000000000) (g:FuncId) (ks:List Nat) (rest:List Ob) (q:ByteArray → Bool) (hp:Kz prog g ks (.arr 9 1 (l.map aU) :: rest) l q) :
  ah prog 73 [.c (.own 0 l.length),.c (.fn (.func g) [] ks)] (.arr 9 1 (l.map aU) :: rest) fun r os=>r = .c (.v (.bool (l.any q)))∧os = .arr 9 1 (l.map aU) :: rest:=by
 refine bA func73 rfl (by simp [ntmps73]) ?_;rw [ntmps73,results73];push_cast [O,U];repeat' ((first|(refine dc rfl (by push_cast [O,U]) rfl aj (by push_cast [O,U]) ?_ (rp l hl g ks rest q hp) ?_;(focus (unfold bC;push_cast [O,U]));rintro r os ⟨k,hk,rfl,rfl⟩;refine an ?_)|refine au ?_|refine pif ?_ ?_<;>intro h<;>try exact pN h)<;>push_cast [O,U])
 refine ⟨_,rfl,by push_cast [O,U],?_,rfl⟩;rcases hk with ⟨rfl,h⟩|⟨i,rfl,hi,hq,_⟩
 ·have:l.any q=false:=by rw [List.any_eq_false];intro x hx;simp [h x hx]
  rw [this];rfl
 ·have:l.any q=true:=List.any_eq_true.2 ⟨l.getD i default,by rw [ai l hi];exact List.getElem_mem _,hq⟩;rw [this];simp
def wmL:List Mod:=[⟨⟨#[104,105,100]⟩,[⟨#[117,115,98,58,118,49,42]⟩],[],[],[],false⟩,⟨⟨#[110,105,99]⟩,[⟨#[112,99,105,58,100,50]⟩,⟨#[117,115,98,58,118,50]⟩],[⟨#[99,111,114,101]⟩],[],[],false⟩,⟨⟨#[99,111,114,101]⟩,[],[],[],[⟨#[101,120,116,114,97]⟩],false⟩,⟨⟨#[101,120,116,114,97]⟩,[],[],[⟨#[104,105,100]⟩],[],false⟩,⟨⟨#[111,116,104,101,114]⟩,[⟨#[117,115,98,58,42]⟩],[],[⟨#[101,120,116,114,97]⟩],[],false⟩,⟨⟨#[98,97,100]⟩,[⟨#[112,99,105,58,42]⟩],[],[],[],true⟩,⟨⟨#[114,105,110,103]⟩,[],[⟨#[114,105,110,103,50]⟩],[],[],false⟩,⟨⟨#[114,105,110,103,50]⟩,[],[⟨#[114,105,110,103]⟩],[],[],false⟩]
set_option maxHeartbeats 2000000 in
theorem rq (L:List Int) (k:Nat) (hk:k < 2000) (hL:∀ x ∈ L,-9223372036854775808≤x∧x≤9223372036854775807) (hl:L.length≤9223372036854775807) :
  ah prog 13 [.c (.ptr 0 0)] [tape L k] fun r os=>∃ l:List Mod,l.Sublist wmL∧r = .c (.sl 6 (l.map Mod.d))∧os=[tape L (k+8)]:=by
 refine aw func13 ntmps13 results13 ?_;push_cast [O,U];repeat' ((first|refine au ?_|refine pif ?_ ?_<;>intro h<;>try exact pN h)<;>push_cast [O,U])
 refine aF (tr 3 (wmL.map Mod.d) rfl (by simp [wmL,Mod.d,kK,yr,leD,qI,aU])) ?_;refine aF (dm 4 33 6 ac (by push_cast [O,U])) ?_;push_cast [O,U];refine dh (α:=Nat × List Mod) (fun x=>x.1≤8∧x.2.Sublist (wmL.take x.1)) (fun x=>⟨[(5,.c (.v (.int .i64 x.1))),(4,.c (.own 1 x.2.length)),(3,.c (.sl 6 (wmL.map Mod.d))),(0,.c (.ptr 0 0))],[tape L (k+x.1),.arr 33 6 (x.2.map Mod.d)]⟩) (fun x=>8 - x.1) (0,[]) ⟨by simp,by simp⟩ (by (refine weak_fg ?_;push_cast [O,U]);try omega) ?_;rintro ⟨i,l⟩ ⟨hi,hs⟩;simp only at hi hs;have h8:wmL.length=8:=rfl;have hll:=hs.length_le;rw [List.length_take] at hll;by_cases hlt:i < 8
 ·obtain ⟨hb,hc⟩:=fy (dN L (k+i)) 4 ac;obtain ⟨v,hv⟩:∃ v,kf (dN L (k+i)) 4=v:=⟨_,rfl⟩
  rw [hv] at hb hc;have hst:wmL.take (i+1)=wmL.take i++[wmL[i]]:=List.take_succ_eq_append_getElem ac;by_cases h0:0 < v;all_goals repeat' ((first|refine plE [0] (fj L (k+i) 4 ac ac hL hl) ?_ ?_|refine au ?_|refine pif ?_ ?_<;>intro h<;>try exact pN h)<;>push_cast [O,U,hv,h8])
  ·refine ⟨(i+1,l++[wmL.getD i default]),⟨by simp only;omega,?_⟩,by (refine weak_fg ?_;push_cast [O,U]);try omega,by simp only;omega⟩;simp only [hst];rw [ai wmL ac];exact hs.append (List.Sublist.refl _)
  ·exact ⟨(i+1,l),⟨by simp only;omega,by simp only [hst];exact hs.trans (List.sublist_append_left _ _)⟩,by (refine weak_fg ?_;push_cast [O,U]);try omega,by simp only;omega⟩
 ·have h:i=8:=ac;subst h;have he:=List.take_of_length_le (l:=l.map Mod.d) (i:=l.length) (by simp);repeat' ((first|refine au ?_|refine pif ?_ ?_<;>intro h<;>try exact pN h)<;>push_cast [O,U,h8])
  (refine K9 [0] ?_;push_cast [O,U]);exact ⟨.c (.sl 6 (l.map Mod.d)),[tape L (k+8)],by first|exact ⟨rfl,rfl⟩|(rw [he];exact ⟨rfl,rfl⟩),by push_cast [O,U],l,hs.trans (List.take_sublist _ _),rfl,rfl⟩
theorem ja {α:Type} {p:α → Bool} {l:List α} {k:Nat} (hk:k < l.length) [Inhabited α] (h:p (l.getD k default)=true):l.any p=true:=List.any_eq_true.2 ⟨l.getD k default,by rw [ai l hk];exact List.getElem_mem _,h⟩
theorem jb {α:Type} [Inhabited α] {p:α → Bool} {l:List α} {k:Nat} (hk:k < l.length) (h:(l.take k).any p=false) (h2:p (l.getD k default)=false):(l.take (k+1)).any p=false:=by
 rw [List.take_succ_eq_append_getElem hk,List.any_append,h];rw [ai l hk] at h2;simp [h2]
def rr (m:Mod) (s:ByteArray):Bool:=decide (s≠⟨#[]⟩) && m.aliases.any fun p=>bH p s
set_option maxHeartbeats 4000000 in
theorem ru (m:Mod) (s:ByteArray) (hl:m.aliases.length≤1000000) (hz:∀ p ∈ m.aliases,p.size≤1000000000) (hs:s.size≤9000000000000000000) :
  ah prog 189 [.agg m.e,.c (.v (.string s))] [] fun r os=>r = .c (.v (.bool (rr m s)))∧os=[]:=by
 refine aw func189 ntmps189 results189 ?_;push_cast [O,U];have cB:aH 6 []:=trivial;by_cases h0:s=⟨#[]⟩
 ·have hR:rr m s=false:=by unfold rr;rw [decide_eq_false (by simp [h0])];rfl
  subst h0;repeat' ((first|refine ae ?_|refine pif ?_ ?_<;>intro h<;>try exact pN h)<;>push_cast [O,U])
  (apply ap (α:=Nat) 6 [] (fun k=>[(5,.c (.v (.int .i64 k)))]) (fun k=>[]) (fun k=>k=0) (fun k=>0 - k) (0);(focus ((try push_cast [O,U]);rfl));(focus exact rfl);(focus ((refine weak_fg ?_;try push_cast [O,U]))));intro k hk;subst hk;push_cast [O,U];by_cases hp:0 < m.aliases.length
  ·have hp':(0:Int) < (m.aliases.length:Int):=ac;repeat' ((first|refine ae ?_|refine pif ?_ ?_<;>intro h<;>try exact pN h)<;>push_cast [O,U,hp',ne_eq,not_true_eq_false])
   (refine K9 [] ?_;push_cast [O,U,hR])
  ·have hp':¬ (0:Int) < (m.aliases.length:Int):=ac;repeat' ((first|refine ae ?_|refine pif ?_ ?_<;>intro h<;>try exact pN h)<;>push_cast [O,U,hp'])
   (refine K9 [] ?_;push_cast [O,U,hR])
 have hR:rr m s=m.aliases.any fun p=>bH p s:=by unfold rr;rw [decide_eq_true h0];rfl
 repeat' ((first|refine ae ?_|refine pif ?_ ?_<;>intro h<;>try exact pN h)<;>push_cast [O,U])
 (apply ap (α:=Nat) 6 [] (fun k=>[(5,.c (.v (.int .i64 k)))]) (fun k=>[]) (fun k=>k≤m.aliases.length∧(m.aliases.take k).any (fun p=>bH p s)=false) (fun k=>m.aliases.length - k) (0);(focus ((try push_cast [O,U]);rfl));(focus exact ⟨ac,rfl⟩);(focus ((refine weak_fg ?_;try push_cast [O,U]))));rintro k ⟨hk,hpre⟩;push_cast [O,U];by_cases hlt:k < m.aliases.length
 ·have hpm:m.aliases.getD k default ∈ m.aliases:=by rw [ai _ hlt];exact List.getElem_mem _
  have hm:=wS (m.aliases.getD k default) s (by have:=hz _ hpm;omega) hs;cases hb:bH (m.aliases.getD k default) s with
  | true =>
   have hR2:=hR.trans (ja (p:=fun p=>bH p s) hlt hb);rw [hb] at hm;repeat' ((first|refine plE [] hm ?_ ?_|refine ae ?_|refine pif ?_ ?_<;>intro h<;>try exact pN h)<;>push_cast [O,U,h0,ne_eq,not_false_eq_true])
   (refine K9 [] ?_;push_cast [O,U,hR2])
  | false =>
   have hpre2:=jb (p:=fun p=>bH p s) hlt hpre hb;rw [hb] at hm;repeat' ((first|refine plE [] hm ?_ ?_|refine ae ?_|refine pif ?_ ?_<;>intro h<;>try exact pN h)<;>push_cast [O,U,h0,ne_eq,not_false_eq_true])
   exact ⟨k+1,⟨ac,hpre2⟩,aA,ac⟩
 ·have hk2:k=m.aliases.length:=ac;rw [hk2,List.take_length] at hpre;have hR2:=hR.trans hpre;repeat' ((first|refine ae ?_|refine pif ?_ ?_<;>intro h<;>try exact pN h)<;>push_cast [O,U])
  (refine K9 [] ?_;push_cast [O,U,hR2])
set_option maxHeartbeats 4000000 in
theorem ET (L:List Int) (k:Nat) (l:List Dev) (hk:k < 100000) (hll:l.length≤1000) (hL:∀ x ∈ L,-9223372036854775808≤x∧x≤9223372036854775807) (hl:L.length≤9223372036854775807) :
  ah prog 49 [.c (.ptr 0 0),.agg (trE l)] [tape L k] fun r os=>∃ (v:Int) (k':Nat),k'≤k+2∧r = .c (.v (.int .i64 v))∧os=[tape L k']:=by
 refine aw func49 ntmps49 results49 ?_;push_cast [O,U];have cB:aH 6 [15]:=trivial;by_cases h0:0 < l.length
 case neg =>
  have h0':¬ (0:Int) < (l.length:Int):=ac;have n1:=cP L k 40 ac af af hL hl;repeat' ((first|(refine plc [0] (n1) ?_ ?_;push_cast [O,U,h0'];rintro r os ⟨v,⟨va,vb⟩,rfl,rfl⟩)|refine ae ?_|refine pif ?_ ?_<;>intro h<;>try exact pN h)<;>push_cast [O,U,h0'])
  (refine K9 [0] ?_;push_cast [O,U]);exact ⟨_,_,aE _,aB _,v - 1,k+1,ac,rfl,rfl⟩
 have h0':(0:Int) < (l.length:Int):=ac;have n1:=cP L k 8 ac af af hL hl;have n2:=cP L (k+1) 40 ac af af hL hl;have n3:=fj L (k+1) l.length ac ac hL hl;obtain ⟨hb1,hb2⟩:=fy (dN L (k+1)) l.length h0';obtain ⟨g,hg⟩:∃ g:Nat,kf (dN L (k+1)) l.length=(g:Int):=⟨(kf (dN L (k+1)) l.length).toNat,ac⟩
 rw [hg] at n3 hb2;have hgl:g < l.length:=ac;repeat' ((first|(refine plc [0] (n1) ?_ ?_;push_cast [O,U,h0'];rintro r os ⟨v,⟨va,vb⟩,rfl,rfl⟩)|(refine eQ 3 ?_)|(refine plc [0] (n2) ?_ ?_;push_cast [O,U,h0'];rintro r os ⟨v2,⟨va2,vb2⟩,rfl,rfl⟩)|refine ae ?_|refine pif ?_ ?_<;>intro h<;>try exact pN h)<;>push_cast [O,U,h0'])
 ·refine dd ?_;(refine av 6 [15] ?_;refine aO aj ?_;simp only [aP,Nat.reduceAdd];refine pah 0 ?_;push_cast [O,U];refine pah 2 ?_;push_cast [O,U];refine pah 3 ?_;push_cast [O,U];apply ar;intro z4;apply ar;intro z3;apply ar;intro z1;apply ar;intro z2;refine pas [1,4] ?_;push_cast [O,U];refine ⟨?_,?_⟩;(focus (exact z1));(focus ((first|((refine plE [0] n3 ?_ ?_;(focus (push_cast [O,U];done));push_cast [O,U])));exact z2));refine pas [1] ?_;push_cast [O,U];(focus (refine pah 5 ?_;push_cast [O,U];refine pah 6 ?_;push_cast [O,U];exact z3));refine pas [4] ?_;push_cast [O,U];(focus ((first|((refine plE [0] n3 ?_ ?_;(focus (push_cast [O,U];done));push_cast [O,U])));refine pah 5 ?_;push_cast [O,U];refine pah 6 ?_;push_cast [O,U];refine paw z3 ?_;refine weak_fg ?_;push_cast [O,U]));refine pas [7] ?_;push_cast [O,U];(focus (refine pah 8 ?_;push_cast [O,U];exact paw z4 (ao 6 [15] _)));push_cast [O,U];refine pad ?_;push_cast [O,U]);repeat' ((first|refine ae ?_|refine pif ?_ ?_<;>intro h<;>try exact pN h)<;>push_cast [O,U])
  (refine K9 [0] ?_;push_cast [O,U]);exact ⟨_,_,aE _,aB _,_,k+1+1,ac,rfl,rfl⟩
 ·(refine K9 [0] ?_;push_cast [O,U]);exact ⟨_,_,aE _,aB _,v2 - 1,k+1+1,ac,rfl,rfl⟩
end Go.Proofs.YtmbbkfffcflfcaaGreatDoor
