import Derived.Test.YtmbbkfffcflfcaaGreatDoorT45
namespace Go.Proofs.YtmbbkfffcflfcaaGreatDoor
open Go.Proofs.Tryz
set_option linter.unusedSimpArgs false
set_option linter.unusedVariables false
open Go.RowKit
open IntWalk renaming iteOmega → O, toNatUp → U
section
section
variable {rd:Option Nat} {P:Program} {N p:Nat} {Q:Exit → S → Prop} {s:S}
end
theorem nV (b:Bool):(if (!b)=true then (1:Nat) else 0)=if b=true then 0 else 1:=by cases b<;>rfl
section
variable {rd:Option Nat} {P:Program} {N p:Nat} {ct:Option (Nat × List Nat)} {Q:Exit → S → Prop} {s:S}
end
attribute [push_cast] nV
section
variable {rd:Option Nat} {P:Program} {N p:Nat} {Q:Exit → S → Prop} {s:S} {o:Oper} {ops:Array Oper} {rest:List Oper} {K:S → Prop} {fuel:Nat} {listed:Array Bool}
theorem lh (c:Prop) [Decidable c] (f g:S → Prop) (s:S):sel (if c then 0 else 1) f g s=sel (if c then 1 else 0) g f s:=by by_cases h:c<;>simp [h,mX,kJ]
end
attribute [push_cast] lh
end
section
attribute [local irreducible] PL QL aL ah bg La aV PA
set_option maxRecDepth 20000
theorem zF {a b:Atr} (h1:a.name=b.name) (h2:a.value=b.value):a=b:=by
 cases a;cases b;simp only at h1 h2;rw [h1,h2]
set_option maxHeartbeats 2000000 in
theorem ib (a b:List Atr) (ha:a.length≤9223372036854775807) (hb:b.length≤9223372036854775807) :
  ah prog 122 [.c (.sl 2 (a.map Atr.d)),.c (.sl 2 (b.map Atr.d))] [] fun r os=>r = .c (.v (.bool (decide (a=b))))∧os=[]:=by
 refine aw func122 ntmps122 results122 ?_;push_cast [O,U];have cB:aH 6 []:=trivial;by_cases hl:a.length=b.length
 case neg =>
  have hn:decide (a=b)=false:=decide_eq_false fun e=>hl (by rw [e])
  have hl2:¬ (a.length:Int)=(b.length:Int):=ac;repeat' ((first|refine ae ?_|refine pif ?_ ?_<;>intro h<;>try exact pN h)<;>push_cast [O,U,hl,hl2])
  (refine K9 [] ?_;push_cast [O,U,hn])
 have hl2:(a.length:Int)=(b.length:Int):=ac;repeat' ((first|refine ae ?_|refine pif ?_ ?_<;>intro h<;>try exact pN h)<;>push_cast [O,U,hl,hl2])
 (apply ap (α:=Nat) 6 [] (fun k=>[(5,.c (.v (.int .i64 k)))]) (fun k=>[]) (fun k=>k≤a.length∧a.take k=b.take k) (fun k=>a.length - k) (0);(focus ((try push_cast [O,U]);rfl));(focus exact ⟨Nat.zero_le _,rfl⟩);(focus ((refine weak_fg ?_;try push_cast [O,U]))));rintro k ⟨hk,hpre⟩;push_cast [O,U];by_cases hlt:k < a.length
 ·have hlt':k < b.length:=ac;by_cases h1:(a.getD k default).name=(b.getD k default).name
  ·by_cases h2:(a.getD k default).value=(b.getD k default).value
   ·have he:=zF h1 h2;repeat' ((first|refine ae ?_|refine pif ?_ ?_<;>intro h<;>try exact pN h)<;>push_cast [O,U,h1,h2])
    refine ⟨k+1,⟨ac,?_⟩,aA,ac⟩;rw [List.take_succ_eq_append_getElem hlt,List.take_succ_eq_append_getElem hlt',hpre,← ai a hlt,← ai b hlt',he]
   ·have hn:decide (a=b)=false:=decide_eq_false fun e=>h2 (by rw [e])
    repeat' ((first|refine ae ?_|refine pif ?_ ?_<;>intro h<;>try exact pN h)<;>push_cast [O,U,h1,h2])
    (refine K9 [] ?_;push_cast [O,U,hn])
  ·have hn:decide (a=b)=false:=decide_eq_false fun e=>h1 (by rw [e])
   repeat' ((first|refine ae ?_|refine pif ?_ ?_<;>intro h<;>try exact pN h)<;>push_cast [O,U,h1])
   (refine K9 [] ?_;push_cast [O,U,hn])
 ·have hn:decide (a=b)=true:=decide_eq_true (by
   have:=hpre
   rwa [List.take_of_length_le ac,List.take_of_length_le ac] at this)
  repeat' ((first|refine ae ?_|refine pif ?_ ?_<;>intro h<;>try exact pN h)<;>push_cast [O,U])
  (refine K9 [] ?_;push_cast [O,U,hn])
end
section
attribute [local irreducible] PL QL aL ah bg La aV PA
set_option maxRecDepth 20000
set_option maxRecDepth 10000 in
set_option maxHeartbeats 8000000 in
theorem jS (a b:Dev) (ha:a.attrs.length≤9223372036854775807) (hb:b.attrs.length≤9223372036854775807) :
  ah prog 69 [.agg a.e,.agg b.e] [] fun r os=>r = .c (.v (.bool (decide (a=b))))∧os=[]:=by
 refine aw func69 ntmps69 results69 ?_;rcases a with ⟨a1,a2,a3,a4,a5,a6,a7,a8,a9,al⟩
 rcases b with ⟨b1,b2,b3,b4,b5,b6,b7,b8,b9,bl⟩;simp only at ha hb;push_cast [O,U];by_cases e1:a1=b1
 case neg =>
  repeat' ((first|refine au ?_|refine pif ?_ ?_<;>intro h<;>try exact pN h)<;>push_cast [O,U,e1])
  (refine K9 [] ?_;push_cast [O,U]);simp [e1]
 subst e1;by_cases e2:a2=b2
 case neg =>
  repeat' ((first|refine au ?_|refine pif ?_ ?_<;>intro h<;>try exact pN h)<;>push_cast [O,U,e2])
  (refine K9 [] ?_;push_cast [O,U]);simp [e2]
 subst e2;by_cases e3:a3=b3
 case neg =>
  repeat' ((first|refine au ?_|refine pif ?_ ?_<;>intro h<;>try exact pN h)<;>push_cast [O,U,e3])
  (refine K9 [] ?_;push_cast [O,U]);simp [e3]
 subst e3;by_cases e4:a4=b4
 case neg =>
  repeat' ((first|refine au ?_|refine pif ?_ ?_<;>intro h<;>try exact pN h)<;>push_cast [O,U,e4])
  (refine K9 [] ?_;push_cast [O,U]);simp [e4]
 subst e4;by_cases e5:a5=b5
 case neg =>
  repeat' ((first|refine au ?_|refine pif ?_ ?_<;>intro h<;>try exact pN h)<;>push_cast [O,U,e5])
  (refine K9 [] ?_;push_cast [O,U]);simp [e5]
 subst e5;by_cases e6:a6=b6
 case neg =>
  repeat' ((first|refine au ?_|refine pif ?_ ?_<;>intro h<;>try exact pN h)<;>push_cast [O,U,e6])
  (refine K9 [] ?_;push_cast [O,U]);simp [e6]
 subst e6;by_cases e7:a7=b7
 case neg =>
  repeat' ((first|refine au ?_|refine pif ?_ ?_<;>intro h<;>try exact pN h)<;>push_cast [O,U,e7])
  (refine K9 [] ?_;push_cast [O,U]);simp [e7]
 subst e7;by_cases e8:a8=b8
 case neg =>
  repeat' ((first|refine au ?_|refine pif ?_ ?_<;>intro h<;>try exact pN h)<;>push_cast [O,U,e8])
  (refine K9 [] ?_;push_cast [O,U]);simp [e8]
 subst e8;by_cases e9:a9=b9
 case neg =>
  repeat' ((first|refine au ?_|refine pif ?_ ?_<;>intro h<;>try exact pN h)<;>push_cast [O,U,e9])
  (refine K9 [] ?_;push_cast [O,U]);simp [e9]
 subst e9;repeat' ((first|refine aK [] (ib al bl ha hb) ?_|refine au ?_|refine pif ?_ ?_<;>intro h<;>try exact pN h)<;>push_cast [O,U])
 (refine K9 [] ?_;push_cast [O,U]);simp
theorem ic (a b:List ByteArray) (ha:a.length≤1000000000) (hb:b.length≤1000000000) :
  ah prog 37 [.c (.sl 1 (a.map aU)),.c (.sl 1 (b.map aU))] [] fun r os=>r = .c (.v (.bool (decide (a=b))))∧os=[]:=by
 refine aw func37 ntmps37 results37 ?_;push_cast [O,U];by_cases hl:a.length=b.length
 ·repeat' ((first|refine au ?_|refine pif ?_ ?_<;>intro h<;>try exact pN h)<;>push_cast [O,U])
  refine dh (α:=Nat) (fun k=>k≤a.length∧a.take k=b.take k) (fun k=>⟨[(5,.c (.v (.int .i64 k))),(0,.c (.sl 1 (a.map aU))),(1,.c (.sl 1 (b.map aU)))],[]⟩) (fun k=>a.length - k) 0 ⟨ac,by simp⟩ aA ?_;rintro k ⟨hk,hpre⟩;by_cases hlt:k < a.length
  ·have hlt':k < b.length:=ac;have e1:=ai a hlt;have e2:=ai b hlt';repeat' ((first|refine au ?_|refine pif ?_ ?_<;>intro h<;>try exact pN h)<;>push_cast [O,U])
   ·(refine K9 [] ?_;push_cast [O,U]);rw [e1,e2] at h;have:¬ a=b:=fun e=>by subst e;simp at h
    simp [this]
   ·refine ⟨k+1,⟨ac,?_⟩,aA,ac⟩;rw [e1,e2] at h;have h':a[k]=b[k]:=by simpa using h
    rw [List.take_succ_eq_append_getElem hlt,List.take_succ_eq_append_getElem hlt',hpre,h']
  ·rw [List.take_of_length_le ac,List.take_of_length_le ac] at hpre;repeat' ((first|refine au ?_|refine pif ?_ ?_<;>intro h<;>try exact pN h)<;>push_cast [O,U])
   (refine K9 [] ?_;push_cast [O,U]);simp [hpre]
 ·have:¬ a=b:=fun e=>hl (by rw [e])
  repeat' ((first|refine au ?_|refine pif ?_ ?_<;>intro h<;>try exact pN h)<;>push_cast [O,U])
  (refine K9 [] ?_;push_cast [O,U]);simp [this]
end
section
attribute [local irreducible] PL QL aL ah bg La aV PA
set_option maxRecDepth 20000
set_option maxHeartbeats 4000000 in
theorem iN (a b:List Dev) (ha:a.length≤1000000000) (hb:b.length≤1000000000) (hda:∀ d ∈ a,d.attrs.length≤1000000000) (hdb:∀ d ∈ b,d.attrs.length≤1000000000) :
  ah prog 36 [.agg (trE a),.agg (trE b)] [] fun r os=>r = .c (.v (.bool (decide (a=b))))∧os=[]:=by
 refine aw func36 ntmps36 results36 ?_;push_cast [O,U];have cB:aH 6 []:=trivial;by_cases hl:a.length=b.length
 case neg =>
  have hne:a≠b:=fun e=>hl (by rw [e])
  have hl2:¬ (a.length:Int)=(b.length:Int):=ac;repeat' ((first|refine ae ?_|refine pif ?_ ?_<;>intro h<;>try exact pN h)<;>push_cast [O,U,hl2])
  (refine K9 [] ?_;push_cast [O,U,hne])
 have hl2:(a.length:Int)=(b.length:Int):=ac;have hl3:((b.length:Int)≠(b.length:Int))=False:=by simp
 repeat' ((first|refine ae ?_|refine pif ?_ ?_<;>intro h<;>try exact pN h)<;>push_cast [O,U,hl2,hl3])
 (apply ap (α:=Nat) 6 [] (fun k=>[(5,.c (.v (.int .i64 k)))]) (fun k=>[]) (fun k=>k≤a.length∧a.take k=b.take k) (fun k=>a.length - k) (0);(focus ((try push_cast [O,U]);rfl));(focus exact ⟨ac,by simp⟩);(focus ((refine weak_fg ?_;try push_cast [O,U]))));rintro k ⟨hk,hpre⟩;push_cast [O,U];by_cases hlt:k < a.length
 ·have hlt':k < b.length:=ac;have hm1:a.getD k default ∈ a:=by rw [ai a hlt];exact List.getElem_mem _
  have hm2:b.getD k default ∈ b:=by rw [ai b hlt'];exact List.getElem_mem _
  have hc:=jS (a.getD k default) (b.getD k default) (by have:=hda _ hm1;omega) (by have:=hdb _ hm2;omega);have hlt2:(k:Int) < (b.length:Int):=ac;by_cases he:a.getD k default=b.getD k default
  ·rw [decide_eq_true he] at hc;have hp:a.take (k+1)=b.take (k+1):=by
    rw [ai a hlt,ai b hlt'] at he;rw [List.take_succ_eq_append_getElem hlt,List.take_succ_eq_append_getElem hlt',hpre,he]
   repeat' ((first|(refine aQ false rfl rfl aj (hc) (fun r os h=>h.1) rfl ?_ ?_;push_cast [O,U,hl2,hlt2,hlt'];refine aD ?_;push_cast [O,U,hl2,hlt2,hlt'])|refine ae ?_|refine pif ?_ ?_<;>intro h<;>try exact pN h)<;>push_cast [O,U,hl2,hlt2,hlt'])
   exact ⟨k+1,⟨ac,hp⟩,aA,ac⟩
  ·rw [decide_eq_false he] at hc;have hne:a≠b:=fun e=>he (by rw [e])
   repeat' ((first|(refine aQ false rfl rfl aj (hc) (fun r os h=>h.1) rfl ?_ ?_;push_cast [O,U,hl2,hlt2,hlt'];refine aD ?_;push_cast [O,U,hl2,hlt2,hlt'])|refine ae ?_|refine pif ?_ ?_<;>intro h<;>try exact pN h)<;>push_cast [O,U,hl2,hlt2,hlt'])
   (refine K9 [] ?_;push_cast [O,U,hne])
 ·rw [List.take_of_length_le ac,List.take_of_length_le ac] at hpre;have hk2:k=b.length:=ac;subst hk2;repeat' ((first|refine ae ?_|refine pif ?_ ?_<;>intro h<;>try exact pN h)<;>push_cast [O,U,hl2])
  (refine K9 [] ?_;push_cast [O,U,hpre])
theorem sj {a b:Evt} (h1:a.seq=b.seq) (h2:a.act=b.act) (h3:a.idx=b.idx) (h4:a.path=b.path) (h5:a.old=b.old):a=b:=by
 cases a;cases b;simp only at h1 h2 h3 h4 h5;rw [h1,h2,h3,h4,h5]
set_option maxHeartbeats 4000000 in
theorem fo (a b:List Evt) (ha:a.length≤1000000000) (hb:b.length≤1000000000) :
  ah prog 30 [.c (.sl 5 (a.map Evt.d)),.c (.sl 5 (b.map Evt.d))] [] fun r os=>r = .c (.v (.bool (decide (a=b))))∧os=[]:=by
 refine aw func30 ntmps30 results30 ?_;push_cast [O,U];have cB:aH 6 []:=trivial;by_cases hl:a.length=b.length
 case neg =>
  have hne:a≠b:=fun e=>hl (by rw [e])
  have hl2:¬ (a.length:Int)=(b.length:Int):=ac;repeat' ((first|refine ae ?_|refine pif ?_ ?_<;>intro h<;>try exact pN h)<;>push_cast [O,U,hl2])
  (refine K9 [] ?_;push_cast [O,U,hne])
 have hl2:(a.length:Int)=(b.length:Int):=ac;have hl3:((b.length:Int)≠(b.length:Int))=False:=by simp
 repeat' ((first|refine ae ?_|refine pif ?_ ?_<;>intro h<;>try exact pN h)<;>push_cast [O,U,hl2,hl3])
 (apply ap (α:=Nat) 6 [] (fun k=>[(5,.c (.v (.int .i64 k)))]) (fun k=>[]) (fun k=>k≤a.length∧a.take k=b.take k) (fun k=>a.length - k) (0);(focus ((try push_cast [O,U]);rfl));(focus exact ⟨ac,by simp⟩);(focus ((refine weak_fg ?_;try push_cast [O,U]))));rintro k ⟨hk,hpre⟩;push_cast [O,U];by_cases hlt:k < a.length
 ·have hlt':k < b.length:=ac;have hlt2:(k:Int) < (b.length:Int):=ac;by_cases he:a.getD k default=b.getD k default
  ·have hp:a.take (k+1)=b.take (k+1):=by
    rw [ai a hlt,ai b hlt'] at he;rw [List.take_succ_eq_append_getElem hlt,List.take_succ_eq_append_getElem hlt',hpre,he]
   repeat' ((first|refine ae ?_|refine pif ?_ ?_<;>intro h<;>try exact pN h)<;>push_cast [O,U,hl2,hlt2,hlt',he])
   all_goals first
    | exact ⟨k+1,⟨ac,hp⟩,aA,ac⟩
    | (exfalso;simp at h)
  ·have hne:a≠b:=fun e=>he (by rw [e])
   repeat' ((first|refine ae ?_|refine pif ?_ ?_<;>intro h<;>try exact pN h)<;>push_cast [O,U,hl2,hlt2,hlt'])
   all_goals first
    | (refine K9 [] ?_;push_cast [O,U,hne];done)
    | (exfalso;apply he;simp only [Bool.and_eq_true,decide_eq_true_eq] at h;exact sj h.1 h.2.1 h.2.2.1 h.2.2.2.1 h.2.2.2.2)
 ·rw [List.take_of_length_le ac,List.take_of_length_le ac] at hpre;have hk2:k=b.length:=ac;subst hk2;repeat' ((first|refine ae ?_|refine pif ?_ ?_<;>intro h<;>try exact pN h)<;>push_cast [O,U,hl2])
  (refine K9 [] ?_;push_cast [O,U,hpre])
end
section
attribute [local irreducible] PL QL aL ah bg La aV PA bm
set_option maxRecDepth 20000
theorem jT (k:Ker) (hl:k.loaded.length≤1000000):ah prog 22 [.c (.ptr 0 0)] (bI k) fun r os=>r = .c (.sl 1 (k.loaded.map aU))∧os=bI k:=by
 have hc:=eY k.loaded ac;have htk:=List.take_of_length_le (l:=k.loaded.map aU) (i:=k.loaded.length) (by simp);refine aw func22 ntmps22 results22 ?_;push_cast [O,U];repeat' ((first|(refine aW true [] rfl rfl aj (hc) ?_ ?_ ?_;push_cast [O,U,htk];(intro _ r os;rintro ⟨rfl,rfl⟩;push_cast [O,U,htk]);rintro r os ⟨rfl,rfl⟩;refine an ?_)|refine au ?_|refine pif ?_ ?_<;>intro h<;>try exact pN h)<;>push_cast [O,U,htk])
 (refine K9 [0,1,2] ?_;push_cast [O,U,htk])
theorem ig (k:Ker):ah prog 32 [.c (.ptr 0 0)] (bI k) fun r os=>r = .c (.v (.int .i64 k.evs.length))∧os=bI k:=by
 refine aw func32 ntmps32 results32 ?_;push_cast [O,U];repeat' ((first|refine au ?_|refine pif ?_ ?_<;>intro h<;>try exact pN h)<;>push_cast [O,U])
 exact am [0,1,2]
set_option maxHeartbeats 4000000 in
theorem zG (k:Ker) (hl:k.loaded.length≤1000000) (he:k.evs.length≤1000000):ah prog 34 [.c (.ptr 0 0)] (bI k) fun r os=>r = .c (.ptr 3 0)∧os=[jd 1 2 k,jI k,je k,jd 4 5 k,jI k,je k]:=by
 have hc:=eY k.loaded ac;have hce:=pD k.evs ac;have htk:=List.take_of_length_le (l:=k.loaded.map aU) (i:=k.loaded.length) (by simp);have hte:=List.take_of_length_le (l:=k.evs.map Evt.d) (i:=k.evs.length) (by simp);refine aw func34 ntmps34 results34 ?_;push_cast [O,U];have cB:aH 4 []:=trivial;repeat' ((first|(refine av 4 [] ?_;apply ak;(focus kernel_rfl);(focus (simp only [aP,Nat.reduceAdd];(repeat' first|(refine aW true [] rfl rfl aj (hc) ?_ ?_ ?_;push_cast [O,U,  htk,hte];(intro _ r os;rintro ⟨rfl,rfl⟩;push_cast [O,U,  htk,hte]);rintro r os ⟨rfl,rfl⟩;refine an ?_;push_cast [O,U,  htk,hte])|(refine aW true [] rfl rfl aj (hce) ?_ ?_ ?_;push_cast [O,U,  htk,hte];(intro _ r os;rintro ⟨rfl,rfl⟩;push_cast [O,U,  htk,hte]);rintro r os ⟨rfl,rfl⟩;refine an ?_;push_cast [O,U,  htk,hte])|((first|refine pah 0 ?_|refine pah 1 ?_|refine pah 2 ?_|refine pah 5 ?_|refine pah 6 ?_|refine pah 7 ?_|refine pah 10 ?_|refine pah 12 ?_);push_cast [O,U,  htk,hte])|(refine pad ?_;first|with_reducible exact ao 4 [] _|(refine weak_fg ?_;push_cast [O,U,  htk,hte]))|((first|refine pas [3] ?_|refine pas [4] ?_|refine pas [8] ?_|refine pas [9] ?_|refine pas [11] ?_|refine pas [13] ?_);push_cast [O,U,  htk,hte])|((first|refine pas [3,8] ?_|refine pas [4,8] ?_);push_cast [O,U,  htk,hte];refine ⟨?_,?_⟩));done));push_cast [O,U,  htk,hte])|refine ae ?_|refine pif ?_ ?_<;>intro h<;>try exact pN h)<;>push_cast [O,U,htk,hte])
 (refine K9 [0,1,2,3,4,5] ?_;push_cast [O,U,htk,hte])
end
section
attribute [local irreducible] PL QL aL ah bg La aV PA bm
set_option maxRecDepth 20000
set_option maxHeartbeats 8000000 in
theorem fQ (L:List Int) (q:Nat) (k:Ker) (hB:bL k) :
  ah prog 29 [.c (.ptr 0 0)] (pbO L q k) fun r os=>r = .c (.v (.bool true))∧os=pbO L q k:=by
 have hlo:=hB.lod;have hkl:=hB.len;have hev:=hB.evl;have hkt:=fO k hB.inv.tree;have hst:=iN k.tree k.tree ac ac hB.att hB.att;have hld:=jT k ac;have htx:=ic k.loaded k.loaded ac ac;have hE:=dV k 0 af ac;have hse:=fo k.evs k.evs ac ac;have hla:=ig k;rw [show dx k 0=0 from rfl,List.drop_zero] at hE;rw [decide_eq_true rfl] at hst htx hse;refine aw func29 ntmps29 results29 ?_;push_cast [O,U];have cB:aH 3 []:=trivial;repeat' ((first|(refine eQ 1 ?_)|refine ae ?_|refine pif ?_ ?_<;>intro h<;>try exact pN h)<;>push_cast [O,U])
 refine dd ?_;(refine av 3 [] ?_;refine aO aj ?_;simp only [aP,Nat.reduceAdd];refine pah 0 ?_;push_cast [O,U];refine pah 1 ?_;push_cast [O,U];refine pah 2 ?_;push_cast [O,U];refine pah 5 ?_;push_cast [O,U];refine pah 6 ?_;push_cast [O,U];refine pah 7 ?_;push_cast [O,U];refine pah 8 ?_;push_cast [O,U];apply ar;intro z23;apply ar;intro z22;apply ar;intro z20;apply ar;intro z21;apply ar;intro z19;apply ar;intro z18;apply ar;intro z17;apply ar;intro z15;apply ar;intro z16;apply ar;intro z13;apply ar;intro z14;apply ar;intro z12;apply ar;intro z11;apply ar;intro z9;apply ar;intro z10;apply ar;intro z7;apply ar;intro z8;apply ar;intro z6;apply ar;intro z5;apply ar;intro z3;apply ar;intro z4;apply ar;intro z1;apply ar;intro z2;refine pas [3,9] ?_;push_cast [O,U];refine ⟨z1,z2⟩;refine pas [3] ?_;push_cast [O,U];refine z4;refine pas [4,9] ?_;push_cast [O,U];refine ⟨?_,?_⟩;(focus ((refine plE [2,3,4] hkt ?_ ?_;(focus (push_cast [O,U];done));push_cast [O,U]);exact z3));(focus (refine paw z4 ?_;refine weak_fg ?_;push_cast [O,U]));refine pas [4] ?_;push_cast [O,U];(focus ((refine plE [2,3,4] hkt ?_ ?_;(focus (push_cast [O,U];done));push_cast [O,U]);exact z5));refine pas [9] ?_;push_cast [O,U];refine paw z5 ?_<;>(refine weak_fg ?_;push_cast [O,U]);refine pas [10] ?_;push_cast [O,U];(focus ((refine plE [] hst ?_ ?_;(focus (push_cast [O,U];done));push_cast [O,U]);refine pah 11 ?_;push_cast [O,U];refine pah 12 ?_;push_cast [O,U];refine pah 13 ?_;push_cast [O,U];refine pah 14 ?_;push_cast [O,U];refine pah 17 ?_;push_cast [O,U];refine pah 18 ?_;push_cast [O,U];refine pah 19 ?_;push_cast [O,U];refine pah 20 ?_;push_cast [O,U];exact z6));refine pas [15,21] ?_;push_cast [O,U];refine ⟨z7,z8⟩;refine pas [15] ?_;push_cast [O,U];refine z10;refine pas [16,21] ?_;push_cast [O,U];refine ⟨?_,?_⟩;(focus ((refine plE [2,3,4] hld ?_ ?_;(focus (push_cast [O,U];done));push_cast [O,U]);exact z9));(focus (refine paw z10 ?_;refine weak_fg ?_;push_cast [O,U]));refine pas [16] ?_;push_cast [O,U];(focus ((refine plE [2,3,4] hld ?_ ?_;(focus (push_cast [O,U];done));push_cast [O,U]);exact z11));refine pas [21] ?_;push_cast [O,U];refine paw z11 ?_<;>(refine weak_fg ?_;push_cast [O,U]);refine pas [22] ?_;push_cast [O,U];(focus ((refine plE [] htx ?_ ?_;(focus (push_cast [O,U];done));push_cast [O,U]);refine pah 23 ?_;push_cast [O,U];refine pah 24 ?_;push_cast [O,U];refine pah 25 ?_;push_cast [O,U];refine pah 26 ?_;push_cast [O,U];refine pah 27 ?_;push_cast [O,U];refine pah 30 ?_;push_cast [O,U];refine pah 31 ?_;push_cast [O,U];refine pah 32 ?_;push_cast [O,U];refine pah 33 ?_;push_cast [O,U];exact z12));refine pas [28,34] ?_;push_cast [O,U];refine ⟨z13,z14⟩;refine pas [28] ?_;push_cast [O,U];refine z16;refine pas [29,34] ?_;push_cast [O,U];refine ⟨?_,?_⟩;(focus ((refine plE [2,3,4] hE ?_ ?_;(focus (push_cast [O,U];done));push_cast [O,U]);exact z15));(focus (refine paw z16 ?_;refine weak_fg ?_;push_cast [O,U]));refine pas [29] ?_;push_cast [O,U];(focus ((refine plE [2,3,4] hE ?_ ?_;(focus (push_cast [O,U];done));push_cast [O,U]);exact z17));refine pas [34] ?_;push_cast [O,U];refine paw z17 ?_<;>(refine weak_fg ?_;push_cast [O,U]);refine pas [35] ?_;push_cast [O,U];(focus ((refine plE [] hse ?_ ?_;(focus (push_cast [O,U];done));push_cast [O,U]);refine pah 36 ?_;push_cast [O,U];refine pah 37 ?_;push_cast [O,U];refine pah 38 ?_;push_cast [O,U];refine pah 39 ?_;push_cast [O,U];refine pah 40 ?_;push_cast [O,U];refine pah 43 ?_;push_cast [O,U];refine pah 44 ?_;push_cast [O,U];refine pah 45 ?_;push_cast [O,U];refine pah 46 ?_;push_cast [O,U];exact z18));refine pas [41,47] ?_;push_cast [O,U];refine ⟨?_,?_⟩;(focus (exact z19));(focus (refine pah 48 ?_;push_cast [O,U];exact z20));refine pas [42,47] ?_;push_cast [O,U];refine ⟨?_,?_⟩;(focus ((refine plE [2,3,4] hla ?_ ?_;(focus (push_cast [O,U];done));push_cast [O,U]);exact z21));(focus (refine pah 48 ?_;push_cast [O,U];exact z22));refine pas [47] ?_;push_cast [O,U];(focus (refine pah 48 ?_;push_cast [O,U];refine pah 49 ?_;push_cast [O,U];refine pah 50 ?_;push_cast [O,U];refine pah 51 ?_;push_cast [O,U];exact paw z23 (ao 3 [] _)));refine pas [41] ?_;push_cast [O,U];refine paw z22 ?_<;>(refine weak_fg ?_;push_cast [O,U]);refine pas [42] ?_;push_cast [O,U];(focus ((refine plE [2,3,4] hla ?_ ?_;(focus (push_cast [O,U];done));push_cast [O,U]);refine pah 49 ?_;push_cast [O,U];refine pah 50 ?_;push_cast [O,U];refine pah 51 ?_;push_cast [O,U];refine paw z23 ?_;refine weak_fg ?_;push_cast [O,U]));push_cast [O,U];refine pad ?_;push_cast [O,U]);repeat' ((first|refine ae ?_|refine pif ?_ ?_<;>intro h<;>try exact pN h)<;>push_cast [O,U])
 exact am [0,1,2,3,4]
set_option maxHeartbeats 8000000 in
theorem ii (N:Int) (hN:0≤N∧N≤30) (L:List Int) (hL:∀ x ∈ L,-9223372036854775808≤x∧x≤9223372036854775807) (hl:L.length≤9223372036854775807) :
  ah prog 25 [.c (.sl 1 (L.map fun x=>[.v (.int .i64 x)])),.c (.v (.int .i64 N))] [] fun r os=>∃ x:List Mod × Nat × Ker × Nat,(eN x.1∧x.2.1≤30∧eJ x.2.1 x.2.2.1∧x.2.2.1.mods=x.1∧x.2.2.2≤2000)∧r = .two (.agg (xP x.2.2.1)) (.c (.v (.bool true)))∧os=xQ L x.2.2.2 x.2.2.1:=by
 have hb:=jQ L hL hl;have nex:=fun (j:Nat) (hj:j < 1000000) (m:Int) (hm:0 < m) (hm2:m≤9223372036854775807)=>cP L j m hj hm hm2 hL hl
 refine aw func25 ntmps25 results25 ?_;push_cast [O,U];have cB:aH 8 []:=trivial;repeat' ((first|refine ae ?_|refine pif ?_ ?_<;>intro h<;>try exact pN h)<;>push_cast [O,U])
 (refine plc [] (hb) ?_ ?_;push_cast [O,U];rintro r os ⟨ms,hS,rfl,rfl⟩;push_cast [O,U]);repeat' ((first|refine ae ?_|refine pif ?_ ?_<;>intro h<;>try exact pN h)<;>push_cast [O,U])
 refine fD rfl rfl rfl rfl aj (by simp [bp]) (an ?_);push_cast [O,U];have n1:=nex 8 af (N+1) ac ac;repeat' ((first|refine ae ?_|refine pif ?_ ?_<;>intro h<;>try exact pN h)<;>push_cast [O,U])
 (refine plc [1] (n1) ?_ ?_;push_cast [O,U];rintro r os ⟨v,⟨va,vb⟩,rfl,rfl⟩;push_cast [O,U]);obtain ⟨n,rfl⟩:∃ n:Nat,v=(n:Int):=⟨v.toNat,ac⟩
 repeat' ((first|refine ae ?_|refine pif ?_ ?_<;>intro h<;>try exact pN h)<;>push_cast [O,U])
 (apply ap (α:=Nat × Ker × Nat) 8 [] (fun x=>[(7,.c (.v (.int .i64 x.1)))]) (fun x=>[(1,tape L x.2.2),(2,jd 3 4 x.2.1),(3,jI x.2.1),(4,je x.2.1),(5,.box 49 (.ptr 1 0 :: .ptr 2 0 :: x.2.1.re))]) (fun x=>x.1≤n∧eJ (n - x.1) x.2.1∧x.2.2≤9+60 * (n - x.1)∧x.2.1.mods=ms) (fun x=>x.1) ((n,vw ms,9));(focus ((try push_cast [O,U]);rfl));(focus exact ⟨Nat.le_refl _,by rw [Nat.sub_self];exact eJ.beg hS,by simp only;omega,rfl⟩);(focus ((refine weak_fg ?_;try push_cast [O,U]);(try (rfl)))));rintro ⟨i,k,q⟩ ⟨hi,hk,hq,hm⟩;simp only at hi hk hq hm;by_cases h0:0 < i
 case neg =>
  have h0':¬ (0:Int) < (i:Int):=ac;push_cast [O,U];repeat' ((first|refine ae ?_|refine pif ?_ ?_<;>intro h<;>try exact pN h)<;>push_cast [O,U,h0'])
  (refine K9 [1,2,3,4] ?_;push_cast [O,U]);exact ⟨_,_,aE _,aB _,(ms,n - i,k,q),⟨hS,by simp only;omega,hk,hm,by simp only;omega⟩,rfl,rfl⟩
 obtain ⟨i,rfl⟩:∃ i',i=i'+1:=⟨i - 1,ac⟩
 have h0':(0:Int) < (i:Int)+1:=ac;have hev:=hk.e;have htp:=hk.t;obtain ⟨ix1,ix2,ix3,ix4⟩:=hk.ixs ac;have hop:=oS L q k.tree ac ix4 ix3 ix1 ix2 hL hl;push_cast [O,U];repeat' ((first|refine ae ?_|refine pif ?_ ?_<;>intro h<;>try exact pN h)<;>push_cast [O,U,h0'])
 (refine plc [1] (hop) ?_ ?_;push_cast [O,U];rintro r os ⟨op,q2,ho,hq2,rfl,rfl⟩;push_cast [O,U]);have hdo:=jm L q2 k op hk.b ho ac ac;have hk2:=hk.do ac op;have hm2:(bM k op).1.mods=ms:=by rw [← hm];exact (jH db k op).1
 obtain ⟨k2,hke⟩:∃ k2,(bM k op).1=k2:=⟨_,rfl⟩
 rw [hke] at hdo hk2 hm2;repeat' ((first|(refine eZ 3 [5,1,2,3,4] (hdo) ?_ ?_;push_cast [O,U];rintro r os ⟨rfl,rfl⟩)|refine ae ?_|refine pif ?_ ?_<;>intro h<;>try exact pN h)<;>push_cast [O,U])
 exact ⟨(i,k2,q2),⟨by simp only;omega,by simp only;rw [show n - i=n - (i+1)+1 by omega];exact hk2,by simp only;omega,hm2⟩,aA,by simp only;omega⟩
end
section
attribute [local irreducible] PL QL aL ah bg La aV PA bm
set_option maxRecDepth 20000
set_option maxHeartbeats 16000000 in
theorem sQ (L:List Int) (hL:∀ x ∈ L,-9223372036854775808≤x∧x≤9223372036854775807) (hl:L.length≤9223372036854775807) :
  ah prog 9 [.c (.sl 1 (L.map fun x=>[.v (.int .i64 x)]))] [] fun r os=>r = .c (.v (.bool true))∧os=[]:=by
 refine aw func9 ntmps9 results9 ?_;have hlv:=ii 14 af L hL hl;have hkn:=gw;have nex:=fun (j:Nat) (hj:j < 1000000) (m:Int) (hm:0 < m) (hm2:m≤9223372036854775807)=>cP L j m hj hm hm2 hL hl
 push_cast [O,U];have cB:aH 8 []:=trivial;repeat' ((first|refine ae ?_|refine pif ?_ ?_<;>intro h<;>try exact pN h)<;>push_cast [O,U])
 (refine plc [] (hlv) ?_ ?_;push_cast [O,U];rintro r os ⟨⟨ms,m0,k0,q0⟩,⟨hS,hm0,hk0,hmm,hq0⟩,rfl,rfl⟩;push_cast [O,U]);simp only at hS hm0 hk0 hmm hq0;have hev:=hk0.e;have htp:=hk0.t;have hlo:=hk0.b.lod;have hcp:=zG k0 ac ac;have hsm:=fQ L q0 k0 hk0.b;have n1:=nex q0 ac 8 af af;push_cast [O,U];repeat' ((first|refine ae ?_|refine pif ?_ ?_<;>intro h<;>try exact pN h)<;>push_cast [O,U])
 (refine plE [] hkn ?_ ?_<;>push_cast [O,U]);repeat' ((first|refine aK [1,2,3] hcp ?_|(refine fD rfl rfl rfl rfl aj (by simp [bp]) (an ?_))|refine aK [8,0,5,6,7] hsm ?_|(refine plc [0] (n1) ?_ ?_;push_cast [O,U];rintro r os ⟨v,⟨va,vb⟩,rfl,rfl⟩)|refine ae ?_|refine pif ?_ ?_<;>intro h<;>try exact pN h)<;>push_cast [O,U])
 obtain ⟨n,rfl⟩:∃ n:Nat,v=(n:Int):=⟨v.toNat,ac⟩
 repeat' ((first|refine ae ?_|refine pif ?_ ?_<;>intro h<;>try exact pN h)<;>push_cast [O,U])
 (apply ap (α:=Nat × Ker × Nat) 8 [] (fun x=>[(7,.c (.v (.int .i64 x.1)))]) (fun x=>[(0,tape L x.2.2),(5,jd 6 7 x.2.1),(6,jI x.2.1),(7,je x.2.1),(8,.box 49 (.ptr 0 0 :: .ptr 5 0 :: x.2.1.re))]) (fun x=>x.1≤n∧eJ (m0+(n - x.1)) x.2.1∧x.2.2≤q0+1+60 * (n - x.1)) (fun x=>x.1) ((n,k0,q0+1));(focus ((try push_cast [O,U]);rfl));(focus exact ⟨Nat.le_refl _,by simp only [Nat.sub_self];exact hk0,by simp only;omega⟩);(focus ((refine weak_fg ?_;try push_cast [O,U]);(try (rfl)))));rintro ⟨i,k,q⟩ ⟨hi,hk,hq⟩;simp only at hi hk hq;by_cases h0:0 < i
 case neg =>
  have h0':¬ (0:Int) < (i:Int):=ac;have hs1:=fQ L q k0 hk0.b;have hs2:=fQ L q k hk.b;push_cast [O,U];repeat' ((first|refine plE [4,0,1,2,3] hs1 ?_ ?_;focus (push_cast [O,U,h0'];done)|refine plE [8,0,5,6,7] hs2 ?_ ?_;focus (push_cast [O,U,h0'];done)|refine ae ?_|refine pif ?_ ?_<;>intro h<;>try exact pN h)<;>push_cast [O,U,h0'])
  exact am []
 obtain ⟨i,rfl⟩:∃ i',i=i'+1:=⟨i - 1,ac⟩
 have h0':(0:Int) < (i:Int)+1:=ac;have hev2:=hk.e;have htp2:=hk.t;obtain ⟨ix1,ix2,ix3,ix4⟩:=hk.ixs ac;have hop:=oS L q k.tree ac ix4 ix3 ix1 ix2 hL hl;push_cast [O,U];repeat' ((first|refine ae ?_|refine pif ?_ ?_<;>intro h<;>try exact pN h)<;>push_cast [O,U,h0'])
 (refine plc [0] (hop) ?_ ?_;push_cast [O,U];rintro r os ⟨op,q2,ho,hq2,rfl,rfl⟩;push_cast [O,U]);have hdo:=jm L q2 k op hk.b ho ac ac;have hk2:=hk.do ac op;obtain ⟨k2,hke⟩:∃ k2,(bM k op).1=k2:=⟨_,rfl⟩
 rw [hke] at hdo hk2;repeat' ((first|(refine eZ 3 [8,0,5,6,7] (hdo) ?_ ?_;push_cast [O,U];rintro r os ⟨rfl,rfl⟩)|refine ae ?_|refine pif ?_ ?_<;>intro h<;>try exact pN h)<;>push_cast [O,U])
 exact ⟨(i,k2,q2),⟨by simp only;omega,by simp only;rw [show m0+(n - i)=m0+(n - (i+1))+1 by omega];exact hk2,by simp only;omega⟩,aA,by simp only;omega⟩
end
end Go.Proofs.YtmbbkfffcflfcaaGreatDoor
