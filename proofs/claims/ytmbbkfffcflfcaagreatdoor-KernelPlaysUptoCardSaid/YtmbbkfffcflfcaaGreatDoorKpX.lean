import Derived.Test.YtmbbkfffcflfcaaGreatDoorRows
import Derived.Test.YtmbbkfffcflfcaaGreatDoorT45
namespace Go.Proofs.YtmbbkfffcflfcaaGreatDoor
open Go.Proofs.Tryz
set_option linter.unusedSimpArgs false
set_option linter.unusedVariables false
section
open Go.RowKit
open IntWalk renaming iteOmega → O, toNatUp → U
theorem nV (b:Bool):(if (!b)=true then (1:Nat) else 0)=if b=true then 0 else 1:=by cases b<;>rfl
attribute [push_cast] nV
section
variable {rd:Option Nat} {P:Program} {N p:Nat} {Q:Exit → S → Prop} {s:S} {o:Oper} {ops:Array Oper} {rest:List Oper} {K:S → Prop} {fuel:Nat} {listed:Array Bool}
theorem lh (c:Prop) [Decidable c] (f g:S → Prop) (s:S):sel (if c then 0 else 1) f g s=sel (if c then 1 else 0) g f s:=by by_cases h:c<;>simp [h,mX,kJ]
end
attribute [push_cast] lh
end
section
attribute [local irreducible] PL QL aL ah bg La aV PA
open Go.RowKit
open IntWalk renaming iteOmega → O, toNatUp → U
set_option maxRecDepth 20000
theorem zF {a b:Atr} (h1:a.name=b.name) (h2:a.value=b.value):a=b:=by
 cases a;cases b;simp only at h1 h2;rw [h1,h2]
set_option maxHeartbeats 2000000 in
theorem ib (a b:List Atr) (ha:a.length≤9223372036854775807) (hb:b.length≤9223372036854775807) :
  ah prog 122 [.c (.sl 2 (a.map Atr.d)),.c (.sl 2 (b.map Atr.d))] [] fun r os=>r = .c (.v (.bool (decide (a=b))))∧os=[]:=by
 refine aw func122 ntmps122 results122 ?_;push_cast [O,U];have cB:aH 6 []:=trivial;by_cases hl:a.length=b.length
 case neg =>
  have hn:decide (a=b)=false:=decide_eq_false fun e=>hl (by rw [e])
  have hl2:¬ (a.length:Int)=(b.length:Int):=ac;repeat' ((first|refine ae ?_|refine pif ?_ ?_<;>intro h<;>try exact pN h)<;>push_cast [O,U,hl,hl2])
  (refine K9 [] ?_;push_cast [O,U,hn])
 have hl2:(a.length:Int)=(b.length:Int):=ac;repeat' ((first|refine ae ?_|refine pif ?_ ?_<;>intro h<;>try exact pN h)<;>push_cast [O,U,hl,hl2])
 (apply ap (α:=Nat) 6 [] (fun k=>[(5,.c (.v (.int .i64 k)))]) (fun k=>[]) (fun k=>k≤a.length∧a.take k=b.take k) (fun k=>a.length - k) (0);(focus ((try push_cast [O,U]);rfl));(focus exact ⟨Nat.zero_le _,rfl⟩);(focus ((refine weak_fg ?_;try push_cast [O,U]))));rintro k ⟨hk,hpre⟩;push_cast [O,U];by_cases hlt:k < a.length
 ·have hlt':k < b.length:=ac;by_cases h1:(a.getD k default).name=(b.getD k default).name
  ·by_cases h2:(a.getD k default).value=(b.getD k default).value
   ·have he:=zF h1 h2;repeat' ((first|refine ae ?_|refine pif ?_ ?_<;>intro h<;>try exact pN h)<;>push_cast [O,U,h1,h2])
    refine ⟨k+1,⟨ac,?_⟩,aA,ac⟩;rw [List.take_succ_eq_append_getElem hlt,List.take_succ_eq_append_getElem hlt',hpre,← ai a hlt,← ai b hlt',he]
   ·have hn:decide (a=b)=false:=decide_eq_false fun e=>h2 (by rw [e])
    repeat' ((first|refine ae ?_|refine pif ?_ ?_<;>intro h<;>try exact pN h)<;>push_cast [O,U,h1,h2])
    (refine K9 [] ?_;push_cast [O,U,hn])
  ·have hn:decide (a=b)=false:=decide_eq_false fun e=>h1 (by rw [e])
   repeat' ((first|refine ae ?_|refine pif ?_ ?_<;>intro h<;>try exact pN h)<;>push_cast [O,U,h1])
   (refine K9 [] ?_;push_cast [O,U,hn])
 ·have hn:decide (a=b)=true:=decide_eq_true (by
   have:=hpre
   rwa [List.take_of_length_le ac,List.take_of_length_le ac] at this)
  repeat' ((first|refine ae ?_|refine pif ?_ ?_<;>intro h<;>try exact pN h)<;>push_cast [O,U])
  (refine K9 [] ?_;push_cast [O,U,hn])
end
section
attribute [local irreducible] PL QL aL ah bg La aV PA
open Go.RowKit
open IntWalk renaming iteOmega → O, toNatUp → U
set_option maxRecDepth 20000
set_option maxRecDepth 10000 in
set_option maxHeartbeats 8000000 in
theorem jS (a b:Dev) (ha:a.attrs.length≤9223372036854775807) (hb:b.attrs.length≤9223372036854775807) :
  ah prog 69 [.agg a.e,.agg b.e] [] fun r os=>r = .c (.v (.bool (decide (a=b))))∧os=[]:=by
 refine aw func69 ntmps69 results69 ?_;rcases a with ⟨a1,a2,a3,a4,a5,a6,a7,a8,a9,al⟩
 rcases b with ⟨b1,b2,b3,b4,b5,b6,b7,b8,b9,bl⟩;simp only at ha hb;push_cast [O,U];by_cases e1:a1=b1
 case neg =>
  repeat' ((first|refine au ?_|refine pif ?_ ?_<;>intro h<;>try exact pN h)<;>push_cast [O,U,e1])
  (refine K9 [] ?_;push_cast [O,U]);simp [e1]
 subst e1;by_cases e2:a2=b2
 case neg =>
  repeat' ((first|refine au ?_|refine pif ?_ ?_<;>intro h<;>try exact pN h)<;>push_cast [O,U,e2])
  (refine K9 [] ?_;push_cast [O,U]);simp [e2]
 subst e2;by_cases e3:a3=b3
 case neg =>
  repeat' ((first|refine au ?_|refine pif ?_ ?_<;>intro h<;>try exact pN h)<;>push_cast [O,U,e3])
  (refine K9 [] ?_;push_cast [O,U]);simp [e3]
 subst e3;by_cases e4:a4=b4
 case neg =>
  repeat' ((first|refine au ?_|refine pif ?_ ?_<;>intro h<;>try exact pN h)<;>push_cast [O,U,e4])
  (refine K9 [] ?_;push_cast [O,U]);simp [e4]
 subst e4;by_cases e5:a5=b5
 case neg =>
  repeat' ((first|refine au ?_|refine pif ?_ ?_<;>intro h<;>try exact pN h)<;>push_cast [O,U,e5])
  (refine K9 [] ?_;push_cast [O,U]);simp [e5]
 subst e5;by_cases e6:a6=b6
 case neg =>
  repeat' ((first|refine au ?_|refine pif ?_ ?_<;>intro h<;>try exact pN h)<;>push_cast [O,U,e6])
  (refine K9 [] ?_;push_cast [O,U]);simp [e6]
 subst e6;by_cases e7:a7=b7
 case neg =>
  repeat' ((first|refine au ?_|refine pif ?_ ?_<;>intro h<;>try exact pN h)<;>push_cast [O,U,e7])
  (refine K9 [] ?_;push_cast [O,U]);simp [e7]
 subst e7;by_cases e8:a8=b8
 case neg =>
  repeat' ((first|refine au ?_|refine pif ?_ ?_<;>intro h<;>try exact pN h)<;>push_cast [O,U,e8])
  (refine K9 [] ?_;push_cast [O,U]);simp [e8]
 subst e8;by_cases e9:a9=b9
 case neg =>
  repeat' ((first|refine au ?_|refine pif ?_ ?_<;>intro h<;>try exact pN h)<;>push_cast [O,U,e9])
  (refine K9 [] ?_;push_cast [O,U]);simp [e9]
 subst e9;repeat' ((first|refine aK [] (ib al bl ha hb) ?_|refine au ?_|refine pif ?_ ?_<;>intro h<;>try exact pN h)<;>push_cast [O,U])
 (refine K9 [] ?_;push_cast [O,U]);simp
theorem ic (a b:List ByteArray) (ha:a.length≤1000000000) (hb:b.length≤1000000000) :
  ah prog 37 [.c (.sl 1 (a.map aU)),.c (.sl 1 (b.map aU))] [] fun r os=>r = .c (.v (.bool (decide (a=b))))∧os=[]:=by
 refine aw func37 ntmps37 results37 ?_;push_cast [O,U];by_cases hl:a.length=b.length
 ·repeat' ((first|refine au ?_|refine pif ?_ ?_<;>intro h<;>try exact pN h)<;>push_cast [O,U])
  refine dh (α:=Nat) (fun k=>k≤a.length∧a.take k=b.take k) (fun k=>⟨[(5,.c (.v (.int .i64 k))),(0,.c (.sl 1 (a.map aU))),(1,.c (.sl 1 (b.map aU)))],[]⟩) (fun k=>a.length - k) 0 ⟨ac,by simp⟩ aA ?_;rintro k ⟨hk,hpre⟩;by_cases hlt:k < a.length
  ·have hlt':k < b.length:=ac;have e1:=ai a hlt;have e2:=ai b hlt';repeat' ((first|refine au ?_|refine pif ?_ ?_<;>intro h<;>try exact pN h)<;>push_cast [O,U])
   ·(refine K9 [] ?_;push_cast [O,U]);rw [e1,e2] at h;have:¬ a=b:=fun e=>by subst e;simp at h
    simp [this]
   ·refine ⟨k+1,⟨ac,?_⟩,aA,ac⟩;rw [e1,e2] at h;have h':a[k]=b[k]:=by simpa using h
    rw [List.take_succ_eq_append_getElem hlt,List.take_succ_eq_append_getElem hlt',hpre,h']
  ·rw [List.take_of_length_le ac,List.take_of_length_le ac] at hpre;repeat' ((first|refine au ?_|refine pif ?_ ?_<;>intro h<;>try exact pN h)<;>push_cast [O,U])
   (refine K9 [] ?_;push_cast [O,U]);simp [hpre]
 ·have:¬ a=b:=fun e=>hl (by rw [e])
  repeat' ((first|refine au ?_|refine pif ?_ ?_<;>intro h<;>try exact pN h)<;>push_cast [O,U])
  (refine K9 [] ?_;push_cast [O,U]);simp [this]
end
section
attribute [local irreducible] PL QL aL ah bg La aV PA
open Go.RowKit
open IntWalk renaming iteOmega → O, toNatUp → U
set_option maxRecDepth 20000
set_option maxHeartbeats 4000000 in
theorem iN (a b:List Dev) (ha:a.length≤1000000000) (hb:b.length≤1000000000) (hda:∀ d ∈ a,d.attrs.length≤1000000000) (hdb:∀ d ∈ b,d.attrs.length≤1000000000) :
  ah prog 36 [.agg (trE a),.agg (trE b)] [] fun r os=>r = .c (.v (.bool (decide (a=b))))∧os=[]:=by
 refine aw func36 ntmps36 results36 ?_;push_cast [O,U];have cB:aH 6 []:=trivial;by_cases hl:a.length=b.length
 case neg =>
  have hne:a≠b:=fun e=>hl (by rw [e])
  have hl2:¬ (a.length:Int)=(b.length:Int):=ac;repeat' ((first|refine ae ?_|refine pif ?_ ?_<;>intro h<;>try exact pN h)<;>push_cast [O,U,hl2])
  (refine K9 [] ?_;push_cast [O,U,hne])
 have hl2:(a.length:Int)=(b.length:Int):=ac;have hl3:((b.length:Int)≠(b.length:Int))=False:=by simp
 repeat' ((first|refine ae ?_|refine pif ?_ ?_<;>intro h<;>try exact pN h)<;>push_cast [O,U,hl2,hl3])
 (apply ap (α:=Nat) 6 [] (fun k=>[(5,.c (.v (.int .i64 k)))]) (fun k=>[]) (fun k=>k≤a.length∧a.take k=b.take k) (fun k=>a.length - k) (0);(focus ((try push_cast [O,U]);rfl));(focus exact ⟨ac,by simp⟩);(focus ((refine weak_fg ?_;try push_cast [O,U]))));rintro k ⟨hk,hpre⟩;push_cast [O,U];by_cases hlt:k < a.length
 ·have hlt':k < b.length:=ac;have hm1:a.getD k default ∈ a:=by rw [ai a hlt];exact List.getElem_mem _
  have hm2:b.getD k default ∈ b:=by rw [ai b hlt'];exact List.getElem_mem _
  have hc:=jS (a.getD k default) (b.getD k default) (by have:=hda _ hm1;omega) (by have:=hdb _ hm2;omega);have hlt2:(k:Int) < (b.length:Int):=ac;by_cases he:a.getD k default=b.getD k default
  ·rw [decide_eq_true he] at hc;have hp:a.take (k+1)=b.take (k+1):=by
    rw [ai a hlt,ai b hlt'] at he;rw [List.take_succ_eq_append_getElem hlt,List.take_succ_eq_append_getElem hlt',hpre,he]
   repeat' ((first|(refine aQ false rfl rfl aj (hc) (fun r os h=>h.1) rfl ?_ ?_;push_cast [O,U,hl2,hlt2,hlt'];refine aD ?_;push_cast [O,U,hl2,hlt2,hlt'])|refine ae ?_|refine pif ?_ ?_<;>intro h<;>try exact pN h)<;>push_cast [O,U,hl2,hlt2,hlt'])
   exact ⟨k+1,⟨ac,hp⟩,aA,ac⟩
  ·rw [decide_eq_false he] at hc;have hne:a≠b:=fun e=>he (by rw [e])
   repeat' ((first|(refine aQ false rfl rfl aj (hc) (fun r os h=>h.1) rfl ?_ ?_;push_cast [O,U,hl2,hlt2,hlt'];refine aD ?_;push_cast [O,U,hl2,hlt2,hlt'])|refine ae ?_|refine pif ?_ ?_<;>intro h<;>try exact pN h)<;>push_cast [O,U,hl2,hlt2,hlt'])
   (refine K9 [] ?_;push_cast [O,U,hne])
 ·rw [List.take_of_length_le ac,List.take_of_length_le ac] at hpre;have hk2:k=b.length:=ac;subst hk2;repeat' ((first|refine ae ?_|refine pif ?_ ?_<;>intro h<;>try exact pN h)<;>push_cast [O,U,hl2])
  (refine K9 [] ?_;push_cast [O,U,hpre])
theorem sj {a b:Evt} (h1:a.seq=b.seq) (h2:a.act=b.act) (h3:a.idx=b.idx) (h4:a.path=b.path) (h5:a.old=b.old):a=b:=by
 cases a;cases b;simp only at h1 h2 h3 h4 h5;rw [h1,h2,h3,h4,h5]
set_option maxHeartbeats 4000000 in
theorem fo (a b:List Evt) (ha:a.length≤1000000000) (hb:b.length≤1000000000) :
  ah prog 30 [.c (.sl 5 (a.map Evt.d)),.c (.sl 5 (b.map Evt.d))] [] fun r os=>r = .c (.v (.bool (decide (a=b))))∧os=[]:=by
 refine aw func30 ntmps30 results30 ?_;push_cast [O,U];have cB:aH 6 []:=trivial;by_cases hl:a.length=b.length
 case neg =>
  have hne:a≠b:=fun e=>hl (by rw [e])
  have hl2:¬ (a.length:Int)=(b.length:Int):=ac;repeat' ((first|refine ae ?_|refine pif ?_ ?_<;>intro h<;>try exact pN h)<;>push_cast [O,U,hl2])
  (refine K9 [] ?_;push_cast [O,U,hne])
 have hl2:(a.length:Int)=(b.length:Int):=ac;have hl3:((b.length:Int)≠(b.length:Int))=False:=by simp
 repeat' ((first|refine ae ?_|refine pif ?_ ?_<;>intro h<;>try exact pN h)<;>push_cast [O,U,hl2,hl3])
 (apply ap (α:=Nat) 6 [] (fun k=>[(5,.c (.v (.int .i64 k)))]) (fun k=>[]) (fun k=>k≤a.length∧a.take k=b.take k) (fun k=>a.length - k) (0);(focus ((try push_cast [O,U]);rfl));(focus exact ⟨ac,by simp⟩);(focus ((refine weak_fg ?_;try push_cast [O,U]))));rintro k ⟨hk,hpre⟩;push_cast [O,U];by_cases hlt:k < a.length
 ·have hlt':k < b.length:=ac;have hlt2:(k:Int) < (b.length:Int):=ac;by_cases he:a.getD k default=b.getD k default
  ·have hp:a.take (k+1)=b.take (k+1):=by
    rw [ai a hlt,ai b hlt'] at he;rw [List.take_succ_eq_append_getElem hlt,List.take_succ_eq_append_getElem hlt',hpre,he]
   repeat' ((first|refine ae ?_|refine pif ?_ ?_<;>intro h<;>try exact pN h)<;>push_cast [O,U,hl2,hlt2,hlt',he])
   all_goals first
    | exact ⟨k+1,⟨ac,hp⟩,aA,ac⟩
    | (exfalso;simp at h)
  ·have hne:a≠b:=fun e=>he (by rw [e])
   repeat' ((first|refine ae ?_|refine pif ?_ ?_<;>intro h<;>try exact pN h)<;>push_cast [O,U,hl2,hlt2,hlt'])
   all_goals first
    | (refine K9 [] ?_;push_cast [O,U,hne];done)
    | (exfalso;apply he;simp only [Bool.and_eq_true,decide_eq_true_eq] at h;exact sj h.1 h.2.1 h.2.2.1 h.2.2.2.1 h.2.2.2.2)
 ·rw [List.take_of_length_le ac,List.take_of_length_le ac] at hpre;have hk2:k=b.length:=ac;subst hk2;repeat' ((first|refine ae ?_|refine pif ?_ ?_<;>intro h<;>try exact pN h)<;>push_cast [O,U,hl2])
  (refine K9 [] ?_;push_cast [O,U,hpre])
end
section
attribute [local irreducible] PL QL aL ah bg La aV PA bm
open Go.RowKit
open IntWalk renaming iteOmega → O, toNatUp → U
set_option maxRecDepth 20000
theorem jT (k:Ker) (hl:k.loaded.length≤1000000):ah prog 22 [.c (.ptr 0 0)] (bI k) fun r os=>r = .c (.sl 1 (k.loaded.map aU))∧os=bI k:=by
 have hc:=eY k.loaded ac;have htk:=List.take_of_length_le (l:=k.loaded.map aU) (i:=k.loaded.length) (by simp);refine aw func22 ntmps22 results22 ?_;push_cast [O,U];repeat' ((first|(refine aW true [] rfl rfl aj (hc) ?_ ?_ ?_;push_cast [O,U,htk];(intro _ r os;rintro ⟨rfl,rfl⟩;push_cast [O,U,htk]);rintro r os ⟨rfl,rfl⟩;refine an ?_)|refine au ?_|refine pif ?_ ?_<;>intro h<;>try exact pN h)<;>push_cast [O,U,htk])
 (refine K9 [0,1,2] ?_;push_cast [O,U,htk])
theorem ig (k:Ker):ah prog 32 [.c (.ptr 0 0)] (bI k) fun r os=>r = .c (.v (.int .i64 k.evs.length))∧os=bI k:=by
 refine aw func32 ntmps32 results32 ?_;push_cast [O,U];repeat' ((first|refine au ?_|refine pif ?_ ?_<;>intro h<;>try exact pN h)<;>push_cast [O,U])
 exact am [0,1,2]
end
section
attribute [local irreducible] PL QL aL ah bg La aV PA bm
open Go.RowKit
open IntWalk renaming iteOmega → O, toNatUp → U
set_option maxRecDepth 20000
set_option maxHeartbeats 8000000 in
theorem fQ (L:List Int) (q:Nat) (k:Ker) (hB:bL k) :
  ah prog 29 [.c (.ptr 0 0)] (pbO L q k) fun r os=>r = .c (.v (.bool true))∧os=pbO L q k:=by
 have hlo:=hB.lod;have hkl:=hB.len;have hev:=hB.evl;have hkt:=fO k hB.inv.tree;have hst:=iN k.tree k.tree ac ac hB.att hB.att;have hld:=jT k ac;have htx:=ic k.loaded k.loaded ac ac;have hE:=dV k 0 af ac;have hse:=fo k.evs k.evs ac ac;have hla:=ig k;rw [show dx k 0=0 from rfl,List.drop_zero] at hE;rw [decide_eq_true rfl] at hst htx hse;refine aw func29 ntmps29 results29 ?_;push_cast [O,U];have cB:aH 3 []:=trivial;repeat' ((first|(refine eQ 1 ?_)|refine ae ?_|refine pif ?_ ?_<;>intro h<;>try exact pN h)<;>push_cast [O,U])
 refine dd ?_;(refine av 3 [] ?_;refine aO aj ?_;simp only [aP,Nat.reduceAdd];refine pah 0 ?_;push_cast [O,U];refine pah 1 ?_;push_cast [O,U];refine pah 2 ?_;push_cast [O,U];refine pah 5 ?_;push_cast [O,U];refine pah 6 ?_;push_cast [O,U];refine pah 7 ?_;push_cast [O,U];refine pah 8 ?_;push_cast [O,U];apply ar;intro z23;apply ar;intro z22;apply ar;intro z20;apply ar;intro z21;apply ar;intro z19;apply ar;intro z18;apply ar;intro z17;apply ar;intro z15;apply ar;intro z16;apply ar;intro z13;apply ar;intro z14;apply ar;intro z12;apply ar;intro z11;apply ar;intro z9;apply ar;intro z10;apply ar;intro z7;apply ar;intro z8;apply ar;intro z6;apply ar;intro z5;apply ar;intro z3;apply ar;intro z4;apply ar;intro z1;apply ar;intro z2;refine pas [3,9] ?_;push_cast [O,U];refine ⟨z1,z2⟩;refine pas [3] ?_;push_cast [O,U];refine z4;refine pas [4,9] ?_;push_cast [O,U];refine ⟨?_,?_⟩;(focus ((refine plE [2,3,4] hkt ?_ ?_;(focus (push_cast [O,U];done));push_cast [O,U]);exact z3));(focus (refine paw z4 ?_;refine weak_fg ?_;push_cast [O,U]));refine pas [4] ?_;push_cast [O,U];(focus ((refine plE [2,3,4] hkt ?_ ?_;(focus (push_cast [O,U];done));push_cast [O,U]);exact z5));refine pas [9] ?_;push_cast [O,U];refine paw z5 ?_<;>(refine weak_fg ?_;push_cast [O,U]);refine pas [10] ?_;push_cast [O,U];(focus ((refine plE [] hst ?_ ?_;(focus (push_cast [O,U];done));push_cast [O,U]);refine pah 11 ?_;push_cast [O,U];refine pah 12 ?_;push_cast [O,U];refine pah 13 ?_;push_cast [O,U];refine pah 14 ?_;push_cast [O,U];refine pah 17 ?_;push_cast [O,U];refine pah 18 ?_;push_cast [O,U];refine pah 19 ?_;push_cast [O,U];refine pah 20 ?_;push_cast [O,U];exact z6));refine pas [15,21] ?_;push_cast [O,U];refine ⟨z7,z8⟩;refine pas [15] ?_;push_cast [O,U];refine z10;refine pas [16,21] ?_;push_cast [O,U];refine ⟨?_,?_⟩;(focus ((refine plE [2,3,4] hld ?_ ?_;(focus (push_cast [O,U];done));push_cast [O,U]);exact z9));(focus (refine paw z10 ?_;refine weak_fg ?_;push_cast [O,U]));refine pas [16] ?_;push_cast [O,U];(focus ((refine plE [2,3,4] hld ?_ ?_;(focus (push_cast [O,U];done));push_cast [O,U]);exact z11));refine pas [21] ?_;push_cast [O,U];refine paw z11 ?_<;>(refine weak_fg ?_;push_cast [O,U]);refine pas [22] ?_;push_cast [O,U];(focus ((refine plE [] htx ?_ ?_;(focus (push_cast [O,U];done));push_cast [O,U]);refine pah 23 ?_;push_cast [O,U];refine pah 24 ?_;push_cast [O,U];refine pah 25 ?_;push_cast [O,U];refine pah 26 ?_;push_cast [O,U];refine pah 27 ?_;push_cast [O,U];refine pah 30 ?_;push_cast [O,U];refine pah 31 ?_;push_cast [O,U];refine pah 32 ?_;push_cast [O,U];refine pah 33 ?_;push_cast [O,U];exact z12));refine pas [28,34] ?_;push_cast [O,U];refine ⟨z13,z14⟩;refine pas [28] ?_;push_cast [O,U];refine z16;refine pas [29,34] ?_;push_cast [O,U];refine ⟨?_,?_⟩;(focus ((refine plE [2,3,4] hE ?_ ?_;(focus (push_cast [O,U];done));push_cast [O,U]);exact z15));(focus (refine paw z16 ?_;refine weak_fg ?_;push_cast [O,U]));refine pas [29] ?_;push_cast [O,U];(focus ((refine plE [2,3,4] hE ?_ ?_;(focus (push_cast [O,U];done));push_cast [O,U]);exact z17));refine pas [34] ?_;push_cast [O,U];refine paw z17 ?_<;>(refine weak_fg ?_;push_cast [O,U]);refine pas [35] ?_;push_cast [O,U];(focus ((refine plE [] hse ?_ ?_;(focus (push_cast [O,U];done));push_cast [O,U]);refine pah 36 ?_;push_cast [O,U];refine pah 37 ?_;push_cast [O,U];refine pah 38 ?_;push_cast [O,U];refine pah 39 ?_;push_cast [O,U];refine pah 40 ?_;push_cast [O,U];refine pah 43 ?_;push_cast [O,U];refine pah 44 ?_;push_cast [O,U];refine pah 45 ?_;push_cast [O,U];refine pah 46 ?_;push_cast [O,U];exact z18));refine pas [41,47] ?_;push_cast [O,U];refine ⟨?_,?_⟩;(focus (exact z19));(focus (refine pah 48 ?_;push_cast [O,U];exact z20));refine pas [42,47] ?_;push_cast [O,U];refine ⟨?_,?_⟩;(focus ((refine plE [2,3,4] hla ?_ ?_;(focus (push_cast [O,U];done));push_cast [O,U]);exact z21));(focus (refine pah 48 ?_;push_cast [O,U];exact z22));refine pas [47] ?_;push_cast [O,U];(focus (refine pah 48 ?_;push_cast [O,U];refine pah 49 ?_;push_cast [O,U];refine pah 50 ?_;push_cast [O,U];refine pah 51 ?_;push_cast [O,U];exact paw z23 (ao 3 [] _)));refine pas [41] ?_;push_cast [O,U];refine paw z22 ?_<;>(refine weak_fg ?_;push_cast [O,U]);refine pas [42] ?_;push_cast [O,U];(focus ((refine plE [2,3,4] hla ?_ ?_;(focus (push_cast [O,U];done));push_cast [O,U]);refine pah 49 ?_;push_cast [O,U];refine pah 50 ?_;push_cast [O,U];refine pah 51 ?_;push_cast [O,U];refine paw z23 ?_;refine weak_fg ?_;push_cast [O,U]));push_cast [O,U];refine pad ?_;push_cast [O,U]);repeat' ((first|refine ae ?_|refine pif ?_ ?_<;>intro h<;>try exact pN h)<;>push_cast [O,U])
 exact am [0,1,2,3,4]
end
section
attribute [local irreducible] PL QL aL ah bg La aV PA
open Go.RowKit
open IntWalk renaming iteOmega → O, toNatUp → U
set_option maxRecDepth 20000
theorem xU {l:List Evt} (hE:EvN l) {n:Int} {s:Nat} (hs:s≤l.length) (h:∀ i,i < l.length → (n < (i:Int)+1 ↔ s≤i)):(l.filter fun e=>decide (n < e.seq))=l.drop s:=by
 have hq:∀ i (hi:i < l.length),l[i].seq=(i:Int)+1:=fun i hi=>by have:=hE i hi;rwa [ai l hi] at this
 conv=>lhs;rw [← List.take_append_drop s l]
 rw [List.filter_append,List.filter_eq_nil_iff.2,List.filter_eq_self.2,List.nil_append]
 ·intro x hx;obtain ⟨i,hi,rfl⟩:=List.mem_iff_getElem.1 hx;rw [List.length_drop] at hi;rw [List.getElem_drop,hq,decide_eq_true_eq];exact (h (s+i) ac).2 ac
 ·intro x hx;obtain ⟨i,hi,rfl⟩:=List.mem_iff_getElem.1 hx;rw [List.length_take] at hi;rw [List.getElem_take,hq,decide_eq_true_eq];intro h2;have:=(h i ac).1 h2;omega
theorem vC {k:Ker} (hE:EvN k.evs) (n:Int):(k.evs.filter fun e=>decide (n < e.seq))=k.evs.drop (dx k n):=by
 refine xU hE ?_ fun i hi=>?_
 ·unfold dx;split
  ·omega
  ·split<;>omega
 ·unfold dx;split
  ·omega
  ·split<;>omega
def qb (k:Ker) (n:Int) (i:Nat):List Evt:=(k.evs.take i).filter fun e=>decide (n < e.seq)
theorem Ge {k:Ker} {n:Int} {i:Nat} (hi:i < k.evs.length) (h:n < (k.evs.getD i default).seq):qb k n (i+1)=qb k n i++[k.evs.getD i default]:=by
 unfold qb;rw [List.take_succ_eq_append_getElem hi,List.filter_append];rw [ai _ hi] at h ⊢;simp [h]
theorem Il {k:Ker} {n:Int} {i:Nat} (hi:i < k.evs.length) (h:¬ n < (k.evs.getD i default).seq):qb k n (i+1)=qb k n i:=by
 unfold qb;rw [List.take_succ_eq_append_getElem hi,List.filter_append];rw [ai _ hi] at h;simp [h]
theorem Gf (k:Ker) (n:Int) (i:Nat):(qb k n i).length≤i:=by
 unfold qb;have h1:=List.length_filter_le (fun e:Evt=>decide (n < e.seq)) (k.evs.take i);rw [List.length_take] at h1;omega
set_option maxHeartbeats 4000000 in
theorem xW (k:Ker) (n:Int) (hB:bL k):ah prog 31 [.agg k.re,.c (.v (.int .i64 n))] [] fun r os=>r = .c (.sl 5 ((k.evs.drop (dx k n)).map Evt.d))∧os=[]:=by
 have hev:=hB.evl;have hsf:=vC hB.inv.evn n;refine aw func31 ntmps31 results31 ?_;push_cast [O,U];have cB:aH 7 []:=trivial;repeat' ((first|refine ae ?_|refine pif ?_ ?_<;>intro h<;>try exact pN h)<;>push_cast [O,U])
 refine aF (dm 5 69 5 ac (by push_cast [O,U])) ?_;push_cast [O,U];(apply ap (α:=Nat) 7 [] (fun i=>[(6,.c (.v (.int .i64 i))),(5,.c (.own 1 ((qb k n i).length)))]) (fun i=>[(1,.arr 69 5 ((qb k n i).map Evt.d))]) (fun i=>i≤k.evs.length) (fun i=>k.evs.length - i) (0);(focus ((try push_cast [O,U]);rfl));(focus exact (Nat.zero_le _));(focus ((refine weak_fg ?_;try push_cast [O,U]);(try (exact ⟨rfl,rfl⟩)))));intro i hi;push_cast [O,U];by_cases hlt:i < k.evs.length
 ·have hsl:=Gf k n i;by_cases hq:n < (k.evs.getD i default).seq
  ·have he:=Ge hlt hq;repeat' ((first|refine ae ?_|refine pif ?_ ?_<;>intro h<;>try exact pN h)<;>push_cast [O,U,hq])
   exact ⟨i+1,ac,by (refine weak_fg ?_;push_cast [O,U,he]),ac⟩
  ·have he:=Il hlt hq;repeat' ((first|refine ae ?_|refine pif ?_ ?_<;>intro h<;>try exact pN h)<;>push_cast [O,U,hq])
   exact ⟨i+1,ac,by (refine weak_fg ?_;push_cast [O,U,he]),ac⟩
 ·have he:qb k n i=k.evs.drop (dx k n):=by unfold qb;rw [List.take_of_length_le ac];exact hsf
  rw [he];repeat' ((first|refine ae ?_|refine pif ?_ ?_<;>intro h<;>try exact pN h)<;>push_cast [O,U])
  exact am []
end
section
open Go.ChangeShapes Go.WideShapes Go.ChangeAt Go.RowKit
mutual
def bkD:D → Nat
 | .v (.string s)=>s.size+1
 | .v _=>1
 | .sl _ rows=>bkRs rows+1
def bkR:List D → Nat
 | []=>0
 | d :: r=>bkD d+bkR r
def bkRs:List (List D) → Nat
 | []=>0
 | r :: rs=>bkR r+bkRs rs
end
theorem sk:∀ a b:List D,bkR (a++b)=bkR a+bkR b
 | [],b=>by simp [bkR]
 | d :: a,b=>by rw [List.cons_append,bkR,bkR,sk a b];omega
theorem zI {H:Type} {enc:TypeId × Value → H} {P:Program} {W:World} {t e:TypeId} {size fuel:Nat} {A:Option Addr} {n c:Nat} {x:DataW H × List MemPlace}
  (ht:P.underlying t=some (.slice e)) (hC:P.cellsOf e=size) (hp:0 < size) (h:DataW.trod enc P W 0 (fun _=>true) true fuel t [.slice A n c]=some x) :
  ∃ (F:Nat → List Value) (Dd:Nat → DataW H),((x.1 = .nil∧n=0)∨∃ sp,x.1 = .slice ((List.range n).map Dd) sp)∧n≤c∧c≤maxLen∧(∀ i,i < n → (F i).length=size∧∃ m y,DataW.trod enc P W 0 (fun _=>true) true m e (F i)=some y∧y.1=Dd i) ∧
   Rd W (fun _=>True) size A n ((List.range n).flatMap F):=by
 rcases Go.Deep.open_slice ht h with ⟨hcs,hx0⟩|⟨a,len,cap,m,fu,D,Pl,hcs,_,hl,hm,hmm,hx0,hi⟩
 ·simp at hcs;obtain ⟨rfl,rfl,rfl⟩:=hcs;exact ⟨fun _=>[],fun _=>.nil,.inl ⟨by rw [hx0],rfl⟩,Nat.le_refl _,by simp [maxLen],fun i hi=>absurd hi ac,by simpa using Rd.nil⟩
 ·simp at hcs;obtain ⟨rfl,rfl,rfl⟩:=hcs;simp only [if_true] at hmm;subst hmm;obtain ⟨F,hF⟩:=Go.Deep.choose_lt (n:=n) (p:=fun i (cs':List Value)=>W.cells? 0 (a.add (i * P.cellsOf e)) (P.cellsOf e)=some cs'∧DataW.trod enc P W 0 (fun _=>true) true fu e cs'=some (D i,Pl i))
   (fun i h=>hi i ac)
  have hlen:∀ i,i < n → (F i).length=size:=fun i h=>by
   have:=(World.cells?_some (hF i h).1).2.1;rw [this,hC]
  have hflat:∀ k,k≤n → ((List.range k).flatMap F).length=k * size:=by
   intro k;induction k with
   | zero=>intro _;simp
   | succ k ih =>
    intro hk;rw [List.range_succ,List.flatMap_append,List.length_append,ih ac];simp [hlen k ac,Nat.add_mul]
  refine ⟨F,D,.inr ⟨_,by rw [hx0]⟩,hl,hm,fun i h=>⟨hlen i h,fu,_,(hF i h).2,rfl⟩,hflat n (Nat.le_refl _),fun hn=>?_⟩;have hcell:∀ i,i < n → ∀ j,j < size → W.cell? ((a.add (i * size)).add j)=(F i)[j]?:=fun i h j hj=>by
   have h1:=(World.cells?_some (hF i h).1).2.2 j (by rw [hC];exact hj);rw [hC] at h1;exact h1
  have hget:∀ k,k≤n → ∀ j,((List.range k).flatMap F)[j]? = if j < k * size then (F (j / size))[j % size]? else none:=by
   intro k;induction k with
   | zero=>intro _ j;simp
   | succ k ih =>
    intro hk j;rw [List.range_succ,List.flatMap_append];by_cases hj:j < k * size
    ·rw [List.getElem?_append_left (by rw [hflat k ac];exact hj),ih ac,if_pos hj,if_pos (by rw [Nat.add_mul];omega)]
    ·rw [List.getElem?_append_right (by rw [hflat k ac];omega),hflat k ac];simp only [List.flatMap_cons,List.flatMap_nil,List.append_nil];by_cases hj2:j < (k+1) * size
     ·have hj3:j - k * size < size:=by rw [Nat.add_mul] at hj2;omega
      have e1:j / size=k:=by
       rw [show j=(j - k * size)+k * size by omega,Nat.add_mul_div_right _ _ hp,Nat.div_eq_of_lt hj3];omega
      have e2:j % size=j - k * size:=by
       conv=>lhs;rw [show j=(j - k * size)+k * size by omega]
       rw [Nat.add_mul_mod_self_right,Nat.mod_eq_of_lt hj3]
      rw [if_pos hj2,e1,e2]
     ·rw [if_neg hj2,List.getElem?_eq_none (by rw [hlen k ac];rw [Nat.add_mul] at hj2;omega)]
  obtain ⟨b,off,spot⟩:=a;have h0:=hcell 0 ac 0 hp;have hs:spot=none:=by
   have hx:(F 0)[0]? = some ((F 0)[0]'(by rw [hlen 0 ac];exact hp)):=List.getElem?_eq_getElem _;rw [hx] at h0;simpa [Addr.add] using World.cell?_spot h0
  subst hs;have h0b:b < W.heap.size:=by
   have hx:(F 0)[0]? = some ((F 0)[0]'(by rw [hlen 0 ac];exact hp)):=List.getElem?_eq_getElem _;rw [hx] at h0;have:=World.block_lt_of_cell? _ _ h0;simpa [Addr.add_lit] using this
  refine ⟨b,off,rfl,trivial,h0b,fun j u hu=>?_⟩;rw [hget n (Nat.le_refl _)] at hu;split at hu
  ·rename_i hj;have hq:j / size < n:=Nat.div_lt_of_lt_mul (by rw [Nat.mul_comm];exact hj);have h1:=hcell (j / size) hq (j % size) (Nat.mod_lt _ hp);rw [Addr.add_lit,Addr.add_lit,Nat.add_assoc,Nat.mul_comm,Nat.div_add_mod] at h1;rw [h1,hu]
  ·cases hu
theorem Gg {H:Type} {G:Nat → List D} {Dd:Nat → DataW H}:∀ l:List Nat,(∀ i ∈ l,bkR (G i)≤Rows.uptoBulk (Dd i)) → bkRs (l.map G)≤Rows.uptoBulkAll (l.map Dd)
 | [],_=>by simp [bkRs]
 | i :: l,h=>by
  have h1:=h i (by simp);have h2:=Gg l fun j hj=>h j (by simp [hj])
  rw [List.map_cons,List.map_cons,bkRs,Rows.uptoBulkAll];omega
theorem Io {H:Type} {G:Nat → List D} {Dd:Nat → DataW H} {d:DataW H} {n sz:Nat} (hx:(d = .nil∧n=0)∨∃ sp,d = .slice ((List.range n).map Dd) sp) (h:∀ i,i < n → bkR (G i)≤Rows.uptoBulk (Dd i)):bkR [.sl sz ((List.range n).map G)]≤Rows.uptoBulk d:=by
 rcases hx with ⟨rfl,rfl⟩|⟨sp,rfl⟩
 ·simp [bkR,bkD,bkRs,Rows.uptoBulk]
 ·have:=Gg (G:=G) (Dd:=Dd) (List.range n) fun i hi=>h i (List.mem_range.1 hi)
  simp only [bkR,bkD,Rows.uptoBulk];omega
theorem JP {H:Type} (s:ByteArray):bkR [D.v (.string s)]≤Rows.uptoBulk (DataW.lit (H:=H) (.string s.data.toList)):=by
 have h2:s.size=s.data.toList.length:=rfl;simp only [bkR,bkD,Rows.uptoBulk];omega
theorem Gh {H:Type} (l:List (DataW H)):Rows.uptoBulkAll l≤Rows.uptoBulk (.agg l):=by
 simp only [Rows.uptoBulk];omega
section
variable {H:Type} {enc:TypeId × Value → H} {P:Program} {W:World}
mutual
theorem zJ:∀ (n:Nat) (t:TypeId) (ss:List Sh) (cs:List Value) (fuel:Nat) (y:DataW H × List MemPlace),pZ P n t=some ss → DataW.trod enc P W 0 (fun _=>true) true fuel t cs=some y →
  ∃ ds,TR ss ds∧ay (RD W (qa W)) ds cs∧bkR ds≤Rows.uptoBulk y.1
 | 0,t,ss,cs,fuel,y,h,_=>by simp [pZ] at h
 | n+1,t,ss,cs,fuel,y,h,ht=>by
  rw [pZ] at h;split at h
  ·rename_i k hu;cases h;obtain ⟨m,rfl,rfl,hw⟩:=DataW.trod_int hu ht;refine ⟨[.v (.int k m)],?_,?_,by simp [bkR,bkD,Rows.uptoBulk]⟩
   ·rw [TR];exact ⟨_,_,rfl,by rw [TD];exact ⟨m,rfl,hw⟩,by rw [TR]⟩
   ·exact ⟨by rw [RD];exact ⟨rfl,rfl⟩,trivial⟩
  ·rename_i hu;cases h;obtain ⟨s,rfl,rfl,hs⟩:=DataW.trod_string hu ht;refine ⟨[.v (.string s)],?_,?_,JP s⟩
   ·rw [TR];exact ⟨_,_,rfl,by rw [TD];exact ⟨s,rfl,hs⟩,by rw [TR]⟩
   ·exact ⟨by rw [RD];exact ⟨rfl,rfl⟩,trivial⟩
  ·rename_i hu;cases h;obtain ⟨b,rfl,rfl⟩:=DataW.trod_bool hu ht;refine ⟨[.v (.bool b)],?_,?_,by simp [bkR,bkD,Rows.uptoBulk]⟩
   ·rw [TR];exact ⟨_,_,rfl,by rw [TD];exact ⟨b,rfl⟩,by rw [TR]⟩
   ·exact ⟨by rw [RD];exact ⟨rfl,rfl⟩,trivial⟩
  ·rename_i e hu;split at h
   ·rename_i es he;split at h
    ·rename_i hc;cases h;have hcs:∃ A len c,cs=[.slice A len c]:=by
      rcases Go.Deep.open_slice hu ht with ⟨h1,_⟩|⟨a,len,cap,m,fu,D,Pl,h1,_⟩
      ·exact ⟨_,_,_,h1⟩
      ·exact ⟨_,_,_,h1⟩
     obtain ⟨A,len,c,rfl⟩:=hcs;obtain ⟨F,Dd,hx0,h1,h2,h3,h4⟩:=zI hu hc.2 hc.1 ht;have hall:∀ i,i < len → ∃ ds,TR es ds∧ay (RD W (qa W)) ds (F i)∧bkR ds≤Rows.uptoBulk (Dd i):=fun i hi=>by
      obtain ⟨_,m,y',hy,hd⟩:=h3 i hi;rw [← hd];exact zJ n e es (F i) m y' he hy
     obtain ⟨G,hG⟩:=Go.Deep.choose_lt (n:=len) (p:=fun i ds=>TR es ds∧ay (RD W (qa W)) ds (F i)∧bkR ds≤Rows.uptoBulk (Dd i)) hall;have hrows:∀ k,k≤len → ay (RD W (qa W)) ((List.range k).map G).flatten ((List.range k).flatMap F):=by
      intro k;induction k with
      | zero=>intro _;trivial
      | succ k ih =>
       intro hk;rw [List.range_succ,List.map_append,List.flatten_append,List.flatMap_append];exact (ih ac).append (by simpa using (hG k ac).2.1)
     have hlen:((List.range len).map G).length=len:=by simp
     refine ⟨[.sl es.length ((List.range len).map G)],?_,?_,Io hx0 fun i hi=>(hG i hi).2.2⟩
     ·rw [TR];refine ⟨_,_,rfl,?_,by rw [TR]⟩;rw [TD];refine ⟨_,rfl,by rw [hlen];exact Nat.le_trans h1 h2,fun r hr=>?_⟩;obtain ⟨i,hi,rfl⟩:=List.mem_map.1 hr;exact (hG i (List.mem_range.1 hi)).1
     ·refine ⟨?_,trivial⟩;rw [dB];refine ⟨A,c,_,by rw [hlen],by rw [hlen];exact h1,by rw [hlen];exact AL h4,?_⟩;refine ⟨fun r hr=>?_,hrows len (Nat.le_refl _)⟩;obtain ⟨i,hi,rfl⟩:=List.mem_map.1 hr;exact (hG i (List.mem_range.1 hi)).1.len
    ·cases h
   ·cases h
  ·rename_i fs hu;split at h
   ·rename_i ss' hfs;split at h
    ·rename_i hc;cases h;obtain ⟨xs,m,_,rfl,hl,hlen,hf⟩:=DataW.trod_struct hu ht;obtain ⟨ds,h1,h2,h3⟩:=shbFs_ok n fs.toList 0 ss cs (xs.map (·.1)) hfs ac (fun i f hi=>by
      have h1:=hf i f (by simpa using hi);have hi2:i < xs.length:=by
       have:=(List.getElem?_eq_some_iff.1 hi).1;simp at this;omega
      rw [List.getElem?_eq_getElem hi2] at h1;exact ⟨_,_,h1,by rw [List.getElem?_map,List.getElem?_eq_getElem hi2];rfl⟩)
     refine ⟨ds,h1,?_,Nat.le_trans h3 (Gh _)⟩;rw [List.drop_zero,List.take_of_length_le ac] at h2;exact h2
    ·cases h
   ·cases h
  ·cases h
theorem shbFs_ok:∀ (n:Nat) (fs:List Field) (o:Nat) (ss:List Sh) (cs:List Value) (Ds:List (DataW H)),shFs P n fs o=some ss → o+ss.length≤cs.length →
  (∀ (i:Nat) (f:Field),fs[i]? = some f → ∃ m y,DataW.trod enc P W 0 (fun _=>true) true m f.type ((cs.drop f.offset).take (P.cellsOf f.type))=some y∧Ds[i]? = some y.1) →
  ∃ ds,TR ss ds∧ay (RD W (qa W)) ds ((cs.drop o).take ss.length)∧bkR ds≤Rows.uptoBulkAll Ds
 | 0,fs,o,ss,cs,Ds,h,_,_=>by simp [shFs] at h
 | n+1,[],o,ss,cs,Ds,h,_,_=>by
  rw [shFs] at h;cases h;exact ⟨[],by rw [TR],by simp [ay],by simp [bkR]⟩
 | n+1,f :: fs,o,ss,cs,Ds,h,hle,hf=>by
  rw [shFs] at h;split at h
  ·rename_i s1 s2 h1 h2;split at h
   ·rename_i hc;cases h;rw [List.length_append] at hle;obtain ⟨m,y,hy,hD0⟩:=hf 0 f rfl;obtain ⟨Ds',rfl⟩:∃ Ds',Ds=y.1 :: Ds':=by
     cases Ds with
     | nil=>cases hD0
     | cons d Ds'=>exact ⟨Ds',by rw [List.getElem?_cons_zero] at hD0;cases hD0;rfl⟩
    rw [hc.1,hc.2] at hy;obtain ⟨d1,t1,a1,b1⟩:=zJ n f.type s1 _ m y h1 hy;obtain ⟨d2,t2,a2,b2⟩:=shbFs_ok n fs (o+P.cellsOf f.type) s2 cs Ds' h2 ac (fun i g hi=>by have:=hf (i+1) g (by simpa using hi);simpa using this);refine ⟨d1++d2,t1.append t2,?_,by rw [sk,Rows.uptoBulkAll];omega⟩;rw [List.length_append,List.take_add,List.drop_drop,← hc.2];have:=a1.append (by simpa using a2);rw [hc.2] at this ⊢;exact this
   ·cases h
  ·cases h
end
end
theorem AO {H:Type} {d:DataW H}:∀ {l:List (DataW H)},d ∈ l → Rows.uptoBulk d≤Rows.uptoBulkAll l
 | x :: r,h=>by
  rw [Rows.uptoBulkAll];rcases List.mem_cons.1 h with rfl|h
  ·omega
  ·have:=AO h;omega
theorem zK {H:Type} {l:List (DataW H)} (hk:Rows.uptoSmall H l=true):Rows.uptoBulkAll l≤1048576:=by
 simpa [Rows.uptoSmall] using hk
end
section
open Go.ChangeShapes Go.WideShapes Go.ChangeAt Go.RowKit
section
variable {H:Type} {enc:TypeId × Value → H} {P:Program} {W:World}
theorem xX {base:Nat} {t:TypeId} {fs:Array Field} {v:Value} {d:DataW H} {ps:List MemPlace} (n:Nat) (ss:List Sh) (ht:P.underlying t=some (.struct fs)) (hs:pZ P n t=some ss) (hv:Value.okWide P W .any base t v) (h:DataW.Trod enc P W 0 (fun _=>true) true t v d ps) :
  ∃ ds,TR ss ds∧RP W (G0 W) (.agg (ds.map D.e)) v∧bkR ds≤Rows.uptoBulk d:=by
 obtain ⟨cs,rfl,_⟩:=okWide_struct ht hv;obtain ⟨fuel,hf⟩:=h;have hf':DataW.trod enc P W 0 (fun _=>true) true fuel t cs.toList=some (d,ps):=by simpa [Value.cells] using hf
 obtain ⟨ds,h1,h2,hb⟩:=zJ n t ss cs.toList fuel _ hs hf';exact ⟨ds,h1,⟨cs.toList,by simp,qc (Γ:=G0 W) h2⟩,hb⟩
end
def Ip:List Sh:=[.int .i64,.str,.int .i64,.int .i64,.str,.str,.str,.str,.str,.int .i64,.int .i64,.sl [.str,.str],.str,.str]
theorem KI:pZ prog 30 55=some Ip:=aj
theorem AP:∀ (rows:List (List D)),(∀ r ∈ rows,TR [.str,.str] r) → ∃ l:List Atr,rows=l.map Atr.d∧okA l
 | [],_=>⟨[],rfl,fun a ha=>by simp at ha⟩
 | r :: rows,h=>by
  obtain ⟨l,rfl,hl⟩:=AP rows fun r' hr=>h r' (by simp [hr])
  have h1:=h r (by simp);simp only [TR,TD] at h1;obtain ⟨_,_,rfl,⟨a,rfl,ha⟩,_,_,rfl,⟨b,rfl,hb⟩,rfl⟩:=h1;refine ⟨⟨a,b⟩ :: l,rfl,fun x hx=>?_⟩;rcases List.mem_cons.1 hx with rfl|hx
  ·exact ⟨by simpa [maxLen] using ha,by simpa [maxLen] using hb⟩
  ·exact hl x hx
theorem AQ:∀ l:List Atr,l.length≤bkRs (l.map Atr.d)
 | []=>Nat.zero_le _
 | a :: l=>by
  have:=AQ l;simp only [List.length_cons,List.map_cons,bkRs,Atr.d,bkR,bkD];omega
theorem JQ (ds:List D) (h:TR Ip ds) (hb:bkR ds≤1048576):∃ o:Opr,ds.map D.e=o.e∧eA o∧o.path.size+o.name.size+o.value.size≤9000000000000000000:=by
 simp only [Ip,TR,TD] at h;obtain ⟨_,_,rfl,⟨k0,rfl,_⟩,_,_,rfl,⟨p1,rfl,_⟩,_,_,rfl,⟨a1,rfl,_⟩,_,_,rfl,⟨a2,rfl,_⟩,_,_,rfl,⟨a3,rfl,_⟩,_,_,rfl,⟨a4,rfl,_⟩,_,_,rfl,⟨a5,rfl,_⟩,_,_,rfl,⟨a6,rfl,_⟩,_,_,rfl,⟨a7,rfl,_⟩,_,_,rfl,⟨a8,rfl,_⟩,_,_,rfl,⟨a9,rfl,_⟩,_,_,rfl,⟨rows,rfl,hl,hr⟩,_,_,rfl,⟨n3,rfl,_⟩,_,_,rfl,⟨v4,rfl,_⟩,rfl⟩:=h;obtain ⟨l,rfl,hok⟩:=AP rows fun r hr'=>by have:=hr r hr';simpa only [TR,TD] using this
 have hll:=AQ l;simp only [bkR,bkD] at hb;rw [List.length_map] at hl;refine ⟨⟨k0,p1,⟨a1,a2,a3,a4,a5,a6,a7,a8,a9,l⟩,n3,v4⟩,rfl,⟨⟨?_,?_,?_,?_,?_,hok,?_,?_⟩,?_,?_,?_,?_⟩,?_⟩;all_goals (simp only [Fit];omega)
end
section
attribute [local irreducible] PL QL aL ah bg La aV PA bm
open Go.RowKit
open IntWalk renaming iteOmega → O, toNatUp → U
set_option maxRecDepth 20000
theorem Im {α:Type} {G:α → Prop} {φ:α → Prop} {X:Prop} (h:(∀ x,φ x → G x) → X) (g:∀ x,φ x → G x):X:=h g
set_option maxHeartbeats 16000000 in
theorem vD (L:List Int) (hL:∀ x ∈ L,-9223372036854775808≤x∧x≤9223372036854775807) (hl:L.length≤9223372036854775807) (op0:Opr) (ho0:eA op0) (hz0:op0.path.size+op0.name.size+op0.value.size≤9000000000000000000) :
  ah prog 7 [.c (.sl 1 (L.map fun x=>[.v (.int .i64 x)])),.agg op0.e] [] fun r os=>r = .c (.v (.bool true))∧os=[]:=by
 refine aw func7 ntmps7 results7 ?_;have hb:=jQ L hL hl;have hkn:=gw;have hatt:=ho0.att;have nex:=fun (j:Nat) (hj:j < 1000000) (m:Int) (hm:0 < m) (hm2:m≤9223372036854775807)=>cP L j m hj hm hm2 hL hl
 push_cast [O,U];have cB:aH 8 []:=trivial;repeat' ((first|refine ae ?_|refine pif ?_ ?_<;>intro h<;>try exact pN h)<;>push_cast [O,U])
 (refine plc [] (hb) ?_ ?_;push_cast [O,U];rintro r os ⟨ms,hS,rfl,rfl⟩;push_cast [O,U]);repeat' ((first|refine ae ?_|refine pif ?_ ?_<;>intro h<;>try exact pN h)<;>push_cast [O,U])
 (refine plE [] hkn ?_ ?_<;>push_cast [O,U]);refine fD rfl rfl rfl rfl aj (by simp [bp]) (an ?_);push_cast [O,U];have n1:=nex 8 af 20 af af;clear hatt;revert op0;apply Im (α:=Opr) (φ:=eA)
 ·intro key op0 ho0 hz0;have hatt:=ho0.att;by_cases hC:¬ 40 < op0.dev.attrs.length∧¬ 3000 < op0.path.size+op0.name.size+op0.value.size
  ·have hA':¬ (40:Int) < (op0.dev.attrs.length:Int):=ac;have hB':¬ (3000:Int) < (op0.path.size:Int)+(op0.name.size:Int)+(op0.value.size:Int):=ac;push_cast [O,U,hA',hB'];repeat' ((first|refine ae ?_|refine pif ?_ ?_<;>intro h<;>try exact pN h)<;>push_cast [O,U,hA',hB'])
   refine bX (fh 8 [37,38] [1] _) ?_;push_cast [O,U];exact key op0 ho0
  ·have hzo:eA ⟨0,⟨#[]⟩,cL,⟨#[]⟩,⟨#[]⟩⟩:=pY (Nat.zero_le _) (Nat.zero_le _) (Nat.zero_le _);by_cases hA:40 < op0.dev.attrs.length
   ·have hA':(40:Int) < (op0.dev.attrs.length:Int):=ac;push_cast [O,U,hA'];repeat' ((first|refine ae ?_|refine pif ?_ ?_<;>intro h<;>try exact pN h)<;>push_cast [O,U,hA'])
    refine bX (fh 8 [37,38] [1] _) ?_;push_cast [O,U];exact bX aA (key ⟨0,⟨#[]⟩,cL,⟨#[]⟩,⟨#[]⟩⟩ hzo)
   ·have hA':¬ (40:Int) < (op0.dev.attrs.length:Int):=ac;have hB':(3000:Int) < (op0.path.size:Int)+(op0.name.size:Int)+(op0.value.size:Int):=ac;push_cast [O,U,hA',hB'];repeat' ((first|refine ae ?_|refine pif ?_ ?_<;>intro h<;>try exact pN h)<;>push_cast [O,U,hA',hB'])
    refine bX (fh 8 [37,38] [1] _) ?_;push_cast [O,U];exact bX aA (key ⟨0,⟨#[]⟩,cL,⟨#[]⟩,⟨#[]⟩⟩ hzo)
 intro raw hraw;(refine plc [1] (n1) ?_ ?_;push_cast [O,U];rintro r os ⟨v,⟨va,vb⟩,rfl,rfl⟩;push_cast [O,U]);obtain ⟨n,rfl⟩:∃ n:Nat,v=(n:Int):=⟨v.toNat,ac⟩
 repeat' ((first|refine ae ?_|refine pif ?_ ?_<;>intro h<;>try exact pN h)<;>push_cast [O,U])
 (apply ap (α:=Nat × Ker × Nat) 8 [] (fun x=>[(6,.c (.v (.int .i64 x.1)))]) (fun x=>[(1,tape L x.2.2),(2,jd 3 4 x.2.1),(3,jI x.2.1),(4,je x.2.1),(5,.box 49 (.ptr 1 0 :: .ptr 2 0 :: x.2.1.re))]) (fun x=>x.1≤n∧eJ (n - x.1) x.2.1∧x.2.2≤9+60 * (n - x.1)) (fun x=>x.1) ((n,vw ms,9));(focus ((try push_cast [O,U]);rfl));(focus exact ⟨Nat.le_refl _,by rw [Nat.sub_self];exact eJ.beg hS,by simp only;omega⟩);(focus ((refine weak_fg ?_;try push_cast [O,U]);(try (rfl)))));rintro ⟨i,k,q⟩ ⟨hi,hk,hq⟩;simp only at hi hk hq;have hev:=hk.e;have htp:=hk.t;by_cases h0:0 < i
 case neg =>
  have h0':¬ (0:Int) < (i:Int):=ac;have n2:=nex q ac 30 af af;push_cast [O,U];repeat' ((first|refine ae ?_|refine pif ?_ ?_<;>intro h<;>try exact pN h)<;>push_cast [O,U,h0'])
  (refine plc [1] (n2) ?_ ?_;push_cast [O,U];rintro r os ⟨w,⟨wa,wb⟩,rfl,rfl⟩;push_cast [O,U]);have hdo:=jm L (q+1) k raw hk.b hraw ac ac;have hk2:=hk.do ac raw;obtain ⟨k2,hke⟩:∃ k2,(bM k raw).1=k2:=⟨_,rfl⟩
  rw [hke] at hdo hk2;have hev2:=hk2.e;have hsm:=fQ L (q+1) k2 hk2.b;have hE:=dV k2 (w - 2) ac ac;have hsi:=xW k2 (w - 2) hk2.b;have hxl:(k2.evs.drop (dx k2 (w - 2))).length≤1000000000:=by rw [List.length_drop];omega
  obtain ⟨xs,hxs⟩:∃ xs,k2.evs.drop (dx k2 (w - 2))=xs:=⟨_,rfl⟩
  rw [hxs] at hE hsi hxl;have hse:=fo xs xs hxl hxl;rw [decide_eq_true rfl] at hse;repeat' ((first|(refine eQ 12 ?_)|refine ae ?_|refine pif ?_ ?_<;>intro h<;>try exact pN h)<;>push_cast [O,U])
  refine dd ?_;(refine av 8 [] ?_;refine aO aj ?_;simp only [aP,Nat.reduceAdd];apply ar;intro z10;apply ar;intro z9;apply ar;intro z8;apply ar;intro z6;apply ar;intro z7;apply ar;intro z4;apply ar;intro z5;apply ar;intro z3;apply ar;intro z2;apply ar;intro z1;refine pas [0] ?_;push_cast [O,U];refine z1;refine pas [1] ?_;push_cast [O,U];(focus ((refine eZ 3 [5,1,2,3,4] (hdo) ?_ ?_;push_cast [O,U];rintro r os ⟨rfl,rfl⟩;push_cast [O,U]);refine pah 2 ?_;push_cast [O,U];exact z2));refine pas [3] ?_;push_cast [O,U];(focus ((refine plE [5,1,2,3,4] hsm ?_ ?_;(focus (push_cast [O,U];done));push_cast [O,U]);refine pah 4 ?_;push_cast [O,U];refine pah 5 ?_;push_cast [O,U];refine pah 6 ?_;push_cast [O,U];refine pah 8 ?_;push_cast [O,U];refine pah 10 ?_;push_cast [O,U];refine pah 12 ?_;push_cast [O,U];exact z3));refine pas [7,11] ?_;push_cast [O,U];refine ⟨z4,z5⟩;refine pas [7] ?_;push_cast [O,U];refine z7;refine pas [9,11] ?_;push_cast [O,U];refine ⟨?_,?_⟩;(focus ((refine plE [2,3,4] hE ?_ ?_;(focus (push_cast [O,U];done));push_cast [O,U]);exact z6));(focus (refine paw z7 ?_;refine weak_fg ?_;push_cast [O,U]));refine pas [9] ?_;push_cast [O,U];(focus ((refine plE [2,3,4] hE ?_ ?_;(focus (push_cast [O,U];done));push_cast [O,U]);exact z8));refine pas [11] ?_;push_cast [O,U];refine paw z8 ?_<;>(refine weak_fg ?_;push_cast [O,U]);refine pas [13] ?_;push_cast [O,U];(focus ((refine plE [] hsi ?_ ?_;(focus (push_cast [O,U];done));push_cast [O,U]);exact z9));refine pas [14] ?_;push_cast [O,U];(focus ((refine plE [] hse ?_ ?_;(focus (push_cast [O,U];done));push_cast [O,U]);refine pah 15 ?_;push_cast [O,U];refine pah 16 ?_;push_cast [O,U];exact paw z10 (ao 8 [] _)));push_cast [O,U];refine pad ?_;push_cast [O,U]);repeat' ((first|refine ae ?_|refine pif ?_ ?_<;>intro h<;>try exact pN h)<;>push_cast [O,U])
  exact am []
 obtain ⟨i,rfl⟩:∃ i',i=i'+1:=⟨i - 1,ac⟩
 have h0':(0:Int) < (i:Int)+1:=ac;obtain ⟨ix1,ix2,ix3,ix4⟩:=hk.ixs ac;have hop:=oS L q k.tree ac ix4 ix3 ix1 ix2 hL hl;push_cast [O,U];repeat' ((first|refine ae ?_|refine pif ?_ ?_<;>intro h<;>try exact pN h)<;>push_cast [O,U,h0'])
 (refine plc [1] (hop) ?_ ?_;push_cast [O,U];rintro r os ⟨op,q2,ho,hq2,rfl,rfl⟩;push_cast [O,U]);have hdo:=jm L q2 k op hk.b ho ac ac;have hk2:=hk.do ac op;obtain ⟨k2,hke⟩:∃ k2,(bM k op).1=k2:=⟨_,rfl⟩
 rw [hke] at hdo hk2;have hsm:=fQ L q2 k2 hk2.b;repeat' ((first|(refine eZ 3 [5,1,2,3,4] (hdo) ?_ ?_;push_cast [O,U];rintro r os ⟨rfl,rfl⟩)|refine aK [5,1,2,3,4] hsm ?_|refine ae ?_|refine pif ?_ ?_<;>intro h<;>try exact pN h)<;>push_cast [O,U])
 exact ⟨(i,k2,q2),⟨by simp only;omega,by simp only;rw [show n - i=n - (i+1)+1 by omega];exact hk2,by simp only;omega⟩,aA,by simp only;omega⟩
end
end Go.Proofs.YtmbbkfffcflfcaaGreatDoor
