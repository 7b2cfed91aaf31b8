/- What the program computes, and the plain laws of it, part 36. -/
import Derived.Lib.AppendZerosOnto
import Derived.WideKeyEntry
import Derived.Lib.ItoaNum
import Derived.Test.YtmbbkfffcflfcaaGreatDoorT35
namespace Go.Proofs.YtmbbkfffcflfcaaGreatDoor
open Go.Proofs.Tryz
set_option linter.unusedSimpArgs false
set_option linter.unusedVariables false
open Go.RowKit
open IntWalk renaming iteOmega → O, toNatUp → U
theorem JC:(prog.info? 97).map (fun i=>(i.zero,i.size,i.bytes))=some (some (Value.agg #[.string ByteArray.empty,.string ByteArray.empty]),2,32):=aj
set_option maxRecDepth 1000000 in
theorem Cj (n:Nat) (w:World) (hn:n≤1099511627776) :
  Calls prog 216 #[.slice none 0 0,.int .i64 (n:Int)] w fun e w'=>∃ vs,e = .returned vs∧w'.ownsRow w.heap.size 97 2 vs 0 []∧Ext No w w':=by
 by_cases h0:n=0
 ·subst h0
  go_enter func216,ntmps216
  go_wp2
  go_ret
  exact ⟨_,rfl,uv _ _ _ _,Ext.refl _ _⟩
 ·obtain ⟨i,hi,hz,hs,hb⟩:=info_parts JC;have hrun:=Lib.run_append_nil_zeros (P:=prog) w 51 3 51 97 i _ .i64 .i64 underlying51 underlying3 hi hz n ac (by rw [hs];decide) ac (by rw [hb];omega);have hown:(w.drew.alloc (.cells (Builtin.zeroCells (Value.agg #[.string ByteArray.empty,.string ByteArray.empty]).cells n++Builtin.zeroCells (Value.agg #[.string ByteArray.empty,.string ByteArray.empty]).cells (grownCap w n 0 97 - n)) 97)).ownsRow w.heap.size 97 2 (.slice (some ⟨w.heap.size,0,none⟩) 0 (grownCap w n 0 97)) 0 []:=by
   have hge:=grownCap_ge w n 0 97;have hcm:grownCap w n 0 97≤maxLen:=grownCap_le_maxLen w n 0 97 (by simp only [maxLen];omega);refine ⟨rfl,.inr ⟨w.heap.size,_,_,rfl,Nat.le_refl _,heap_alloc_new w.drew _,Nat.zero_le _,hcm,?_,by simp⟩⟩;simp only [Array.size_append,size_zeroCells];show n * 2+(grownCap w n 0 97 - n) * 2=_;omega
  have hE:Ext No w (w.drew.alloc (.cells (Builtin.zeroCells (Value.agg #[.string ByteArray.empty,.string ByteArray.empty]).cells n++Builtin.zeroCells (Value.agg #[.string ByteArray.empty,.string ByteArray.empty]).cells (grownCap w n 0 97 - n)) 97)):=(Ext.refl No w).drew.alloc _;generalize w.drew.alloc (.cells (Builtin.zeroCells (Value.agg #[.string ByteArray.empty,.string ByteArray.empty]).cells n++Builtin.zeroCells (Value.agg #[.string ByteArray.empty,.string ByteArray.empty]).cells (grownCap w n 0 97 - n)) 97)=W1 at hrun hown hE;have hcap:=grownCap_ge w n 0 97;generalize grownCap w n 0 97=cap at hrun hown hcap;have HR:=Lib.hid hrun;have HO:=Lib.hid hown;have HE:=Lib.hid hE;clear hrun hown hE hi hz hs hb
  go_enter func216,ntmps216
  go_wp2_with (at_builtin;refine Lib.wpList_append_run _ rfl (.tmp 20) (.tmp 21) 51 3 rfl (.slice none 0 0) (.int .i64 (n:Int)) rfl rfl _ W1 HR.out ?_)
  go_ret
  exact ⟨_,rfl,HO.out,HE.out⟩
theorem Cm (n:Nat) (hn:n≤1000000000) :
  ah prog 216 [.c (.v (.slice none 0 0)),.c (.v (.int .i64 n))] [] fun r os=>r = .c (.own 0 0)∧os=[.arr 97 2 []]:=fun Γ w xs hm hx=>by
 have hxs:=lz (vs:=[.slice none 0 0,.int .i64 (n:Int)]) hx;rw [hxs];refine (Cj n w ac).mono ?_;rintro e w' ⟨v,rfl,hrow,hE⟩;have hS:=bS.of_ext hE;have hn0:Γ.n=0:=hm.n;obtain ⟨_,h2⟩:=hrow;have fin:∀ (b c:Nat) (v:Value),RO w' (Γ.push b c) Γ.n (.arr 97 2 []) → (0 < c → w.heap.size≤b) → iJ (Γ.push b c) Γ.n 0 v →
   ∃ r os' Γ' y,Ending.returned v = .returned y∧(r = .c (.own 0 0)∧os'=[.arr 97 2 []])∧RP w' Γ' r y∧([]:List Ob).length≤os'.length∧bz Γ' os' w'∧cq ([]:List Ob).length Γ w Γ' w':=by
  intro b c v hro hb hrep;rw [hn0] at hrep;exact ⟨_,_,Γ.push b c,v,rfl,⟨rfl,rfl⟩,⟨by simp [G.push,hn0],hrep⟩,by simp,hm.push hS _ b c hro hb,cz hm hE b c hb (Nat.zero_le _)⟩
 rcases h2 with ⟨rfl,_⟩|⟨g,cap,cur,rfl,hb,hg,_,hcm,hsz,_⟩
 ·exact fin 0 0 _ ⟨by simp,ac,fun _=>rfl,fun h=>absurd h (by simp [G.push,ax])⟩ (fun h=>absurd h ac) (.inl ⟨by simp [G.push,ax],⟨none,rfl⟩,rfl⟩)
 ·rcases Nat.eq_zero_or_pos cap with h0|h0
  ·subst h0;exact fin 0 0 _ ⟨by simp,ac,fun _=>rfl,fun h=>absurd h (by simp [G.push,ax])⟩ (fun h=>absurd h ac) (.inl ⟨by simp [G.push,ax],⟨_,rfl⟩,rfl⟩)
  ·refine fin g cap _ ⟨by simp,ac,fun _=>rfl,fun _=>⟨cur,by simp only [G.push,ax];exact hg,by simp only [G.push,ax];exact hsz,by simp,by simp only [G.push,ax];exact hcm,by simp [ay]⟩⟩ (fun _=>hb) (.inr ⟨by simp [G.push,ax,h0],by simp [G.push,ax],by simp⟩)
section
attribute [local irreducible] PL QL aL ah bg La aV PA
set_option maxRecDepth 20000
set_option maxHeartbeats 1000000 in
theorem iH (A B:List Atr) (hA:A.length≤1000000) (hB:B.length≤1000000) :
  ah prog 184 [.c (.sl 1 [[D.sl 2 (A.map Atr.d)],[D.sl 2 (B.map Atr.d)]])] [] fun r os=>r = .c (.own 0 ((A++B).length))∧os=[.arr 97 2 ((A++B).map Atr.d)]:=by
 refine aw func184 ntmps184 results184 ?_;push_cast [O,U];have cB:aH 12 [25,26,27]:=trivial;repeat' ((first|refine ae ?_|refine pif ?_ ?_<;>intro h<;>try exact pN h)<;>push_cast [O,U])
 (apply ap (α:=Nat) 12 [25,26,27] (fun k=>[(11,.c (.v (.int .i64 k))),(3,.c (.v (.int .i64 (if k=0 then 0 else if k=1 then (A.length:Int) else A.length+B.length))))]) (fun k=>[]) (fun k=>k≤2) (fun k=>2 - k) (0);(focus ((try push_cast [O,U]);rfl));(focus exact ac);(focus ((refine weak_fg ?_;try push_cast [O,U]))));intro k hk;have h3:k=0∨k=1∨k=2:=ac;rcases h3 with rfl|rfl|rfl
 ·push_cast [O,U];repeat' ((first|refine ae ?_|refine pif ?_ ?_<;>intro h<;>try exact pN h)<;>push_cast [O,U])
  exact ⟨1,ac,aA,ac⟩
 ·push_cast [O,U];repeat' ((first|refine ae ?_|refine pif ?_ ?_<;>intro h<;>try exact pN h)<;>push_cast [O,U])
  exact ⟨2,ac,aA,ac⟩
 ·have hg:=Cm (A.length+B.length) ac;push_cast [O,U];repeat' ((first|refine aK [] hg ?_|refine ae ?_|refine pif ?_ ?_<;>intro h<;>try exact pN h)<;>push_cast [O,U])
  (apply ap (α:=Nat) 12 [25,26,27] (fun k=>[(27,.c (.v (.int .i64 k))),(6,.c (.own 0 (if k=0 then 0 else if k=1 then A.length else A.length+B.length)))]) (fun k=>[(0,.arr 97 2 (if k=0 then [] else if k=1 then A.map Atr.d else (A++B).map Atr.d))]) (fun k=>k≤2) (fun k=>2 - k) (0);(focus ((try push_cast [O,U]);rfl));(focus exact ac);(focus ((refine weak_fg ?_;try push_cast [O,U]))));intro k hk;have h3:k=0∨k=1∨k=2:=ac;rcases h3 with rfl|rfl|rfl
  ·push_cast [O,U];repeat' ((first|refine ae ?_|refine pif ?_ ?_<;>intro h<;>try exact pN h)<;>push_cast [O,U])
   exact ⟨1,ac,aA,ac⟩
  ·push_cast [O,U];repeat' ((first|refine ae ?_|refine pif ?_ ?_<;>intro h<;>try exact pN h)<;>push_cast [O,U])
   exact ⟨2,ac,aA,ac⟩
  ·push_cast [O,U];repeat' ((first|refine ae ?_|refine pif ?_ ?_<;>intro h<;>try exact pN h)<;>push_cast [O,U])
   exact am [0]
set_option maxRecDepth 20000
theorem ul {n:ByteArray} {b:List Atr}:∀ {a:List Atr},(∀ y ∈ a,y.name≠n) → eM (a++b) n=eM b n
 | [],_=>rfl
 | x :: a,h=>by rw [List.cons_append,cj,if_neg (h x (by simp)),ul fun y hy=>h y (by simp [hy])]
theorem AG {l:List Atr} {n:ByteArray} {k:Nat} (hk:k < l.length) (h0:∀ y ∈ l.take k,y.name≠n) (h:(l.getD k default).name=n):eM l n=((l.getD k default).value,true):=by
 have e:l=l.take k++l[k] :: l.drop (k+1):=by rw [← List.drop_eq_getElem_cons hk,List.take_append_drop]
 rw [ai l hk] at *
 conv=>lhs;rw [e]
 rw [ul h0,cj,if_pos h]
theorem um {l:List Atr} {n:ByteArray} {k:Nat} (hk:k < l.length) (h0:∀ y ∈ l.take k,y.name≠n) (h:¬ (l.getD k default).name=n):∀ y ∈ l.take (k+1),y.name≠n:=by
 intro y hy;rw [List.take_succ_eq_append_getElem hk,List.mem_append,List.mem_singleton] at hy;rcases hy with hy|hy
 ·exact h0 y hy
 ·rw [hy,← ai l hk];exact h
set_option maxHeartbeats 1000000 in
theorem FD (l:List Atr) (n:ByteArray) (hl:l.length≤9223372036854775807) :
  ah prog 145 [.c (.sl 2 (l.map Atr.d)),.c (.v (.string n))] [] fun r os=>r = .two (.c (.v (.string ((eM l n).1)))) (.c (.v (.bool ((eM l n).2))))∧os=[]:=by
 refine aw func145 ntmps145 results145 ?_;push_cast [O,U];have cB:aH 8 [8,9,10]:=trivial;repeat' ((first|refine ae ?_|refine pif ?_ ?_<;>intro h<;>try exact pN h)<;>push_cast [O,U])
 (apply ap (α:=Nat) 8 [8,9,10] (fun k=>[(10,.c (.v (.int .i64 k)))]) (fun k=>[]) (fun k=>k≤l.length∧∀ y ∈ l.take k,y.name≠n) (fun k=>l.length - k) (0);(focus ((try push_cast [O,U]);rfl));(focus exact ⟨ac,by simp⟩);(focus ((refine weak_fg ?_;try push_cast [O,U]))));rintro k ⟨hk,h0⟩;push_cast [O,U];by_cases hlt:k < l.length
 ·by_cases hn:(l.getD k default).name=n
  ·have hg:=AG hlt h0 hn;have hn':=eq_true hn;repeat' ((first|refine ae ?_|refine pif ?_ ?_<;>intro h<;>try exact pN h)<;>push_cast [O,U,hn'])
   (refine K9 [] ?_;push_cast [O,U,hg])
  ·have h1:=um hlt h0 hn;repeat' ((first|refine ae ?_|refine pif ?_ ?_<;>intro h<;>try exact pN h)<;>push_cast [O,U,hn])
   exact ⟨k+1,⟨ac,h1⟩,aA,ac⟩
 ·rw [List.take_of_length_le ac] at h0;have hg:=jk h0;repeat' ((first|refine ae ?_|refine pif ?_ ?_<;>intro h<;>try exact pN h)<;>push_cast [O,U])
  (refine K9 [] ?_;push_cast [O,U,hg])
set_option maxHeartbeats 1000000 in
theorem CB (l:List Atr) (n:ByteArray) (hl:l.length≤9223372036854775807) :
  ah prog 195 [.c (.sl 2 (l.map Atr.d)),.c (.v (.string n))] [] fun r os=>r = .two (.c (.v (.string ((eM l n).1)))) (.c (.v (.bool ((eM l n).2))))∧os=[]:=by
 refine aw func195 ntmps195 results195 ?_;push_cast [O,U];have cB:aH 7 []:=trivial;repeat' ((first|refine ae ?_|refine pif ?_ ?_<;>intro h<;>try exact pN h)<;>push_cast [O,U])
 (apply ap (α:=Nat) 7 [] (fun k=>[(6,.c (.v (.int .i64 k)))]) (fun k=>[]) (fun k=>k≤l.length∧∀ y ∈ l.take k,y.name≠n) (fun k=>l.length - k) (0);(focus ((try push_cast [O,U]);rfl));(focus exact ⟨ac,by simp⟩);(focus ((refine weak_fg ?_;try push_cast [O,U]))));rintro k ⟨hk,h0⟩;push_cast [O,U];by_cases hlt:k < l.length
 ·by_cases hn:(l.getD k default).name=n
  ·have hg:=AG hlt h0 hn;have hn':=eq_true hn;repeat' ((first|refine ae ?_|refine pif ?_ ?_<;>intro h<;>try exact pN h)<;>push_cast [O,U,hn'])
   (refine K9 [] ?_;push_cast [O,U,hg])
  ·have h1:=um hlt h0 hn;repeat' ((first|refine ae ?_|refine pif ?_ ?_<;>intro h<;>try exact pN h)<;>push_cast [O,U,hn])
   exact ⟨k+1,⟨ac,h1⟩,aA,ac⟩
 ·rw [List.take_of_length_le ac] at h0;have hg:=jk h0;repeat' ((first|refine ae ?_|refine pif ?_ ?_<;>intro h<;>try exact pN h)<;>push_cast [O,U])
  (refine K9 [] ?_;push_cast [O,U,hg])
theorem r7 (x:Atr) (n:ByteArray) :
  ah prog 182 [.agg (x.d.map D.e),.c (.v (.string n))] [] fun r os=>r = .c (.v (.int .i64 (iZ x.name n)))∧os=[]:=by
 have hc:=tI x.name n;refine aw func182 ntmps182 results182 ?_;push_cast [O,U];have cB:aH 5 []:=trivial;repeat' ((first|refine aK [] hc ?_|refine ae ?_|refine pif ?_ ?_<;>intro h<;>try exact pN h)<;>push_cast [O,U])
 exact am []
theorem JD {l:List Atr} {n:ByteArray} {i:Nat} (hp:pos l n=i):hit l n=(decide (i < l.length) && decide ((l.getD i default).name=n)):=by
 unfold hit;rw [hp];by_cases h:i < l.length
 ·rw [List.getElem?_eq_getElem h,ai l h,decide_eq_true h];rfl
 ·rw [List.getElem?_eq_none ac,decide_eq_false h];rfl
set_option maxHeartbeats 2000000 in
theorem CC (l:List Atr) (n:ByteArray) (hl:l.length≤1000000000) (hu:l.Pairwise Up) :
  ah prog 181 [.c (.sl 2 (l.map Atr.d)),.c (.v (.string n)),.c (.fn (.func 182) [] [])] [] fun r os=>r = .two (.c (.v (.int .i64 (pos l n)))) (.c (.v (.bool (hit l n))))∧os=[]:=by
 refine aw func181 ntmps181 results181 ?_;push_cast [O,U];have cB:aH 12 []:=trivial;repeat' ((first|refine ae ?_|refine pif ?_ ?_<;>intro h<;>try exact pN h)<;>push_cast [O,U])
 (apply ap (α:=Nat × Nat) 12 [] (fun z=>[(9,.c (.v (.int .i64 z.1))),(10,.c (.v (.int .i64 z.2)))]) (fun z=>[]) (fun z=>z.1≤z.2∧z.2≤l.length∧(∀ y ∈ l.take z.1,bh y.name n=true)∧∀ y ∈ l.drop z.2,bh y.name n=false) (fun z=>z.2 - z.1) ((0,l.length));(focus ((try push_cast [O,U]);rfl));(focus exact ⟨by simp,by simp,by simp,by simp⟩);(focus ((refine weak_fg ?_;try push_cast [O,U]))));rintro ⟨i,j⟩ ⟨h1,h2,h3,h4⟩;simp only at h1 h2 h3 h4;push_cast [O,U];by_cases hlt:i < j
 ·obtain ⟨md,hh⟩:∃ md,(i+j) / 2=md:=⟨_,rfl⟩
  have hh2:((i:Int)+j) / 2=(md:Int):=ac;have hhl:md < l.length:=ac;have hc:=r7 (l.getD md default) n;have hsp:l=l.take md++l[md] :: l.drop (md+1):=by rw [← List.drop_eq_getElem_cons hhl,List.take_append_drop]
  have hsort:∀ y ∈ l.take md,Up y (l.getD md default):=by
   have hp:=hu;rw [hsp] at hp;intro y hy;rw [ai l hhl];exact (List.pairwise_append.1 hp).2.2 y hy _ List.mem_cons_self
  have hsort2:∀ y ∈ l.drop (md+1),Up (l.getD md default) y:=by
   have hp:=hu;rw [hsp] at hp;intro y hy;rw [ai l hhl];exact (List.pairwise_cons.1 (List.pairwise_append.1 hp).2.1).1 y hy
  by_cases hl2:bh (l.getD md default).name n=true
  ·have e:=eq_true (m8.2 hl2);repeat' ((first|(refine plE [] hc ?_ ?_;focus (push_cast [O,U,hh2,e];done))|refine ae ?_|refine pif ?_ ?_<;>intro h<;>try exact pN h)<;>push_cast [O,U,hh2,e])
   refine ⟨(md+1,j),⟨by simp only;omega,h2,fun y hy=>?_,h4⟩,aA,by simp only;omega⟩;simp only at hy;rw [List.take_succ_eq_append_getElem hhl] at hy;rcases List.mem_append.1 hy with hy|hy
   ·exact fW (hsort y hy) hl2
   ·rw [List.mem_singleton.1 hy,← ai l hhl];exact hl2
  ·have e:¬ (iZ (l.getD md default).name n < 0):=fun h=>hl2 (m8.1 h)
   repeat' ((first|(refine plE [] hc ?_ ?_;focus (push_cast [O,U,hh2,e];done))|refine ae ?_|refine pif ?_ ?_<;>intro h<;>try exact pN h)<;>push_cast [O,U,hh2,e])
   refine ⟨(i,md),⟨by simp only;omega,by simp only;omega,h3,fun y hy=>?_⟩,aA,by simp only;omega⟩;simp only at hy;rw [List.drop_eq_getElem_cons hhl] at hy;rcases List.mem_cons.1 hy with e2|hy
   ·rw [e2,← ai l hhl];simpa using hl2
   ·rcases hq:bh y.name n with _|_
    ·rfl
    ·exact absurd (fW (hsort2 y hy) hq) hl2
 ·have hij:i=j:=ac;subst hij;have hp:=JB h2 h3 h4;have hh:=JD hp;by_cases hn:i < l.length
  ·have hc:=r7 (l.getD i default) n;obtain ⟨b,hb⟩:∃ b,decide (iZ (l.getD i default).name n=0)=b:=⟨_,rfl⟩
   have hb2:decide ((l.getD i default).name=n)=b:=by rw [← hb];exact decide_eq_decide.2 qm.symm
   rw [hb2,decide_eq_true hn,Bool.true_and] at hh;repeat' ((first|(refine plE [] hc ?_ ?_;focus (push_cast [O,U,hb];done))|refine ae ?_|refine pif ?_ ?_<;>intro h<;>try exact pN h)<;>push_cast [O,U,hb])
   (refine K9 [] ?_;push_cast [O,U,hp,hh])
  ·rw [decide_eq_false hn,Bool.false_and] at hh;repeat' ((first|refine ae ?_|refine pif ?_ ?_<;>intro h<;>try exact pN h)<;>push_cast [O,U])
   (refine K9 [] ?_;push_cast [O,U,hp,hh])
def JE (P:Program) (os:List Ob) (t:TypeId) (sz':Nat) (l:List (List D)) (y:Option PV):Res:=match cY P t with
 | some (e,sz)=>match bytOf P e,srcRows os sz y with
  | some by',some ys=>if 0 < sz∧(zerOf P e).map List.length=some sz then (if sz'=sz∧(0 < ys.length∨l.length=0)∧((l.length:Int)+ys.length) * by'≤140737488355328∧(l.length:Int)+ys.length≤9223372036854775807 then .app (.c (.own os.length (l.length+ys.length))) (os++[.arr e sz (l++ys)]) none else .stop) else .stop
  | _,_=>.stop
 | none=>.stop
theorem CE (P:Program) (p:Nat) (os:List Ob) (t:TypeId) (sz':Nat) (l:List (List D)) (y:Option PV):qG P p os t (some (.c (.full sz' l))) y=JE P os t sz' l y:=by
 have hi:uD P os t (some (.c (.full sz' l))) y=none:=by unfold uD;rfl
 unfold JE qG;rw [hi];unfold vZ;cases cY P t with
 | none=>rfl
 | some es =>
  obtain ⟨e,sz⟩:=es;dsimp only;generalize bytOf P e=b;generalize srcRows os sz y=ys;generalize zerOf P e=z;cases b<;>cases ys<;>try rfl
  dsimp only;split
  ·split<;>rfl
  ·rfl
attribute [-push_cast] qG
attribute [push_cast] CE
attribute [push_cast] JE
set_option maxHeartbeats 2000000 in
theorem FG (l:List Atr) (n v:ByteArray) (hl:l.length≤900000) (hu:l.Pairwise Up) :
  ah prog 146 [.c (.sl 2 (l.map Atr.d)),.c (.v (.string n)),.c (.v (.string v))] [] fun r os=>r = .c (.sl 2 ((cX n v l).map Atr.d))∧os=[]:=by
 rw [← uj];unfold rY;have hb:=CC l n ac hu;have hpl:=JA l n;have hhl:hit l n=true → pos l n < l.length:=fun h=>by
  unfold hit at h;split at h
  ·rename_i y hy;exact (List.getElem?_eq_some_iff.1 hy).1
  ·cases h
 generalize pos l n=i at *;generalize hit l n=f at *;refine aw func146 ntmps146 results146 ?_;push_cast [O,U];have cB:aH 11 []:=trivial;have hdd:l.drop (i+1)=(l.drop i).drop 1:=by rw [List.drop_drop]
 by_cases hv:v=⟨#[]⟩
 ·have hv':=eq_true hv;cases f with
  | true =>
   have hlt:=hhl rfl;have hc:=iH (l.take i) ((l.drop i).drop 1) (by rw [List.length_take];omega) (by rw [List.length_drop,List.length_drop];omega);simp only [List.map_take,List.map_drop] at hc;repeat' ((first|(refine plE [] hb ?_ ?_;focus (push_cast [O,U,hv'];done))|(refine plE [] hc ?_ ?_;focus (push_cast [O,U,hv'];done))|refine ae ?_|refine pif ?_ ?_<;>intro h<;>try exact pN h)<;>push_cast [O,U,hv'])
   (refine K9 [] ?_;push_cast [O,U,hv',hdd])
  | false =>
   have hc:=iH (l.take i) (l.drop i) (by rw [List.length_take];omega) (by rw [List.length_drop];omega);simp only [List.map_take,List.map_drop] at hc;repeat' ((first|(refine plE [] hb ?_ ?_;focus (push_cast [O,U,hv'];done))|(refine plE [] hc ?_ ?_;focus (push_cast [O,U,hv'];done))|refine ae ?_|refine pif ?_ ?_<;>intro h<;>try exact pN h)<;>push_cast [O,U,hv'])
   (refine K9 [] ?_;push_cast [O,U,hv'])
 ·obtain ⟨A,hA⟩:∃ A,l.take i=A:=⟨_,rfl⟩
  have hAl:A.length=i:=by rw [← hA,List.length_take];omega
  have hT:List.take i (List.map Atr.d l)=A.map Atr.d:=by rw [← hA,List.map_take]
  have hcl:(A++[(⟨n,v⟩:Atr)]).length=i+1:=by rw [List.length_append,hAl];rfl
  rw [hA];cases f with
  | true =>
   have hlt:=hhl rfl;have hc:=iH (A++[⟨n,v⟩]) ((l.drop i).drop 1) (by rw [hcl];omega) (by rw [List.length_drop,List.length_drop];omega);simp only [List.map_append,List.map_cons,List.map_nil,List.map_drop] at hc;repeat' ((first|(refine plE [] hb ?_ ?_;focus (push_cast [O,U,hv,hT];done))|refine ae ?_|refine pif ?_ ?_<;>intro h<;>try exact pN h)<;>push_cast [O,U,hv,hT])
   refine bX (bQ 0 ac) ?_;refine an ?_;push_cast [O,U];(refine plE [] hc ?_ ?_<;>push_cast [O,U]);repeat' ((first|refine ae ?_|refine pif ?_ ?_<;>intro h<;>try exact pN h)<;>push_cast [O,U,hv])
   (refine K9 [] ?_;push_cast [O,U,hv,hdd]);all_goals simp only [List.map_take,List.map_drop]
  | false =>
   have hc:=iH (A++[⟨n,v⟩]) (l.drop i) (by rw [hcl];omega) (by rw [List.length_drop];omega);simp only [List.map_append,List.map_cons,List.map_nil,List.map_drop] at hc;repeat' ((first|(refine plE [] hb ?_ ?_;focus (push_cast [O,U,hv,hT];done))|refine ae ?_|refine pif ?_ ?_<;>intro h<;>try exact pN h)<;>push_cast [O,U,hv,hT])
   refine bX (bQ 0 ac) ?_;refine an ?_;push_cast [O,U];(refine plE [] hc ?_ ?_<;>push_cast [O,U]);repeat' ((first|refine ae ?_|refine pif ?_ ?_<;>intro h<;>try exact pN h)<;>push_cast [O,U,hv])
   (refine K9 [] ?_;push_cast [O,U,hv]);all_goals simp only [List.map_take,List.map_drop]
end
section
attribute [local irreducible] PL QL aL ah bg La aV PA bm
set_option maxRecDepth 20000
structure eA (o:Opr):Prop where
 dev:o.dev.ok
 att:o.dev.attrs.length≤1000000000
 path:Fit o.path
 name:Fit o.name
 value:Fit o.value
theorem CG {l:List Atr} (h:iC l=true):l.Pairwise Up:=by
 have hs:∀ j,j+1 < l.length → bh (l.getD j default).name (l.getD (j+1) default).name=true:=fun j hj=>List.all_eq_true.1 h j (List.mem_range.2 ac)
 rw [List.pairwise_iff_getElem];intro i j hi hj hij;obtain ⟨m,rfl⟩:∃ m,j=i+1+m:=⟨j - i - 1,ac⟩
 induction m with
 | zero =>
  have:=hs i ac;rw [ai l hi,ai l ac] at this;exact this
 | succ m ih =>
  have h1:=ih ac ac;have h2:=hs (i+1+m) ac;rw [ai l ac,ai l ac] at h2;exact fW h1 h2
theorem FH {k:Ker} (h:bL k) {d:Dev} (hd:d ∈ k.tree):d.attrs.Pairwise Up:=by
 have h1:=h.inv.tree.chk d hd;unfold aS at h1;have e1:dI d=true:=by cases e:dI d with|true=>rfl|false=>rw [e] at h1;simp at h1
 rw [e1] at h1;have e2:namedM d=true:=by cases e:namedM d with|true=>rfl|false=>rw [e] at h1;simp at h1
 rw [e2] at h1;have e3:kindM d=true:=by cases e:kindM d with|true=>rfl|false=>rw [e] at h1;simp at h1
 rw [e3] at h1;have e4:numberM d=true:=by cases e:numberM d with|true=>rfl|false=>rw [e] at h1;simp at h1
 rw [e4] at h1;simp only [Bool.not_true,Bool.false_eq_true,if_false] at h1;have e5:¬ 24 < d.attrs.length:=fun e=>by rw [if_pos e] at h1;cases h1
 rw [if_neg e5] at h1;have e6:attrsB d.attrs=true:=by cases e:attrsB d.attrs with|true=>rfl|false=>rw [e] at h1;simp at h1
 simp only [attrsB,Bool.and_eq_true] at e6;exact CG e6.1
theorem zk (k:Ker) (op:Opr) (d:Dev) (hB:bL k) (hn:k.evs.length+1≤1000000) :
  bm 1 prog 99 [.c (.ptr 0 0),.agg op.e,.agg d.e] (bI k) fun r os=>r = .c (.v (.int .i64 ((k.trigger d).2)))∧os=bI (k.trigger d).1:=by
 have h1:=gb k 3 d.index hB.inv.tree;have h2:=fa k [⟨0,3,d.index,bF k.tree d.index,⟨#[]⟩⟩] (by simp;omega);rw [show k.tells [⟨0,3,d.index,bF k.tree d.index,⟨#[]⟩⟩]=k.emit 3 d.index ⟨#[]⟩ from rfl] at h2;unfold Ker.trigger;obtain ⟨E,hE⟩:∃ E,k.emit 3 d.index ⟨#[]⟩=E:=⟨_,rfl⟩
 rw [hE] at h2 ⊢;refine cG 1 (by simp [bI]) func99 rfl (by simp [ntmps99]) (by rintro r os ⟨rfl,rfl⟩;simp [bI]) ?_;rw [ntmps99,results99];push_cast [O,U];have cB:aH 7 []:=trivial;repeat' ((first|refine aK [0,1,2] h1 ?_|(refine eZ 1 [0,1,2] (h2) ?_ ?_;push_cast [O,U];rintro r os ⟨rfl,rfl⟩)|refine ae ?_|refine pif ?_ ?_<;>intro h<;>try exact pN h)<;>push_cast [O,U])
 exact am [0,1,2]
theorem zl (k:Ker) (op:Opr) (d:Dev) (hB:bL k) (ho:eA op) (hd:d ∈ k.tree) (hn:k.evs.length+1≤1000000) :
  bm 1 prog 101 [.c (.ptr 0 0),.agg op.e,.agg d.e] (bI k) fun r os=>r = .c (.v (.int .i64 ((k.bind d op.value).2)))∧os=bI (k.bind d op.value).1:=by
 have hv:=dt op.value ho.value;have hdr:=ji k d op.value hB (hB.ok hd) (by have:=hB.orig d hd;omega) (hB.att d hd) ho.value hn;unfold Ker.bind;refine cG 1 (by simp [bI]) func101 rfl (by simp [ntmps101]) (by rintro r os ⟨rfl,rfl⟩;simp [bI]) ?_;rw [ntmps101,results101];push_cast [O,U];have cB:aH 8 [11]:=trivial;by_cases h0:d.driver=⟨#[]⟩
 case neg =>
  rw [if_pos h0];repeat' ((first|refine ae ?_|refine pif ?_ ?_<;>intro h<;>try exact pN h)<;>push_cast [O,U,h0])
  exact am [0,1,2]
 rw [if_neg (fun h=>h h0)];cases hvv:validS op.value with
 | false =>
  rw [hvv] at hv;repeat' ((first|(refine plE [] hv ?_ ?_;focus (push_cast [O,U,h0];done))|refine ae ?_|refine pif ?_ ?_<;>intro h<;>try exact pN h)<;>push_cast [O,U,h0])
  exact am [0,1,2]
 | true =>
  rw [hvv] at hv;obtain ⟨X,hX⟩:∃ X,k.drive d op.value=X:=⟨_,rfl⟩
  rw [hX] at hdr ⊢;repeat' ((first|(refine plE [] hv ?_ ?_;focus (push_cast [O,U,h0];done))|(refine eZ 1 [0,1,2] (hdr) ?_ ?_;push_cast [O,U,h0];rintro r os ⟨rfl,rfl⟩)|refine ae ?_|refine pif ?_ ?_<;>intro h<;>try exact pN h)<;>push_cast [O,U,h0])
  exact am [0,1,2]
theorem vn (k:Ker) (op:Opr) (d:Dev) (hB:bL k) (hd:d ∈ k.tree) (hn:k.evs.length+1≤1000000) :
  bm 1 prog 102 [.c (.ptr 0 0),.agg op.e,.agg d.e] (bI k) fun r os=>r = .c (.v (.int .i64 ((k.unbind d).2)))∧os=bI (k.unbind d).1:=by
 have hdr:=ji k d ⟨#[]⟩ hB (hB.ok hd) (by have:=hB.orig d hd;omega) (hB.att d hd) af hn;unfold Ker.unbind;refine cG 1 (by simp [bI]) func102 rfl (by simp [ntmps102]) (by rintro r os ⟨rfl,rfl⟩;simp [bI]) ?_;rw [ntmps102,results102];push_cast [O,U];have cB:aH 7 []:=trivial;by_cases h0:d.driver=⟨#[]⟩
 ·rw [if_pos h0];repeat' ((first|refine ae ?_|refine pif ?_ ?_<;>intro h<;>try exact pN h)<;>push_cast [O,U,h0])
  exact am [0,1,2]
 ·rw [if_neg h0];obtain ⟨X,hX⟩:∃ X,k.drive d ⟨#[]⟩=X:=⟨_,rfl⟩
  rw [hX] at hdr ⊢;repeat' ((first|(refine eZ 1 [0,1,2] (hdr) ?_ ?_;push_cast [O,U,h0];rintro r os ⟨rfl,rfl⟩)|refine ae ?_|refine pif ?_ ?_<;>intro h<;>try exact pN h)<;>push_cast [O,U,h0])
  exact am [0,1,2]
end
end Go.Proofs.YtmbbkfffcflfcaaGreatDoor
