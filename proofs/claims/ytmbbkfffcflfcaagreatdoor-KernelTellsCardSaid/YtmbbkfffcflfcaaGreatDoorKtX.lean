import Derived.Test.YtmbbkfffcflfcaaGreatDoorT45
namespace Go.Proofs.YtmbbkfffcflfcaaGreatDoor
open Go.Proofs.Tryz
set_option linter.unusedSimpArgs false
set_option linter.unusedVariables false
open Go.RowKit
open IntWalk renaming iteOmega → O, toNatUp → U
theorem cy.nodup {es:List Evt} {L:List Int} {t:Int} (h:cy es L t):L.Nodup:=by
 induction h with
 | nil=>exact List.nodup_nil
 | add h e h1 h2 h3 ih =>
  rw [List.nodup_append];exact ⟨ih,by simp,fun a ha b hb=>by rw [List.mem_singleton] at hb;rw [hb];exact fun e=>h3 (e ▸ ha)⟩
 | rem h e h1 h2 ih=>exact ih.erase _
 | oth h e h1 h2 h3 ih=>exact ih
theorem cy.last {es:List Evt} {e:Evt} {L:List Int} {t:Int} (h:cy (es++[e]) L t):∃ L' t',cy es L' t'∧((e.act=1∧t' < e.idx∧e.idx ∉ L'∧L=L'++[e.idx]∧t=e.idx)∨(e.act=2∧e.idx ∈ L'∧L=L'.erase e.idx∧t=t')∨(e.act≠1∧e.act≠2∧e.idx ∈ L'∧L=L'∧t=t')):=by
 generalize hx:es++[e]=xs at h;cases h with
 | nil=>simp at hx
 | add h' e' h1 h2 h3 =>
  obtain ⟨rfl,h4⟩:=List.append_inj' hx rfl;simp only [List.cons.injEq,and_true] at h4;subst h4;exact ⟨_,_,h',.inl ⟨h1,h2,h3,rfl,rfl⟩⟩
 | rem h' e' h1 h2 =>
  obtain ⟨rfl,h4⟩:=List.append_inj' hx rfl;simp only [List.cons.injEq,and_true] at h4;subst h4;exact ⟨_,_,h',.inr (.inl ⟨h1,h2,rfl,rfl⟩)⟩
 | oth h' e' h1 h2 h3 =>
  obtain ⟨rfl,h4⟩:=List.append_inj' hx rfl;simp only [List.cons.injEq,and_true] at h4;subst h4;exact ⟨_,_,h',.inr (.inr ⟨h1,h2,h3,rfl,rfl⟩)⟩
theorem cy.take {es:List Evt} {L:List Int} {t:Int} (h:cy es L t) (n:Nat):∃ L' t',cy (es.take n) L' t':=by
 induction h with
 | nil=>exact ⟨[],0,by rw [List.take_nil];exact cy.nil⟩
 | @add es L t h e h1 h2 h3 ih =>
  by_cases hn:n≤es.length
  ·rw [List.take_append_of_le_length hn];exact ih
  ·rw [List.take_of_length_le (by rw [List.length_append,List.length_singleton];omega)];exact ⟨_,_,cy.add h e h1 h2 h3⟩
 | @rem es L t h e h1 h2 ih =>
  by_cases hn:n≤es.length
  ·rw [List.take_append_of_le_length hn];exact ih
  ·rw [List.take_of_length_le (by rw [List.length_append,List.length_singleton];omega)];exact ⟨_,_,cy.rem h e h1 h2⟩
 | @oth es L t h e h1 h2 h3 ih =>
  by_cases hn:n≤es.length
  ·rw [List.take_append_of_le_length hn];exact ih
  ·rw [List.take_of_length_le (by rw [List.length_append,List.length_singleton];omega)];exact ⟨_,_,cy.oth h e h1 h2 h3⟩
section
attribute [local irreducible] PL QL aL ah bg La aV PA bm
set_option maxRecDepth 20000
set_option maxHeartbeats 8000000 in
theorem ii (N:Int) (hN:0≤N∧N≤30) (L:List Int) (hL:∀ x ∈ L,-9223372036854775808≤x∧x≤9223372036854775807) (hl:L.length≤9223372036854775807) :
  ah prog 25 [.c (.sl 1 (L.map fun x=>[.v (.int .i64 x)])),.c (.v (.int .i64 N))] [] fun r os=>∃ x:List Mod × Nat × Ker × Nat,(eN x.1∧x.2.1≤30∧eJ x.2.1 x.2.2.1∧x.2.2.1.mods=x.1∧x.2.2.2≤2000)∧r = .two (.agg (xP x.2.2.1)) (.c (.v (.bool true)))∧os=xQ L x.2.2.2 x.2.2.1:=by
 have hb:=jQ L hL hl;have nex:=fun (j:Nat) (hj:j < 1000000) (m:Int) (hm:0 < m) (hm2:m≤9223372036854775807)=>cP L j m hj hm hm2 hL hl
 refine aw func25 ntmps25 results25 ?_;push_cast [O,U];have cB:aH 8 []:=trivial;repeat' ((first|refine ae ?_|refine pif ?_ ?_<;>intro h<;>try exact pN h)<;>push_cast [O,U])
 (refine plc [] (hb) ?_ ?_;push_cast [O,U];rintro r os ⟨ms,hS,rfl,rfl⟩;push_cast [O,U]);repeat' ((first|refine ae ?_|refine pif ?_ ?_<;>intro h<;>try exact pN h)<;>push_cast [O,U])
 refine fD rfl rfl rfl rfl aj (by simp [bp]) (an ?_);push_cast [O,U];have n1:=nex 8 af (N+1) ac ac;repeat' ((first|refine ae ?_|refine pif ?_ ?_<;>intro h<;>try exact pN h)<;>push_cast [O,U])
 (refine plc [1] (n1) ?_ ?_;push_cast [O,U];rintro r os ⟨v,⟨va,vb⟩,rfl,rfl⟩;push_cast [O,U]);obtain ⟨n,rfl⟩:∃ n:Nat,v=(n:Int):=⟨v.toNat,ac⟩
 repeat' ((first|refine ae ?_|refine pif ?_ ?_<;>intro h<;>try exact pN h)<;>push_cast [O,U])
 (apply ap (α:=Nat × Ker × Nat) 8 [] (fun x=>[(7,.c (.v (.int .i64 x.1)))]) (fun x=>[(1,tape L x.2.2),(2,jd 3 4 x.2.1),(3,jI x.2.1),(4,je x.2.1),(5,.box 49 (.ptr 1 0 :: .ptr 2 0 :: x.2.1.re))]) (fun x=>x.1≤n∧eJ (n - x.1) x.2.1∧x.2.2≤9+60 * (n - x.1)∧x.2.1.mods=ms) (fun x=>x.1) ((n,vw ms,9));(focus ((try push_cast [O,U]);rfl));(focus exact ⟨Nat.le_refl _,by rw [Nat.sub_self];exact eJ.beg hS,by simp only;omega,rfl⟩);(focus ((refine weak_fg ?_;try push_cast [O,U]);(try (rfl)))));rintro ⟨i,k,q⟩ ⟨hi,hk,hq,hm⟩;simp only at hi hk hq hm;by_cases h0:0 < i
 case neg =>
  have h0':¬ (0:Int) < (i:Int):=ac;push_cast [O,U];repeat' ((first|refine ae ?_|refine pif ?_ ?_<;>intro h<;>try exact pN h)<;>push_cast [O,U,h0'])
  (refine K9 [1,2,3,4] ?_;push_cast [O,U]);exact ⟨_,_,aE _,aB _,(ms,n - i,k,q),⟨hS,by simp only;omega,hk,hm,by simp only;omega⟩,rfl,rfl⟩
 obtain ⟨i,rfl⟩:∃ i',i=i'+1:=⟨i - 1,ac⟩
 have h0':(0:Int) < (i:Int)+1:=ac;have hev:=hk.e;have htp:=hk.t;obtain ⟨ix1,ix2,ix3,ix4⟩:=hk.ixs ac;have hop:=oS L q k.tree ac ix4 ix3 ix1 ix2 hL hl;push_cast [O,U];repeat' ((first|refine ae ?_|refine pif ?_ ?_<;>intro h<;>try exact pN h)<;>push_cast [O,U,h0'])
 (refine plc [1] (hop) ?_ ?_;push_cast [O,U];rintro r os ⟨op,q2,ho,hq2,rfl,rfl⟩;push_cast [O,U]);have hdo:=jm L q2 k op hk.b ho ac ac;have hk2:=hk.do ac op;have hm2:(bM k op).1.mods=ms:=by rw [← hm];exact (jH db k op).1
 obtain ⟨k2,hke⟩:∃ k2,(bM k op).1=k2:=⟨_,rfl⟩
 rw [hke] at hdo hk2 hm2;repeat' ((first|(refine eZ 3 [5,1,2,3,4] (hdo) ?_ ?_;push_cast [O,U];rintro r os ⟨rfl,rfl⟩)|refine ae ?_|refine pif ?_ ?_<;>intro h<;>try exact pN h)<;>push_cast [O,U])
 exact ⟨(i,k2,q2),⟨by simp only;omega,by simp only;rw [show n - i=n - (i+1)+1 by omega];exact hk2,by simp only;omega,hm2⟩,aA,by simp only;omega⟩
end
theorem cy.start {L:List Int} {t:Int} (h:cy [] L t):L=[]∧t=0:=by
 generalize he:([]:List Evt)=es at h;cases h with
 | nil=>exact ⟨rfl,rfl⟩
 | add h e h1 h2 h3=>exact absurd he (by simp)
 | rem h e h1 h2=>exact absurd he (by simp)
 | oth h e h1 h2 h3=>exact absurd he (by simp)
theorem cy.det {es:List Evt} {L L':List Int} {t t':Int} (h:cy es L t) (h':cy es L' t'):L=L'∧t=t':=by
 induction h generalizing L' t' with
 | nil=>obtain ⟨a,b⟩:=h'.start;exact ⟨a.symm,b.symm⟩
 | add h e h1 h2 h3 ih =>
  obtain ⟨M,s,g,c⟩:=h'.last;obtain ⟨rfl,rfl⟩:=ih g;rcases c with ⟨_,_,_,a,b⟩|⟨a,_⟩|⟨a,_⟩
  ·exact ⟨a.symm,b.symm⟩
  ·rw [h1] at a;exact absurd a af
  ·exact absurd h1 a
 | rem h e h1 h2 ih =>
  obtain ⟨M,s,g,c⟩:=h'.last;obtain ⟨rfl,rfl⟩:=ih g;rcases c with ⟨a,_⟩|⟨_,_,a,b⟩|⟨_,a,_⟩
  ·rw [h1] at a;exact absurd a af
  ·exact ⟨a.symm,b.symm⟩
  ·exact absurd h1 a
 | oth h e h1 h2 h3 ih =>
  obtain ⟨M,s,g,c⟩:=h'.last;obtain ⟨rfl,rfl⟩:=ih g;rcases c with ⟨a,_⟩|⟨a,_⟩|⟨_,_,_,a,b⟩
  ·exact absurd a h1
  ·exact absurd a h2
  ·exact ⟨a.symm,b.symm⟩
theorem cy.next {es:List Evt} {M:List Int} {s:Int} (h:cy es M s) {i:Nat} (hi:i < es.length) {L:List Int} {t:Int} (hL:cy (es.take i) L t) :
  ((es.getD i default).act=1∧t < (es.getD i default).idx∧(es.getD i default).idx ∉ L∧cy (es.take (i+1)) (L++[(es.getD i default).idx]) (es.getD i default).idx) ∨
  ((es.getD i default).act=2∧(es.getD i default).idx ∈ L∧cy (es.take (i+1)) (L.erase (es.getD i default).idx) t) ∨
  ((es.getD i default).act≠1∧(es.getD i default).act≠2∧(es.getD i default).idx ∈ L∧cy (es.take (i+1)) L t):=by
 obtain ⟨L1,t1,h1⟩:=h.take (i+1);rw [ai es hi];rw [List.take_succ_eq_append_getElem hi] at h1 ⊢;obtain ⟨M2,s2,g,c⟩:=h1.last;obtain ⟨rfl,rfl⟩:=g.det hL;rcases c with ⟨a,b,c,d,e⟩|⟨a,b,c,d⟩|⟨a,b,c,d,e⟩
 ·subst d;subst e;exact .inl ⟨a,b,c,h1⟩
 ·subst c;subst d;exact .inr (.inl ⟨a,b,h1⟩)
 ·subst d;subst e;exact .inr (.inr ⟨a,b,c,h1⟩)
theorem Ld {L:List Int} (hn:L.Nodup) {x:Int} {j:Nat} (hj:j < L.length) (h:L.getD j 0=x):L.erase x=L.take j++L.drop (j+1):=by
 have h1:L=L.take j++x :: L.drop (j+1):=by
  have e:L.getD j 0=L[j]:=by rw [List.getD_eq_getElem?_getD,List.getElem?_eq_getElem hj];rfl
  rw [← h,e,← List.drop_eq_getElem_cons hj,List.take_append_drop]
 have h2:=hn;rw [h1,List.nodup_append] at h2
 conv=>lhs;rw [h1]
 rw [List.erase_append_right _ (fun hm=>h2.2.2 x hm x (List.mem_cons_self ..) rfl),List.erase_cons_head]
section
attribute [local irreducible] PL QL aL ah bg La aV PA bm
set_option maxRecDepth 20000
theorem KJ {N p:Nat} {t:List (Nat × PV)} {os:List Ob} (ks:List Nat) (os':List Ob) (h:Eg true ks ⟨t,os⟩ ⟨t,os'⟩ p):bg N p ⟨t,os⟩ ⟨t,os'⟩:=gz true ks h
def Df (x:Int):List D:=[.v (.int .i64 x)]
attribute [push_cast] Df
set_option maxHeartbeats 32000000 in
theorem vz (L:List Int) (hL:∀ x ∈ L,-9223372036854775808≤x∧x≤9223372036854775807) (hl:L.length≤9223372036854775807) :
  ah prog 5 [.c (.sl 1 (L.map fun x=>[.v (.int .i64 x)]))] [] fun r os=>r = .c (.v (.bool true))∧os=[]:=by
 refine aw func5 ntmps5 results5 ?_;have hlv:=ii 22 af L hL hl;have hkn:=gw;push_cast [O,U];have cB:aH 16 [68]:=trivial;repeat' ((first|refine ae ?_|refine pif ?_ ?_<;>intro h<;>try exact pN h)<;>push_cast [O,U])
 (refine plc [] (hlv) ?_ ?_;push_cast [O,U];rintro r os ⟨⟨ms,m0,k,q0⟩,⟨hS,hm0,hk0,hmm,hq0⟩,rfl,rfl⟩;push_cast [O,U]);simp only at hS hm0 hk0 hmm hq0;have hev:=hk0.e;have hlo:=hk0.b.lod;have hkl:=hk0.b.len;have hE:=dV k 0 af ac;rw [show dx k 0=0 from rfl,List.drop_zero] at hE;have hkt:=fO k hk0.b.inv.tree;obtain ⟨LT,tt,htl,htt,hper⟩:=hk0.b.inv.tell;have hevn:=hk0.b.inv.evn;obtain ⟨es,hes⟩:∃ es,k.evs=es:=⟨_,rfl⟩
 rw [hes] at hev hE htl hevn;push_cast [O,U];repeat' ((first|refine ae ?_|refine pif ?_ ?_<;>intro h<;>try exact pN h)<;>push_cast [O,U])
 (refine plE [] hkn ?_ ?_<;>push_cast [O,U]);repeat' ((first|refine aK [1,2,3] hE ?_|refine ae ?_|refine pif ?_ ?_<;>intro h<;>try exact pN h)<;>push_cast [O,U])
 refine aF (dm 5 3 1 ac (by push_cast [O,U])) ?_;push_cast [O,U];(apply ap (α:=Nat × List Int × Int) 16 [68] (fun x=>[(8,.c (.v (.int .i64 x.1))),(6,.c (.v (.int .i64 x.2.2))),(5,.c (.own 5 (x.2.1.length)))]) (fun x=>[(5,.arr 3 1 (x.2.1.map Df))]) (fun x=>x.1≤es.length∧cy (es.take x.1) x.2.1 x.2.2∧x.2.1.length≤x.1) (fun x=>es.length - x.1) ((0,[],0));(focus ((try push_cast [O,U]);rfl));(focus exact ⟨Nat.zero_le _,cy.nil,Nat.le_refl _⟩);(focus ((refine weak_fg ?_;try push_cast [O,U]))));rintro ⟨i,ins,top⟩ ⟨hi,hin,hil⟩;simp only at hi hin hil;push_cast [O,U];by_cases hlt:i < es.length
 case neg =>
  rw [List.take_of_length_le ac] at hin;obtain ⟨e1,e2⟩:=hin.det htl;rw [← e1] at hper;have hpl:=hper.length_eq;rw [List.length_map] at hpl;have hpl':(k.tree.length:Int)=(ins.length:Int):=ac;repeat' ((first|refine aK [1,2,3] hkt ?_|refine ae ?_|refine pif ?_ ?_<;>intro h<;>try exact pN h)<;>push_cast [O,U])
  (apply ap (α:=Nat) 16 [68] (fun a=>[(13,.c (.v (.int .i64 a)))]) (fun a=>[]) (fun a=>a≤k.tree.length) (fun a=>k.tree.length - a) (0);(focus ((try push_cast [O,U]);rfl));(focus exact (Nat.zero_le _));(focus ((refine weak_fg ?_;try push_cast [O,U]))));intro a ha;push_cast [O,U];by_cases hal:a < k.tree.length
  case neg =>
   repeat' ((first|refine ae ?_|refine pif ?_ ?_<;>intro h<;>try exact pN h)<;>push_cast [O,U,hpl'])
   (refine K9 [] ?_;push_cast [O,U,hpl'])
  have hdm:k.tree.getD a default ∈ k.tree:=by rw [ai _ hal];exact List.getElem_mem _
  obtain ⟨d,hd⟩:∃ d,k.tree.getD a default=d:=⟨_,rfl⟩
  rw [hd] at hdm;have hin2:d.index ∈ ins:=hper.mem_iff.2 (List.mem_map.2 ⟨d,hdm,rfl⟩);repeat' ((first|refine ae ?_|refine pif ?_ ?_<;>intro h<;>try exact pN h)<;>push_cast [O,U,hd])
  (apply ap (α:=Nat) 16 [68] (fun b=>[(15,.c (.v (.int .i64 b))),(14,.c (.v (.bool ((ins.take b).any fun x=>decide (x=d.index)))))]) (fun b=>[]) (fun b=>b≤ins.length) (fun b=>ins.length - b) (0);(focus ((try push_cast [O,U]);rfl));(focus exact (Nat.zero_le _));(focus ((refine weak_fg ?_;try push_cast [O,U]);(try (rfl)))));intro b hb;by_cases hbl:b < ins.length
  ·have hst:((ins.take (b+1)).any fun x=>decide (x=d.index))=(((ins.take b).any fun x=>decide (x=d.index)) || decide (ins.getD b default=d.index)):=by
    rw [List.take_succ_eq_append_getElem hbl,List.any_append,List.getD_eq_getElem?_getD,List.getElem?_eq_getElem hbl];simp
   obtain ⟨f,hf⟩:∃ f,((ins.take b).any fun x=>decide (x=d.index))=f:=⟨_,rfl⟩
   rw [hf] at hst ⊢;cases f with
   | true =>
    rw [Bool.true_or] at hst;push_cast [O,U];repeat' ((first|refine ae ?_|refine pif ?_ ?_<;>intro h<;>try exact pN h)<;>push_cast [O,U,hd])
    exact ⟨b+1,ac,by (refine weak_fg ?_;push_cast [O,U,hst]),ac⟩
   | false =>
    rw [Bool.false_or] at hst;push_cast [O,U];repeat' ((first|refine ae ?_|refine pif ?_ ?_<;>intro h<;>try exact pN h)<;>push_cast [O,U,hd])
    exact ⟨b+1,ac,by (refine weak_fg ?_;push_cast [O,U,hst]),ac⟩
  ·have hall:((ins.take b).any fun x=>decide (x=d.index))=true:=by
    rw [List.take_of_length_le ac,List.any_eq_true];exact ⟨d.index,hin2,by simp⟩
   rw [hall];push_cast [O,U];repeat' ((first|refine ae ?_|refine pif ?_ ?_<;>intro h<;>try exact pN h)<;>push_cast [O,U])
   exact ⟨a+1,ac,aA,ac⟩
 have hsq:=hevn i hlt;have hnx:=htl.next hlt hin;have hnd:=hin.nodup;obtain ⟨e,he⟩:∃ e,es.getD i default=e:=⟨_,rfl⟩
 rw [he] at hsq hnx;repeat' ((first|refine ae ?_|refine pif ?_ ?_<;>intro h<;>try exact pN h)<;>push_cast [O,U,he])
 (apply ap (α:=Nat × Int) 16 [68] (fun y=>[(11,.c (.v (.int .i64 y.1))),(10,.c (.v (.int .i64 y.2)))]) (fun y=>[]) (fun y=>y.1≤ins.length∧((y.2 = -1∧e.idx ∉ ins.take y.1)∨∃ j:Nat,y.2=j∧j < y.1∧ins.getD j 0=e.idx)) (fun y=>ins.length - y.1) ((0,-1));(focus ((try push_cast [O,U]);rfl));(focus exact ⟨Nat.zero_le _,.inl ⟨rfl,by simp⟩⟩);(focus ((refine weak_fg ?_;try push_cast [O,U]))));rintro ⟨kk,at_⟩ ⟨hkk,hat⟩;simp only at hkk hat;push_cast [O,U];by_cases hkl2:kk < ins.length
 ·by_cases hix:ins.getD kk default=e.idx
  ·repeat' ((first|refine ae ?_|refine pif ?_ ?_<;>intro h<;>try exact pN h)<;>push_cast [O,U,hix])
   exact ⟨(kk+1,(kk:Int)),⟨by simp only;omega,.inr ⟨kk,rfl,by simp only;omega,hix⟩⟩,aA,by simp only;omega⟩
  ·repeat' ((first|refine ae ?_|refine pif ?_ ?_<;>intro h<;>try exact pN h)<;>push_cast [O,U,hix])
   refine ⟨(kk+1,at_),⟨by simp only;omega,?_⟩,aA,by simp only;omega⟩;rcases hat with ⟨h1,h2⟩|⟨j,h1,h2,h3⟩
   ·refine .inl ⟨h1,?_⟩;simp only;rw [List.take_succ_eq_append_getElem hkl2,List.mem_append,List.mem_singleton];rintro (h|h)
    ·exact h2 h
    ·exact hix (by rw [List.getD_eq_getElem?_getD,List.getElem?_eq_getElem hkl2,h];rfl)
   ·exact .inr ⟨j,h1,by simp only;omega,h3⟩
 rw [show kk=ins.length by omega] at hat;rw [List.take_length] at hat;rcases hnx with ⟨a1,a2,a3,a4⟩|⟨a1,a2,a4⟩|⟨a1,a2,a3,a4⟩
 ·have hat':at_ = -1:=by
   rcases hat with ⟨h,_⟩|⟨j,_,h2,h3⟩
   ·exact h
   ·exact absurd (by rw [← h3,List.getD_eq_getElem?_getD,List.getElem?_eq_getElem h2];exact List.getElem_mem _) a3
  subst hat';have ha2:¬ e.idx≤top:=ac;repeat' ((first|refine ae ?_|refine pif ?_ ?_<;>intro h<;>try exact pN h)<;>push_cast [O,U,hsq,a1,ha2])
  exact ⟨(i+1,ins++[e.idx],e.idx),⟨by simp only;omega,a4,by simp only [List.length_append,List.length_singleton];omega⟩,aA,by simp only;omega⟩
 ·obtain ⟨j,hj,hjl,hje⟩:∃ j:Nat,at_=j∧j < ins.length∧ins.getD j 0=e.idx:=by
   rcases hat with ⟨_,h⟩|h
   ·exact absurd a2 h
   ·exact h
  subst hj;have her:=Ld hnd hjl hje;rw [her] at a4;have hj0:¬ (j:Int) < 0:=ac;have hb1:(j:Int)≤(ins.length:Int):=ac;have hb2:(j:Int)+1≤(ins.length:Int):=ac;repeat' ((first|(refine eQ 26 ?_)|refine ae ?_|refine pif ?_ ?_<;>intro h<;>try exact pN h)<;>push_cast [O,U,hsq,a1,hj0])
  refine dd ?_;(refine av 16 [68] ?_;refine aO aj ?_;simp only [aP,Nat.reduceAdd];refine pah 0 ?_;push_cast [O,U,  hb1,hb2];refine pah 1 ?_;push_cast [O,U,  hb1,hb2];refine pah 2 ?_;push_cast [O,U,  hb1,hb2];refine pah 4 ?_;push_cast [O,U,  hb1,hb2];refine pah 5 ?_;push_cast [O,U,  hb1,hb2];refine pah 6 ?_;push_cast [O,U,  hb1,hb2];refine pah 7 ?_;push_cast [O,U,  hb1,hb2];apply ar;intro z2;apply ar;intro z1;refine pas [3] ?_;push_cast [O,U,  hb1,hb2];refine z1;refine pas [8] ?_;push_cast [O,U,  hb1,hb2];(focus (refine pah 9 ?_;push_cast [O,U,  hb1,hb2];exact paw z2 (ao 16 [68] _)));push_cast [O,U,  hb1,hb2];refine pad ?_;push_cast [O,U,  hb1,hb2]);have hrw:List.take j (List.map Df ins)++List.drop (j+1) (List.map Df ins)=(ins.take j++ins.drop (j+1)).map Df:=by rw [List.map_append,List.map_take,List.map_drop]
  have hel:min j ins.length+(ins.length - (j+1))=(ins.take j++ins.drop (j+1)).length:=by rw [List.length_append,List.length_take,List.length_drop]
  obtain ⟨er,he2⟩:∃ er,ins.take j++ins.drop (j+1)=er:=⟨_,rfl⟩
  rw [he2] at hrw hel a4;have hel2:er.length≤i+1:=ac;repeat' ((first|refine ae ?_|refine pif ?_ ?_<;>intro h<;>try exact pN h)<;>push_cast [O,U])
  rw [hrw,hel];exact ⟨(i+1,er,top),⟨by simp only;omega,a4,by simp only;omega⟩,by (refine gz true [0,1,2,3,4,7] ?_;push_cast [O,U]),by simp only;omega⟩
 ·obtain ⟨j,hj,hjl,hje⟩:∃ j:Nat,at_=j∧j < ins.length∧ins.getD j 0=e.idx:=by
   rcases hat with ⟨_,h⟩|h
   ·exact absurd a3 h
   ·exact h
  subst hj;have hj0:¬ (j:Int) < 0:=ac;repeat' ((first|refine ae ?_|refine pif ?_ ?_<;>intro h<;>try exact pN h)<;>push_cast [O,U,hsq,a1,a2,hj0])
  exact ⟨(i+1,ins,top),⟨by simp only;omega,a4,by simp only;omega⟩,aA,by simp only;omega⟩
end
end Go.Proofs.YtmbbkfffcflfcaaGreatDoor
