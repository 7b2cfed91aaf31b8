/- What the program computes, and the plain laws of it, part 33. -/
import Derived.Lib.ItoaNum
import Derived.WideKeyEntry
import Derived.Test.YtmbbkfffcflfcaaGreatDoorT32
namespace Go.Proofs.YtmbbkfffcflfcaaGreatDoor
open Nat renaming reduceAdd → rA
open Go.Proofs.Tryz
set_option linter.unusedSimpArgs false
set_option linter.unusedVariables false
open Go.RowKit
open IntWalk renaming iteOmega → O, toNatUp → U
section
def bm (m:Nat) (P:Program) (g:FuncId) (args:List PV) (os:List Ob) (R:PV → List Ob → Prop):Prop :=
 ∀ Γ w (xs:List Value),bz Γ os w → ay (RP w Γ) args xs → Calls P g xs.toArray w fun e w' =>
  ∃ r os' Γ' y,e = .returned y∧R r os'∧RP w' Γ' r y∧os.length≤os'.length∧bz Γ' os' w'∧cq m Γ w Γ' w'
theorem zg {P:Program} {g:FuncId} {fn:Func} {c:Code} {args:List PV} {os:List Ob} {Q:Exit → S → Prop} {T:S → Prop} {R:PV → List Ob → Prop} (m:Nat) (hm0:m≤os.length) (hf:P.funcs[g]? = some fn) (hb:fn.body=some c) (hn:args.length≤fn.ntmps)
  (hQ:∀ e s,Q e s → (e = .normal∨e = .ret)∧T s)
  (hT:∀ s Γ Γ' a w w',T s → Inv fn.ntmps Γ' s a w' → cq m Γ w Γ' w' → ∃ v,(results fn a.tmps).run P w' = .ok v w'∧∃ r os' Γ',R r os'∧RP w' Γ' r v∧os.length≤os'.length∧bz Γ' os' w'∧cq m Γ w Γ' w')
  (h:PWP P fn.ntmps m c Q ⟨og 0 args,os⟩):bm m P g args os R:=by
 intro Γ w xs hm hx;refine v6 (rd:=none) (n:=0) (callsIn_of_wp_marks hf hb trivial ?_);have hl:=hx.length;have hA:dl fn.ntmps m Γ ⟨og 0 args,os⟩ { tmps:=xs.toArray++Array.replicate (fn.ntmps - xs.toArray.size) Go.undef,defers:=[] } w:=by
  refine ⟨⟨?_,trivial,fun i q hq=>?_,hm⟩,by rw [hm.n];exact hm0⟩
  ·simp;omega
  ·obtain ⟨_,h2⟩:=ol args 0 i q hq;rw [Nat.sub_zero] at h2;obtain ⟨y,h3,h4⟩:=hx.get i q h2;have hi:i < xs.length:=(List.getElem?_eq_some_iff.1 h3).1;refine ⟨ac,?_⟩;have:(xs.toArray++Array.replicate (fn.ntmps - xs.toArray.size) Go.undef).getD i Go.undef=y:=by
    rw [Array.getD_eq_getD_getElem?,Array.getElem?_append_left (by simpa using hi),List.getElem?_toArray,h3];rfl
   rw [this];exact h4
 refine wpIn_mono (h w.heap.size Γ _ w hA (iT.nil (Nat.le_refl _))) ?_;rintro e a' w' ⟨s',Γ',hq,hA',hg,hd⟩;obtain ⟨he,ht⟩:=hQ e s' hq;have fin:LeavesInM (Fw none) 0 P fn a'.tmps (fun e w'=>∃ r os' Γ' y,e = .returned y∧R r os'∧RP w' Γ' r y∧os.length≤os'.length∧bz Γ' os' w'∧cq m Γ w Γ' w') a'.defers .returning w':=by
  refine jv (B:=fun D=>DZ Γ' D∧w.heap.size≤D) _ _ hd.2.1 (fun d hd'=>?_) fun w'' hw''=>?_
  ·obtain ⟨D,h1,h2,h3,h4⟩:=hd.2.2 d hd';exact ⟨D,h1,h2,h3,h4⟩
  ·have hI:=hA'.inv.offm (hw''.mono fun b hb=>hb.1);obtain ⟨v,h1,r,os',Γ2,h2,h3,h4,h5,h6⟩:=hT s' Γ Γ' a' w w'' ht hI (tf hg hw'' fun b hb=>hb.2);exact ⟨v,h1,r,os',Γ2,v,rfl,h2,h3,h4,h5,h6⟩
 rcases he with rfl|rfl
 ·exact fin
 ·exact fin
theorem cG {P:Program} {g:FuncId} {fn:Func} {c:Code} {args:List PV} {os:List Ob} {R:PV → List Ob → Prop} (m:Nat) (hm0:m≤os.length) (hf:P.funcs[g]? = some fn) (hb:fn.body=some c) (hn:args.length≤fn.ntmps) (hl:∀ r os',R r os' → os.length≤os'.length)
  (h:PWP P fn.ntmps m c (D6 P fn.results.toList m R) ⟨og 0 args,os⟩):bm m P g args os R:=by
 refine zg (T:=La P fn.results.toList m R) m hm0 hf hb hn (fun e s hq=>?_) (fun s' Γ Γ' a' w w' ht hI hg=>?_) h
 ·cases e with
  | normal=>exact ⟨.inl rfl,hq⟩
  | ret=>exact ⟨.inr rfl,hq⟩
  | exit j=>exact hq.elim
  | goto l=>exact hq.elim
  | panic ch=>exact hq.elim
  | outgrown=>exact hq.elim
 ·obtain ⟨kk,r,r',os',r2,os2,h1,h2,h3,h4,h5,h6,hl1,hl2,h7⟩:=ht;obtain ⟨y,h8,h9⟩:=uK hI h1;have hks:∀ k ∈ kk,k < Γ'.n:=fun k hk=>by rw [hI.m.n];simpa using List.all_eq_true.1 h5 k hk
  have hmem:=kD hl2 (lr (v:=true) hI.m hks h4 h3);simp only [ju,Bool.and_eq_true,decide_eq_true_eq,List.all_eq_true,List.mem_range,beq_iff_eq] at h6;refine ⟨y,h8,r2,os2,eE true kk Γ',h7,gi hl1 (jt hI.m hks h2 h9),hl _ _ h7,hmem,hg.trans ⟨Ext.refl _ _,fun b hb=>.inl hb,fun k hk hc=>.inl ⟨kk.getD k 0,hks _ ?_,hc,rfl⟩,fun b hb=>?_,fun k hk=>?_⟩⟩
  ·have hk':k < kk.length:=hk;simp only [List.getD,List.getElem?_eq_getElem hk',Option.getD_some];exact List.getElem_mem _
  ·rcases hb with hb|⟨_,hb,_⟩
   ·exact .inl hb
   ·exact .inr (.inl hb)
  ·simp only [eE,h6.2 k hk,and_self]
theorem E.kill_keys (k:Nat) (e:E):∀ j ∈ (e.kill k).keys,j ∈ e.keys:=by
 intro j hj;cases e<;>simp only [E.kill] at hj<;>first|exact hj|(split at hj<;>first|exact hj|simp [E.keys] at hj)
theorem PV.kill_keys (k:Nat):∀ (q:PV),∀ j ∈ (q.kill k).keys,j ∈ q.keys
 | .c e,j,hj=>E.kill_keys k e j hj
 | .agg cs,j,hj=>by
  simp only [PV.kill,PV.keys,List.mem_flatMap,List.mem_map] at hj ⊢;obtain ⟨e',⟨e,h1,rfl⟩,h2⟩:=hj;exact ⟨e,h1,E.kill_keys k e j h2⟩
 | .undef,j,hj=>hj
 | .two x y,j,hj=>by
  simp only [PV.kill,PV.keys,List.mem_append] at hj ⊢;exact hj.imp (PV.kill_keys k x j) (PV.kill_keys k y j)
 | .three x y z,j,hj=>by
  simp only [PV.kill,PV.keys,List.mem_append] at hj ⊢;exact hj.imp (Or.imp (PV.kill_keys k x j) (PV.kill_keys k y j)) (PV.kill_keys k z j)
def jM:List Nat → List (Nat × PV) → List (Nat × PV)
 | [],t=>t
 | k :: r,t=>jM r (jX k t)
def hH:List Nat → List Ob → List Ob
 | [],os=>os
 | k :: r,os=>hH r (gl k os)
def PV.kills:List Nat → PV → PV
 | [],q=>q
 | k :: r,q=>PV.kills r (q.kill k)
def Ob.kills:List Nat → Ob → Ob
 | [],o=>o
 | k :: r,o=>Ob.kills r (o.kill k)
theorem PV.kills_keys:∀ (l:List Nat) (q:PV),∀ j ∈ (q.kills l).keys,j ∈ q.keys
 | [],q,j,hj=>hj
 | k :: r,q,j,hj=>PV.kill_keys k q j (PV.kills_keys r _ j hj)
theorem RP.kills {w:World} {Γ:G} {y:Value}:∀ (l:List Nat) {q:PV},RP w Γ q y → RP w Γ (q.kills l) y∧∀ k ∈ l,k ∉ (q.kills l).keys
 | [],q,h=>⟨h,by simp⟩
 | k :: r,q,h=>by
  obtain ⟨h1,h2⟩:=RP.kill k h;obtain ⟨h3,h4⟩:=RP.kills r h1;refine ⟨h3,fun j hj=>?_⟩;rcases List.mem_cons.1 hj with rfl|hj
  ·exact fun hx=>h2 (PV.kills_keys r _ _ hx)
  ·exact h4 j hj
theorem mB (i:Nat):∀ (l:List Nat) (t:List (Nat × PV)),cM (jM l t) i=(cM t i).map (PV.kills l)
 | [],t=>by rw [jM];cases cM t i<;>rfl
 | k :: r,t=>by
  rw [jM,mB i r,fe,Option.map_map];rfl
theorem rT (i:Nat):∀ (l:List Nat) (os:List Ob),(hH l os)[i]? = (os[i]?).map (Ob.kills l)
 | [],os=>by rw [hH];cases os[i]?<;>rfl
 | k :: r,os=>by
  rw [hH,rT i r,iS,Option.map_map];rfl
theorem eT:∀ (l:List Nat) (os:List Ob),(hH l os).length=os.length
 | [],os=>rfl
 | k :: r,os=>by rw [hH,eT r,cI]
theorem uf (ty:TypeId):∀ (l:List Nat) (cs:List E),∃ cs',Ob.kills l (.box ty cs) = .box ty cs'∧PV.kills l (.agg cs) = .agg cs'
 | [],cs=>⟨cs,rfl,rfl⟩
 | k :: r,cs=>uf ty r (cs.map (E.kill k))
theorem rU (b:Nat) (L:kg):∀ (l:List Nat) (t:List (Nat × PV)),Ob.kills l (.loop b L t) = .loop b L (jM l t)
 | [],t=>rfl
 | k :: r,t=>rU b L r (jX k t)
theorem ug (el:TypeId) (sz:Nat) (rows:List (List D)):∀ (l:List Nat),Ob.kills l (.arr el sz rows) = .arr el sz rows
 | []=>rfl
 | k :: r=>ug el sz rows r
theorem uh (kk:Option IntKind) (ag:Bool) (es:List (MK × List D)):∀ (l:List Nat),Ob.kills l (.map kk ag es) = .map kk ag es
 | []=>rfl
 | k :: r=>uh kk ag es r
theorem RO.stayK {w w':World} {Γ Γ':G} {k:Nat} {o:Ob} (bad:List Nat) (h:RO w Γ k o) (hs:dC w Γ.I w' Γ'.I) (ha:∀ j,j < Γ.n → j ∉ bad → fV Γ Γ' j) (hk:k < Γ.n) (hkb:k ∉ bad) (hb:0 < Γ.cap k → w'.heap[Γ.β k]? = w.heap[Γ.β k]?):RO w' Γ' k (o.kills bad):=by
 obtain ⟨_,h2,h3⟩:=ha k hk hkb;cases o with
 | box ty cs =>
  obtain ⟨h0,xs,h4,h5,h6⟩:=h;obtain ⟨cs',e1,e2⟩:=uf ty bad cs;rw [e1];obtain ⟨g1,g2⟩:=RP.kills bad (q:=.agg cs) (y:=.agg xs.toArray) (Γ:=Γ) (w:=w) ⟨xs,rfl,h5⟩;rw [e2] at g1 g2;obtain ⟨xs',g3,g4⟩:=g1;have g5:xs'=xs:=by
   have:=g3;simp at this;exact this.symm
  subst g5;exact ⟨by rw [h3];exact h0,xs',by rw [h2];exact (hb h0).trans h4,fw g4 hs fun j hj=>ha j (jV g4 j hj) fun hx=>g2 j hx hj,by unfold lW;rw [h3];exact h6⟩
 | arr el sz rows =>
  rw [ug];have hg:∃ Γ2:G,Γ2=⟨Γ.n,Γ.β,Γ.cap,Γ'.I⟩:=⟨_,rfl⟩
  obtain ⟨h4,h5,h6,h7⟩:=h;refine ⟨h4,h5,by rw [h3];exact h6,fun hc=>?_⟩;rw [h3] at hc ⊢;obtain ⟨cur,g1,g2,g3,g4,g5⟩:=h7 hc;exact ⟨cur,by rw [h2];exact (hb hc).trans g1,g2,g3,g4,g5.mono fun _ _=>RD.stay hs _ _⟩
 | map kk ag es =>
  rw [uh];obtain ⟨h0,ms,ck,h4,h5⟩:=h;exact ⟨by rw [h3];exact h0,ms,ck,by rw [h2];exact (hb h0).trans h4,h5.stay hs⟩
 | loop l L t =>
  rw [rU];obtain ⟨h0,h1,tm,h4,h5,h6⟩:=h;refine ⟨by rw [h3];exact h0,by rw [h2];exact h1,tm,?_,h5,fun i q hq=>?_⟩
  ·rw [← h1];rw [← h1] at h4;exact (hb h0).trans h4
  ·rw [mB] at hq;obtain ⟨q0,hq0,rfl⟩:=Option.map_eq_some_iff.1 hq;obtain ⟨i1,i2⟩:=h6 i q0 hq0;obtain ⟨i3,i4⟩:=RP.kills bad i2;exact ⟨i1,i3.stay hs fun j hj=>ha j (i3.lt j hj) fun hx=>i4 j hx hj⟩
theorem Fq {ks:List Nat} (hnd:ks.Nodup) {j:Nat} (hj:j < ks.length):j9 ks (ks.getD j 0)=some j:=by
 cases h:j9 ks (ks.getD j 0) with
 | none =>
  refine absurd ?_ (iU h);simp only [List.getD,List.getElem?_eq_getElem hj,Option.getD_some];exact List.getElem_mem _
 | some i =>
  obtain ⟨h1,h2⟩:=fx h;simp only [List.getD,List.getElem?_eq_getElem hj,List.getElem?_eq_getElem h1,Option.getD_some] at h2;have:i=j:=(List.getElem?_inj h1 hnd).1 (by rw [List.getElem?_eq_getElem h1,List.getElem?_eq_getElem hj,h2]);rw [this]
def tau (ks:List Nat) (n:Nat) (i:Nat):Option Nat:=match j9 ks i with
 | some j=>some j
 | none=>if i < n then none else some (ks.length+(i - n))
theorem H4 {ks:List Nat} {n:Nat} (hnd:ks.Nodup) (hks:∀ k ∈ ks,k < n) (j:Nat):tau ks n (rho ks n j)=some j:=by
 unfold tau rho;by_cases hj:j < ks.length
 ·rw [if_pos hj,Fq hnd hj]
 ·rw [if_neg hj];cases h:j9 ks (n+(j - ks.length)) with
  | some i =>
   obtain ⟨h1,h2⟩:=fx h;have h3:=hks (ks.getD i 0) (by simp only [List.getD,List.getElem?_eq_getElem h1,Option.getD_some];exact List.getElem_mem _);omega
  | none=>simp only;rw [if_neg ac];congr 1;omega
theorem nM {ks:List Nat} {n i j:Nat} (h:tau ks n i=some j):rho ks n j=i:=by
 unfold tau at h;split at h
 ·rename_i j' e;cases h;obtain ⟨h1,h2⟩:=fx e;unfold rho;rw [if_pos h1,h2]
 ·split at h
  ·cases h
  ·cases h;unfold rho;rw [if_neg ac];omega
theorem k6 {ks:List Nat} {n i:Nat} (h:tau ks n i=none):i < n∧i ∉ ks:=by
 unfold tau at h;split at h
 ·cases h
 ·rename_i e;split at h
  ·rename_i hi;exact ⟨hi,iU e⟩
  ·cases h
def oP (ks:List Nat) (Γ Γ':G):G :=
 ⟨Γ.n+(Γ'.n - ks.length),fun i=>match tau ks Γ.n i with|some j=>Γ'.β j|none=>Γ.β i,fun i=>match tau ks Γ.n i with|some j=>Γ'.cap j|none=>Γ.cap i,Γ'.I⟩
theorem H5 {N p m:Nat} {ks:List Nat} {Γ Γ':G} {s:S} {a:Act} {w w':World} {os':List Ob} {r:PV} {y:Value} (hA:dl N p Γ s a w) (hks:∀ k ∈ ks,k < Γ.n) (hnd:ks.Nodup) (hlen:ks.length≤os'.length) (hmk:m≤ks.length) (hgv:∀ k ∈ ks.drop m,p≤k)
  (hm:bz Γ' os' w') (hg:cq m (eE false ks Γ) w Γ' w') (hr:RP w' Γ' r y) :
  dl N p (oP ks Γ Γ') ⟨jM (ks.drop m) s.t,dE (rho ks s.o.length) (hH (ks.drop m) s.o) ks os'⟩ a w'∧RP w' (oP ks Γ Γ') (r.ren (rho ks s.o.length)) y∧cq p Γ w (oP ks Γ Γ') w':=by
 have hn:=hA.inv.m.n;obtain ⟨Γb,hΓb⟩:∃ Γb,Γb=oP ks Γ Γ':=⟨_,rfl⟩
 rw [← hΓb];have q1:Γb.n=Γ.n+(Γ'.n - ks.length):=by rw [hΓb];rfl
 have q2:∀ i,tau ks Γ.n i=none → Γb.β i=Γ.β i∧Γb.cap i=Γ.cap i:=fun i hi=>by rw [hΓb];simp only [oP,hi,and_self]
 have q3:∀ i j,tau ks Γ.n i=some j → Γb.β i=Γ'.β j∧Γb.cap i=Γ'.cap j:=fun i j hi=>by rw [hΓb];simp only [oP,hi,and_self]
 have q4:Γb.I=Γ'.I:=by rw [hΓb];rfl
 have hgetk:∀ j,j < ks.length → ks.getD j 0 ∈ ks:=fun j hj=>by simp only [List.getD,List.getElem?_eq_getElem hj,Option.getD_some];exact List.getElem_mem _
 have hmc:∀ b,lX (eE false ks Γ) b → ∃ k ∈ ks,0 < Γ.cap k∧Γ.β k=b:=by
  rintro b ⟨j,h1,h2,h3⟩;exact ⟨ks.getD j 0,hgetk j h1,h2,h3⟩
 have hm':∀ b,lX (eE false ks Γ) b → lX Γ b:=fun b hb=>by
  obtain ⟨k,h1,h2,h3⟩:=hmc b hb;exact ⟨k,hks k h1,h2,h3⟩
 have hIsub:∀ b,Γ.I b → Γ'.I b:=fun b hb=>hg.sub b (.inl hb)
 have himm:∀ b,Γ'.I b → Γ.I b∨lX (eE false ks Γ) b∨w.heap.size≤b:=fun b hb=>by
  rcases hg.imm b hb with (h1|⟨h1,_⟩)|h1|h1
  ·exact .inl h1
  ·cases h1
  ·exact .inr (.inl h1)
  ·exact .inr (.inr h1)
 have hs:dC w Γ.I w' Γb.I:=⟨hg.ext.size,fun b hb hl=>hg.ext.block b hl fun hM=>by obtain ⟨k,h1,h2,h3⟩:=hmc b hM;exact hA.inv.m.off k (hks k h1) h2 (h3 ▸ hb),fun b hb=>q4 ▸ hIsub b hb⟩
 have htn:∀ i j,i < Γb.n → tau ks Γ.n i=some j → j < Γ'.n:=by
  intro i j hi ht;have h1:=nM ht;unfold rho at h1;split at h1
  ·have:=hm.n;omega
  ·rw [q1] at hi;have:=hm.n;omega
 have hag:∀ i,i < Γ.n → i ∉ ks.drop m → fV Γ Γb i:=by
  intro i hi hb;refine ⟨by rw [q1];omega,?_⟩;cases ht:tau ks Γ.n i with
  | none=>exact q2 i ht
  | some j =>
   have h1:=nM ht;unfold rho at h1;split at h1
   ·rename_i hj;have hjm:j < m:=by
     rcases Nat.lt_or_ge j m with h|h
     ·exact h
     ·exfalso;apply hb;rw [← h1];simp only [List.getD,List.getElem?_eq_getElem hj,Option.getD_some];have:(ks.drop m)[j - m]? = some ks[j]:=by rw [List.getElem?_drop,show m+(j - m)=j by omega,List.getElem?_eq_getElem hj]
      exact List.mem_of_getElem? this
    obtain ⟨k1,k2⟩:=hg.keep j hjm;obtain ⟨k3,k4⟩:=q3 i j ht;rw [k3,k4,k1,k2];simp only [eE,h1,and_self]
   ·omega
 have hagr:∀ j,j < Γ'.n → l8 Γ' Γb (rho ks s.o.length) j:=by
  intro j hj;rw [← hn];have ht:=H4 hnd hks j;obtain ⟨k3,k4⟩:=q3 _ j ht;refine ⟨?_,k3,k4⟩;rw [q1];unfold rho;split
  ·rename_i h;have:=hks _ (hgetk j h);omega
  ·have:=hm.n;omega
 have hnk:∀ i,i < Γ.n → i ∉ ks → tau ks Γ.n i=none:=by
  intro i hi hk;unfold tau;cases h:j9 ks i with
  | none=>simp only;rw [if_pos hi]
  | some j =>
   obtain ⟨h1,h2⟩:=fx h;exact absurd (h2 ▸ hgetk j h1) hk
 have hmix:∀ i j,i < Γ.n → i ∉ ks → 0 < Γ.cap i → j < Γ'.n → 0 < Γ'.cap j → Γ.β i≠Γ'.β j:=by
  intro i j hi hik hc hj hc' he;rcases hg.new j hj hc' with h1|h1
  ·obtain ⟨k,h2,h3,h4⟩:=hmc _ h1;have:=hA.inv.m.sep k i (hks k h2) hi h3 hc (h4.trans he.symm);exact hik (this ▸ h2)
  ·have:=bV hA.inv.m hi hc;omega
 refine ⟨⟨⟨hA.inv.size,hA.inv.defers,fun i q hq=>?_,⟨?_,fun i o ho=>?_,fun i i' hi hi' hc hc' he=>?_,fun i hi hc=>?_,fun b hb=>?_,⟨hm.pin.1,fun b hb=>by rw [q4];exact hm.pin.2 b hb⟩⟩⟩,by rw [q1];have:=hA.le;omega⟩,?_,⟨hg.ext.mono hm',fun b hb=>by rw [q4];exact hIsub b hb,fun i hi hc=>?_,fun b hb=>?_,fun i hi=>?_⟩⟩
 ·simp only [S.get] at hq;rw [mB] at hq;obtain ⟨q0,hq0,rfl⟩:=Option.map_eq_some_iff.1 hq;obtain ⟨i1,i2⟩:=hA.inv.t i q0 hq0;obtain ⟨i3,i4⟩:=RP.kills (ks.drop m) i2;exact ⟨i1,i3.stay hs fun j hj=>hag j (i3.lt j hj) fun hx=>i4 j hx hj⟩
 ·rw [q1,gR _ _ _ _ hlen,eT,← hn,hm.n]
 ·rcases kH _ ks (hH (ks.drop m) s.o) os' i o hnd (fun k hk=>by rw [eT,← hn];exact hks k hk) hlen ho with ⟨j,h1,o',h2,rfl⟩|⟨h1,h2,h3⟩|⟨h1,o',h2,rfl⟩
  ·have hj:j < ks.length:=(List.getElem?_eq_some_iff.1 h1).1;have hj':j < Γ'.n:=by rw [hm.n];exact (List.getElem?_eq_some_iff.1 h2).1
   have:=(hm.ob j o' h2).ren (ρ:=rho ks s.o.length) (Γ':=Γb) (.inr fun b hb=>by rw [q4];exact hb) hagr hj';have e:rho ks s.o.length j=i:=by unfold rho;rw [if_pos hj];simp [List.getD,h1]
   rwa [e] at this
  ·rw [eT] at h1;rw [rT] at h3;obtain ⟨o0,h4,rfl⟩:=Option.map_eq_some_iff.1 h3;have hi:i < Γ.n:=by rw [hn];exact h1
   refine (hA.inv.m.ob i o0 h4).stayK (ks.drop m) hs hag hi (fun hx=>h2 (List.mem_of_mem_drop hx)) fun hc=>hg.ext.block _ (bV hA.inv.m hi hc) fun hM=>?_
   obtain ⟨k,g4,h5,h6⟩:=hmc _ hM;have:=hA.inv.m.sep k i (hks k g4) hi h5 hc h6;subst this;exact h2 g4
  ·rw [eT] at h1 h2;have hj':ks.length+(i - s.o.length) < Γ'.n:=by rw [hm.n];exact (List.getElem?_eq_some_iff.1 h2).1
   have:=(hm.ob _ o' h2).ren (ρ:=rho ks s.o.length) (Γ':=Γb) (.inr fun b hb=>by rw [q4];exact hb) hagr hj';have e:rho ks s.o.length (ks.length+(i - s.o.length))=i:=by unfold rho;rw [if_neg ac];omega
   rwa [e] at this
 ·cases ht:tau ks Γ.n i with
  | none =>
   obtain ⟨h1,h2⟩:=k6 ht;rw [(q2 i ht).2] at hc;rw [(q2 i ht).1] at he;cases ht':tau ks Γ.n i' with
   | none =>
    obtain ⟨h1',h2'⟩:=k6 ht';rw [(q2 i' ht').2] at hc';rw [(q2 i' ht').1] at he;exact hA.inv.m.sep i i' h1 h1' hc hc' he
   | some j' =>
    rw [(q3 i' j' ht').2] at hc';rw [(q3 i' j' ht').1] at he;exact absurd he (hmix i j' h1 h2 hc (htn i' j' hi' ht') hc')
  | some j =>
   have hj:=htn i j hi ht;rw [(q3 i j ht).2] at hc;rw [(q3 i j ht).1] at he;cases ht':tau ks Γ.n i' with
   | none =>
    obtain ⟨h1',h2'⟩:=k6 ht';rw [(q2 i' ht').2] at hc';rw [(q2 i' ht').1] at he;exact absurd he.symm (hmix i' j h1' h2' hc' hj hc)
   | some j' =>
    rw [(q3 i' j' ht').2] at hc';rw [(q3 i' j' ht').1] at he;have:=hm.sep j j' hj (htn i' j' hi' ht') hc hc' he;subst this;exact (nM ht).symm.trans (nM ht')
 ·rw [q4];cases ht:tau ks Γ.n i with
  | none =>
   obtain ⟨h1,h2⟩:=k6 ht;rw [(q2 i ht).2] at hc;rw [(q2 i ht).1];intro hI;rcases himm _ hI with h3|h3|h3
   ·exact hA.inv.m.off i h1 hc h3
   ·obtain ⟨k,h4,h5,h6⟩:=hmc _ h3;have:=hA.inv.m.sep k i (hks k h4) h1 h5 hc h6;exact h2 (this ▸ h4)
   ·have:=bV hA.inv.m h1 hc;omega
  | some j =>
   have hj:=htn i j hi ht;rw [(q3 i j ht).2] at hc;rw [(q3 i j ht).1];exact hm.off j hj hc
 ·rw [q4] at hb;exact hm.lt b hb
 ·exact hr.ren (.inr fun b hb=>by rw [q4];exact hb) fun k hk=>hagr k (hr.lt k hk)
 ·cases ht:tau ks Γ.n i with
  | none =>
   obtain ⟨h1,h2⟩:=k6 ht;rw [(q2 i ht).2] at hc;rw [(q2 i ht).1];exact .inl ⟨i,h1,hc,rfl⟩
  | some j =>
   have hj:=htn i j hi ht;rw [(q3 i j ht).2] at hc;rw [(q3 i j ht).1];rcases hg.new j hj hc with h1|h1
   ·exact .inl (hm' _ h1)
   ·exact .inr h1
 ·rw [q4] at hb;rcases himm b hb with h1|h1|h1
  ·exact .inl h1
  ·exact .inr (.inl (hm' _ h1))
  ·exact .inr (.inr h1)
 ·have h1:=hag i (by have:=hA.le;omega) fun hx=>by have:=hgv i hx;omega
  exact h1.2
def gvB (p:Nat):List Nat → Bool
 | []=>true
 | k :: r=>decide (p≤k) && gvB p r
theorem Ft {p:Nat}:∀ {l:List Nat},gvB p l=true → ∀ k ∈ l,p≤k
 | [],_,k,hk=>by simp at hk
 | j :: r,h,k,hk=>by
  simp only [gvB,Bool.and_eq_true,decide_eq_true_eq] at h;rcases List.mem_cons.1 hk with rfl|hk
  ·exact h.1
  ·exact Ft h.2 k hk
section
variable {P:Program} {N p:Nat} {ops:Array Oper} {rest:List Oper} {o:Oper} {s:S} {K:S → Prop}
theorem Fv {f:Operand} {args:Array Operand} {tys:Array TypeId} {g:FuncId} {ds:List D} {cap:List Nat} (m:Nat) (ks:List Nat) {args':List PV} {os':List Ob} {R:PV → List Ob → Prop}
  (ho:o.op = .call ⟨.value f,args,tys⟩) (hf:s.ev f=some (.c (.fn (.func g) ds cap))) (hb:dK P g=true) (hc:bm m P g args' os' R)
  (hG:o8 N ops s o false ks (bC s ds args.toList cap) args' os') (hmk:decide (m≤ks.length)=true) (hgv:gvB p (ks.drop m)=true)
  (hK:∀ r os'',R r os'' → PL P N p ops rest (S.put ⟨jM (ks.drop m) s.t,dE (rho ks s.o.length) (hH (ks.drop m) s.o) ks os''⟩ o.dst (r.ren (rho ks s.o.length))) K):PL P N p ops (o :: rest) s K:=by
 obtain ⟨h1,h2,h3,h4,h5⟩:=hG;cases e1:gd ops s o.guard with
 | none=>rw [e1] at h1;exact h1.elim
 | some b =>
  rw [e1] at h1;simp only [isT] at h1;subst h1;cases e2:kG false s.o ks (bC s ds args.toList cap) with
  | none=>rw [e2] at h3;exact h3.elim
  | some args'' =>
   cases e3:gP false s.o ks ks with
   | none=>rw [e3] at h4;exact h4.elim
   | some os2 =>
    rw [e2] at h3;rw [e3] at h4;simp only [Bool.and_eq_true] at h5;have hnd:=mV h5.1;have hkl:=qQ h5.2;intro Γ a w Q hA hQ;have hks:∀ k ∈ ks,k < Γ.n:=fun k hk=>by rw [hA.inv.m.n];simpa using List.all_eq_true.1 hkl k hk
    obtain ⟨xs,ys,hfv,hargs⟩:=ir hA.inv hf args;have hseen:=qh h3 (mT (v:=false) (ks:=ks) hA.inv.m hks hargs e2);have hmem:=kD h4 (lr (v:=false) hA.inv.m hks hnd e3);have hkl':os'.length=ks.length:=(ff h4).symm.trans (iV e3).1;unfold wpListIn;rw [if_pos (fG e1 hA.inv)];refine l7 (lu ho hfv hb) ?_;have:=hc _ w _ hmem hseen;rw [Array.toArray_toList] at this;refine this.mono ?_;rintro e w' ⟨r,os'',Γ',y,rfl,hR,hr,hlen,hm',hgr⟩;rw [hkl'] at hlen;obtain ⟨g1,g2,g3⟩:=H5 (m:=m) hA hks hnd hlen (by simpa using hmk) (Ft hgv) hm' hgr hr;exact ⟨y,rfl,hK r os'' hR _ _ w' Q ⟨g1.inv.put (ec h2) g2,g1.le⟩ fun s' Γ2 a2 w2 hk hA2 hg2 hd2=>hQ s' Γ2 a2 w2 hk hA2 (g3.trans hg2) (hd2.trans (bK _ _ _))⟩
theorem eZ {f:Operand} {args:Array Operand} {tys:Array TypeId} {g:FuncId} {ds:List D} {cap:List Nat} (m:Nat) (ks:List Nat) {args':List PV} {os':List Ob} {R:PV → List Ob → Prop}
  (hc:bm m P g args' os' R) (hG:o8 N ops s o false ks (bC s ds args.toList cap) args' os')
  (hK:∀ r os'',R r os'' → fY P N p ops rest (S.put ⟨jM (ks.drop m) s.t,dE (rho ks s.o.length) (hH (ks.drop m) s.o) ks os''⟩ o.dst (r.ren (rho ks s.o.length))) K)
  (hmk:decide (m≤ks.length)=true:=by rfl) (hgv:gvB p (ks.drop m)=true:=by rfl)
  (ho:o.op = .call ⟨.value f,args,tys⟩:=by rfl) (hf:s.ev f=some (.c (.fn (.func g) ds cap)):=by rfl) (hb:dK P g=true:=by kernel_rfl):PL P N p ops (o :: rest) s K :=
 Fv m ks ho hf hb hc hG hmk hgv fun r os'' h=>an (hK r os'' h)
end
attribute [push_cast] jM hH gl
end
section
attribute [local irreducible] PL QL aL ah bg La aV PA bm
set_option maxRecDepth 20000
theorem dW.small {l:List Dev} (h:dW l) {d:Dev} (hd:d ∈ l):Small d:=iG (h.chk d hd)
theorem gb (k:Ker) (a ix:Int) (hT:dW k.tree):ah prog 88 [.c (.ptr 0 0),.c (.v (.int .i64 a)),.c (.v (.int .i64 ix))] (bI k) fun r os=>r = .agg (Evt.e ⟨0,a,ix,bF k.tree ix,⟨#[]⟩⟩)∧os=bI k:=by
 have hp:=y9 k.tree ix hT.okt.p (by have:=hT.len;omega) (fun d hd=>by have:=(hT.small hd).orig;omega) (fun d hd=>by have:=(hT.small hd).name;omega);refine aw func88 ntmps88 results88 ?_;push_cast [O,U];repeat' ((first|refine aK [] hp ?_|refine au ?_|refine pif ?_ ?_<;>intro h<;>try exact pN h)<;>push_cast [O,U])
 exact am [0,1,2]
set_option maxHeartbeats 4000000 in
theorem fa (k:Ker) (xs:List Evt) (hn:k.evs.length+xs.length≤100000000):bm 1 prog 87 [.c (.ptr 0 0),.c (.sl 5 (xs.map Evt.d))] (bI k) fun r os=>r = .undef∧os=bI (k.tells xs):=by
 obtain ⟨t1,t2,t3,t4,_⟩:=rD xs k;refine cG 1 (by simp [bI]) func87 rfl (by simp [ntmps87]) (by rintro r os ⟨rfl,rfl⟩;simp [bI]) ?_;rw [ntmps87,results87];push_cast [O,U];have cB:aH 9 []:=trivial;repeat' ((first|refine ae ?_|refine pif ?_ ?_<;>intro h<;>try exact pN h)<;>push_cast [O,U])
 (apply ap (α:=Nat × List Evt) 9 [] (fun x=>[(8,.c (.v (.int .i64 x.1)))]) (fun x=>[(0,.box 87 [.sl 10 (k.tree.map Dev.d),.sl 6 (k.mods.map Mod.d),.own 1 k.loaded.length,.own 2 x.2.length,.v (.int .i64 k.top)]),(2,.arr 69 5 (x.2.map Evt.d))]) (fun x=>x.1≤xs.length∧x.2=(k.tells (xs.take x.1)).evs∧x.2.length=k.evs.length+x.1) (fun x=>xs.length - x.1) ((0,k.evs));(focus ((try push_cast [O,U]);rfl));(focus exact ⟨Nat.zero_le _,rfl,rfl⟩);(focus ((refine weak_fg ?_;try push_cast [O,U]))));rintro ⟨i,evs⟩ ⟨hi,hev,hel⟩;simp only at hi hev hel;push_cast [O,U];by_cases hlt:i < xs.length
 ·have hst:(k.tells (xs.take (i+1))).evs=evs++[⟨(evs.length:Int)+1,(xs.getD i default).act,(xs.getD i default).idx,(xs.getD i default).path,(xs.getD i default).old⟩]:=by
   rw [List.take_succ_eq_append_getElem hlt,rC,ai xs hlt,hev];rfl
  repeat' ((first|(refine av 9 [] ?_;apply ak;(focus kernel_rfl);(focus (simp only [aP,rA];(repeat' first|((first|refine pah 0 ?_|refine pah 1 ?_|refine pah 2 ?_|refine pah 3 ?_|refine pah 8 ?_|refine pah 9 ?_);push_cast [O,U])|(refine pad ?_;first|with_reducible exact ao 9 [] _|(refine weak_fg ?_;push_cast [O,U]))|((first|refine pas [4] ?_|refine pas [5] ?_|refine pas [6] ?_|refine pas [7] ?_|refine pas [10] ?_);push_cast [O,U])|((first|refine pas [4,5] ?_|refine pas [4,6] ?_);push_cast [O,U];refine ⟨?_,?_⟩));done));push_cast [O,U])|refine ae ?_|refine pif ?_ ?_<;>intro h<;>try exact pN h)<;>push_cast [O,U])
  exact ⟨(i+1,evs++[⟨(evs.length:Int)+1,(xs.getD i default).act,(xs.getD i default).idx,(xs.getD i default).path,(xs.getD i default).old⟩]),⟨by simp only;omega,hst.symm,by simp only [List.length_append,List.length_singleton];omega⟩,aA,by simp only;omega⟩
 ·have hi2:i=xs.length:=ac;rw [hi2,List.take_length] at hev;subst hev;repeat' ((first|refine ae ?_|refine pif ?_ ?_<;>intro h<;>try exact pN h)<;>push_cast [O,U])
  (refine K9 [0,1,2] ?_;push_cast [O,U,t1,t2,t3,t4])
theorem bL.chg {k:Ker} (h:bL k) {d:Dev} (he:aR k.tree d=0):bL (k.withT (ed k.tree d)):=⟨h.inv.chg he,h.evl,h.modl,h.als,h.alz,h.top⟩
set_option maxHeartbeats 4000000 in
theorem oQ (k:Ker) (d:Dev) (hB:bL k) (hd:d.ok) (hdo:d.original.size≤100000) (hda:d.attrs.length≤1000000000):ah prog 140 [.c (.ptr 0 0),.agg d.e] (bI k) fun r os=>r = .c (.v (.int .i64 (aR k.tree d)))∧os=bI (if aR k.tree d=0 then k.withT (ed k.tree d) else k):=by
 have hc:=xu k.tree d hB.inv.tree.okt.nodup (by have:=hB.len;omega) (fun x hx=>by have:=hB.orig x hx;omega) hB.att hd hdo hda;refine aw func140 ntmps140 results140 ?_;push_cast [O,U];have cB:aH 8 []:=trivial;by_cases he:aR k.tree d=0
 ·rw [if_pos he,he] at hc;repeat' ((first|(refine av 8 [] ?_;apply ak;(focus kernel_rfl);(focus (simp only [aP,rA];(repeat' first|(refine plE [] hc ?_ ?_<;>push_cast [O,U,he])|((first|refine pah 0 ?_|refine pah 1 ?_|refine pah 2 ?_|refine pah 6 ?_|refine pah 7 ?_|refine pah 8 ?_|refine pah 11 ?_);push_cast [O,U,he])|(refine pad ?_;first|with_reducible exact ao 8 [] _|(refine weak_fg ?_;push_cast [O,U,he]))|((first|refine pas [3] ?_|refine pas [4] ?_|refine pas [5] ?_|refine pas [9] ?_|refine pas [10] ?_);push_cast [O,U,he])|((first|refine pas [3,4] ?_|refine pas [3,9] ?_|refine pas [4,9] ?_|refine pas [5,9] ?_);push_cast [O,U,he];refine ⟨?_,?_⟩)|((first|refine pas [3,4,9] ?_);push_cast [O,U,he];refine ⟨?_,?_,?_⟩));done));push_cast [O,U,he])|refine ae ?_|refine pif ?_ ?_<;>intro h<;>try exact pN h)<;>push_cast [O,U,he])
  (refine K9 [0,1,2] ?_;push_cast [O,U,he,Ker.withT])
 ·rw [if_neg he] at hc;repeat' ((first|(refine av 8 [] ?_;apply ak;(focus kernel_rfl);(focus (simp only [aP,rA];(repeat' first|(refine plE [] hc ?_ ?_<;>push_cast [O,U,he])|((first|refine pah 0 ?_|refine pah 1 ?_|refine pah 2 ?_|refine pah 6 ?_|refine pah 7 ?_|refine pah 8 ?_|refine pah 11 ?_);push_cast [O,U,he])|(refine pad ?_;first|with_reducible exact ao 8 [] _|(refine weak_fg ?_;push_cast [O,U,he]))|((first|refine pas [3] ?_|refine pas [4] ?_|refine pas [5] ?_|refine pas [9] ?_|refine pas [10] ?_);push_cast [O,U,he])|((first|refine pas [3,4] ?_|refine pas [3,9] ?_|refine pas [4,9] ?_|refine pas [5,9] ?_);push_cast [O,U,he];refine ⟨?_,?_⟩)|((first|refine pas [3,4,9] ?_);push_cast [O,U,he];refine ⟨?_,?_,?_⟩));done));push_cast [O,U,he])|refine ae ?_|refine pif ?_ ?_<;>intro h<;>try exact pN h)<;>push_cast [O,U,he])
  (refine K9 [0,1,2] ?_;push_cast [O,U,he])
set_option maxHeartbeats 4000000 in
theorem ji (k:Ker) (d:Dev) (v:ByteArray) (hB:bL k) (hd:d.ok) (hdo:d.original.size≤100000) (hda:d.attrs.length≤1000000000) (hv:Fit v) (hn:k.evs.length+1≤1000000) :
  bm 1 prog 91 [.c (.ptr 0 0),.agg d.e,.c (.v (.string v))] (bI k) fun r os=>r = .c (.v (.int .i64 ((k.drive d v).2)))∧os=bI (k.drive d v).1:=by
 have hdd:(dS d v).ok:=⟨hd.name,hd.original,hd.subsystem,hv,hd.alias_,hd.attrs,hd.len,hd.orig⟩
 have hc:=oQ k (dS d v) hB hdd hdo hda;refine cG 1 (by simp [bI]) func91 rfl (by simp [ntmps91]) (by rintro r os ⟨rfl,rfl⟩;simp [bI]) ?_;rw [ntmps91,results91];unfold dS at hc;push_cast [O,U];have cB:aH 9 []:=trivial;unfold Ker.drive;by_cases he:aR k.tree (dS d v)=0
 ·rw [if_pos he];have he':=he;unfold dS at he';rw [if_pos he',he'] at hc;have hB2:=hB.chg he;unfold dS at hB2;obtain ⟨K,hK⟩:∃ K,k.withT (ed k.tree ⟨d.index,d.parent,d.name,d.original,d.subsystem,v,d.alias_,d.kind,d.number,d.attrs⟩)=K:=⟨_,rfl⟩
  have hKe:K.evs=k.evs:=by rw [← hK];rfl
  rw [hK] at hc hB2;rw [show k.withT (ed k.tree (dS d v))=K from hK];by_cases h0:v=⟨#[]⟩
  ·have h1:=gb K 6 d.index hB2.inv.tree;have h2:=fa K [⟨0,6,d.index,bF K.tree d.index,⟨#[]⟩⟩] (by rw [hKe];simp;omega);rw [show K.tells [⟨0,6,d.index,bF K.tree d.index,⟨#[]⟩⟩]=K.emit 6 d.index ⟨#[]⟩ from rfl] at h2;obtain ⟨E,hE⟩:∃ E,K.emit 6 d.index ⟨#[]⟩=E:=⟨_,rfl⟩
   rw [hE] at h2;repeat' ((first|(refine plE [0,1,2] hc ?_ ?_;focus (push_cast [O,U,h0];done))|(refine plE [0,1,2] h1 ?_ ?_;focus (push_cast [O,U,h0];done))|(refine eZ 1 [0,1,2] (h2) ?_ ?_;push_cast [O,U,h0];rintro r os ⟨rfl,rfl⟩)|refine ae ?_|refine pif ?_ ?_<;>intro h<;>try exact pN h)<;>push_cast [O,U,h0])
   (refine K9 [0,1,2] ?_;push_cast [O,U,h0,hE])
  ·have h1:=gb K 5 d.index hB2.inv.tree;have h2:=fa K [⟨0,5,d.index,bF K.tree d.index,⟨#[]⟩⟩] (by rw [hKe];simp;omega);rw [show K.tells [⟨0,5,d.index,bF K.tree d.index,⟨#[]⟩⟩]=K.emit 5 d.index ⟨#[]⟩ from rfl] at h2;obtain ⟨E,hE⟩:∃ E,K.emit 5 d.index ⟨#[]⟩=E:=⟨_,rfl⟩
   rw [hE] at h2;repeat' ((first|(refine plE [0,1,2] hc ?_ ?_;focus (push_cast [O,U,h0];done))|(refine plE [0,1,2] h1 ?_ ?_;focus (push_cast [O,U,h0];done))|(refine eZ 1 [0,1,2] (h2) ?_ ?_;push_cast [O,U,h0];rintro r os ⟨rfl,rfl⟩)|refine ae ?_|refine pif ?_ ?_<;>intro h<;>try exact pN h)<;>push_cast [O,U,h0])
   (refine K9 [0,1,2] ?_;push_cast [O,U,h0,hE])
 ·rw [if_neg he];have he':=he;unfold dS at he' ⊢;rw [if_neg he'] at hc;repeat' ((first|(refine plE [0,1,2] hc ?_ ?_;focus (push_cast [O,U,he'];done))|refine ae ?_|refine pif ?_ ?_<;>intro h<;>try exact pN h)<;>push_cast [O,U,he'])
  exact am [0,1,2]
set_option maxRecDepth 20000
def dx (k:Ker) (n:Int):Nat:=if n≤0 then 0 else if n≤k.evs.length then n.toNat else k.evs.length
set_option maxHeartbeats 4000000 in
theorem dV (k:Ker) (n:Int) (hn : -9223372036854775808≤n∧n≤9223372036854775807) (hl:k.evs.length≤1000000):ah prog 26 [.c (.ptr 0 0),.c (.v (.int .i64 n))] (bI k) fun r os=>r = .c (.sl 5 ((k.evs.drop (dx k n)).map Evt.d))∧os=bI k:=by
 have hc:=pD (k.evs.drop (dx k n)) (by rw [List.length_drop];omega);have hls:List.take (k.evs.length - dx k n) ((k.evs.drop (dx k n)).map Evt.d)=(k.evs.drop (dx k n)).map Evt.d:=List.take_of_length_le (by rw [List.length_map,List.length_drop];exact Nat.le_refl _);have hdr:List.drop (dx k n) (k.evs.map Evt.d)=(k.evs.drop (dx k n)).map Evt.d:=by rw [List.map_drop]
 have hln:(k.evs.drop (dx k n)).length=k.evs.length - dx k n:=List.length_drop;rw [hln] at hc;refine aw func26 ntmps26 results26 ?_;push_cast [O,U];have cB:aH 5 []:=trivial;by_cases h0:n≤0
 ·have hm:dx k n=0:=by unfold dx;rw [if_pos h0]
  rw [hm] at hc hls hdr hln ⊢;rw [List.drop_zero] at hc hls hdr hln ⊢;rw [Nat.sub_zero] at hc hls hln;by_cases h1:n < 0
  ·repeat' ((first|(refine av 5 [] ?_;apply ak;(focus kernel_rfl);(focus (simp only [aP,rA];(repeat' first|(refine aW true [] rfl rfl aj (hc) ?_ ?_ ?_;push_cast [O,U,  h1,hls];(intro _ r os;rintro ⟨rfl,rfl⟩;push_cast [O,U,  h1,hls]);rintro r os ⟨rfl,rfl⟩;refine an ?_;push_cast [O,U,  h1,hls])|((first|refine pah 0 ?_|refine pah 1 ?_|refine pah 2 ?_|refine pah 4 ?_|refine pah 5 ?_|refine pah 6 ?_|refine pah 7 ?_|refine pah 8 ?_|refine pah 10 ?_|refine pah 11 ?_|refine pah 12 ?_|refine pah 14 ?_);push_cast [O,U,  h1,hls])|(refine pad ?_;first|with_reducible exact ao 5 [] _|(refine weak_fg ?_;push_cast [O,U,  h1,hls]))|((first|refine pas [3] ?_|refine pas [9] ?_|refine pas [13] ?_);push_cast [O,U,  h1,hls])|((first|refine pas [3,9] ?_);push_cast [O,U,  h1,hls];refine ⟨?_,?_⟩));done));push_cast [O,U,  h1,hls])|refine ae ?_|refine pif ?_ ?_<;>intro h<;>try exact pN h)<;>push_cast [O,U,h1,hls])
   (refine K9 [0,1,2] ?_;push_cast [O,U,hls])
  ·have h2:n=0:=ac;subst h2;repeat' ((first|(refine av 5 [] ?_;apply ak;(focus kernel_rfl);(focus (simp only [aP,rA];(repeat' first|(refine aW true [] rfl rfl aj (hc) ?_ ?_ ?_;push_cast [O,U,  hls];(intro _ r os;rintro ⟨rfl,rfl⟩;push_cast [O,U,  hls]);rintro r os ⟨rfl,rfl⟩;refine an ?_;push_cast [O,U,  hls])|((first|refine pah 0 ?_|refine pah 1 ?_|refine pah 2 ?_|refine pah 4 ?_|refine pah 5 ?_|refine pah 6 ?_|refine pah 7 ?_|refine pah 8 ?_|refine pah 10 ?_|refine pah 11 ?_|refine pah 12 ?_|refine pah 14 ?_);push_cast [O,U,  hls])|(refine pad ?_;first|with_reducible exact ao 5 [] _|(refine weak_fg ?_;push_cast [O,U,  hls]))|((first|refine pas [3] ?_|refine pas [9] ?_|refine pas [13] ?_);push_cast [O,U,  hls])|((first|refine pas [3,9] ?_);push_cast [O,U,  hls];refine ⟨?_,?_⟩));done));push_cast [O,U,  hls])|refine ae ?_|refine pif ?_ ?_<;>intro h<;>try exact pN h)<;>push_cast [O,U,hls])
   (refine K9 [0,1,2] ?_;push_cast [O,U,hls])
 have h1:¬ n < 0:=ac;by_cases h2:n≤k.evs.length
 ·obtain ⟨m,rfl⟩:∃ m:Nat,n=(m:Int):=⟨n.toNat,ac⟩
  have hm:dx k (m:Int)=m:=by unfold dx;rw [if_neg h0,if_pos h2];exact Int.toNat_natCast m
  rw [hm] at hc hls hdr hln ⊢;repeat' ((first|(refine av 5 [] ?_;apply ak;(focus kernel_rfl);(focus (simp only [aP,rA];(repeat' first|(refine aW true [] rfl rfl aj (hc) ?_ ?_ ?_;push_cast [O,U,  h1,hls,hdr];(intro _ r os;rintro ⟨rfl,rfl⟩;push_cast [O,U,  h1,hls,hdr]);rintro r os ⟨rfl,rfl⟩;refine an ?_;push_cast [O,U,  h1,hls,hdr])|((first|refine pah 0 ?_|refine pah 1 ?_|refine pah 2 ?_|refine pah 4 ?_|refine pah 5 ?_|refine pah 6 ?_|refine pah 7 ?_|refine pah 8 ?_|refine pah 10 ?_|refine pah 11 ?_|refine pah 12 ?_|refine pah 14 ?_);push_cast [O,U,  h1,hls,hdr])|(refine pad ?_;first|with_reducible exact ao 5 [] _|(refine weak_fg ?_;push_cast [O,U,  h1,hls,hdr]))|((first|refine pas [3] ?_|refine pas [9] ?_|refine pas [13] ?_);push_cast [O,U,  h1,hls,hdr])|((first|refine pas [3,9] ?_);push_cast [O,U,  h1,hls,hdr];refine ⟨?_,?_⟩));done));push_cast [O,U,  h1,hls,hdr])|refine ae ?_|refine pif ?_ ?_<;>intro h<;>try exact pN h)<;>push_cast [O,U,h1,hls,hdr])
  (refine K9 [0,1,2] ?_;push_cast [O,U,hls,hdr])
 ·have hm:dx k n=k.evs.length:=by unfold dx;rw [if_neg h0,if_neg h2]
  rw [hm] at hc ⊢;have h3:(k.evs.length:Int) < n:=ac;rw [Nat.sub_self,List.drop_length,List.map_nil] at hc;rw [List.drop_length,List.map_nil];have hdr2:List.drop k.evs.length (k.evs.map Evt.d)=[]:=List.drop_of_length_le (by simp);by_cases hz:k.evs.length=0
  ·have hn0:k.evs=[]:=List.eq_nil_of_length_eq_zero hz;rw [hn0] at h3;have h3:(0:Int) < n:=h3;repeat' ((first|(refine av 5 [] ?_;apply ak;(focus kernel_rfl);(focus (simp only [aP,rA];(repeat' first|(refine aW true [] rfl rfl aj (hc) ?_ ?_ ?_;push_cast [O,U,  h1,h3,hn0];(intro _ r os;rintro ⟨rfl,rfl⟩;push_cast [O,U,  h1,h3,hn0]);rintro r os ⟨rfl,rfl⟩;refine an ?_;push_cast [O,U,  h1,h3,hn0])|((first|refine pah 0 ?_|refine pah 1 ?_|refine pah 2 ?_|refine pah 4 ?_|refine pah 5 ?_|refine pah 6 ?_|refine pah 7 ?_|refine pah 8 ?_|refine pah 10 ?_|refine pah 11 ?_|refine pah 12 ?_|refine pah 14 ?_);push_cast [O,U,  h1,h3,hn0])|(refine pad ?_;first|with_reducible exact ao 5 [] _|(refine weak_fg ?_;push_cast [O,U,  h1,h3,hn0]))|((first|refine pas [3] ?_|refine pas [9] ?_|refine pas [13] ?_);push_cast [O,U,  h1,h3,hn0])|((first|refine pas [3,9] ?_);push_cast [O,U,  h1,h3,hn0];refine ⟨?_,?_⟩));done));push_cast [O,U,  h1,h3,hn0])|refine ae ?_|refine pif ?_ ?_<;>intro h<;>try exact pN h)<;>push_cast [O,U,h1,h3,hn0])
   (refine K9 [0,1,2] ?_;push_cast [O,U,hn0])
  ·repeat' ((first|(refine av 5 [] ?_;apply ak;(focus kernel_rfl);(focus (simp only [aP,rA];(repeat' first|(refine aW true [] rfl rfl aj (hc) ?_ ?_ ?_;push_cast [O,U,  h1,h3,hz,hdr2];(intro _ r os;rintro ⟨rfl,rfl⟩;push_cast [O,U,  h1,h3,hz,hdr2]);rintro r os ⟨rfl,rfl⟩;refine an ?_;push_cast [O,U,  h1,h3,hz,hdr2])|((first|refine pah 0 ?_|refine pah 1 ?_|refine pah 2 ?_|refine pah 4 ?_|refine pah 5 ?_|refine pah 6 ?_|refine pah 7 ?_|refine pah 8 ?_|refine pah 10 ?_|refine pah 11 ?_|refine pah 12 ?_|refine pah 14 ?_);push_cast [O,U,  h1,h3,hz,hdr2])|(refine pad ?_;first|with_reducible exact ao 5 [] _|(refine weak_fg ?_;push_cast [O,U,  h1,h3,hz,hdr2]))|((first|refine pas [3] ?_|refine pas [9] ?_|refine pas [13] ?_);push_cast [O,U,  h1,h3,hz,hdr2])|((first|refine pas [3,9] ?_);push_cast [O,U,  h1,h3,hz,hdr2];refine ⟨?_,?_⟩));done));push_cast [O,U,  h1,h3,hz,hdr2])|refine ae ?_|refine pif ?_ ?_<;>intro h<;>try exact pN h)<;>push_cast [O,U,h1,h3,hz,hdr2])
   exact am [0,1,2]
set_option maxHeartbeats 4000000 in
theorem fO (k:Ker) (hT:dW k.tree):ah prog 20 [.c (.ptr 0 0)] (bI k) fun r os=>r = .agg (trE k.tree)∧os=bI k:=by
 have hkl:=hT.len;refine aw func20 ntmps20 results20 ?_;push_cast [O,U];have cB:aH 6 [10,11,12]:=trivial;repeat' ((first|refine ae ?_|refine pif ?_ ?_<;>intro h<;>try exact pN h)<;>push_cast [O,U])
 refine aF (bP 4 0 53 10 ac 41 [.v (.slice none 0 0)] rfl rfl) ?_;push_cast [O,U];(apply ap (α:=Nat) 6 [10,11,12] (fun i=>[(12,.c (.v (.int .i64 i)))]) (fun i=>[(4,.box 41 [.own 5 i]),(5,.arr 53 10 ((k.tree.take i).map Dev.d))]) (fun i=>i≤k.tree.length) (fun i=>k.tree.length - i) (0);(focus ((try push_cast [O,U]);rfl));(focus exact (Nat.zero_le _));(focus ((refine weak_fg ?_;try push_cast [O,U]);(try (rfl)))));intro i hi;push_cast [O,U];by_cases hlt:i < k.tree.length
 ·have hm:k.tree.getD i default ∈ k.tree:=by rw [ai _ hlt];exact List.getElem_mem _
  have hc:=pH (k.tree.getD i default).attrs (by have:=(hT.small hm).att;omega);have htk:k.tree.take (i+1)=k.tree.take i++[k.tree.getD i default]:=by rw [List.take_succ_eq_append_getElem hlt,ai _ hlt]
  have htl:(k.tree.take i).length=i:=by rw [List.length_take];omega
  obtain ⟨u,hu⟩:∃ u,k.tree.take i=u:=⟨_,rfl⟩
  obtain ⟨d,hd⟩:∃ d,k.tree.getD i default=d:=⟨_,rfl⟩
  rw [hu] at htk htl ⊢;rw [hd] at hc htk;have hta:=List.take_of_length_le (l:=d.attrs.map Atr.d) (i:=d.attrs.length) (by simp);repeat' ((first|(refine aW false [] rfl rfl aj hc ?_ nofun ?_;push_cast [O,U,htl,hd,hta];rintro r os ⟨rfl,rfl⟩;refine bX (bQ 7 ac) ?_;push_cast [O,U,htl,hd,hta];refine an ?_)|refine ae ?_|refine pif ?_ ?_<;>intro h<;>try exact pN h)<;>push_cast [O,U,htl,hd,hta])
  exact ⟨i+1,ac,by (refine weak_fg ?_;push_cast [O,U,htk]),ac⟩
 ·have hi2:i=k.tree.length:=ac;subst hi2;rw [List.take_length];repeat' ((first|refine ae ?_|refine pif ?_ ?_<;>intro h<;>try exact pN h)<;>push_cast [O,U])
  exact am [0,1,2]
end
end Go.Proofs.YtmbbkfffcflfcaaGreatDoor
