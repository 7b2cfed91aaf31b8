/- What the program computes, and the plain laws of it, part 26. -/
import Derived.WideKeyEntry
import Derived.Lib.ItoaNum
import Derived.Test.YtmbbkfffcflfcaaGreatDoorT25
namespace Go.Proofs.YtmbbkfffcflfcaaGreatDoor
open Go.Proofs.Tryz
set_option linter.unusedSimpArgs false
set_option linter.unusedVariables false
open Go.RowKit
open IntWalk renaming iteOmega → O, toNatUp → U
section
attribute [local irreducible] PL QL aL ah bg La aV PA
set_option maxRecDepth 20000
theorem pH (l:List Atr) (hl:l.length≤1000000000) :
  ah prog 52 [.c (.sl 2 (l.map Atr.d))] [] fun r os=>r = .c (.own 0 l.length)∧os=[.arr 97 2 (l.map Atr.d)]:=by
 refine jw (R:=fun r os=>(r = .c (.own 0 l.length)∧os=[.arr 97 2 (l.map Atr.d)])∨(r = .c (.v (.slice none 0 0))∧os=[]∧l=[])) 97 2 ac ?_ (by
  rintro r os (h|⟨rfl,rfl,rfl⟩)
  ·exact .inl h
  ·exact .inr ⟨rfl,rfl,rfl⟩)
 by_cases h0:l=[]
 ·subst h0;refine iK (l1:=[]) (l2:=[]) fun A c=>?_
  cases A with
  | none =>
   refine ah.mono (R:=fun r os=>r = .c (.v (.slice none 0 0))∧os=[]) ?_ (fun r os h=>.inr ⟨h.1,h.2,rfl⟩);refine aw func52 ntmps52 results52 ?_;push_cast [O,U];repeat' ((first|refine au ?_|refine pif ?_ ?_<;>intro h<;>try exact pN h)<;>push_cast [O,U])
   exact am []
  | some a =>
   refine ah.mono (R:=fun r os=>r = .c (.own 0 0)∧os=[.arr 97 2 []]) ?_ (fun r os h=>.inl h);refine aw func52 ntmps52 results52 ?_;push_cast [O,U];repeat' ((first|refine au ?_|refine pif ?_ ?_<;>intro h<;>try exact pN h)<;>push_cast [O,U])
   exact am [0]
 ·have h1:0 < l.length:=List.length_pos_iff.2 h0;refine ah.mono (R:=fun r os=>r = .c (.own 0 l.length)∧os=[.arr 97 2 (l.map Atr.d)]) ?_ (fun r os h=>.inl h);refine aw func52 ntmps52 results52 ?_;push_cast [O,U];repeat' ((first|refine au ?_|refine pif ?_ ?_<;>intro h<;>try exact pN h)<;>push_cast [O,U])
  exact am [0]
set_option maxRecDepth 20000
def Az (P:Program) (g:FuncId) (ks:List Nat) (os:List Ob) (l:List Dev) (q:Dev → Bool):Prop:=dK P g=true∧∀ x ∈ l,ah P g (.agg x.e :: ks.map fun k=>.c (.ptr k 0)) os fun r os'=>r = .c (.v (.bool (q x)))∧os'=os
def Jw (q:Dev → Bool) (l:List Dev) (k:Int):Prop:=(k = -1∧∀ x ∈ l,q x=false)∨∃ i:Nat,k=i∧i < l.length∧q (l.getD i default)=true∧∀ x ∈ l.take i,q x=false
theorem rH:∀ ks:List Nat,fS (ks.map fun k=>some (PV.c (.ptr k 0))) (ks.map fun k=>PV.c (.ptr k 0))
 | []=>trivial
 | k :: ks=>⟨aE _,rH ks⟩
theorem dX (l:List Dev) (hl:l.length≤1000000000) (g:FuncId) (ks:List Nat) (os:List Ob) (q:Dev → Bool) (hp:Az prog g ks os l q) :
  ah prog 133 [.c (.sl 10 (l.map Dev.d)),.c (.fn (.func g) [] ks)] os fun r os'=>∃ k,Jw q l k∧r = .c (.v (.int .i64 k))∧os'=os:=by
 refine bA func133 rfl (by simp [ntmps133]) ?_;rw [ntmps133,results133];push_cast [O,U];repeat' ((first|refine au ?_|refine pif ?_ ?_<;>intro h<;>try exact pN h)<;>push_cast [O,U])
 refine dh (α:=Nat) (fun k=>k≤l.length∧∀ x ∈ l.take k,q x=false) (fun k=>⟨[(8,.c (.v (.int .i64 k))),(7,.c (.v (.int .i64 l.length))),(6,.c (.sl 10 (l.map Dev.d))),(0,.c (.sl 10 (l.map Dev.d))),(1,.c (.fn (.func g) [] ks))],os⟩) (fun k=>l.length - k) 0 ⟨ac,by simp⟩ (cV (by push_cast [O,U]) rfl) ?_;rintro k ⟨hk,hpre⟩;by_cases hlt:k < l.length
 ·have hm:l.getD k default ∈ l:=by rw [ai l hlt];exact List.getElem_mem _
  have hc:=hp.2 _ hm;have hpre2:q (l.getD k default)=false → ∀ x ∈ l.take (k+1),q x=false:=fun h x hx=>by
   rw [List.take_succ_eq_append_getElem hlt] at hx;rcases List.mem_append.1 hx with hx|hx
   ·exact hpre x hx
   ·simp at hx;subst hx;rw [← ai l hlt];exact h
  cases hq:q (l.getD k default);all_goals rw [hq] at hc
  all_goals repeat' ((first|(refine dc rfl (by push_cast [O,U]) rfl hp.1 (by push_cast [O,U]) ?_ hc ?_;(focus (unfold bC;push_cast [O,U];exact rH ks));rintro r os ⟨rfl,rfl⟩;refine an ?_)|refine au ?_|refine pif ?_ ?_<;>intro h<;>try exact pN h)<;>push_cast [O,U])
  ·exact ⟨k+1,⟨ac,hpre2 hq⟩,cV (by push_cast [O,U]) rfl,ac⟩
  ·exact ⟨_,rfl,by push_cast [O,U],k,.inr ⟨k,rfl,hlt,hq,hpre⟩,rfl,rfl⟩
 ·rw [List.take_of_length_le ac] at hpre;repeat' ((first|refine au ?_|refine pif ?_ ?_<;>intro h<;>try exact pN h)<;>push_cast [O,U])
  exact ⟨_,rfl,by push_cast [O,U],-1,.inl ⟨rfl,hpre⟩,rfl,rfl⟩
set_option maxRecDepth 20000
theorem rI {l:List Dev} {n:Int} (h:aG l n=none):aZ l n=⟨#[]⟩:=by unfold aZ;rw [gG h];rfl
theorem AA (l:List Dev) (n:Int):lkP false (.c (.v (.string ⟨#[]⟩))) true (eC (jf l l.length) (.i .i64 n))=some (.two (.c (.v (.string (aZ l n)))) (.c (.v (.bool (aG l n).isSome)))):=by
 rw [jK,List.take_length];cases hf:aG l n with
 | none=>rw [rI hf];rfl
 | some d=>rfl
theorem rJ (l:List Dev) (n:Int):lkP false (.c (.v (.string ⟨#[]⟩))) false (eC (jf l l.length) (.i .i64 n))=some (.c (.v (.string (aZ l n)))):=by
 rw [jK,List.take_length];cases hf:aG l n with
 | none=>rw [rI hf];rfl
 | some d=>rfl
theorem fm (d:Dev) (hl:d.attrs.length≤1000000000):ah prog 64 [.agg d.e] [] fun r os=>r = .agg d.e∧os=[]:=by
 have hc:=pH d.attrs hl;refine aw func64 ntmps64 results64 ?_;push_cast [O,U];repeat' ((first|refine aK [] hc ?_|refine au ?_|refine pif ?_ ?_<;>intro h<;>try exact pN h)<;>push_cast [O,U])
 exact am []
set_option maxRecDepth 20000
abbrev nG (l:List Dev) (p:ByteArray):List Ob:=[.box 120 [.sl 10 (l.map Dev.d),.mp 2,.mp 3],.box 9 [.v (.string p)],.map (some .i64) false (ee l l.length),.map (some .i64) false (jf l l.length)]
theorem Ff (l:List Dev) (p:ByteArray) (d:Dev):ah prog 104 [.agg d.e,.c (.ptr 0 0),.c (.ptr 1 0)] (nG l p) fun r os=>r = .c (.v (.bool (decide (aZ l d.index=p))))∧os=nG l p:=by
 have hlk:=rJ l d.index;refine aw func104 ntmps104 results104 ?_;push_cast [O,U];repeat' ((first|refine au ?_|refine pif ?_ ?_<;>intro h<;>try exact pN h)<;>push_cast [O,U,hlk])
 exact am [0,1,2,3]
theorem vd (l:List Dev) (p:ByteArray) (hl:l.length≤1000) (ha:∀ d ∈ l,d.attrs.length≤1000000000):ah prog 103 [.agg (trE l),.c (.fn (.func 104) [] [0,1])] (nG l p) fun r os=>r = .two (.agg ((atD l p).getD default).e) (.c (.v (.bool ((atD l p).isSome))))∧os=nG l p:=by
 have hi:=dX l ac 104 [0,1] (nG l p) (fun d=>decide (aZ l d.index=p)) ⟨aj,fun x _=>Ff l p x⟩;refine aw func103 ntmps103 results103 ?_;push_cast [O,U];repeat' ((first|refine au ?_|refine pif ?_ ?_<;>intro h<;>try exact pN h)<;>push_cast [O,U])
 (refine plc [0,1,2,3] (hi) ?_ ?_;push_cast [O,U];rintro r os ⟨k,hk,rfl,rfl⟩;push_cast [O,U]);rcases hk with ⟨rfl,hn⟩|⟨i,rfl,hi2,hq,hpre⟩
 ·have hR:atD l p=none:=by
   unfold atD;rw [List.find?_eq_none];intro x hx;simpa using hn x hx
  repeat' ((first|refine au ?_|refine pif ?_ ?_<;>intro h<;>try exact pN h)<;>push_cast [O,U])
  (refine K9 [0,1,2,3] ?_;push_cast [O,U,hR,Option.getD_none,Option.isSome_none]);repeat' (first|exact rfl|exact aB _|exact trivial|refine ⟨?_,?_⟩)
 ·have hR:atD l p=some (l.getD i default):=by
   unfold atD;rw [List.find?_eq_some_iff_append];refine ⟨hq,l.take i,l.drop (i+1),?_,fun a ha=>by simpa using hpre a ha⟩;rw [ai l hi2]
   conv=>lhs;rw [← List.take_append_drop i l,List.drop_eq_getElem_cons hi2]
  have hcp:=fm (l.getD i default) (ha _ (by rw [ai l hi2];exact List.getElem_mem _));repeat' ((first|refine aK [] hcp ?_|refine au ?_|refine pif ?_ ?_<;>intro h<;>try exact pN h)<;>push_cast [O,U])
  (refine K9 [0,1,2,3] ?_;push_cast [O,U,hR,Option.getD_some,Option.isSome_some]);all_goals exact ⟨_,_,aE _,aB _,rfl,rfl⟩
set_option maxHeartbeats 1000000 in
theorem AB (l:List Dev) (p:ByteArray) (h:Okp l) (hl:l.length≤1000) (hz:∀ d ∈ l,d.original.size≤1000) (ha:∀ d ∈ l,d.attrs.length≤1000000000) :
  ah prog 57 [.agg (trE l),.c (.v (.string p))] [] fun r os=>r = .two (.agg ((atD l p).getD default).e) (.c (.v (.bool ((atD l p).isSome))))∧os=[]:=by
 have hk:=oJ l h hl hz;have hf:=vd l p hl ha;refine aw func57 ntmps57 results57 ?_;push_cast [O,U];repeat' ((first|refine aK [] hk ?_|refine aK [5,1,3,4] hf ?_|refine au ?_|refine pif ?_ ?_<;>intro h<;>try exact pN h)<;>push_cast [O,U])
 exact am []
end
section
section
variable {P:Program} {N p:Nat} {ops:Array Oper} {rest:List Oper} {o:Oper} {s:S} {K:S → Prop}
theorem AC {q:PV} (hg:gd ops s o.guard=some true) (h:∀ Γ a w,Inv N Γ s a w → ∃ y,RP w Γ q y∧∀ w',bS w w' → (execOp a.eval o).run P w' = .ok (.value y) w') (hd:bp N o.dst) (hr:PL P N p ops rest (s.put o.dst q) K):PL P N p ops (o :: rest) s K:=by
 intro Γ a w Q hA hK;obtain ⟨y,h1,h2⟩:=h Γ a w hA.inv;unfold wpListIn;rw [if_pos (fG hg hA.inv)];exact eP (h2 w (bS.refl w)) (hr Γ _ w Q ⟨hA.inv.put (ec hd) h1,hA.le⟩ fun s' Γ'' a' w'' hk ha hg' hd'=>hK s' Γ'' a' w'' hk ha hg' (hd'.trans (bK _ _ _)))
theorem BU {x:Operand} {t:TypeId} {k:Nat} {kk:Option IntKind} {e:TypeId} {ag:Bool} {es:List (MK × List D)} (ho:o.op = .call ⟨.builtin .len,#[x],#[t]⟩) (hg:gd ops s o.guard=some true) (hx:s.ev x=some (.c (.mp k))) (hm:pR P t=some (kk,e)) (hk:s.o[k]? = some (.map kk ag es)) (hd:bp N o.dst)
  (hK:PL P N p ops rest (s.put o.dst (.c (.v (.int .i64 (es.length:Int))))) K):PL P N p ops (o :: rest) s K:=by
 refine AC (q:=.c (.v (.int .i64 (es.length:Int)))) hg (fun Γ a' w hI=>?_) hd hK;have h1:=S.ev_ok hx hI;obtain ⟨kt,hu,hku⟩:=qB hm;obtain ⟨h0,ms,ck,hb,hM⟩:=hI.m.ob k _ hk;have hlt:Γ.β k < w.heap.size:=(Array.getElem?_eq_some_iff.1 hb).1;have hl:es.length=ms.size:=by rw [hM.rows.length];exact Array.length_toList
 refine ⟨_,⟨rfl,rfl⟩,fun w' hS=>?_⟩;simp [execOp,ho,resolve,invoke,builtin,Builtin.len_,run_underlying hu,h1.2,MapKept.run_getObj_map ((hS.block _ hlt).trans hb),goInt,hl]
end
def ua:List Nat → List PV → List (Nat × PV) → List (Nat × PV)
 | i :: is,q :: qs,t=>ua is qs ((i,q) :: t)
 | _,_,t=>t
attribute [push_cast] ua
theorem xh {N:Nat} {Γ:G} {w:World}:∀ {is:List Nat} {qs:List PV} {t:List (Nat × PV)} {xs:List Value} {tm:Array Value},is.length=qs.length → (∀ i ∈ is,i < N) → ay (RP w Γ) qs xs → tm.size=N → (∀ i q,cM t i=some q → i < N∧RP w Γ q (tm.getD i Go.undef)) →
  ((is.zip xs).foldl (fun tmps (x:Nat × Value)=>tmps.setIfInBounds x.1 x.2) tm).size=N∧∀ i q,cM (ua is qs t) i=some q → i < N∧RP w Γ q (((is.zip xs).foldl (fun tmps (x:Nat × Value)=>tmps.setIfInBounds x.1 x.2) tm).getD i Go.undef)
 | [],[],t,xs,tm,_,_,_,hs,ht=>by
  rw [List.zip_nil_left];exact ⟨hs,ht⟩
 | i :: is,q :: qs,t,x :: xs,tm,hl,hn,hx,hs,ht=>by
  rw [List.zip_cons_cons,List.foldl_cons,ua];refine xh (by simpa using hl) (fun j hj=>hn j (by simp [hj])) hx.2 (by simpa using hs) fun j r hj=>?_
  have hi:=hn i (by simp);simp only [cM] at hj;split at hj
  ·rename_i e;subst e;cases hj;refine ⟨hi,?_⟩;have:j < tm.size:=by rw [hs];exact hi
   simpa [this] using hx.1
  ·rename_i e;obtain ⟨h1,h2⟩:=ht j r hj;refine ⟨h1,?_⟩;rw [Array.getD_eq_getD_getElem?,Array.getElem?_setIfInBounds_ne (fun e'=>e e'.symm),← Array.getD_eq_getD_getElem?];exact h2
 | [],_ :: _,_,_,_,h,_,_,_,_=>by simp at h
 | _ :: _,[],_,_,_,h,_,_,_,_=>by simp at h
 | _ :: _,_ :: _,_,[],_,_,_,h,_,_=>h.elim
theorem oK {N p:Nat} {Γ:G} {s:S} {a:Act} {w:World} {k l:Nat} {L L':kg} {t:List (Nat × PV)} {tm:Array Value} (hA:dl N p Γ s a w) (hk:s.o[k]? = some (.loop l L t)) (h1:w.heap[l]? = some (.loop (L.obj tm))) (hN:L'.N=L.N)
  (h2:tm.size=L.N) (h3:∀ i q,cM t i=some q → i < L.N∧RP w Γ q (tm.getD i Go.undef)) (h4:0 < Γ.cap k) (h5:Γ.β k=l) :
  dl N p Γ ⟨s.t,s.o.set k (.loop l L' t)⟩ a (w.putObj l (.loop (L'.obj tm)))∧cq p Γ w Γ (w.putObj l (.loop (L'.obj tm))):=by
 have hlt:l < w.heap.size:=(Array.getElem?_eq_some_iff.1 h1).1;have hkn:k < Γ.n:=by rw [hA.inv.m.n];exact (List.getElem?_eq_some_iff.1 hk).1
 have hE:Ext (· = Γ.β k) w (w.putObj l (.loop (L'.obj tm))):=⟨rfl,rfl,rfl,by simp,fun b _ hb=>World.putObj_heap_other (fun e=>hb (by rw [h5];exact e))⟩
 have hs:dC w Γ.I (w.putObj l (.loop (L'.obj tm))) Γ.I:=⟨hE.size,fun b hb hl=>hE.block b hl fun e=>hA.inv.m.off k hkn h4 (e ▸ hb),fun _ h=>h⟩
 have hro:RO (w.putObj l (.loop (L'.obj tm))) Γ k (.loop l L' t):=⟨h4,h5,tm,World.putObj_heap_same hlt,by rw [hN];exact h2,fun i q hq=>⟨by rw [hN];exact (h3 i q hq).1,(h3 i q hq).2.stay hs fun j hj=>⟨(h3 i q hq).2.lt j hj,rfl,rfl⟩⟩⟩
 obtain ⟨hm,_⟩:=hA.inv.m.set_ hkn h4 hE _ hro;exact ⟨⟨hA.inv.heap hm hs fun j hj=>⟨hj,rfl,rfl⟩,hA.le⟩,gJ hkn h4 hE⟩
theorem cq.less {p p':Nat} {Γ Γ':G} {w w':World} (h:cq p Γ w Γ' w') (hp:p'≤p):cq p' Γ w Γ' w':=⟨h.ext,h.sub,h.new,h.imm,fun k hk=>h.keep k ac⟩
section
variable {P:Program} {N p:Nat} {ops:Array Oper} {rest:List Oper} {o:Oper} {s:S} {K:S → Prop}
def yX (P:Program) (N p:Nat) (ops:Array Oper) (rest:List Oper) (dst:Option Nat) (t:List (Nat × PV)) (K:S → Prop) (k l:Nat):Exit → S → Prop
 | .normal,s2=>∃ L2 t2,s2.o[k]? = some (.loop l L2 t2)∧PL P N p ops rest (S.put ⟨t,s2.o.set k (.loop l { L2 with st:=.ready,pd:=none } t2)⟩ dst (.c (.v (.bool true)))) K
 | .ret,s2=>∃ L2 t2,s2.o[k]? = some (.loop l L2 t2)∧PL P N p ops rest (S.put ⟨t,s2.o.set k (.loop l { L2 with st:=.done,pd:=some .ret } t2)⟩ dst (.c (.v (.bool false)))) K
 | .exit i,s2=>∃ L2 t2,s2.o[k]? = some (.loop l L2 t2)∧PL P N p ops rest (S.put ⟨t,s2.o.set k (.loop l { L2 with st:=.done,pd:=some (.exit i) } t2)⟩ dst (.c (.v (.bool false)))) K
 | _,_=>False
def yY (P:Program) (p:Nat) (L:kg) (Q:Exit → S → Prop) (k l:Nat):Exit → S → Prop
 | .normal,s1=>∃ L1 t1,s1.o[k]? = some (.loop l L1 t1)∧L1.st = .ready∧aL (some l) P L.N p L.body Q ⟨s1.t,s1.o.set k (.loop l { L1 with st:=.busy } t1)⟩
 | _,_=>False
theorem HL {a:Act} {w:World} {f:Operand} {args:Array Operand} {tys:Array TypeId} {l:Nat} {r:Loop} (ho:o.op = .call ⟨.value f,args,tys⟩) (hf:a.eval f = .func (.yield l) #[] #[]) (hl:w.heap[l]? = some (.loop r)) (hs:args.size=r.params.size) :
  (execOp a.eval o).run P w = .ok (.round l r.fn ((r.params.zip (args.map a.eval)).foldl (fun tmps (t,a)=>tmps.setIfInBounds t a) r.tmps) r.assign r.body) w:=by
 have hy:=run_yield (P:=P) (args:=args.map a.eval) hl (by simpa using hs);simp [execOp,ho,resolve,hf,Deferred.ofValue,invoke,callFunc,hy]
theorem jg {f:Operand} {args:Array Operand} {tys:Array TypeId} {l:Nat} (k:Nat) {L:kg} {t:List (Nat × PV)} {qs:List PV}
  (ho:o.op = .call ⟨.value f,args,tys⟩) (hg:gd ops s o.guard=some true) (hf:s.ev f=some (.c (.fn (.yield l) [] []))) (hd:bp N o.dst)
  (hk:s.o[k]? = some (.loop l L t)) (hst:L.st = .ready) (hq:fS (args.toList.map s.ev) qs) (hlen:L.ps.toList.length=qs.length) (hpn:(L.ps.toList.all fun i=>decide (i < L.N))=true)
  (h:aL (some l) P L.N s.o.length L.asg (yY P s.o.length L (yX P N p ops rest o.dst s.t K k l) k l) ⟨ua L.ps.toList qs t,s.o⟩):PL P N p ops (o :: rest) s K:=by
 intro Γ a w Q hA hQ;have hn:=hA.inv.m.n;have hps:p≤s.o.length:=by rw [← hn];exact hA.le
 obtain ⟨xs,hfv,hx0,_⟩:=S.ev_ok hf hA.inv;replace hx0:=hx0 rfl;rw [ay.nil_l] at hx0;subst hx0;simp only [jU,fnV] at hfv;obtain ⟨h4,h5,tm,h1,h2,h3⟩:=hA.inv.m.ob k _ hk;have hargs:ay (RP w Γ) qs (args.toList.map a.eval):=mc hq (by
  have:∀ l:List Operand,ay (fun (q:Option PV) y=>∀ r,q=some r → RP w Γ r y) (l.map s.ev) (l.map a.eval):=by
   intro l;induction l with
   | nil=>trivial
   | cons x l ih=>exact ⟨fun r hr=>S.ev_ok hr hA.inv,ih⟩
  exact this _)
 have hsz:args.size=(L.obj tm).params.size:=by
  have:=hargs.length;rw [List.length_map] at this;have h6:L.ps.size=qs.length:=by rw [← hlen];exact Array.length_toList.symm
  show args.size=L.ps.size;rw [h6,this];exact Array.length_toList.symm
 have hrun:=HL (P:=P) ho hfv h1 hsz;unfold wpListIn;rw [if_pos (fG hg hA.inv)];refine eP hrun ⟨uE,?_⟩;have hfold:((L.obj tm).params.zip (args.map a.eval)).foldl (fun tmps (t,a)=>tmps.setIfInBounds t a) (L.obj tm).tmps=(L.ps.toList.zip (args.toList.map a.eval)).foldl (fun tmps (x:Nat × Value)=>tmps.setIfInBounds x.1 x.2) tm:=by
  rw [← Array.foldl_toList,Array.toList_zip,Array.toList_map];rfl
 rw [hfold];obtain ⟨g1,g2⟩:=xh (N:=L.N) hlen (fun i hi=>by simpa using List.all_eq_true.1 hpn i hi) hargs h2 h3;have hS0:dl L.N s.o.length Γ ⟨ua L.ps.toList qs t,s.o⟩ { tmps:=(L.ps.toList.zip (args.toList.map a.eval)).foldl (fun tmps (x:Nat × Value)=>tmps.setIfInBounds x.1 x.2) tm,defers:=[] } w :=
  ⟨⟨g1,trivial,g2,hA.inv.m⟩,by rw [hn];exact Nat.le_refl _⟩
 refine roundIn_of_wpIn trivial ?_;refine wpIn_mono (h w.heap.size Γ _ w hS0 (iT.nil (Nat.le_refl _))) ?_;rintro e a1 w1 ⟨s1,Γ1,q,hS1,hg1,hd1⟩;cases e with
 | normal =>
  obtain ⟨L1,t1,hk1,hst1,hB⟩:=q;obtain ⟨c4,c5,tm1,c1,c2,c3⟩:=hS1.inv.m.ob k _ hk1;obtain ⟨hS2,hg2⟩:=oK (L':={ L1 with st:=.busy }) hS1 hk1 c1 rfl c2 c3 c4 c5;refine ⟨_,run_beginRound c1 hst1,?_⟩;refine wpIn_mono (hB w.heap.size Γ1 a1 _ hS2 (hd1.grow hg2 rfl)) ?_;rintro e2 a2 w2 ⟨s2,Γ2,q2,hS3,hg3,hd3⟩;have fin:∀ (jump:Option Code) (b:Bool) (L2:kg) (t2:List (Nat × PV)),jump.isNone=b → s2.o[k]? = some (.loop l L2 t2) →
    PL P N p ops rest (S.put ⟨s.t,s2.o.set k (.loop l { L2 with st:=if jump.isNone then .ready else .done,pd:=jump } t2)⟩ o.dst (.c (.v (.bool b)))) K →
    ∃ v w',(Instr.endRound l jump).run P w2 = .ok v w'∧wpListIn (Fw none) 0 P ops Q rest (a.put o.dst v) w':=by
   intro jump b L2 t2 hb hk2 hp;obtain ⟨e4,e5,tm2,e1,e2,e3⟩:=hS3.inv.m.ob k _ hk2;obtain ⟨hS4,hg4⟩:=oK (L':={ L2 with st:=if jump.isNone then .ready else .done,pd:=jump }) hS3 hk2 e1 rfl e2 e3 e4 e5;refine ⟨_,_,run_endRound jump e1,?_⟩;have hgT:cq s.o.length Γ w Γ2 _:=((hg1.trans hg2).trans hg3).trans hg4;have hn2:s.o.length≤Γ2.n:=hS4.le;have hI:=hA.inv.heap hS4.inv.m (hgT.stay hA.inv.m) fun j hj=>by
    have hj':j < s.o.length:=by rw [← hn];exact hj
    exact ⟨ac,(hgT.keep j hj').1,(hgT.keep j hj').2⟩
   subst hb;exact hp Γ2 _ _ Q ⟨hI.put (ec hd) ⟨rfl,rfl⟩,ac⟩ fun s' Γ' a' w' hk' hS' hg' hd'=>hQ s' Γ' a' w' hk' hS' ((hgT.less hps).trans hg') (hd'.trans (bK _ _ _))
  cases e2 with
  | normal=>obtain ⟨L2,t2,hk2,hp⟩:=q2;exact fin none true L2 t2 rfl hk2 hp
  | ret=>obtain ⟨L2,t2,hk2,hp⟩:=q2;exact fin (some .ret) false L2 t2 rfl hk2 hp
  | exit i=>obtain ⟨L2,t2,hk2,hp⟩:=q2;exact fin (some (.exit i)) false L2 t2 rfl hk2 hp
  | goto l'=>exact q2.elim
  | panic ch=>exact q2.elim
  | outgrown=>exact q2.elim
 | exit i=>exact q.elim
 | goto l'=>exact q.elim
 | ret=>exact q.elim
 | panic ch=>exact q.elim
 | outgrown=>exact q.elim
end
def rK (Q:Exit → S → Prop):Option Code → S → Prop
 | none,s=>Q .normal s
 | some .ret,s=>Q .ret s
 | some (.exit i),s=>Q (.exit i) s
 | _,_=>False
theorem lH {P:Program} {N p:Nat} {Q:Exit → S → Prop} {s:S} {g:Operand} {ps:Array Tmp} {asg body:Code} {gf:FuncId} {cap:List Nat} {R:Nat → PV → List Ob → Prop} (hf:s.ev g=some (.c (.fn (.func gf) [] cap))) (hb:dK P gf=true)
  (hc:∀ (l D:Nat) (fn:FuncId),ah P gf (.c (.fn (.yield l) [] []) :: cap.map fun k=>.c (.ptr k 0)) (s.o++[.loop l ⟨fn,ps,asg,body,D,N,.ready,none⟩ s.t]) (R l))
  (hK:∀ l r os',R l r os' → ∃ L2 t2,os'[s.o.length]? = some (.loop l L2 t2)∧L2.st≠.busy∧rK Q L2.pd ⟨s.t,os'.set s.o.length (.loop l { L2 with st:=.exhausted } t2)⟩):aL none P N p (.rangeFunc g ps asg body) Q s:=by
 intro z Γ a w hA hD;have hn:=hA.inv.m.n;have hps:p≤s.o.length:=by rw [← hn];exact hA.le
 obtain ⟨xs,hgv,hx0,hcap⟩:=S.ev_ok hf hA.inv;replace hx0:=hx0 rfl;rw [ay.nil_l] at hx0;subst hx0;simp only [jU,fnV] at hgv;refine wpIn_rangeFunc ?_;intro fn hfn;obtain ⟨L,hL⟩:∃ L:kg,L=⟨fn,ps,asg,body,w.heap.size,N,.ready,none⟩:=⟨_,rfl⟩
 obtain ⟨w1,hw1⟩:∃ w1,(w.alloc (.deferred (some []))).alloc (.loop (L.obj a.tmps))=w1:=⟨_,rfl⟩
 have hsz1:w1.heap.size=w.heap.size+1+1:=by rw [← hw1,World.size_alloc,World.size_alloc]
 have hS01:bS w w1:=by
  rw [← hw1];refine ⟨by rw [World.size_alloc,World.size_alloc];omega,fun b hb=>?_⟩;rw [Below.heap_alloc _ _ _ (by rw [World.size_alloc];omega),Below.heap_alloc _ _ _ hb]
 have hE01:Ext No w w1:=by rw [← hw1];exact ((Ext.refl No w).alloc _).alloc _
 have hl1:w1.heap[w.heap.size+1]? = some (.loop (L.obj a.tmps)):=by
  rw [← hw1];have:=World.alloc_heap_new (w.alloc (.deferred (some []))) (.loop (L.obj a.tmps));rwa [World.size_alloc] at this
 have hD1:w1.heap[w.heap.size]? = some (.deferred (some [])):=by
  rw [← hw1];exact (Below.heap_alloc _ _ _ (by simp)).trans (World.alloc_heap_new w _)
 have hag:=cU Γ (w.heap.size+1) 1;have hLN:L.N=N:=by rw [hL]
 have hm1:bz (Γ.push (w.heap.size+1) 1) (s.o++[.loop (w.heap.size+1) L s.t]) w1:=by
  refine hA.inv.m.push hS01 _ _ 1 ⟨by simp [G.push,ax],by simp [G.push,ax],a.tmps,hl1,by rw [hLN];exact hA.inv.size,fun i q hq=>?_⟩ (fun _=>by omega);obtain ⟨i1,i2⟩:=hA.inv.t i q hq;exact ⟨by rw [hLN];exact i1,i2.stay (hS01.stay Γ.I) fun j hj=>hag j (i2.lt j hj)⟩
 have hg1:cq p Γ w (Γ.push (w.heap.size+1) 1) w1:=cz hA.inv.m hE01 _ 1 (fun _=>by omega) hA.le;have hcv:(cap.map (eK Γ))=cap.map (eK (Γ.push (w.heap.size+1) 1)):=List.map_congr_left fun k hk=>by unfold eK;rw [(hag k (hcap k hk)).2.1]
 have hxs:ay (RP w1 (Γ.push (w.heap.size+1) 1)) (PV.c (.fn (.yield (w.heap.size+1)) [] []) :: cap.map fun k=>PV.c (.ptr k 0)) (.func (.yield (w.heap.size+1)) #[] #[] :: cap.map (eK Γ)):=by
  refine ⟨⟨[],rfl,fun _=>trivial,fun k hk=>by cases hk⟩,?_⟩;rw [hcv];have:∀ l:List Nat,(∀ k ∈ l,k < Γ.n) → ay (RP w1 (Γ.push (w.heap.size+1) 1)) (l.map fun k=>PV.c (.ptr k 0)) (l.map (eK (Γ.push (w.heap.size+1) 1))):=by
   intro l;induction l with
   | nil=>intro _;trivial
   | cons k l ih=>intro hl;exact ⟨⟨(hag k (hl k (by simp))).1,rfl⟩,ih fun k' hk'=>hl k' (by simp [hk'])⟩
  exact this cap hcap
 have hcall:=hc (w.heap.size+1) w.heap.size fn;rw [← hL] at hcall;have hrun:=hcall _ w1 _ hm1 hxs;have eg:∀ args w,(callFunc gf args).run P w = .ok (.enter gf args) w:=fun args w=>by
  unfold dK at hb;split at hb
  ·rename_i f hf;simp only [Bool.and_eq_true,Bool.not_eq_true'] at hb;have h1:¬ f.body=none:=by intro h;rw [h] at hb;simp at hb
   have h2:¬ f.name = "runtime.NumGoroutine" := by simpa using hb.2
   simp [callFunc,hf,h2,h1]
  ·cases hb
 refine ⟨w.heap.size+1,[{ target:=.collected w.heap.size,args := #[] }],w1,{ target:=.fn (.func gf) (cap.map (eK Γ)).toArray,args := #[.func (.yield (w.heap.size+1)) #[] #[]] },w1,gf,
  #[.func (.yield (w.heap.size+1)) #[] #[]]++(cap.map (eK Γ)).toArray,w1,?_,?_,fun _ _=>trivial,?_,uE,qH ?_⟩
 ·rw [← hw1,hL];exact run_enterLoop_outer _ _ _ _ _
 ·simp only [resolve,hgv];simp [go_sem]
 ·simp [invoke,go_sem,eg]
 ·have hargs:(#[Value.func (.yield (w.heap.size+1)) #[] #[]]++(cap.map (eK Γ)).toArray)=(Value.func (.yield (w.heap.size+1)) #[] #[] :: cap.map (eK Γ)).toArray:=by simp
  rw [hargs];refine hrun.mono ?_;rintro e w3 ⟨r,os',Γ3,y,rfl,hR,hr,hlen,hm3,hgr⟩;obtain ⟨L2,t2,hk2,hnb,hq2⟩:=hK _ r os' hR;rw [List.length_append,List.length_singleton] at hlen hgr;have hgT:cq p Γ w Γ3 w3:=hg1.trans (hgr.less ac);have hgk:∀ j,j < Γ.n → Γ3.β j=Γ.β j∧Γ3.cap j=Γ.cap j:=fun j hj=>by
   have:=hgr.keep j (by rw [← hn];omega);rw [this.1,this.2];exact ⟨(hag j hj).2.1,(hag j hj).2.2⟩
  have hS3:dl N p Γ3 ⟨s.t,os'⟩ { a with defers:={ target:=.collected w.heap.size,args := #[] } :: a.defers } w3:=by
   have hI:=hA.inv.heap hm3 (hgT.stay hA.inv.m) fun j hj=>⟨by rw [hm3.n];omega,(hgk j hj).1,(hgk j hj).2⟩
   exact ⟨⟨hI.size,trivial,hI.t,hI.m⟩,by rw [hm3.n];omega⟩
  obtain ⟨e4,e5,tm2,e1,e2,e3⟩:=hm3.ob _ _ hk2;obtain ⟨hS4,hg4⟩:=oK (L':={ L2 with st:=.exhausted }) hS3 hk2 e1 rfl e2 e3 e4 e5;refine ⟨L2.pd,_,run_endLoop e1 hnb,?_⟩;have hDl:w.heap.size < w1.heap.size:=ac;have hDm:¬ lX (Γ.push (w.heap.size+1) 1) w.heap.size:=by
   rintro ⟨k,k1,k2,k3⟩;have k1':k < Γ.n+1:=k1;by_cases ek:k=Γ.n
   ·subst ek;simp only [G.push,ax] at k3;omega
   ·simp only [G.push,en _ _ ek] at k2 k3;have:=bV hA.inv.m (k:=k) ac k2;omega
  have hD3:w3.heap[w.heap.size]? = some (.deferred (some [])):=(hgr.ext.block _ hDl hDm).trans hD1;have hoff:DZ Γ3 w.heap.size:=by
   refine ⟨fun hI=>?_,fun k hk hc e=>?_⟩
   ·rcases hgr.imm _ hI with x|x|x
    ·have:=hA.inv.m.lt _ x;omega
    ·exact hDm x
    ·omega
   ·rcases hgr.new k hk hc with x|x
    ·exact hDm (e ▸ x)
    ·omega
  have hgT4:=hgT.trans hg4;have hne:w.heap.size≠w.heap.size+1:=ac;have hDf:iT z Γ3 { a with defers:={ target:=.collected w.heap.size,args := #[] } :: a.defers } (w3.putObj (w.heap.size+1) (.loop (({ L2 with st:=.exhausted }:kg).obj tm2))):=by
   have hold:=hD.grow hgT4 (a':=a) rfl;refine ⟨hold.1,List.nodup_cons.2 ⟨fun hm=>?_,hD.2.1⟩,fun d hd=>?_⟩
   ·obtain ⟨D,x1,x2,_⟩:=hD.2.2 _ hm;have:D=w.heap.size:=by injection x1 with x1;injection x1 with x1;exact x1.symm
    subst this;have:=(Array.getElem?_eq_some_iff.1 x2).1;omega
   ·rcases List.mem_cons.1 hd with rfl|hd
    ·exact ⟨w.heap.size,rfl,by rw [World.putObj_heap_other hne];exact hD3,hoff,hD.1⟩
    ·exact hold.2.2 d hd
  have post:∀ e,Q e ⟨s.t,os'.set s.o.length (.loop (w.heap.size+1) { L2 with st:=.exhausted } t2)⟩ → GQ z N p Q Γ w e { a with defers:={ target:=.collected w.heap.size,args := #[] } :: a.defers } (w3.putObj (w.heap.size+1) (.loop (({ L2 with st:=.exhausted }:kg).obj tm2))) :=
   fun e hq=>⟨_,Γ3,hq,hS4,hgT4,hDf⟩
  show match L2.pd with
   | none=>_
   | some c=>_
  unfold rK at hq2;split at hq2
  ·rename_i hp;rw [hp];exact post _ hq2
  ·rename_i hp;rw [hp];exact wpIn_ret (post _ hq2)
  ·rename_i hp;rw [hp];exact wpIn_exit (post _ hq2)
  ·exact hq2.elim
end
section
attribute [local irreducible] PL QL aL ah bg La aV PA
set_option maxRecDepth 20000
structure nH {α:Type} [Inhabited α] (l:List α) (q:α → Bool) (j i:Nat) (m:List α):Prop where
 len:m.length=l.length
 ij:i < j
 jl:j≤l.length
 pre:m.take i=(l.take j).filter fun x=>!q x
 post:m.drop j=l.drop j
theorem nH.start {α:Type} [Inhabited α] {l:List α} {q:α → Bool} {i:Nat} (h1:i < l.length) (h2:q (l.getD i default)=true) (h3:∀ x ∈ l.take i,q x=false):nH l q (i+1) i l:=by
 refine ⟨rfl,ac,ac,?_,rfl⟩;rw [List.take_succ_eq_append_getElem h1,List.filter_append];rw [ai l h1] at h2;rw [List.filter_eq_self.2 fun x hx=>by simp [h3 x hx]];simp [h2]
theorem nH.get {α:Type} [Inhabited α] {l m:List α} {q:α → Bool} {j i:Nat} (h:nH l q j i m) (hj:j < l.length):m.getD j default=l.getD j default:=by
 have:=congrArg (fun x=>x[0]?) h.post;simp only [List.getElem?_drop,Nat.add_zero] at this;simp [List.getD,this]
theorem nH.drop {α:Type} [Inhabited α] {l m:List α} {q:α → Bool} {j i:Nat} (h:nH l q j i m) (hj:j < l.length) (hq:q (l.getD j default)=true):nH l q (j+1) i m:=by
 refine ⟨h.len,by have:=h.ij;omega,ac,?_,?_⟩
 ·rw [List.take_succ_eq_append_getElem hj,List.filter_append,h.pre];rw [ai l hj] at hq;simp [hq]
 ·have:=congrArg (List.drop 1) h.post;simpa [List.drop_drop] using this
theorem nH.keep {α:Type} [Inhabited α] {l m:List α} {q:α → Bool} {j i:Nat} (h:nH l q j i m) (hj:j < l.length) (hq:q (l.getD j default)=false):nH l q (j+1) (i+1) (m.set i (l.getD j default)):=by
 have hij:=h.ij;have hl:=h.len;refine ⟨by simpa using hl,ac,ac,?_,?_⟩
 ·have hi:i < (m.set i (l.getD j default)).length:=by rw [List.length_set];omega
  rw [List.take_succ_eq_append_getElem hi,List.take_set_of_le (Nat.le_refl _),h.pre,List.getElem_set_self,List.take_succ_eq_append_getElem hj,List.filter_append];rw [ai l hj] at hq ⊢;simp [hq]
 ·rw [List.drop_set_of_lt ac];have:=congrArg (List.drop 1) h.post;simpa [List.drop_drop] using this
theorem nH.done {α:Type} [Inhabited α] {l m:List α} {q:α → Bool} {j i:Nat} (h:nH l q j i m) (hj:¬ j < l.length):m.take i=(l.filter fun x=>!q x)∧i=(l.filter fun x=>!q x).length:=by
 have:=h.pre;have e:l.take j=l:=List.take_of_length_le ac;rw [e] at this;refine ⟨this,?_⟩;rw [← this,List.length_take];have:=h.ij;have:=h.jl;have:=h.len;omega
theorem oL (l:List Dev) (hl:l.length≤1000000000) (g:FuncId) (ks:List Nat) (rest:List Ob) (q:Dev → Bool) (hp:Az prog g ks (.arr 53 10 (l.map Dev.d) :: rest) l q) :
  ah prog 133 [.c (.own 0 l.length),.c (.fn (.func g) [] ks)] (.arr 53 10 (l.map Dev.d) :: rest) fun r os'=>∃ k,Jw q l k∧r = .c (.v (.int .i64 k))∧os' = .arr 53 10 (l.map Dev.d) :: rest:=by
 refine bA func133 rfl (by simp [ntmps133]) ?_;rw [ntmps133,results133];push_cast [O,U];repeat' ((first|refine au ?_|refine pif ?_ ?_<;>intro h<;>try exact pN h)<;>push_cast [O,U])
 refine dh (α:=Nat) (fun k=>k≤l.length∧∀ x ∈ l.take k,q x=false) (fun k=>⟨[(8,.c (.v (.int .i64 k))),(7,.c (.v (.int .i64 l.length))),(6,.c (.own 0 l.length)),(0,.c (.own 0 l.length)),(1,.c (.fn (.func g) [] ks))],.arr 53 10 (l.map Dev.d) :: rest⟩) (fun k=>l.length - k) 0 ⟨ac,by simp⟩ (cV (by push_cast [O,U]) rfl) ?_;rintro k ⟨hk,hpre⟩;by_cases hlt:k < l.length
 ·have hm:l.getD k default ∈ l:=by rw [ai l hlt];exact List.getElem_mem _
  have hc:=hp.2 _ hm;have hpre2:q (l.getD k default)=false → ∀ x ∈ l.take (k+1),q x=false:=fun h x hx=>by
   rw [List.take_succ_eq_append_getElem hlt] at hx;rcases List.mem_append.1 hx with hx|hx
   ·exact hpre x hx
   ·simp at hx;subst hx;rw [← ai l hlt];exact h
  cases hq:q (l.getD k default);all_goals rw [hq] at hc
  all_goals repeat' ((first|(refine dc rfl (by push_cast [O,U]) rfl hp.1 (by push_cast [O,U]) ?_ hc ?_;(focus (unfold bC;push_cast [O,U];exact rH ks));rintro r os ⟨rfl,rfl⟩;refine an ?_)|refine au ?_|refine pif ?_ ?_<;>intro h<;>try exact pN h)<;>push_cast [O,U])
  ·exact ⟨k+1,⟨ac,hpre2 hq⟩,cV (by push_cast [O,U]) rfl,ac⟩
  ·exact ⟨_,rfl,by push_cast [O,U],k,.inr ⟨k,rfl,hlt,hq,hpre⟩,rfl,rfl⟩
 ·rw [List.take_of_length_le ac] at hpre;repeat' ((first|refine au ?_|refine pif ?_ ?_<;>intro h<;>try exact pN h)<;>push_cast [O,U])
  exact ⟨_,rfl,by push_cast [O,U],-1,.inl ⟨rfl,hpre⟩,rfl,rfl⟩
abbrev xi (es:List (MK × List D)) (m:List Dev):List Ob:=[.arr 53 10 (m.map Dev.d),.box 227 [.mp 2],.map (some .i64) false es]
def KD (es:List (MK × List D)) (l:List Dev) (q:Dev → Bool):Prop:=∀ x ∈ l,lkP false (.c (.v (.bool false))) false (eC es (.i .i64 x.index))=some (.c (.v (.bool (q x))))
theorem yZ (es:List (MK × List D)) (m:List Dev) (d:Dev) (b:Bool) (h:lkP false (.c (.v (.bool false))) false (eC es (.i .i64 d.index))=some (.c (.v (.bool b)))) :
  ah prog 180 [.agg d.e,.c (.ptr 1 0)] (xi es m) fun r os=>r = .c (.v (.bool b))∧os=xi es m:=by
 refine aw func180 ntmps180 results180 ?_;push_cast [O,U];repeat' ((first|refine au ?_|refine pif ?_ ?_<;>intro h<;>try exact pN h)<;>push_cast [O,U,h])
 exact am [0,1,2]
set_option maxHeartbeats 4000000 in
theorem pV (l:List Dev) (hl:l.length≤1000000000) (es:List (MK × List D)) (q:Dev → Bool) (hq:KD es l q) (hex:∃ x ∈ l,q x=true) :
  ah prog 179 [.c (.own 0 l.length),.c (.fn (.func 180) [] [1])] (xi es l) fun r os=>∃ m:List (List D),r = .c (.own 0 (l.filter fun x=>!q x).length)∧os=[.arr 53 10 ((l.filter fun x=>!q x).map Dev.d++m),.box 227 [.mp 2],.map (some .i64) false es]:=by
 have hp:∀ m:List Dev,Az prog 180 [1] (xi es m) l q:=fun m=>⟨aj,fun x hx=>yZ es m x (q x) (hq x hx)⟩
 have hcall:=oL l hl 180 [1] [.box 227 [.mp 2],.map (some .i64) false es] q (hp l);refine aw func179 ntmps179 results179 ?_;push_cast [O,U];have cB:aH 8 []:=trivial;have hc2:=hcall.mono (R':=fun r os=>∃ i:Nat,(i < l.length∧q (l.getD i default)=true∧∀ x ∈ l.take i,q x=false)∧r = .c (.v (.int .i64 i))∧os=xi es l) (by
  rintro r os ⟨k,⟨rfl,h⟩|⟨i,rfl,h⟩,rfl,rfl⟩
  ·obtain ⟨x,hx,hq⟩:=hex;rw [h x hx] at hq;cases hq
  ·exact ⟨i,h,rfl,rfl⟩)
 repeat' ((first|(refine plc [0,1,2] (hc2) ?_ ?_;push_cast [O,U];rintro r os ⟨i0,⟨h1,h2,h3⟩,rfl,rfl⟩)|refine ae ?_|refine pif ?_ ?_<;>intro h<;>try exact pN h)<;>push_cast [O,U])
 (apply ap (α:=Nat × Nat × List Dev) 8 [] (fun x=>[(6,.c (.v (.int .i64 x.1))),(5,.c (.v (.int .i64 x.2.1)))]) (fun x=>[(0,.arr 53 10 (x.2.2.map Dev.d))]) (fun x=>nH l q x.1 x.2.1 x.2.2) (fun x=>l.length - x.1) ((i0+1,i0,l));(focus ((try push_cast [O,U]);rfl));(focus exact (nH.start h1 h2 h3));(focus ((refine weak_fg ?_;try push_cast [O,U]))));rintro ⟨j,i,m⟩ hD;simp only at hD;push_cast [O,U];have hml:=hD.len;have hij:=hD.ij;have hjl:=hD.jl;by_cases hlt:j < l.length
 ·have hmem:l.getD j default ∈ l:=by rw [ai l hlt];exact List.getElem_mem _
  have hv:=hD.get hlt;have hc:=(hp m).2 _ hmem;cases hqx:q (l.getD j default) with
  | false =>
   rw [hqx] at hc;repeat' ((first|(refine plE [0,1,2] hc ?_ ?_;focus (push_cast [O,U,hv,hml];done))|refine ae ?_|refine pif ?_ ?_<;>intro h<;>try exact pN h)<;>push_cast [O,U,hv,hml])
   exact ⟨(j+1,i+1,m.set i (l.getD j default)),hD.keep hlt hqx,by (refine weak_fg ?_;push_cast [O,U,List.map_set]),by simp only;omega⟩
  | true =>
   rw [hqx] at hc;repeat' ((first|(refine plE [0,1,2] hc ?_ ?_;focus (push_cast [O,U,hv,hml];done))|refine ae ?_|refine pif ?_ ?_<;>intro h<;>try exact pN h)<;>push_cast [O,U,hv,hml])
   exact ⟨(j+1,i,m),hD.drop hlt hqx,aA,by simp only;omega⟩
 ·have hd:=hD.done hlt;have hz:(m.map Dev.d).length=l.length:=by rw [List.length_map,hml]
  have hrow:∀ z:List (List D),(m.map Dev.d).take i++z=(l.filter fun x=>!q x).map Dev.d++z:=fun z=>by rw [← List.map_take,hd.1]
  by_cases hi0:i=0
  ·subst hi0;repeat' ((first|refine ae ?_|refine pif ?_ ?_<;>intro h<;>try exact pN h)<;>push_cast [O,U,hml])
   refine bX (wx 38 10 (k:=0) (n:=l.length) rfl) ?_;refine an ?_;push_cast [O,U,hml];repeat' ((first|refine ae ?_|refine pif ?_ ?_<;>intro h<;>try exact pN h)<;>push_cast [O,U,hml])
   (refine K9 [0,1,2] ?_;push_cast [O,U]);have hnil:(l.filter fun x=>!q x)=[]:=List.length_eq_zero_iff.1 hd.2.symm;rw [hnil];simp only [List.map_nil,List.nil_append,List.length_nil];exact ⟨_,_,aE _,aB _,_,rfl,rfl⟩
  ·repeat' ((first|refine ae ?_|refine pif ?_ ?_<;>intro h<;>try exact pN h)<;>push_cast [O,U,hml,hi0])
   (refine K9 [0,1,2] ?_;push_cast [O,U]);rw [hrow];exact ⟨_,_,aE _,aB _,_,by rw [← hd.2],rfl⟩
theorem kX (l:List Dev) (hl:l.length≤1000000) (ha:∀ d ∈ l,d.attrs.length≤1000000000) :
  ah prog 136 [.c (.sl 10 (l.map Dev.d))] [] fun r os=>r = .c (.own 0 l.length)∧os=[.arr 53 10 (l.map Dev.d)]:=by
 refine aw func136 ntmps136 results136 ?_;push_cast [O,U];have cB:aH 6 [6,7,8]:=trivial;repeat' ((first|refine ae ?_|refine pif ?_ ?_<;>intro h<;>try exact pN h)<;>push_cast [O,U])
 refine aF (dm 3 53 10 ac (by push_cast [O,U])) ?_;push_cast [O,U];(apply ap (α:=Nat) 6 [6,7,8] (fun k=>[(8,.c (.v (.int .i64 k))),(3,.c (.own 0 k))]) (fun k=>[(0,.arr 53 10 ((l.take k).map Dev.d))]) (fun k=>k≤l.length) (fun k=>l.length - k) (0);(focus ((try push_cast [O,U]);rfl));(focus exact (Nat.zero_le _));(focus ((refine weak_fg ?_;try push_cast [O,U]);(try (exact ⟨rfl,rfl⟩)))));intro k hk;push_cast [O,U];by_cases hlt:k < l.length
 ·have hm:l.getD k default ∈ l:=by rw [ai l hlt];exact List.getElem_mem _
  have hc:=fm (l.getD k default) (ha _ hm);have hmem:(0 ∈ ([]:List Nat))=False:=eq_false (by simp);have htk:l.take (k+1)=l.take k++[l.getD k default]:=by rw [List.take_succ_eq_append_getElem hlt,ai l hlt]
  have htl:(l.take k).length=k:=by rw [List.length_take];omega
  obtain ⟨u,hu⟩:∃ u,l.take k=u:=⟨_,rfl⟩
  rw [hu] at htk htl ⊢;repeat' ((first|(refine plE [] hc ?_ ?_;focus (push_cast [O,U,htl];done))|refine ae ?_|refine pif ?_ ?_<;>intro h<;>try exact pN h)<;>push_cast [O,U,htl])
  exact ⟨k+1,ac,by (refine weak_fg ?_;push_cast [O,U,htk,hmem]),ac⟩
 ·have hk2:k=l.length:=ac;have hk3:l.take k=l:=List.take_of_length_le ac;rw [hk3,hk2];repeat' ((first|refine ae ?_|refine pif ?_ ?_<;>intro h<;>try exact pN h)<;>push_cast [O,U])
  exact am [0]
theorem nI (l:List Dev) (n:Int) :
  ah prog 178 [.agg (trE l),.c (.v (.int .i64 n))] [] fun r os=>r = .c (.fn (.func 214) [] [0,1])∧os=[.box 41 (trE l),.box 3 [.v (.int .i64 n)]]:=by
 refine aw func178 ntmps178 results178 ?_;push_cast [O,U];repeat' ((first|refine au ?_|refine pif ?_ ?_<;>intro h<;>try exact pN h)<;>push_cast [O,U])
 exact am [0,1]
end
structure Ihb where
 id:Int
 who:ByteArray
 pat:ByteArray
 till:Int
 deriving DecidableEq,Inhabited
structure Req where
 path:ByteArray
 index:Int
 asked:Int
 deriving DecidableEq,Inhabited
structure Inh where
 next:Int
 list:List Ihb
 reqs:List Req
 deriving DecidableEq,Inhabited
end Go.Proofs.YtmbbkfffcflfcaaGreatDoor
