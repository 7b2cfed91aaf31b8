import Derived.Test.YtmbbkfffcflfcaaGreatDoorT45
namespace Go.Proofs.YtmbbkfffcflfcaaGreatDoor
open Go.Proofs.Tryz
set_option linter.unusedSimpArgs false
set_option linter.unusedVariables false
open Go.RowKit
open IntWalk renaming iteOmega → O, toNatUp → U
theorem xR {k:Ker} (h:dW k.tree) (q:Dev → Bool) {v:ByteArray} (hv:v=⟨#[]⟩∨validS v=true):(k.each q v k.tree).tree=k.tree.map fun x=>if q x=true then dS x v else x:=by
 have hnd:k.tree.Nodup:=List.Pairwise.of_map Dev.index (fun a b hne e=>hne (by rw [e])) h.okt.nodup;have h1:=oz h.okt.nodup q hv k.tree [] k (fun d hd=>hd) (fun d hd hm=>by cases hm) hnd h (by
  conv=>lhs;rw [← List.map_id k.tree]
  refine List.map_congr_left fun x hx=>?_
  unfold dF;rw [if_neg (fun h=>by cases h.1)];rfl)
 rw [h1,List.nil_append];refine List.map_congr_left fun x hx=>?_
 unfold dF;simp only [hx,true_and]
theorem zH {k:Ker} (h:bJ k) {n:ByteArray} {m:Mod} (hm:aJ k.mods n=some m) (hok:(k.load n).2=0):∀ x ∈ (k.load n).1.tree,dU m x=true → x.driver≠⟨#[]⟩:=fun x hx hmx=>by
 obtain ⟨g1,g2⟩:=ez hm;have hv:validS n=true:=by rw [← g2];exact h.mods m g1
 have hne:n≠⟨#[]⟩:=fun e=>by
  subst e;revert hv;decide +kernel
 unfold Ker.load at hx hok;rw [hm] at hx hok;simp only at hx hok;split at hok
 ·cases hok
 ·rename_i hc;rw [if_neg hc] at hx;have hE:=xR (k:=k.withL (k.loaded++[n])) h.tree (fun d=>decide (d.driver=⟨#[]⟩) && dU m d) (.inr hv);have hx:x ∈ ((k.withL (k.loaded++[n])).each (fun d=>decide (d.driver=⟨#[]⟩) && dU m d) n (k.withL (k.loaded++[n])).tree).tree:=hx;rw [hE] at hx;obtain ⟨y,hy,rfl⟩:=List.mem_map.1 hx;by_cases hq:(decide (y.driver=⟨#[]⟩) && dU m y)=true
  ·rw [if_pos hq] at hmx ⊢;exact hne
  ·rw [if_neg hq] at hmx ⊢;intro e;exact hq (by rw [decide_eq_true e,hmx];rfl)
theorem vA {k:Ker} (h:bJ k) {n:ByteArray} (hok:(k.unload n).2=0) (hne:n≠⟨#[]⟩):∀ x ∈ (k.unload n).1.tree,x.driver≠n:=fun x hx=>by
 unfold Ker.unload at hx hok;cases hm:aJ k.mods n with
 | none=>rw [hm] at hok;cases hok
 | some m =>
  rw [hm] at hx hok;simp only at hx hok;split at hok
  ·cases hok
  ·rename_i hc;rw [if_neg hc] at hx;have hE:=xR (k:=k.withL (k.loaded.filter fun s=>!decide (s=n))) h.tree (fun d=>decide (d.driver=n)) (v:=⟨#[]⟩) (.inl rfl);have hx:x ∈ ((k.withL (k.loaded.filter fun s=>!decide (s=n))).each (fun d=>decide (d.driver=n)) ⟨#[]⟩ (k.withL (k.loaded.filter fun s=>!decide (s=n))).tree).tree:=hx;rw [hE] at hx;obtain ⟨y,hy,rfl⟩:=List.mem_map.1 hx;by_cases hq:y.driver=n
   ·rw [if_pos (decide_eq_true hq)];exact fun e=>hne e.symm
   ·rw [if_neg (by simpa using hq)];exact hq
section
attribute [local irreducible] PL QL aL ah bg La aV PA bm
set_option maxRecDepth 20000
set_option maxHeartbeats 8000000 in
theorem ii (N:Int) (hN:0≤N∧N≤30) (L:List Int) (hL:∀ x ∈ L,-9223372036854775808≤x∧x≤9223372036854775807) (hl:L.length≤9223372036854775807) :
  ah prog 25 [.c (.sl 1 (L.map fun x=>[.v (.int .i64 x)])),.c (.v (.int .i64 N))] [] fun r os=>∃ x:List Mod × Nat × Ker × Nat,(eN x.1∧x.2.1≤30∧eJ x.2.1 x.2.2.1∧x.2.2.1.mods=x.1∧x.2.2.2≤2000)∧r = .two (.agg (xP x.2.2.1)) (.c (.v (.bool true)))∧os=xQ L x.2.2.2 x.2.2.1:=by
 have hb:=jQ L hL hl;have nex:=fun (j:Nat) (hj:j < 1000000) (m:Int) (hm:0 < m) (hm2:m≤9223372036854775807)=>cP L j m hj hm hm2 hL hl
 refine aw func25 ntmps25 results25 ?_;push_cast [O,U];have cB:aH 8 []:=trivial;repeat' ((first|refine ae ?_|refine pif ?_ ?_<;>intro h<;>try exact pN h)<;>push_cast [O,U])
 (refine plc [] (hb) ?_ ?_;push_cast [O,U];rintro r os ⟨ms,hS,rfl,rfl⟩;push_cast [O,U]);repeat' ((first|refine ae ?_|refine pif ?_ ?_<;>intro h<;>try exact pN h)<;>push_cast [O,U])
 refine fD rfl rfl rfl rfl aj (by simp [bp]) (an ?_);push_cast [O,U];have n1:=nex 8 af (N+1) ac ac;repeat' ((first|refine ae ?_|refine pif ?_ ?_<;>intro h<;>try exact pN h)<;>push_cast [O,U])
 (refine plc [1] (n1) ?_ ?_;push_cast [O,U];rintro r os ⟨v,⟨va,vb⟩,rfl,rfl⟩;push_cast [O,U]);obtain ⟨n,rfl⟩:∃ n:Nat,v=(n:Int):=⟨v.toNat,ac⟩
 repeat' ((first|refine ae ?_|refine pif ?_ ?_<;>intro h<;>try exact pN h)<;>push_cast [O,U])
 (apply ap (α:=Nat × Ker × Nat) 8 [] (fun x=>[(7,.c (.v (.int .i64 x.1)))]) (fun x=>[(1,tape L x.2.2),(2,jd 3 4 x.2.1),(3,jI x.2.1),(4,je x.2.1),(5,.box 49 (.ptr 1 0 :: .ptr 2 0 :: x.2.1.re))]) (fun x=>x.1≤n∧eJ (n - x.1) x.2.1∧x.2.2≤9+60 * (n - x.1)∧x.2.1.mods=ms) (fun x=>x.1) ((n,vw ms,9));(focus ((try push_cast [O,U]);rfl));(focus exact ⟨Nat.le_refl _,by rw [Nat.sub_self];exact eJ.beg hS,by simp only;omega,rfl⟩);(focus ((refine weak_fg ?_;try push_cast [O,U]);(try (rfl)))));rintro ⟨i,k,q⟩ ⟨hi,hk,hq,hm⟩;simp only at hi hk hq hm;by_cases h0:0 < i
 case neg =>
  have h0':¬ (0:Int) < (i:Int):=ac;push_cast [O,U];repeat' ((first|refine ae ?_|refine pif ?_ ?_<;>intro h<;>try exact pN h)<;>push_cast [O,U,h0'])
  (refine K9 [1,2,3,4] ?_;push_cast [O,U]);exact ⟨_,_,aE _,aB _,(ms,n - i,k,q),⟨hS,by simp only;omega,hk,hm,by simp only;omega⟩,rfl,rfl⟩
 obtain ⟨i,rfl⟩:∃ i',i=i'+1:=⟨i - 1,ac⟩
 have h0':(0:Int) < (i:Int)+1:=ac;have hev:=hk.e;have htp:=hk.t;obtain ⟨ix1,ix2,ix3,ix4⟩:=hk.ixs ac;have hop:=oS L q k.tree ac ix4 ix3 ix1 ix2 hL hl;push_cast [O,U];repeat' ((first|refine ae ?_|refine pif ?_ ?_<;>intro h<;>try exact pN h)<;>push_cast [O,U,h0'])
 (refine plc [1] (hop) ?_ ?_;push_cast [O,U];rintro r os ⟨op,q2,ho,hq2,rfl,rfl⟩;push_cast [O,U]);have hdo:=jm L q2 k op hk.b ho ac ac;have hk2:=hk.do ac op;have hm2:(bM k op).1.mods=ms:=by rw [← hm];exact (jH db k op).1
 obtain ⟨k2,hke⟩:∃ k2,(bM k op).1=k2:=⟨_,rfl⟩
 rw [hke] at hdo hk2 hm2;repeat' ((first|(refine eZ 3 [5,1,2,3,4] (hdo) ?_ ?_;push_cast [O,U];rintro r os ⟨rfl,rfl⟩)|refine ae ?_|refine pif ?_ ?_<;>intro h<;>try exact pN h)<;>push_cast [O,U])
 exact ⟨(i,k2,q2),⟨by simp only;omega,by simp only;rw [show n - i=n - (i+1)+1 by omega];exact hk2,by simp only;omega,hm2⟩,aA,by simp only;omega⟩
end
section
attribute [local irreducible] PL QL aL ah bg La aV PA bm
set_option maxRecDepth 20000
theorem Dh {l:List Mod} (hn:(l.map Mod.name).Nodup) {m:Mod} (hm:m ∈ l):aJ l m.name=some m:=by
 induction l with
 | nil=>simp at hm
 | cons x l ih =>
  unfold aJ;rw [List.map_cons,List.nodup_cons] at hn;by_cases he:x.name=m.name
  ·rw [List.find?_cons_of_pos (by simpa using he)];rcases List.mem_cons.1 hm with rfl|hm
   ·rfl
   ·exact absurd (by rw [he];exact List.mem_map.2 ⟨m,hm,rfl⟩) hn.1
  ·rw [List.find?_cons_of_neg (by simpa using he)];rcases List.mem_cons.1 hm with rfl|hm
   ·exact absurd rfl he
   ·exact ih hn.2 hm
theorem xT (m:Mod) (d:Dev):(m.aliases.any fun p=>!decide (d.alias_=⟨#[]⟩) && bH p d.alias_)=dU m d:=by
 unfold dU;cases decide (d.alias_=⟨#[]⟩)
 ·simp
 ·simp
set_option maxHeartbeats 32000000 in
theorem vB (L:List Int) (hL:∀ x ∈ L,-9223372036854775808≤x∧x≤9223372036854775807) (hl:L.length≤9223372036854775807) :
  ah prog 6 [.c (.sl 1 (L.map fun x=>[.v (.int .i64 x)]))] [] fun r os=>r = .c (.v (.bool true))∧os=[]:=by
 refine aw func6 ntmps6 results6 ?_;have hlv:=ii 16 af L hL hl;have hkn:=gw;have nex:=fun (j:Nat) (hj:j < 1000000) (m:Int) (hm:0 < m) (hm2:m≤9223372036854775807)=>cP L j m hj hm hm2 hL hl
 push_cast [O,U];have cB:aH 14 []:=trivial;repeat' ((first|refine ae ?_|refine pif ?_ ?_<;>intro h<;>try exact pN h)<;>push_cast [O,U])
 (refine plc [] (hlv) ?_ ?_;push_cast [O,U];rintro r os ⟨⟨ms,m0,k0,q0⟩,⟨hS,hm0,hk0,hmm,hq0⟩,rfl,rfl⟩;push_cast [O,U]);simp only at hS hm0 hk0 hmm hq0;have hSl:=hS.len;have hkm:k0.re=[.sl 6 (ms.map Mod.d),.sl 10 (k0.tree.map Dev.d),.sl 1 (k0.loaded.map aU),.sl 5 (k0.evs.map Evt.d),.v (.int .i64 k0.top)]:=by unfold Ker.re;rw [hmm]
 push_cast [O,U];repeat' ((first|refine ae ?_|refine pif ?_ ?_<;>intro h<;>try exact pN h)<;>push_cast [O,U])
 (refine plE [] hkn ?_ ?_<;>push_cast [O,U]);repeat' ((first|refine ae ?_|refine pif ?_ ?_<;>intro h<;>try exact pN h)<;>push_cast [O,U])
 (apply ap (α:=Nat × Ker × Nat) 14 [] (fun x=>[(5,.c (.v (.int .i64 x.1)))]) (fun x=>[(0,tape L x.2.2),(1,jd 2 3 x.2.1),(2,jI x.2.1),(3,je x.2.1)]) (fun x=>x.1≤ms.length∧eJ (m0+x.1) x.2.1∧x.2.1.mods=ms∧x.2.2≤q0+x.1) (fun x=>ms.length - x.1) ((0,k0,q0));(focus ((try push_cast [O,U]);rfl));(focus exact ⟨Nat.zero_le _,hk0,hmm,Nat.le_refl _⟩);(focus ((refine weak_fg ?_;try push_cast [O,U]);(try (rfl)))));rintro ⟨i,k,q⟩ ⟨hi,hk,hkmm,hq⟩;simp only at hi hk hkmm hq;push_cast [O,U];by_cases hlt:i < ms.length
 case neg =>
  repeat' ((first|refine ae ?_|refine pif ?_ ?_<;>intro h<;>try exact pN h)<;>push_cast [O,U,hmm])
  exact am []
 have hev:=hk.e;have htp:=hk.t;have hmem:ms.getD i default ∈ ms:=by rw [ai _ hlt];exact List.getElem_mem _
 have hmo:=Dh hS.nd hmem;have hmw:=hS.w _ hmem;have hmf:=hmw.fit;have hmal:=hmw.als;obtain ⟨m,hm⟩:∃ m,ms.getD i default=m:=⟨_,rfl⟩
 rw [hm] at hmem hmo hmw hmf hmal;rw [← hkmm] at hmo;have n1:=nex q ac 2 af af;repeat' ((first|refine ae ?_|refine pif ?_ ?_<;>intro h<;>try exact pN h)<;>push_cast [O,U,hmm,hm])
 (refine plc [0] (n1) ?_ ?_;push_cast [O,U];rintro r os ⟨v,⟨va,vb⟩,rfl,rfl⟩;push_cast [O,U]);by_cases w0:v=0
 ·push_cast [O,U];repeat' ((first|refine ae ?_|refine pif ?_ ?_<;>intro h<;>try exact pN h)<;>push_cast [O,U,w0])
  have hne:m.name≠⟨#[]⟩:=fun e=>by
   have:=hk.b.inv.mods m (by rw [hkmm];exact hmem);rw [e] at this;exact absurd this af
  have ho2:eA ⟨9,⟨#[]⟩,cL,⟨#[]⟩,m.name⟩:=pY (Nat.zero_le _) (Nat.zero_le _) (by have:=cE (hk.b.inv.mods m (by rw [hkmm];exact hmem));omega);have hdo:=hU k ⟨9,⟨#[]⟩,cL,⟨#[]⟩,m.name⟩ hk.b ho2 ac ac;have hk2:=hk.do ac ⟨9,⟨#[]⟩,cL,⟨#[]⟩,m.name⟩;have hX:bM k ⟨9,⟨#[]⟩,cL,⟨#[]⟩,m.name⟩=((k.unload m.name).1,0,(k.unload m.name).2):=rfl;have hm2:(bM k ⟨9,⟨#[]⟩,cL,⟨#[]⟩,m.name⟩).1.mods=ms:=by rw [← hkmm];exact (jH db k _).1
  have hbd:=fun h=>vA (n:=m.name) hk.b.inv h hne
  rw [hX] at hdo hk2 hm2;obtain ⟨Y,hY⟩:∃ Y,k.unload m.name=Y:=⟨_,rfl⟩
  rw [hY] at hdo hk2 hm2 hbd;obtain ⟨k2,e2⟩:=Y;simp only at hdo hk2 hm2 hbd;have hkt:=fO k2 hk2.b.inv.tree;by_cases he:e2=0
  case neg =>
   have he':=eq_false he;push_cast [O,U];repeat' ((first|(refine eZ 1 [1,2,3] (hdo) ?_ ?_;push_cast [O,U,he'];rintro r os ⟨rfl,rfl⟩)|refine ae ?_|refine pif ?_ ?_<;>intro h<;>try exact pN h)<;>push_cast [O,U,he'])
   exact ⟨(i+1,k2,q+1),⟨by simp only;omega,by simp only;rw [← Nat.add_assoc];exact hk2,hm2,by simp only;omega⟩,aA,by simp only;omega⟩
  have he':=eq_true he;have hbd:=hbd he;have hkl2:=hk2.b.len;push_cast [O,U];repeat' ((first|(refine eZ 1 [1,2,3] (hdo) ?_ ?_;push_cast [O,U,he'];rintro r os ⟨rfl,rfl⟩)|(refine plE [1,2,3] hkt ?_ ?_;focus (push_cast [O,U,he'];done))|refine ae ?_|refine pif ?_ ?_<;>intro h<;>try exact pN h)<;>push_cast [O,U,he'])
  (apply ap (α:=Nat) 14 [] (fun j=>[(11,.c (.v (.int .i64 j)))]) (fun j=>[]) (fun j=>j≤k2.tree.length) (fun j=>k2.tree.length - j) (0);(focus ((try push_cast [O,U]);rfl));(focus exact (Nat.zero_le _));(focus ((refine weak_fg ?_;try push_cast [O,U]);(try (rfl)))));intro j hj;push_cast [O,U];by_cases hjl:j < k2.tree.length
  case neg =>
   repeat' ((first|refine ae ?_|refine pif ?_ ?_<;>intro h<;>try exact pN h)<;>push_cast [O,U])
   exact ⟨(i+1,k2,q+1),⟨by simp only;omega,by simp only;rw [← Nat.add_assoc];exact hk2,hm2,by simp only;omega⟩,aA,by simp only;omega⟩
  have hdm:k2.tree.getD j default ∈ k2.tree:=by rw [ai _ hjl];exact List.getElem_mem _
  have hbd:=hbd _ hdm;have hds:=hk2.b.small hdm;obtain ⟨d,hd⟩:∃ d,k2.tree.getD j default=d:=⟨_,rfl⟩
  rw [hd] at hbd hds;have hdal:=hds.als;repeat' ((first|refine ae ?_|refine pif ?_ ?_<;>intro h<;>try exact pN h)<;>push_cast [O,U,hd])
  (apply ap (α:=Nat) 14 [] (fun a=>[(13,.c (.v (.int .i64 a))),(12,.c (.v (.bool ((m.aliases.take a).any fun p=>!decide (d.alias_=⟨#[]⟩) && bH p d.alias_))))]) (fun a=>[]) (fun a=>a≤m.aliases.length) (fun a=>m.aliases.length - a) (0);(focus ((try push_cast [O,U]);rfl));(focus exact (Nat.zero_le _));(focus ((refine weak_fg ?_;try push_cast [O,U]);(try (rfl)))));intro a ha;by_cases hal:a < m.aliases.length
  ·have hpm:m.aliases.getD a default ∈ m.aliases:=by rw [ai _ hal];exact List.getElem_mem _
   have hmt:=mg (m.aliases.getD a default) d.alias_ (by have:=hmw.alz _ hpm;omega) ac;have hst:((m.aliases.take (a+1)).any fun p=>!decide (d.alias_=⟨#[]⟩) && bH p d.alias_)=(((m.aliases.take a).any fun p=>!decide (d.alias_=⟨#[]⟩) && bH p d.alias_) || (!decide (d.alias_=⟨#[]⟩) && bH (m.aliases.getD a default) d.alias_)):=by
    rw [List.take_succ_eq_append_getElem hal,List.any_append,ai _ hal];simp
   obtain ⟨nx,hnx⟩:∃ nx,((m.aliases.take (a+1)).any fun p=>!decide (d.alias_=⟨#[]⟩) && bH p d.alias_)=nx:=⟨_,rfl⟩
   rw [hnx] at hst;obtain ⟨f,hf⟩:∃ f,((m.aliases.take a).any fun p=>!decide (d.alias_=⟨#[]⟩) && bH p d.alias_)=f:=⟨_,rfl⟩
   rw [hf] at hst ⊢;cases f with
   | true =>
    rw [Bool.true_or] at hst;push_cast [O,U];repeat' ((first|refine ae ?_|refine pif ?_ ?_<;>intro h<;>try exact pN h)<;>push_cast [O,U,hd])
    exact ⟨a+1,ac,by (refine weak_fg ?_;push_cast [O,U,hnx,hst]),ac⟩
   | false =>
    rw [Bool.false_or] at hst;by_cases h0:d.alias_=⟨#[]⟩
    ·rw [decide_eq_true h0,Bool.not_true,Bool.false_and] at hst;have h0':(d.alias_≠⟨#[]⟩)=False:=eq_false (fun h=>h h0);push_cast [O,U];repeat' ((first|refine ae ?_|refine pif ?_ ?_<;>intro h<;>try exact pN h)<;>push_cast [O,U,hd,h0'])
     exact ⟨a+1,ac,by (refine weak_fg ?_;push_cast [O,U,hnx,hst]),ac⟩
    ·rw [decide_eq_false h0,Bool.not_false,Bool.true_and] at hst;have h0':(d.alias_≠⟨#[]⟩)=True:=eq_true h0;push_cast [O,U];repeat' ((first|(refine aQ false rfl rfl aj (hmt) (fun r os h=>h.1) rfl ?_ ?_;push_cast [O,U,hd,h0'];refine aD ?_;push_cast [O,U,hd,h0'])|refine ae ?_|refine pif ?_ ?_<;>intro h<;>try exact pN h)<;>push_cast [O,U,hd,h0'])
     exact ⟨a+1,ac,by (refine weak_fg ?_;push_cast [O,U,hnx,hst]),ac⟩
  rw [List.take_of_length_le ac,xT];obtain ⟨mb,hmb⟩:∃ mb,dU m d=mb:=⟨_,rfl⟩
  rw [hmb];push_cast [O,U];repeat' ((first|refine ae ?_|refine pif ?_ ?_<;>intro h<;>try exact pN h)<;>push_cast [O,U,hd,hbd])
  exact ⟨j+1,ac,aA,ac⟩
 ·have w0':=eq_false w0;push_cast [O,U];repeat' ((first|refine ae ?_|refine pif ?_ ?_<;>intro h<;>try exact pN h)<;>push_cast [O,U,w0'])
  have ho2:eA ⟨8,⟨#[]⟩,cL,⟨#[]⟩,m.name⟩:=pY (Nat.zero_le _) (Nat.zero_le _) (by have:=cE (hk.b.inv.mods m (by rw [hkmm];exact hmem));omega);have hdo:=hU k ⟨8,⟨#[]⟩,cL,⟨#[]⟩,m.name⟩ hk.b ho2 ac ac;have hk2:=hk.do ac ⟨8,⟨#[]⟩,cL,⟨#[]⟩,m.name⟩;have hX:bM k ⟨8,⟨#[]⟩,cL,⟨#[]⟩,m.name⟩=((k.load m.name).1,0,(k.load m.name).2):=rfl;have hm2:(bM k ⟨8,⟨#[]⟩,cL,⟨#[]⟩,m.name⟩).1.mods=ms:=by rw [← hkmm];exact (jH db k _).1
  have hbd:=fun h=>zH hk.b.inv hmo h
  rw [hX] at hdo hk2 hm2;obtain ⟨Y,hY⟩:∃ Y,k.load m.name=Y:=⟨_,rfl⟩
  rw [hY] at hdo hk2 hm2 hbd;obtain ⟨k2,e2⟩:=Y;simp only at hdo hk2 hm2 hbd;have hkt:=fO k2 hk2.b.inv.tree;by_cases he:e2=0
  case neg =>
   have he':=eq_false he;push_cast [O,U];repeat' ((first|(refine eZ 1 [1,2,3] (hdo) ?_ ?_;push_cast [O,U,he'];rintro r os ⟨rfl,rfl⟩)|refine ae ?_|refine pif ?_ ?_<;>intro h<;>try exact pN h)<;>push_cast [O,U,he'])
   exact ⟨(i+1,k2,q+1),⟨by simp only;omega,by simp only;rw [← Nat.add_assoc];exact hk2,hm2,by simp only;omega⟩,aA,by simp only;omega⟩
  have he':=eq_true he;have hbd:=hbd he;have hkl2:=hk2.b.len;push_cast [O,U];repeat' ((first|(refine eZ 1 [1,2,3] (hdo) ?_ ?_;push_cast [O,U,he'];rintro r os ⟨rfl,rfl⟩)|(refine plE [1,2,3] hkt ?_ ?_;focus (push_cast [O,U,he'];done))|refine ae ?_|refine pif ?_ ?_<;>intro h<;>try exact pN h)<;>push_cast [O,U,he'])
  (apply ap (α:=Nat) 14 [] (fun j=>[(11,.c (.v (.int .i64 j)))]) (fun j=>[]) (fun j=>j≤k2.tree.length) (fun j=>k2.tree.length - j) (0);(focus ((try push_cast [O,U]);rfl));(focus exact (Nat.zero_le _));(focus ((refine weak_fg ?_;try push_cast [O,U]);(try (rfl)))));intro j hj;push_cast [O,U];by_cases hjl:j < k2.tree.length
  case neg =>
   repeat' ((first|refine ae ?_|refine pif ?_ ?_<;>intro h<;>try exact pN h)<;>push_cast [O,U])
   exact ⟨(i+1,k2,q+1),⟨by simp only;omega,by simp only;rw [← Nat.add_assoc];exact hk2,hm2,by simp only;omega⟩,aA,by simp only;omega⟩
  have hdm:k2.tree.getD j default ∈ k2.tree:=by rw [ai _ hjl];exact List.getElem_mem _
  have hbd:=hbd _ hdm;have hds:=hk2.b.small hdm;obtain ⟨d,hd⟩:∃ d,k2.tree.getD j default=d:=⟨_,rfl⟩
  rw [hd] at hbd hds;have hdal:=hds.als;repeat' ((first|refine ae ?_|refine pif ?_ ?_<;>intro h<;>try exact pN h)<;>push_cast [O,U,hd])
  (apply ap (α:=Nat) 14 [] (fun a=>[(13,.c (.v (.int .i64 a))),(12,.c (.v (.bool ((m.aliases.take a).any fun p=>!decide (d.alias_=⟨#[]⟩) && bH p d.alias_))))]) (fun a=>[]) (fun a=>a≤m.aliases.length) (fun a=>m.aliases.length - a) (0);(focus ((try push_cast [O,U]);rfl));(focus exact (Nat.zero_le _));(focus ((refine weak_fg ?_;try push_cast [O,U]);(try (rfl)))));intro a ha;by_cases hal:a < m.aliases.length
  ·have hpm:m.aliases.getD a default ∈ m.aliases:=by rw [ai _ hal];exact List.getElem_mem _
   have hmt:=mg (m.aliases.getD a default) d.alias_ (by have:=hmw.alz _ hpm;omega) ac;have hst:((m.aliases.take (a+1)).any fun p=>!decide (d.alias_=⟨#[]⟩) && bH p d.alias_)=(((m.aliases.take a).any fun p=>!decide (d.alias_=⟨#[]⟩) && bH p d.alias_) || (!decide (d.alias_=⟨#[]⟩) && bH (m.aliases.getD a default) d.alias_)):=by
    rw [List.take_succ_eq_append_getElem hal,List.any_append,ai _ hal];simp
   obtain ⟨nx,hnx⟩:∃ nx,((m.aliases.take (a+1)).any fun p=>!decide (d.alias_=⟨#[]⟩) && bH p d.alias_)=nx:=⟨_,rfl⟩
   rw [hnx] at hst;obtain ⟨f,hf⟩:∃ f,((m.aliases.take a).any fun p=>!decide (d.alias_=⟨#[]⟩) && bH p d.alias_)=f:=⟨_,rfl⟩
   rw [hf] at hst ⊢;cases f with
   | true =>
    rw [Bool.true_or] at hst;push_cast [O,U];repeat' ((first|refine ae ?_|refine pif ?_ ?_<;>intro h<;>try exact pN h)<;>push_cast [O,U,hd])
    exact ⟨a+1,ac,by (refine weak_fg ?_;push_cast [O,U,hnx,hst]),ac⟩
   | false =>
    rw [Bool.false_or] at hst;by_cases h0:d.alias_=⟨#[]⟩
    ·rw [decide_eq_true h0,Bool.not_true,Bool.false_and] at hst;have h0':(d.alias_≠⟨#[]⟩)=False:=eq_false (fun h=>h h0);push_cast [O,U];repeat' ((first|refine ae ?_|refine pif ?_ ?_<;>intro h<;>try exact pN h)<;>push_cast [O,U,hd,h0'])
     exact ⟨a+1,ac,by (refine weak_fg ?_;push_cast [O,U,hnx,hst]),ac⟩
    ·rw [decide_eq_false h0,Bool.not_false,Bool.true_and] at hst;have h0':(d.alias_≠⟨#[]⟩)=True:=eq_true h0;push_cast [O,U];repeat' ((first|(refine aQ false rfl rfl aj (hmt) (fun r os h=>h.1) rfl ?_ ?_;push_cast [O,U,hd,h0'];refine aD ?_;push_cast [O,U,hd,h0'])|refine ae ?_|refine pif ?_ ?_<;>intro h<;>try exact pN h)<;>push_cast [O,U,hd,h0'])
     exact ⟨a+1,ac,by (refine weak_fg ?_;push_cast [O,U,hnx,hst]),ac⟩
  rw [List.take_of_length_le ac,xT];cases hmb:dU m d with
  | true =>
   have hdn:=hbd hmb;push_cast [O,U];repeat' ((first|refine ae ?_|refine pif ?_ ?_<;>intro h<;>try exact pN h)<;>push_cast [O,U,hd,hdn])
   exact ⟨j+1,ac,aA,ac⟩
  | false =>
   push_cast [O,U];repeat' ((first|refine ae ?_|refine pif ?_ ?_<;>intro h<;>try exact pN h)<;>push_cast [O,U,hd])
   exact ⟨j+1,ac,aA,ac⟩
end
end Go.Proofs.YtmbbkfffcflfcaaGreatDoor
