/- What the program computes, and the plain laws of it, part 38. -/
import Derived.Test.YthconflkbeipoaaGreatDoorS37
namespace Go.Proofs.YthconflkbeipoaaGreatDoor
open Go.RowKit
open IntWalk renaming iteOmega → iO, toNatUp → tN
set_option linter.unusedVariables false
set_option linter.unusedSimpArgs false
def allA (l:List Wsh):List ByteArray:=l.flatMap Wsh.names
theorem allA_mem {l:List Wsh} {s:ByteArray}:s ∈ allA l ↔ s ∈ wantA2 l:=by
 rw [wantA2_mem]
 unfold allA
 rw [List.mem_flatMap]
 constructor
 ·rintro ⟨w,hw,hs⟩
  obtain ⟨i,hi,rfl⟩:=List.getElem_of_mem hw
  obtain ⟨q,hq,rfl⟩:=List.getElem_of_mem hs
  exact ⟨i,q,hi,by rw [getD_lt l hi];exact hq,by unfold nmAt;rw [getD_lt l hi,getD_lt _ hq]⟩
 ·rintro ⟨i,q,hi,hq,rfl⟩
  have hm:l.getD i default ∈ l:=by rw [getD_lt l hi];exact List.getElem_mem _
  exact ⟨_,hm,by unfold nmAt;rw [getD_lt _ hq];exact List.getElem_mem _⟩
def fillR (all:List ByteArray) (st:AsgS) (i:Nat):AsgS:=if st.1.getD i default=⟨#[]⟩ then (st.1.set i (ifN (freshN (st.2++all) 0)),st.2++[ifN (freshN (st.2++all) 0)]) else st
def fillRK (all:List ByteArray) (st:AsgS) (k:Nat):AsgS:=(List.range k).foldl (fillR all) st
theorem fillRK_succ (all:List ByteArray) (st:AsgS) (k:Nat):fillRK all st (k+1)=fillR all (fillRK all st k) k:=by unfold fillRK;rw [List.range_succ,List.foldl_append];rfl
theorem fillR_same {W all:List ByteArray} {st:AsgS} (hW:∀ s,s ∈ W ↔ s ∈ all) (h0:∀ s ∈ st.2,s ∈ all):∀ k,(fillRK all st k).1=(fillWK W st.1 k).1∧(∀ j,j < (fillWK W st.1 k).2 → inM (ifN j) ((fillRK all st k).2++all)=true)∧(∀ s ∈ (fillRK all st k).2,s ∈ all∨∃ j,j < (fillWK W st.1 k).2∧s=ifN j)
 | 0=>⟨rfl,fun j hj=>by rw [fillWK_zero] at hj;simp at hj,fun s hs=>.inl (h0 s hs)⟩
 | k+1=>by
  obtain ⟨h1,h2,h3⟩:=fillR_same hW h0 k
  rw [fillRK_succ,fillWK_succ]
  obtain ⟨a,ha⟩:∃ a,fillRK all st k=a:=⟨_,rfl⟩
  obtain ⟨b,hb⟩:∃ b,fillWK W st.1 k=b:=⟨_,rfl⟩
  rw [ha,hb] at h1 h2 h3
  rw [ha,hb]
  unfold fillR fillW
  rw [h1]
  by_cases hc:b.1.getD k default=⟨#[]⟩
  ·have hge:=fresh_ge W b.2
   have hnW:=fresh_not W b.2
   have hfr:freshN (a.2++all) 0=freshN W b.2:=by
    refine fresh_uniq (Nat.zero_le _) ?_ fun j _ hj=>?_
    ·rw [inM_false,List.mem_append]
     rintro (hm|hm)
     ·rcases h3 _ hm with hm|⟨j,hj,he⟩
      ·rw [inM_false] at hnW;exact hnW ((hW _).2 hm)
      ·have:=ifN_inj he;omega
     ·rw [inM_false] at hnW;exact hnW ((hW _).2 hm)
    ·by_cases hlt:j < b.2
     ·exact h2 j hlt
     ·have:=fresh_mid W (n:=b.2) (m:=j) (by omega) hj
      rw [inM_iff] at this ⊢
      exact List.mem_append_right _ ((hW _).1 this)
   rw [if_pos hc,if_pos hc,hfr]
   refine ⟨rfl,fun j hj=>?_,fun s hs=>?_⟩
   ·simp only at hj ⊢
    rw [inM_iff,List.mem_append,List.mem_append,List.mem_singleton]
    by_cases e:j=freshN W b.2
    ·subst e;exact .inl (.inr rfl)
    ·by_cases hlt:j < b.2
     ·have:=h2 j hlt
      rw [inM_iff,List.mem_append] at this
      exact this.elim (fun h=>.inl (.inl h)) .inr
     ·have:=fresh_mid W (n:=b.2) (m:=j) (by omega) (by omega)
      rw [inM_iff] at this
      exact .inr ((hW _).1 this)
   ·simp only at hs ⊢
    rcases List.mem_append.1 hs with hs|hs
    ·exact (h3 s hs).imp id fun ⟨j,hj,he⟩=>⟨j,by omega,he⟩
    ·rw [List.mem_singleton] at hs
     exact .inr ⟨_,Nat.lt_succ_self _,hs⟩
  ·rw [if_neg hc,if_neg hc]
   exact ⟨h1,h2,h3⟩
def namedR (l:List Wsh):List ByteArray:=(fillRK (allA l) (runA l (prsL l (maxR l))) l.length).1
theorem namedR_eq {l:List Wsh} (h:wshOk l=true):namedR l=namedA l:=by
 have hA:=run_all h (maxR l)
 refine (fillR_same (W:=wantA2 l) (all:=allA l) (st:=runA l (prsL l (maxR l))) (fun s=>allA_mem.symm) (fun s hs=>?_) l.length).1
 obtain ⟨h1,i,h2,h3⟩:=hA.tk s hs
 obtain ⟨q,_,h4,h5,_⟩:=hA.src i h2 (by rw [h3];exact h1)
 rw [allA_mem,wantA2_mem]
 exact ⟨i,q,h2,h4,by rw [h5,h3]⟩
def cntF (W:List ByteArray) (n:Nat):Nat:=((List.range n).filter fun m=>inM (ifN m) W).length
theorem cntF_succ (W:List ByteArray) (n:Nat):cntF W (n+1)=cntF W n+if inM (ifN n) W=true then 1 else 0:=by
 unfold cntF
 rw [List.range_succ,List.filter_append,List.length_append]
 by_cases h:inM (ifN n) W=true
 ·simp [List.filter_cons,h]
 ·simp [List.filter_cons,h]
theorem cntF_mid (W:List ByteArray) (n:Nat):∀ k,(∀ m,n≤m → m < n+k → inM (ifN m) W=true) → cntF W (n+k)=cntF W n+k
 | 0,_=>rfl
 | k+1,h=>by
  rw [← Nat.add_assoc,cntF_succ,if_pos (h (n+k) (by omega) (by omega)),cntF_mid W n k fun m h1 h2=>h m h1 (by omega)]
  omega
theorem cntF_le (W:List ByteArray) (n:Nat):cntF W n≤W.length:=by
 have h:(((List.range n).filter fun m=>inM (ifN m) W).map ifN).Nodup:=by
  rw [List.Nodup,List.pairwise_map]
  exact (List.nodup_range.filter _).imp fun hne e=>hne (ifN_inj e)
 have h2:=nodup_sub_len h (m:=W) fun x hx=>by
  obtain ⟨m,hm,rfl⟩:=List.mem_map.1 hx
  exact inM_iff.1 (List.mem_filter.1 hm).2
 rw [List.length_map] at h2
 exact h2
theorem cntF_fresh (W:List ByteArray) (n:Nat):cntF W (freshN W n)=cntF W n+(freshN W n - n):=by
 have hge:=fresh_ge W n
 have:=cntF_mid W n (freshN W n - n) fun m h1 h2=>fresh_mid W h1 (by omega)
 rw [show n+(freshN W n - n)=freshN W n by omega] at this
 exact this
theorem fill_cnt (W vals:List ByteArray):∀ k,(fillWK W vals k).2≤k+cntF W (fillWK W vals k).2
 | 0=>Nat.zero_le _
 | k+1=>by
  have ih:=fill_cnt W vals k
  rw [fillWK_succ]
  unfold fillW
  split
  ·have h1:=cntF_fresh W (fillWK W vals k).2
   have h2:=cntF_succ W (freshN W (fillWK W vals k).2)
   have hge:=fresh_ge W (fillWK W vals k).2
   simp only
   omega
  ·omega
theorem few_add {l:List Wsh} (h:l.length+(wantA2 l).length≤98):FewW l:=fun k hk=>by
 have h1:=fill_cnt (wantA2 l) (valsA l) k
 have h2:=cntF_fresh (wantA2 l) (fillWK (wantA2 l) (valsA l) k).2
 have h3:=cntF_le (wantA2 l) (freshN (wantA2 l) (fillWK (wantA2 l) (valsA l) k).2)
 have hge:=fresh_ge (wantA2 l) (fillWK (wantA2 l) (valsA l) k).2
 omega
theorem wantA_nodup (ps:List (Nat × ByteArray)):(wantedA ps).Nodup:=by
 unfold wantedA
 have key:∀ (ps:List (Nat × ByteArray)) (W:List ByteArray),W.Nodup → (ps.foldl (fun W p=>addS W p.2) W).Nodup:=by
  intro ps
  induction ps with
  | nil=>intro W h;exact h
  | cons p ps ih=>intro W h;exact ih _ (nodup_addS h)
 exact key ps [] List.nodup_nil
theorem wantA2_len {l:List Wsh} {n:Nat} (h:∀ w ∈ l,w.names.length≤n):(wantA2 l).length≤l.length * n:=by
 have h1:(wantA2 l).length≤(allA l).length:=nodup_sub_len (wantA_nodup _) fun x hx=>allA_mem.2 hx
 have h2:∀ l:List Wsh,(∀ w ∈ l,w.names.length≤n) → (allA l).length≤l.length * n:=by
  intro l
  induction l with
  | nil=>intro _;exact Nat.zero_le _
  | cons w l ih =>
   intro h
   unfold allA at ih ⊢
   rw [List.flatMap_cons,List.length_append,List.length_cons,Nat.succ_mul]
   have:=ih fun x hx=>h x (List.mem_cons_of_mem _ hx)
   have:=h w (List.mem_cons_self ..)
   omega
 exact Nat.le_trans h1 (h2 l h)
end Go.Proofs.YthconflkbeipoaaGreatDoor
namespace Go.Proofs.YthconflkbeipoaaGreatDoor
attribute [local irreducible] PL QL PWPr PCalls Weak RetK Kontr PA
open Go.RowKit
open IntWalk renaming iteOmega → iO, toNatUp → tN
set_option linter.unusedVariables false
set_option linter.unusedSimpArgs false
set_option maxRecDepth 20000
theorem hidS (id:Nat) {rd:Option Nat} {P:Program} {N p:Nat} {Q:Exit → S → Prop} {s:S} {ops:Array Oper} {b:Bool} {y:Code} (h:HidR (PWPr rd P N p (.seq (.region id ops b) y) Q s)):PWPr rd P N p (.seq (.region id ops b) y) Q s:=by
 unfold HidR at h
 exact h
structure RcdsOk (l:List Dev) (rs:List Rcd):Prop where
 ok:∀ r ∈ rs,r.ok
 of:∀ r ∈ rs,∃ d ∈ l,d.index=r.index
 nodup:(rs.map Rcd.index).Nodup
theorem RcdsOk.nil (l:List Dev):RcdsOk l []:=⟨(fun r hr=>by cases hr),(fun r hr=>by cases hr),(by simp)⟩
theorem RcdsOk.ins {l m:List Dev} {rs:List Rcd} (h:RcdsOk l rs) {r:Rcd} {d:Dev} (hr:r.ok) (hi:r.index=d.index) (hd:d ∈ m) (hl:∀ x ∈ l,x ∈ m) (hn:∀ x ∈ l,x.index≠d.index) (k:Nat):RcdsOk m (rs.take k++r :: rs.drop k):=by
 have hp:(rs.take k++r :: rs.drop k).Perm (r :: rs):=by
  have:=List.perm_middle (a:=r) (l₁:=rs.take k) (l₂:=rs.drop k)
  rwa [List.take_append_drop] at this
 refine ⟨fun x hx=>?_,fun x hx=>?_,?_⟩
 ·rcases List.mem_cons.1 (hp.mem_iff.1 hx) with rfl|hx
  ·exact hr
  ·exact h.ok x hx
 ·rcases List.mem_cons.1 (hp.mem_iff.1 hx) with rfl|hx
  ·exact ⟨d,hd,hi.symm⟩
  ·obtain ⟨e,he,h2⟩:=h.of x hx
   exact ⟨e,hl e he,h2⟩
 ·rw [(hp.map Rcd.index).nodup_iff,List.map_cons,List.nodup_cons]
  refine ⟨fun hm=>?_,h.nodup⟩
  obtain ⟨x,hx,h2⟩:=List.mem_map.1 hm
  obtain ⟨e,he,h3⟩:=h.of x hx
  exact hn e he (by rw [h3,h2,hi])
theorem RcdsOk.more {l m:List Dev} {rs:List Rcd} (h:RcdsOk l rs) (hl:∀ x ∈ l,x ∈ m):RcdsOk m rs:=⟨h.ok,(fun r hr=>by obtain ⟨e,he,h2⟩:=h.of r hr;exact ⟨e,hl e he,h2⟩),h.nodup⟩
set_option maxHeartbeats 8000000 in
theorem records_ex (L:List Int) (k:Nat) (l:List Dev) (N:Nat) (hk:k < 50000) (hw:WT l N) (hN:N≤100) (hL:∀ x ∈ L,-9223372036854775808≤x∧x≤9223372036854775807) (hLl:L.length≤9223372036854775807) :
  PCalls Tryz.prog 21 [.c (.ptr 0 0),.agg (trE l)] [tape L k] fun r os=>∃ (rs:List Rcd) (k':Nat),(rs.length≤l.length∧RcdsOk l rs)∧k'≤k+22 * N∧r = .c (.sl 12 (rs.map Rcd.d))∧os=[tape L k']:=by
 have hll:=hw.len
 refine pcalls_of Tryz.func21 rfl (by simp [Tryz.ntmps21]) ?_
 rw [Tryz.ntmps21,Tryz.results21]
 push_cast [iO,tN]
 have cB:CutB 9 []:=trivial
 repeat' (first|((first|refine pC ?_|refine pQC ?_|refine pU ?_);push_cast [iO,tN])|(refine pif (fun h=>?_) (fun h=>?_)<;>first|exact pN h|push_cast [iO,tN]))
 (apply pwp_loop3 (α:=Nat × List Rcd × Nat) 9 [] (fun x=>[(6,.c (.v (.int .i64 x.1))),(5,.c (.sl 12 (x.2.1.map Rcd.d)))]) (fun x=>[(0,tape L x.2.2)]) (fun x=>x.1≤l.length∧x.2.1.length≤x.1∧RcdsOk (l.take x.1) x.2.1∧x.2.2≤k+22 * x.1) (fun x=>l.length - x.1) ((0,[],k));(focus ((try push_cast [iO,tN]);rfl));(focus exact ⟨Nat.zero_le _,Nat.le_refl _,RcdsOk.nil _,Nat.le_refl _⟩);(focus ((refine weak_fg ?_;try push_cast [iO,tN]))))
 rintro ⟨i,rs,q⟩ ⟨h1,h2,h3,h4⟩
 simp only at h1 h2 h3 h4
 push_cast [iO,tN]
 by_cases hlt:i < l.length
 case neg =>
  have hi:i=l.length:=by omega
  subst hi
  rw [List.take_length] at h3
  repeat' (first|((first|refine pC ?_|refine pQC ?_|refine pU ?_);push_cast [iO,tN])|(refine pif (fun h=>?_) (fun h=>?_)<;>first|exact pN h|push_cast [iO,tN]))
  (refine retK_of [0] ?_;push_cast [iO,tN])
  exact ⟨_,_,leP_refl _,leOs_refl _,rs,q,⟨h2,h3⟩,by omega,rfl,rfl⟩
 have hm:=getD_mem hlt
 have htk:l.take (i+1)=l.take i++[l.getD i default]:=by rw [List.take_succ_eq_append_getElem hlt,← getD_lt l hlt]
 have hsub:∀ x ∈ l.take i,x ∈ l.take (i+1):=fun x hx=>by rw [htk];exact List.mem_append_left _ hx
 have hnew:∀ x ∈ l.take i,x.index≠(l.getD i default).index:=fun x hx e=>by
  have hnd:((l.take (i+1)).map Dev.index).Nodup:=hw.okt.nodup.sublist ((List.take_sublist _ _).map _)
  rw [htk,List.map_append,List.nodup_append] at hnd
  exact hnd.2.2 x.index (List.mem_map.2 ⟨x,hx,rfl⟩) (l.getD i default).index (by simp) e
 have hin:l.getD i default ∈ l.take (i+1):=by rw [htk];simp
 generalize hdd:l.getD i default=d at hm hnew hin
 have hr:=record_ex L (q+1) l N d (by omega) hw hN hm hL hLl
 repeat' (first|(refine hidS 6 ?_)|(refine pwp_seq fun K hK=>?_)|(refine pwp_block ?_)|((refine plc [0] (next_ex L q 6 (by omega) (by decide) (by decide) hL hLl) ?_ ?_;push_cast [iO,tN,hlt];rintro r os ⟨v,⟨v0,v1⟩,rfl,rfl⟩;push_cast [iO,tN,hlt]))|((first|refine pC ?_|refine pQC ?_|refine pU ?_);push_cast [iO,tN,hlt])|(refine pif (fun h=>?_) (fun h=>?_)<;>first|exact pN h|push_cast [iO,tN,hlt]))
 ·exact ⟨(i+1,rs,q+1),⟨by simp only;omega,by simp only;omega,h3.more hsub,by simp only;omega⟩,by (refine weak_fg ?_;push_cast [iO,tN]),by simp only;omega⟩
 refine unhid ?_
 (apply pwp_mid4 (α:=Rcd × Nat) 9 [] (fun x=>[(7,.c (.ptr 2 0))]) (fun x=>[(0,tape L x.2)]) (fun x=>[.box 92 (Rcd.e x.1)]) (fun x=>(x.1.index=d.index∧x.1.ok)∧x.2≤q+21) ((default,0));(focus ((try push_cast [iO,tN]);rfl)))
 ·(refine pwp_drawn (by kernel_rfl) ?_;try simp only [List.length_cons,List.length_nil,Nat.reduceAdd];repeat' first|((refine plc [0] (hr) ?_ ?_;push_cast [iO,tN,  hlt,hdd];rintro r os ⟨x,q2,⟨e1,e2⟩,e3,rfl,rfl⟩;push_cast [iO,tN,  hlt,hdd]))|((first|refine pah 0 ?_|refine pah 2 ?_|refine pah 4 ?_|refine pah 5 ?_);push_cast [iO,tN,  hlt,hdd])|(refine pad ?_;try push_cast [iO,tN,  hlt,hdd])|((first|refine pas [1] ?_|refine pas [3] ?_|refine pas [6] ?_|refine pas [7] ?_|refine pas [8] ?_|refine pas [9] ?_);push_cast [iO,tN,  hlt,hdd])|((first|refine pas [1,3] ?_|refine pas [1,6] ?_|refine pas [1,7] ?_|refine pas [1,8] ?_|refine pas [1,9] ?_|refine pas [3,6] ?_|refine pas [3,7] ?_|refine pas [3,8] ?_|refine pas [3,9] ?_|refine pas [6,7] ?_|refine pas [6,8] ?_|refine pas [6,9] ?_|refine pas [7,8] ?_|refine pas [7,9] ?_|refine pas [8,9] ?_);push_cast [iO,tN,  hlt,hdd];refine ⟨?_,?_⟩)|((first|refine pas [1,3,6] ?_|refine pas [1,3,7] ?_|refine pas [1,3,8] ?_|refine pas [1,3,9] ?_|refine pas [1,6,7] ?_|refine pas [1,6,8] ?_|refine pas [1,6,9] ?_|refine pas [1,7,8] ?_|refine pas [1,7,9] ?_|refine pas [1,8,9] ?_|refine pas [3,6,7] ?_|refine pas [3,6,8] ?_|refine pas [3,6,9] ?_|refine pas [3,7,8] ?_|refine pas [3,7,9] ?_|refine pas [3,8,9] ?_|refine pas [6,7,8] ?_|refine pas [6,7,9] ?_|refine pas [6,8,9] ?_|refine pas [7,8,9] ?_);push_cast [iO,tN,  hlt,hdd];refine ⟨?_,?_,?_⟩))
  all_goals exact ⟨(x,q2),⟨⟨e1,e2⟩,by simp only;omega⟩,by (refine weak_fg ?_;push_cast [iO,tN])⟩
 rintro ⟨x,q2⟩ ⟨⟨e1,e2⟩,e3⟩
 simp only at e1 e2 e3
 push_cast [iO,tN]
 have hnx:=next_ex L q2 ((rs.length:Int)+1) (by omega) (by omega) (by omega) hL hLl
 repeat' (first |  (refine hidR 8 ?_)|((refine plc [0] (hnx) ?_ ?_;push_cast [iO,tN];rintro r os ⟨v2,⟨v20,v21⟩,rfl,rfl⟩;push_cast [iO,tN]))  | ((first|refine pC ?_|refine pQC ?_|refine pU ?_);push_cast [iO,tN])|(refine pif (fun h=>?_) (fun h=>?_)<;>first|exact pN h|push_cast [iO,tN]))
 obtain ⟨m,rfl⟩:∃ m:Nat,v2=(m:Int):=⟨v2.toNat,by omega⟩
 have hml:m≤rs.length:=by omega
 refine unhid ?_
 push_cast [iO,tN]
 repeat' (first |  ((refine pwp_drawn (by kernel_rfl) ?_;simp only [List.length_cons,List.length_nil,Nat.reduceAdd];repeat' first|((first|refine pah 0 ?_|refine pah 1 ?_|refine pah 2 ?_|refine pah 3 ?_|refine pah 4 ?_|refine pah 5 ?_|refine pah 6 ?_|refine pah 7 ?_|refine pah 8 ?_|refine pah 9 ?_|refine pah 10 ?_|refine pah 11 ?_);push_cast [iO,tN])|(refine pad ?_;try push_cast [iO,tN])|((first|refine pas [0] ?_|refine pas [1] ?_|refine pas [2] ?_|refine pas [3] ?_|refine pas [4] ?_|refine pas [5] ?_|refine pas [6] ?_|refine pas [7] ?_|refine pas [8] ?_|refine pas [9] ?_|refine pas [10] ?_|refine pas [11] ?_);push_cast [iO,tN])|((first|refine pas [0,1] ?_|refine pas [0,2] ?_|refine pas [0,3] ?_|refine pas [0,4] ?_|refine pas [0,5] ?_|refine pas [0,6] ?_|refine pas [0,7] ?_|refine pas [0,8] ?_|refine pas [0,9] ?_|refine pas [0,10] ?_|refine pas [0,11] ?_|refine pas [1,2] ?_|refine pas [1,3] ?_|refine pas [1,4] ?_|refine pas [1,5] ?_|refine pas [1,6] ?_|refine pas [1,7] ?_|refine pas [1,8] ?_|refine pas [1,9] ?_|refine pas [1,10] ?_|refine pas [1,11] ?_|refine pas [2,3] ?_|refine pas [2,4] ?_|refine pas [2,5] ?_|refine pas [2,6] ?_|refine pas [2,7] ?_|refine pas [2,8] ?_|refine pas [2,9] ?_|refine pas [2,10] ?_|refine pas [2,11] ?_|refine pas [3,4] ?_|refine pas [3,5] ?_|refine pas [3,6] ?_|refine pas [3,7] ?_|refine pas [3,8] ?_|refine pas [3,9] ?_|refine pas [3,10] ?_|refine pas [3,11] ?_|refine pas [4,5] ?_|refine pas [4,6] ?_|refine pas [4,7] ?_|refine pas [4,8] ?_|refine pas [4,9] ?_|refine pas [4,10] ?_|refine pas [4,11] ?_|refine pas [5,6] ?_|refine pas [5,7] ?_|refine pas [5,8] ?_|refine pas [5,9] ?_|refine pas [5,10] ?_|refine pas [5,11] ?_|refine pas [6,7] ?_|refine pas [6,8] ?_|refine pas [6,9] ?_|refine pas [6,10] ?_|refine pas [6,11] ?_|refine pas [7,8] ?_|refine pas [7,9] ?_|refine pas [7,10] ?_|refine pas [7,11] ?_|refine pas [8,9] ?_|refine pas [8,10] ?_|refine pas [8,11] ?_|refine pas [9,10] ?_|refine pas [9,11] ?_|refine pas [10,11] ?_);push_cast [iO,tN];refine ⟨?_,?_⟩)))  | ((first|refine pC ?_|refine pQC ?_|refine pU ?_);push_cast [iO,tN])|(refine pif (fun h=>?_) (fun h=>?_)<;>first|exact pN h|push_cast [iO,tN]))
 all_goals refine ⟨(i+1,rs.take m++x :: rs.drop m,q2+1),⟨by simp only;omega,by simp only [List.length_append,List.length_cons,List.length_take,List.length_drop];omega,h3.ins e2 e1 hin hsub hnew m,by simp only;omega⟩,?_,by simp only;omega⟩
 all_goals try simp only
 all_goals (first|(refine Weak.trans (weak_frz 3 (by omega)) ?_;push_cast [iO,tN];(refine weak_fg ?_;push_cast [iO,tN]))|(refine Weak.trans (weak_frz 4 (by omega)) ?_;push_cast [iO,tN];(refine weak_fg ?_;push_cast [iO,tN]))|(refine Weak.trans (weak_frz 5 (by omega)) ?_;push_cast [iO,tN];(refine weak_fg ?_;push_cast [iO,tN]))|skip)
 all_goals (rw [List.map_take,List.map_drop];exact List.take_of_length_le (by simp;omega))
set_option maxRecDepth 20000
theorem hidN (id:Nat) {rd:Option Nat} {P:Program} {N p:Nat} {Q:Exit → S → Prop} {s:S} {ops:Array Oper} {b:Bool} (h:HidR (PWPr rd P N p (.region id ops b) Q s)):PWPr rd P N p (.region id ops b) Q s:=by
 unfold HidR at h
 exact h
def recO (rs:List Rcd) (n:Int):Option Rcd:=rs.find? fun r=>decide (r.index=n)
def wishD (l:List Dev) (rs:List Rcd) (pol:List ByteArray) (d:Dev):Wsh:=⟨placeM l d.index,match recO rs d.index with
 | some r=>candM r pol d.original
 | none=>[d.name]⟩
def wishK (l:List Dev) (rs:List Rcd) (pol:List ByteArray) (k:Nat):List Wsh:=((l.take k).filter fun d=>decide (d.kind=4)).map (wishD l rs pol)
def wishM (l:List Dev) (rs:List Rcd) (pol:List ByteArray):List Wsh:=wishK l rs pol l.length
theorem wishK_t {l:List Dev} {rs:List Rcd} {pol:List ByteArray} {k:Nat} (hk:k < l.length) (h:(l.getD k default).kind=4):wishK l rs pol (k+1)=wishK l rs pol k++[wishD l rs pol (l.getD k default)]:=by
 unfold wishK
 rw [List.take_succ_eq_append_getElem hk,List.filter_append,List.map_append,← getD_lt l hk,List.filter_cons_of_pos (by simpa using h),List.filter_nil,List.map_singleton]
theorem wishK_f {l:List Dev} {rs:List Rcd} {pol:List ByteArray} {k:Nat} (hk:k < l.length) (h:(l.getD k default).kind≠4):wishK l rs pol (k+1)=wishK l rs pol k:=by
 unfold wishK
 rw [List.take_succ_eq_append_getElem hk,List.filter_append,List.map_append,← getD_lt l hk,List.filter_cons_of_neg (by simpa using h),List.filter_nil,List.map_nil,List.append_nil]
theorem wishK_len (l:List Dev) (rs:List Rcd) (pol:List ByteArray) (k:Nat):(wishK l rs pol k).length≤l.length:=by
 unfold wishK
 rw [List.length_map]
 exact Nat.le_trans (List.length_filter_le _ _) (by rw [List.length_take];omega)
end Go.Proofs.YthconflkbeipoaaGreatDoor
namespace Go.Proofs.YthconflkbeipoaaGreatDoor
open Go.RowKit
open IntWalk renaming iteOmega → iO, toNatUp → tN
set_option linter.unusedVariables false
set_option linter.unusedSimpArgs false
theorem addC_nodup {l:List ByteArray} (h:l.Nodup) (s:ByteArray):(addC l s).Nodup:=nodup_addS h
theorem addC_mem {l:List ByteArray} {s x:ByteArray} (h:x ∈ addC l s):x ∈ l∨x=s:=by
 unfold addC at h
 split at h
 ·exact .inl h
 ·rcases List.mem_append.1 h with h|h
  ·exact .inl h
  ·rw [List.mem_singleton] at h;exact .inr h
structure NmsOk (l:List ByteArray):Prop where
 nd:l.Nodup
 ifc:∀ s ∈ l,ifaceS s=true
theorem NmsOk.nil:NmsOk []:=⟨List.nodup_nil,fun s hs=>by cases hs⟩
theorem NmsOk.add {l:List ByteArray} (h:NmsOk l) {s:ByteArray} (hs:ifaceS s=true):NmsOk (addC l s):=⟨addC_nodup h.nd s,fun x hx=>(addC_mem hx).elim (h.ifc x) fun e=>by rw [e];exact hs⟩
theorem NmsOk.step {l:List ByteArray} (h:NmsOk l) (r:Rcd) (key:ByteArray):NmsOk (stepC r l key):=by
 unfold stepC
 split
 ·rename_i hc
  rw [Bool.and_eq_true] at hc
  exact h.add hc.2
 ·exact h
theorem NmsOk.cand (r:Rcd) (pol:List ByteArray) {o:ByteArray} (ho:ifaceS o=true):NmsOk (candM r pol o):=by
 unfold candM candK
 refine NmsOk.add ?_ ho
 have key:∀ (pol l:List ByteArray),NmsOk l → NmsOk (pol.foldl (stepC r) l):=by
  intro pol
  induction pol with
  | nil=>intro l h;exact h
  | cons p pol ih=>intro l h;exact ih _ (h.step r p)
 refine key _ _ ?_
 split
 ·rename_i hn
  exact NmsOk.nil.add hn
 ·exact NmsOk.nil
theorem NmsOk.ok {l:List ByteArray} (h:NmsOk l):namesOk l=true:=by
 unfold namesOk
 rw [List.all_eq_true]
 intro k hk
 have hk:=List.mem_range.1 hk
 rw [Bool.and_eq_true,Bool.not_eq_true',inM_false]
 refine ⟨h.ifc _ (by rw [getD_lt l hk];exact List.getElem_mem _),fun hm=>?_⟩
 obtain ⟨j,hj,he⟩:=List.mem_take_iff_getElem.1 hm
 rw [getD_lt l hk] at he
 have:=List.pairwise_iff_getElem.1 h.nd j k (by omega) hk (by omega)
 exact this he
theorem wishM_eq (l:List Dev) (rs:List Rcd) (pol:List ByteArray):wishM l rs pol=(l.filter fun d=>decide (d.kind=4)).map (wishD l rs pol):=by
 unfold wishM wishK
 rw [List.take_length]
theorem wishD_nms {l:List Dev} (rs:List Rcd) (pol:List ByteArray) {d:Dev} (hc:checkM d=0) (hk:d.kind=4):NmsOk (wishD l rs pol d).names:=by
 obtain ⟨h1,h2⟩:=check_net hc hk
 unfold wishD
 cases recO rs d.index with
 | none=>exact ⟨by simp,fun s hs=>by rw [List.mem_singleton] at hs;rw [hs];exact h1⟩
 | some r=>exact NmsOk.cand r pol h2
theorem wishM_ok {l:List Dev} (ht:Okt l) (ho:OrdT l) (hc:∀ d ∈ l,checkM d=0) (rs:List Rcd) (pol:List ByteArray):wshOk (wishM l rs pol)=true:=by
 have hp:(wishM l rs pol).Pairwise fun a b=>cmpP a.path b.path < 0:=by
  rw [wishM_eq,List.pairwise_map]
  refine (ho.filter _).imp_of_mem fun {a b} ha hb h=>?_
  show cmpP (placeM l a.index) (placeM l b.index) < 0
  unfold cmpP
  rw [place_split ht (List.mem_filter.1 ha).1,place_split ht (List.mem_filter.1 hb).1]
  exact h
 unfold wshOk
 rw [List.all_eq_true]
 intro i hi
 have hi:=List.mem_range.1 hi
 have hm:(wishM l rs pol).getD i default ∈ wishM l rs pol:=by rw [getD_lt _ hi];exact List.getElem_mem _
 have hm2:=hm
 rw [wishM_eq] at hm2
 obtain ⟨d,hd,he⟩:=List.mem_map.1 hm2
 obtain ⟨hd1,hd2⟩:=List.mem_filter.1 hd
 unfold wshAt
 rw [Bool.and_eq_true,Bool.and_eq_true]
 have he2:(wishM l rs pol).getD i default=wishD l rs pol d:=by rw [wishM_eq];exact he.symm
 rw [he2]
 refine ⟨⟨?_,?_⟩,(wishD_nms rs pol (hc d hd1) (by simpa using hd2)).ok⟩
 ·show (splitP (placeM l d.index)).isSome=true
  rw [place_split ht hd1];rfl
 ·by_cases h0:i=0
  ·rw [decide_eq_true h0];rfl
  ·rw [decide_eq_false h0,Bool.false_or,decide_eq_true_eq,← he2]
   have:=List.pairwise_iff_getElem.1 hp (i - 1) i (by omega) hi (by omega)
   rw [getD_lt _ (show i - 1 < (wishM l rs pol).length by omega),getD_lt _ hi]
   exact this
theorem wishM_len (l:List Dev) (rs:List Rcd) (pol:List ByteArray):(wishM l rs pol).length≤l.length:=wishK_len l rs pol l.length
theorem candK_len (r:Rcd) (pol:List ByteArray):(candK r pol).length≤pol.length+1:=by
 unfold candK
 have key:∀ (pol l:List ByteArray),(pol.foldl (stepC r) l).length≤l.length+pol.length:=by
  intro pol
  induction pol with
  | nil=>intro l;exact Nat.le_refl _
  | cons p pol ih =>
   intro l
   have h1:=ih (stepC r l p)
   have h2:=stepC_len r l p
   rw [List.foldl_cons,List.length_cons]
   omega
 have h:=key pol (if ifaceS r.name then addC [] r.name else [])
 have h2:(if ifaceS r.name then addC [] r.name else ([]:List ByteArray)).length≤1:=by
  split
  ·have:=addC_len [] r.name;simpa using this
  ·exact Nat.zero_le _
 omega
theorem wishM_names (l:List Dev) (rs:List Rcd) (pol:List ByteArray):∀ w ∈ wishM l rs pol,w.names.length≤pol.length+2:=fun w hw=>by
 rw [wishM_eq] at hw
 obtain ⟨d,_,rfl⟩:=List.mem_map.1 hw
 unfold wishD
 cases recO rs d.index with
 | none=>simp
 | some r =>
  have h1:=candK_len r pol
  have h2:=addC_len (candK r pol) d.original
  show (addC (candK r pol) d.original).length≤_
  omega
theorem wishM_few {l:List Dev} (hl:l.length≤9) (rs:List Rcd) {pol:List ByteArray} (hp:pol.length≤2):FewW (wishM l rs pol):=by
 have h1:=wishM_len l rs pol
 have h2:=wantA2_len (n:=4) fun w hw=>(show w.names.length≤4 by have:=wishM_names l rs pol w hw;omega)
 refine few_add ?_
 omega
theorem wishM_fit {l:List Dev} (hl:l.length≤1000) (hz:∀ d ∈ l,d.original.size≤1000) (hc:∀ d ∈ l,checkM d=0) (rs:List Rcd) {pol:List ByteArray} (hp:pol.length≤1000):WshFit (wishM l rs pol):=by
 refine ⟨by have:=wishM_len l rs pol;omega,fun w hw=>?_,fun w hw=>by have:=wishM_names l rs pol w hw;omega,fun w hw s hs=>?_⟩
 ·rw [wishM_eq] at hw
  obtain ⟨d,hd,rfl⟩:=List.mem_map.1 hw
  have:=place_size hl hz d.index
  show (placeM l d.index).size≤_
  omega
 ·rw [wishM_eq] at hw
  obtain ⟨d,hd,rfl⟩:=List.mem_map.1 hw
  obtain ⟨hd1,hd2⟩:=List.mem_filter.1 hd
  have:=iface_size ((wishD_nms rs pol (hc d hd1) (by simpa using hd2)).ifc s hs)
  omega
theorem asg_vals {w:List Wsh} (h:wshOk w=true):vals (assignA w)=namedA w:=by
 unfold vals assignA
 rw [List.map_map]
 refine List.ext_getElem (by simp [(named_spec h).len]) fun i h1 h2=>?_
 simp only [List.getElem_map,List.getElem_range,Function.comp]
 rw [getD_lt _ h2]
theorem ifN_iface:((List.range 350).all fun m=>ifaceS (ifN m))=true:=by decide +kernel
theorem named_iface {w:List Wsh} (h:wshOk w=true) (hb:w.length * ((wantA2 w).length+2)≤350) {s:ByteArray} (hs:s ∈ namedA w):ifaceS s=true:=by
 have hN:=named_spec h
 obtain ⟨i,hi,rfl⟩:=List.getElem_of_mem hs
 have hi2:i < w.length:=by rw [← hN.len];exact hi
 have h1:=hN.one i hi2
 rw [getD_lt _ hi] at h1
 rcases h1 with ⟨q,hq,he⟩|⟨m,hm,he,_⟩
 ·rw [he];exact nmAt_ok h hi2 hq
 ·rw [he];exact List.all_eq_true.1 ifN_iface m (List.mem_range.2 (by omega))
end Go.Proofs.YthconflkbeipoaaGreatDoor
namespace Go.Proofs.YthconflkbeipoaaGreatDoor
attribute [local irreducible] PL QL PWPr PCalls Weak RetK Kontr PA
open Go.RowKit
open IntWalk renaming iteOmega → iO, toNatUp → tN
set_option linter.unusedVariables false
set_option linter.unusedSimpArgs false
set_option maxRecDepth 20000
end Go.Proofs.YthconflkbeipoaaGreatDoor
namespace Go.Proofs.YthconflkbeipoaaGreatDoor
open Go.RowKit
open IntWalk renaming iteOmega → iO, toNatUp → tN
set_option linter.unusedVariables false
set_option linter.unusedSimpArgs false
structure Keeps (f:Dev → Dev):Prop where
 ix:∀ x,(f x).index=x.index
 pa:∀ x,(f x).parent=x.parent
 orig:∀ x,(f x).original=x.original
theorem Keeps.find {f:Dev → Dev} (h:Keeps f) (l:List Dev) (n:Int):findD (l.map f) n=(findD l n).map f:=by
 unfold findD
 rw [List.find?_map]
 congr 1
 show List.find? (fun x=>decide ((f x).index=n)) l=_
 simp only [h.ix]
theorem Keeps.chain {f:Dev → Dev} (h:Keeps f) (l:List Dev):∀ (k:Nat) (n:Int),chainGo (l.map f) k n=(chainGo l k n).map f
 | 0,n=>rfl
 | k+1,n=>by
  cases hf:findD l n with
  | none =>
   have hf2:findD (l.map f) n=none:=by rw [h.find,hf];rfl
   rw [chainGo_none hf,chainGo_none hf2];rfl
  | some d =>
   have hf2:findD (l.map f) n=some (f d):=by rw [h.find,hf];rfl
   rw [chainGo_some hf,chainGo_some hf2,h.pa,Keeps.chain h l k];rfl
theorem Keeps.orig' {f:Dev → Dev} (h:Keeps f) (l:List Dev) (n:Int):origM (l.map f) n=origM l n:=by
 unfold origM chainM
 rw [h.chain,List.length_map,List.map_map]
 congr 2
 funext x
 exact h.orig x
theorem Keeps.ixs {f:Dev → Dev} (h:Keeps f) (l:List Dev):(l.map f).map Dev.index=l.map Dev.index:=by
 rw [List.map_map]
 exact List.map_congr_left fun x _=>h.ix x
theorem Keeps.okt {f:Dev → Dev} (h:Keeps f) {l:List Dev} (ht:Okt l):Okt (l.map f):=by
 refine ⟨fun d hd=>?_,by rw [h.ixs];exact ht.nodup,fun i hi=>?_,fun d hd=>?_,fun d hd e he hde=>?_⟩
 ·obtain ⟨x,hx,rfl⟩:=List.mem_map.1 hd
  rw [h.ix];exact ht.pos x hx
 ·rw [List.length_map] at hi
  rw [List.getElem_map,h.pa]
  rcases ht.par i hi with h1|⟨j,hj,h1⟩
  ·exact .inl h1
  ·exact .inr ⟨j,hj,by rw [List.getElem_map,h.ix];exact h1⟩
 ·obtain ⟨x,hx,rfl⟩:=List.mem_map.1 hd
  rw [h.orig];exact ht.val x hx
 ·obtain ⟨x,hx,rfl⟩:=List.mem_map.1 hd
  obtain ⟨y,hy,rfl⟩:=List.mem_map.1 he
  rw [h.orig',h.orig',h.ix,h.ix] at hde
  rw [ht.dist x hx y hy hde]
theorem Keeps.ord {f:Dev → Dev} (h:Keeps f) {l:List Dev} (ho:OrdT l):OrdT (l.map f):=by
 unfold OrdT
 rw [List.pairwise_map]
 refine ho.imp fun {a b} hab=>?_
 rw [h.orig',h.orig',h.ix,h.ix]
 exact hab
def nameD (d:Dev) (u:ByteArray):Dev:=⟨d.index,d.parent,u,d.original,d.subsystem,d.driver,d.alias_,d.kind,d.number,d.attrs⟩
def renF (d:Dev) (u:ByteArray) (x:Dev):Dev:=if x.index=d.index then nameD x u else x
theorem renF_keeps (d:Dev) (u:ByteArray):Keeps (renF d u):=by
 refine ⟨fun x=>?_,fun x=>?_,fun x=>?_⟩
 all_goals unfold renF;split<;>rfl
theorem check_ren {d:Dev} (h:checkM d=0) (hk:d.kind=4) {u:ByteArray} (hu:ifaceS u=true):checkM (nameD d u)=0:=by
 have hv:validS u=true:=by
  unfold ifaceS at hu
  rw [Bool.and_eq_true,Bool.and_eq_true] at hu
  exact hu.1.1
 have h1:=checkM_nums h
 have h2:=checkM_named h
 obtain ⟨h3,h4⟩:=check_net h hk
 have hN:numsM (nameD d u)=numsM d:=rfl
 have hM:namedM (nameD d u)=true:=by
  unfold namedM at h2 ⊢
  simp only [Bool.and_eq_true] at h2 ⊢
  exact ⟨⟨⟨⟨hv,h2.1.1.1.2⟩,h2.1.1.2⟩,h2.1.2⟩,h2.2⟩
 have hK:kindM (nameD d u)=true:=by
  unfold kindM
  rw [if_pos (show (nameD d u).kind=4 from hk),Bool.and_eq_true]
  exact ⟨hu,h4⟩
 have hK0:kindM d=true:=by
  unfold kindM
  rw [if_pos hk,Bool.and_eq_true]
  exact ⟨h3,h4⟩
 unfold checkM at h ⊢
 rw [h1,h2,hK0] at h
 rw [hN,h1,hM,hK]
 exact h
theorem WT.ren {l:List Dev} {n:Nat} (h:WT l n) {d:Dev} (hd:d ∈ l) (hk:d.kind=4) {u:ByteArray} (hu:ifaceS u=true) (hno:∀ x ∈ l,x.kind=4 → x.name≠u):WT (l.map (renF d u)) n:=by
 have hK:=renF_keeps d u
 have hus:=iface_size hu
 have hsame:∀ x ∈ l,x.index=d.index → x=d:=fun x hx e=>by
  have h1:=findD_mem h.okt.nodup hx
  rw [e,findD_mem h.okt.nodup hd] at h1
  exact (Option.some.inj h1).symm
 refine ⟨hK.okt h.okt,by rw [List.length_map];exact h.len,fun x hx=>?_,hK.ord h.ord,fun a ha b hb h1 h2 e=>?_,fun x hx=>?_,fun a ha b hb h1 h2 e=>?_⟩
 ·obtain ⟨y,hy,rfl⟩:=List.mem_map.1 hx
  obtain ⟨h1,h2,h3⟩:=h.dev y hy
  refine ⟨?_,by rw [hK.ix];exact h2,by rw [hK.ix];exact h3⟩
  unfold renF
  split
  ·exact ⟨⟨show u.size≤_ by omega,h1.ok.original,h1.ok.subsystem,h1.ok.driver,h1.ok.alias_,h1.ok.attrs,h1.ok.len,h1.ok.orig⟩,h1.orig,h1.att,h1.num⟩
  ·exact h1
 ·obtain ⟨x,hx,rfl⟩:=List.mem_map.1 ha
  obtain ⟨y,hy,rfl⟩:=List.mem_map.1 hb
  have hN:∀ z,hasN (renF d u z)=hasN z:=fun z=>by unfold renF;split<;>rfl
  have hM:∀ z,nodeM (renF d u z)=nodeM z:=fun z=>by unfold renF;split<;>rfl
  rw [hN] at h1 h2
  rw [hM,hM] at e
  rw [h.nod x hx y hy h1 h2 e]
 ·obtain ⟨y,hy,rfl⟩:=List.mem_map.1 hx
  unfold renF
  split
  ·rename_i e
   rw [hsame y hy e]
   exact check_ren (h.chk d hd) hk hu
  ·exact h.chk y hy
 ·obtain ⟨x,hx,rfl⟩:=List.mem_map.1 ha
  obtain ⟨y,hy,rfl⟩:=List.mem_map.1 hb
  have hKk:∀ z,(renF d u z).kind=z.kind:=fun z=>by unfold renF;split<;>rfl
  rw [hKk] at h1 h2
  unfold renF at e
  by_cases e1:x.index=d.index<;>by_cases e2:y.index=d.index
  ·rw [hsame x hx e1,hsame y hy e2]
  ·rw [if_pos e1,if_neg e2] at e
   exact absurd e.symm (hno y hy h2)
  ·rw [if_neg e1,if_pos e2] at e
   exact absurd e (hno x hx h1)
  ·rw [if_neg e1,if_neg e2] at e
   rw [h.net x hx y hy h1 h2 e]
theorem asg_len2 (w:List Wsh):(assignA w).length=w.length:=by unfold assignA;simp
section
variable {P:Program} {N p:Nat} {s:S}
theorem pwp_drawn_exn {rd:Option Nat} {Q:Exit → S → Prop} {id:Nat} {l:List Oper} {α:Type} (B:Nat) (ex:List Nat) (f:α → List (Nat × PV)) (g:α → List (Nat × Ob)) (gn:α → List Ob) (Φ:α → Prop) (x0:α) {t0:List (Nat × PV)} (ht:cutT B ex ((f x0).map Prod.fst) s.t=t0) (hmp:(P.follows .mixedOrders && plains l)=true)
  (h:PA P N p l.toArray l.length (Array.replicate l.length false) s (fun s'=>∃ x,Φ x∧Weak N p s' ⟨f x++t0,setM s.o (g x)++gn x⟩)) (hq:∀ x,Φ x → Q .normal ⟨f x++t0,setM s.o (g x)++gn x⟩):PWPr rd P N p (.region id l.toArray true) Q s:=fun z Γ a w hA hD=>by
 simp only [Bool.and_eq_true] at hmp
 refine wpIn_region_any hmp.1 (any_rd (by simpa using hmp.2) ?_)
 have hX:Ext No w { w with drawn:=w.drawn+1 }:=(Ext.refl No w).drew
 refine h Γ a _ _ ⟨hA.inv.same (Same.of_ext hX),hA.le⟩ fun s' Γ' a' w' hk hA' hg hd=>?_
 obtain ⟨x,hx,hw⟩:=hk
 obtain ⟨Γ2,hA2,hg2⟩:=hw Γ' a' w' hA'
 exact ⟨_,Γ2,hq x hx,hA2,(ext_grow hX).trans (hg.trans hg2),hD.grow ((ext_grow (p:=p) hX).trans (hg.trans hg2)) hd⟩
end
theorem run_append_zeroB {P:Program} (w:World) (t ty e:TypeId) (i:TypeInfo) (ht:P.underlying t=some (.slice e)) (hi:P.info? e=some i) (A B:Option Addr) (n cap c:Nat) (hn:n≤cap) (hB:B=none → n=0) :
  (Builtin.append_ #[t,t] ty #[.slice B n cap,.slice A 0 c]).run P w = .ok (.slice B n cap) w:=by
 cases A<;>cases B
 ·have:=hB rfl
  subst this
  simp [Builtin.append_,run_underlying ht,sizeOf,typeInfo,hi,Builtin.lenOf,Builtin.firstCells,storeCells]
 ·simp [Builtin.append_,run_underlying ht,sizeOf,typeInfo,hi,Builtin.lenOf,Builtin.firstCells,hn,storeCells]
 ·have:=hB rfl
  subst this
  simp [Builtin.append_,run_underlying ht,sizeOf,typeInfo,hi,Builtin.lenOf,Builtin.firstCells,loadCells,loadCellsFrom,storeCells]
 ·simp [Builtin.append_,run_underlying ht,sizeOf,typeInfo,hi,Builtin.lenOf,Builtin.firstCells,hn,loadCells,loadCellsFrom,storeCells]
section
variable {P:Program} {N p:Nat} {ops:Array Oper} {rest:List Oper} {o:Oper} {s:S} {K:S → Prop}
theorem pl_appnilS {t e:TypeId} {sz by':Nat} {x z:Operand} {l:List (List D)} (ho:o.op = .call { callee:=.builtin .append,args := #[x,z],argTypes := #[t,t] }) (hg:gd ops s o.guard=some true) (hx:s.ev x=some (.c (.sl sz l))) (hys:srcRows s.o sz (s.ev z)=some []) (hel:elOf P t=some (e,sz)) (hby:bytOf P e=some by') (hsz:0 < sz) (hz:(zerOf P e).map List.length=some sz) (hd:dstOk N o.dst)
  (hK:PL P N p ops rest (s.put o.dst (.c (.sl sz l))) K):PL P N p ops (o :: rest) s K:=by
 refine pl_same (q:=.c (.sl sz l)) hg (fun Γ a w hI=>?_) hd hK
 obtain ⟨hT,i,hu,hi⟩:=slT_of hel hby hsz hz
 obtain ⟨hyr,A,c,news,hzv,hrd,hnx⟩:=src_ok hI.m hys (fun q hq=>S.ev_ok hq hI)
 have hx1:=S.ev_ok hx hI
 obtain ⟨A2,c2,xs,hv,hlc,hxr,hxl,hxx⟩:=rd_sl.1 hx1
 refine ⟨a.eval x,hx1,fun w' hS=>?_⟩
 have hA:A2=none → l.length=0:=fun hA=>by
  rcases Nat.eq_zero_or_pos l.length with h0|h0
  ·exact h0
  ·obtain ⟨b,f,e4,_⟩:=hxr.get h0
   rw [hA] at e4
   cases e4
 have h0:=run_append_zeroB (P:=P) w' t o.type e i hu hi A A2 l.length c2 c hlc hA
 have hzv2:a.eval z = .slice A 0 c:=hzv
 simp only [execOp,ho,resolve,invoke,builtin,Sem.run_bind,Sem.run_pure,Result.andThen_ok,List.map_toArray,List.map_cons,List.map_nil,hv,hzv2,h0]
theorem pl_cut3 {t e:TypeId} {sz h m:Nat} {x hi mx:Operand} {r:List (List D)} (ho:o.op = .slice t x none (some hi) (some mx)) (hg:gd ops s o.guard=some true) (hx:s.ev x=some (.c (.sl sz r))) (hh:s.ev hi=some (.c (.v (.int .i64 (h:Int))))) (hm:s.ev mx=some (.c (.v (.int .i64 (m:Int))))) (hel:elOf P t=some (e,sz)) (h1:h≤m) (h2:m≤r.length) (hd:dstOk N o.dst)
  (hK:PL P N p ops rest (s.put o.dst (.c (.sl sz (r.take h)))) K):PL P N p ops (o :: rest) s K:=by
 refine pl_same (q:=.c (.sl sz (r.take h))) hg (fun Γ a w hI=>?_) hd hK
 obtain ⟨hu,hsz⟩:=el_run hel
 have hx1:=S.ev_ok hx hI
 have hh1:=S.ev_ok hh hI
 have hm1:=S.ev_ok hm hI
 obtain ⟨A,c,xs,hv,hc',hr3,hr4,hr5⟩:=rd_sl.1 hx1
 refine ⟨.slice (if m=0 then A else A.map (·.add (0 * sz))) h m,?_,fun w' _=>?_⟩
 ·have hx2:RD w Γ.I (.sl sz r) (.slice A r.length c):=by rw [← hv];exact hx1
  have:=sl_cut hx2 (Nat.zero_le h) (Nat.le_trans h1 h2)
  simp only [List.drop_zero,Nat.sub_zero] at this ⊢
  obtain ⟨A2,c3,xs2,e2,e3,e4,e5,e6⟩:=rd_sl.1 this
  injection e2 with e7 e8 e9
  subst e7
  have hz:(r.take h).length=h:=by rw [List.length_take];omega
  show RD w Γ.I (.sl sz (r.take h)) _
  rw [rd_sl]
  refine ⟨_,m,xs2,by rw [hz],by rw [hz];exact h1,?_,e5,e6⟩
  rw [hz] at e4 ⊢
  by_cases hg0:m=0
  ·rw [if_pos hg0];exact ⟨e4.1,fun h=>absurd h (by omega)⟩
  ·rw [if_neg hg0]
   by_cases hc0:c=0
   ·exfalso;omega
   ·rw [if_neg hc0] at e4;exact e4
 ·have e1:((h:Int)≤m):=by omega
  have e2:((m:Int)≤c):=by omega
  have hb:(Instr.sliceBounds true r.length c none (some (.int .i64 h)) (some (.int .i64 m))).run P w' = .ok (0,h,m) w':=by
   simp [Instr.sliceBounds,Instr.sliceBound,asIntOf,e1,e2,h1,show m≤c by omega]
  simp only [execOp,ho,Instr.sliceAt,Instr.slice,Sem.run_bind,Sem.run_pure,run_underlying hu,Result.andThen_ok,hv,hm1.1,hh1.1,Option.map_some,Option.map_none,hb,sz_run hsz,Nat.sub_zero]
end
end Go.Proofs.YthconflkbeipoaaGreatDoor
