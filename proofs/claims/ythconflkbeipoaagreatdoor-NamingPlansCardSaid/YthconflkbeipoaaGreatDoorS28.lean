/- What the program computes, and the plain laws of it, part 28. -/
import Derived.Test.YthconflkbeipoaaGreatDoorS27
namespace Go.Proofs.YthconflkbeipoaaGreatDoor
attribute [local irreducible] PL QL PWPr PCalls Weak RetK Kontr PA
open Go.RowKit
open IntWalk renaming iteOmega → iO, toNatUp → tN
set_option linter.unusedVariables false
set_option linter.unusedSimpArgs false
set_option maxRecDepth 20000
structure WshFit (l:List Wsh):Prop where
 len:l.length≤1000000
 path:∀ w ∈ l,w.path.size≤100000000
 cnt:∀ w ∈ l,w.names.length≤1000000000
 siz:∀ w ∈ l,∀ s ∈ w.names,s.size≤9223372036854775807
theorem wshOk_no {l:List Wsh} {k:Nat} (hk:k < l.length) (h:wshAt l k=false):wshOk l=false:=by
 cases hc:wshOk l with
 | false=>rfl
 | true=>rw [wshOk_at hc hk] at h;cases h
theorem namesOk_no {ns:List ByteArray} {k:Nat} (hk:k < ns.length) (h:ifaceS (ns.getD k default)=false∨inM (ns.getD k default) (ns.take k)=true):namesOk ns=false:=by
 cases hc:namesOk ns with
 | false=>rfl
 | true =>
  obtain ⟨h1,h2⟩:=namesOk_at hc hk
  rw [h1,h2] at h
  rcases h with h|h<;>cases h
theorem cmpR_ex (a b:ByteArray):∃ e:Int,cmpR a b = .two (.c (.v (.int .i64 (cmpP a b)))) (.c (.v (.int .i64 e))):=by
 unfold cmpR cmpP
 cases splitP a<;>cases splitP b<;>exact ⟨_,rfl⟩
set_option maxHeartbeats 8000000 in
theorem valid23_pure (l:List Wsh) (h:WshFit l) :
  PCalls Tryz.prog 33 [.c (.sl 2 (l.map Wsh.d))] [] fun r os=>r = .c (.v (.bool (wshOk l)))∧os=[]:=by
 have hlen:=h.len
 refine pcalls_of Tryz.func33 rfl (by simp [Tryz.ntmps33]) ?_
 rw [Tryz.ntmps33,Tryz.results33]
 push_cast [iO,tN]
 have cB:CutB 11 [11,12,13,43,44,45]:=trivial
 repeat' (first|((first|refine pC ?_|refine pQC ?_|refine pU ?_);push_cast [iO,tN])|(refine pif (fun h=>?_) (fun h=>?_)<;>first|exact pN h|push_cast [iO,tN]))
 (apply pwp_loop3 (α:=Nat) 11 [11,12,13,43,44,45] (fun k=>[(13,.c (.v (.int .i64 k)))]) (fun k=>[]) (fun k=>k≤l.length∧∀ j,j < k → wshAt l j=true) (fun k=>l.length - k) (0);(focus ((try push_cast [iO,tN]);rfl));(focus exact ⟨Nat.zero_le _,fun j hj=>by omega⟩);(focus ((refine weak_fg ?_;try push_cast [iO,tN]))))
 rintro k ⟨hk,hpre⟩
 push_cast [iO,tN]
 by_cases hlt:k < l.length
 case neg =>
  have hok:wshOk l=true:=List.all_eq_true.2 fun j hj=>hpre j (by have:=List.mem_range.1 hj;omega)
  repeat' (first|((first|refine pC ?_|refine pQC ?_|refine pU ?_);push_cast [iO,tN])|(refine pif (fun h=>?_) (fun h=>?_)<;>first|exact pN h|push_cast [iO,tN]))
  (refine retK_of [] ?_;push_cast [iO,tN,hok])
 obtain ⟨w,hw⟩:∃ w,l.getD k default=w:=⟨_,rfl⟩
 have hm:w ∈ l:=by rw [← hw,getD_lt l hlt];exact List.getElem_mem _
 have hsp:=nsplit_pure w.path (h.path w hm)
 have hcn:=h.cnt w hm
 have hat:wshAt l k=(((splitP w.path).isSome && (decide (k=0) || decide (cmpP (l.getD (k - 1) default).path w.path < 0))) && namesOk w.names):=by unfold wshAt;rw [hw]
 cases hS:splitP w.path with
 | none =>
  rw [hS] at hsp hat
  have hno:=wshOk_no hlt (hat.trans rfl)
  repeat' (first|((refine plc [] (hsp) ?_ ?_;push_cast [iO,tN,hw];rintro r os ⟨rfl,rfl⟩;push_cast [iO,tN,hw]))|((first|refine pC ?_|refine pQC ?_|refine pU ?_);push_cast [iO,tN,hw])|(refine pif (fun h=>?_) (fun h=>?_)<;>first|exact pN h|push_cast [iO,tN,hw]))
  (refine retK_of [] ?_;push_cast [iO,tN,hno])
 | some ps =>
  rw [hS] at hsp hat
  simp only [Option.isSome_some,Bool.true_and] at hat
  by_cases hord:k=0∨cmpP (l.getD (k - 1) default).path w.path < 0
  case neg =>
   have hno:=wshOk_no hlt (by rw [hat,show (decide (k=0) || decide (cmpP (l.getD (k - 1) default).path w.path < 0))=false by rw [not_or] at hord;rw [decide_eq_false hord.1,decide_eq_false hord.2];rfl];rfl)
   rw [not_or] at hord
   obtain ⟨m,hkm⟩:∃ m,k=m+1:=⟨k - 1,by omega⟩
   have hm1:k - 1=m:=by omega
   rw [hm1] at hord
   obtain ⟨v,hv⟩:∃ v,l.getD m default=v:=⟨_,rfl⟩
   have hvm:v ∈ l:=by rw [← hv,getD_lt l (by omega)];exact List.getElem_mem _
   have hcp:=ncompare_pure v.path w.path (h.path v hvm) (h.path w hm)
   obtain ⟨e,he⟩:=cmpR_ex v.path w.path
   rw [he] at hcp
   rw [hv] at hord
   have hc1:0≤cmpP v.path w.path:=by omega
   have hc2:(0:Int) < (k:Int):=by omega
   have hc3:(k:Int) - 1=(m:Int):=by omega
   have hc4:m < l.length:=by omega
   repeat' (first|((refine plc [] (hsp) ?_ ?_;push_cast [iO,tN,hw,hv,hc1,hc2,hc3];rintro r os ⟨rfl,rfl⟩;push_cast [iO,tN,hw,hv,hc1,hc2,hc3]))|((refine pwp_cut 11 [11,12,13,43,44,45] ?_;apply pwp_drawn_to;(focus kernel_rfl);(focus (simp only [List.length_cons,List.length_nil,Nat.reduceAdd];(repeat' first|((refine plc [] (hcp) ?_ ?_;push_cast [iO,tN,  hw,hv,hc1,hc2,hc3];rintro r os ⟨rfl,rfl⟩;push_cast [iO,tN,  hw,hv,hc1,hc2,hc3]))|((first|refine pah 0 ?_|refine pah 1 ?_|refine pah 2 ?_|refine pah 3 ?_|refine pah 4 ?_|refine pah 6 ?_|refine pah 9 ?_|refine pah 10 ?_|refine pah 11 ?_|refine pah 12 ?_|refine pah 13 ?_);push_cast [iO,tN,  hw,hv,hc1,hc2,hc3])|(refine pad ?_;first|with_reducible exact weak_cutS 11 [11,12,13,43,44,45] _|(refine weak_fg ?_;push_cast [iO,tN,  hw,hv,hc1,hc2,hc3]))|((first|refine pas [5] ?_|refine pas [7] ?_|refine pas [8] ?_);push_cast [iO,tN,  hw,hv,hc1,hc2,hc3])|((first|refine pas [5,7] ?_);push_cast [iO,tN,  hw,hv,hc1,hc2,hc3];refine ⟨?_,?_⟩));done));push_cast [iO,tN,  hw,hv,hc1,hc2,hc3]))|((first|refine pC ?_|refine pQC ?_|refine pU ?_);push_cast [iO,tN,hw,hv,hc1,hc2,hc3])|(refine pif (fun h=>?_) (fun h=>?_)<;>first|exact pN h|push_cast [iO,tN,hw,hv,hc1,hc2,hc3]))
   (refine retK_of [] ?_;push_cast [iO,tN,hno])
  case pos =>
   have hb1:(decide (k=0) || decide (cmpP (l.getD (k - 1) default).path w.path < 0))=true:=by
    rcases hord with h1|h1
    ·rw [decide_eq_true h1];rfl
    ·rw [decide_eq_true h1,Bool.or_true]
   have hat2:wshAt l k=namesOk w.names:=by rw [hat,hb1,Bool.true_and]
   by_cases h0:k=0
   ·have hc2:¬ (0:Int) < (k:Int):=by omega
    repeat' (first|((refine plc [] (hsp) ?_ ?_;push_cast [iO,tN,hw,hc2];rintro r os ⟨rfl,rfl⟩;push_cast [iO,tN,hw,hc2]))|((first|refine pC ?_|refine pQC ?_|refine pU ?_);push_cast [iO,tN,hw,hc2])|(refine pif (fun h=>?_) (fun h=>?_)<;>first|exact pN h|push_cast [iO,tN,hw,hc2]))
    (apply pwp_loop3 (α:=Nat) 11 [11,12,13,43,44,45] (fun q=>[(45,.c (.v (.int .i64 q)))]) (fun q=>[]) (fun q=>q≤w.names.length∧∀ j,j < q → (ifaceS (w.names.getD j default)=true∧inM (w.names.getD j default) (w.names.take j)=false)) (fun q=>w.names.length - q) (0);(focus ((try push_cast [iO,tN]);rfl));(focus exact ⟨Nat.zero_le _,fun j hj=>by omega⟩);(focus ((refine weak_fg ?_;try push_cast [iO,tN]))))
    rintro q ⟨hq,hpq⟩
    push_cast [iO,tN]
    by_cases hqt:q < w.names.length
    ·obtain ⟨s,hs⟩:∃ s,w.names.getD q default=s:=⟨_,rfl⟩
     have hsm:s ∈ w.names:=by rw [← hs,getD_lt _ hqt];exact List.getElem_mem _
     have hif:=iface_pure s (h.siz w hm s hsm)
     have hct:=scontains_pure (w.names.take q) s (by rw [List.length_take];omega)
     rw [List.map_take] at hct
     cases hI:ifaceS s with
     | false =>
      rw [hI] at hif
      have hno:=wshOk_no hlt (hat2.trans (namesOk_no hqt (.inl (by rw [hs];exact hI))))
      repeat' (first|((refine plc [] (hif) ?_ ?_;push_cast [iO,tN,hs];rintro r os ⟨rfl,rfl⟩;push_cast [iO,tN,hs]))|((first|refine pC ?_|refine pQC ?_|refine pU ?_);push_cast [iO,tN,hs])|(refine pif (fun h=>?_) (fun h=>?_)<;>first|exact pN h|push_cast [iO,tN,hs]))
      (refine retK_of [] ?_;push_cast [iO,tN,hno])
     | true =>
      rw [hI] at hif
      cases hC:inM s (w.names.take q) with
      | true =>
       rw [hC] at hct
       have hno:=wshOk_no hlt (hat2.trans (namesOk_no hqt (.inr (by rw [hs];exact hC))))
       repeat' (first|((refine plc [] (hif) ?_ ?_;push_cast [iO,tN,hs];rintro r os ⟨rfl,rfl⟩;push_cast [iO,tN,hs]))|((refine plc [] (hct) ?_ ?_;push_cast [iO,tN,hs];rintro r os ⟨rfl,rfl⟩;push_cast [iO,tN,hs]))|((first|refine pC ?_|refine pQC ?_|refine pU ?_);push_cast [iO,tN,hs])|(refine pif (fun h=>?_) (fun h=>?_)<;>first|exact pN h|push_cast [iO,tN,hs]))
       (refine retK_of [] ?_;push_cast [iO,tN,hno])
      | false =>
       rw [hC] at hct
       repeat' (first|((refine plc [] (hif) ?_ ?_;push_cast [iO,tN,hs];rintro r os ⟨rfl,rfl⟩;push_cast [iO,tN,hs]))|((refine plc [] (hct) ?_ ?_;push_cast [iO,tN,hs];rintro r os ⟨rfl,rfl⟩;push_cast [iO,tN,hs]))|((first|refine pC ?_|refine pQC ?_|refine pU ?_);push_cast [iO,tN,hs])|(refine pif (fun h=>?_) (fun h=>?_)<;>first|exact pN h|push_cast [iO,tN,hs]))
       refine ⟨q+1,⟨by omega,fun j hj=>?_⟩,by (refine weak_fg ?_;push_cast [iO,tN]),by omega⟩
       by_cases e:j=q
       ·rw [e,hs];exact ⟨hI,hC⟩
       ·exact hpq j (by omega)
    ·have hok:wshAt l k=true:=by
      rw [hat2]
      refine List.all_eq_true.2 fun j hj=>?_
      obtain ⟨h1,h2⟩:=hpq j (by have:=List.mem_range.1 hj;omega)
      rw [h1,h2];rfl
     repeat' (first|((first|refine pC ?_|refine pQC ?_|refine pU ?_);push_cast [iO,tN])|(refine pif (fun h=>?_) (fun h=>?_)<;>first|exact pN h|push_cast [iO,tN]))
     refine ⟨k+1,⟨by omega,fun j hj=>?_⟩,by (refine weak_fg ?_;push_cast [iO,tN]),by omega⟩
     by_cases e:j=k
     ·rw [e];exact hok
     ·exact hpre j (by omega)
   ·obtain ⟨m,hkm⟩:∃ m,k=m+1:=⟨k - 1,by omega⟩
    have hm1:k - 1=m:=by omega
    rw [hm1] at hord
    obtain ⟨v,hv⟩:∃ v,l.getD m default=v:=⟨_,rfl⟩
    have hvm:v ∈ l:=by rw [← hv,getD_lt l (by omega)];exact List.getElem_mem _
    have hcp:=ncompare_pure v.path w.path (h.path v hvm) (h.path w hm)
    obtain ⟨e,he⟩:=cmpR_ex v.path w.path
    rw [he] at hcp
    rw [hv] at hord
    have hc1:¬ 0≤cmpP v.path w.path:=by omega
    have hc2:(0:Int) < (k:Int):=by omega
    have hc3:(k:Int) - 1=(m:Int):=by omega
    have hc4:m < l.length:=by omega
    repeat' (first|((refine plc [] (hsp) ?_ ?_;push_cast [iO,tN,hw,hv,hc1,hc2,hc3];rintro r os ⟨rfl,rfl⟩;push_cast [iO,tN,hw,hv,hc1,hc2,hc3]))|((refine pwp_cut 11 [11,12,13,43,44,45] ?_;apply pwp_drawn_to;(focus kernel_rfl);(focus (simp only [List.length_cons,List.length_nil,Nat.reduceAdd];(repeat' first|((refine plc [] (hcp) ?_ ?_;push_cast [iO,tN,  hw,hv,hc1,hc2,hc3];rintro r os ⟨rfl,rfl⟩;push_cast [iO,tN,  hw,hv,hc1,hc2,hc3]))|((first|refine pah 0 ?_|refine pah 1 ?_|refine pah 2 ?_|refine pah 3 ?_|refine pah 4 ?_|refine pah 6 ?_|refine pah 9 ?_|refine pah 10 ?_|refine pah 11 ?_|refine pah 12 ?_|refine pah 13 ?_);push_cast [iO,tN,  hw,hv,hc1,hc2,hc3])|(refine pad ?_;first|with_reducible exact weak_cutS 11 [11,12,13,43,44,45] _|(refine weak_fg ?_;push_cast [iO,tN,  hw,hv,hc1,hc2,hc3]))|((first|refine pas [5] ?_|refine pas [7] ?_|refine pas [8] ?_);push_cast [iO,tN,  hw,hv,hc1,hc2,hc3])|((first|refine pas [5,7] ?_);push_cast [iO,tN,  hw,hv,hc1,hc2,hc3];refine ⟨?_,?_⟩));done));push_cast [iO,tN,  hw,hv,hc1,hc2,hc3]))|((first|refine pC ?_|refine pQC ?_|refine pU ?_);push_cast [iO,tN,hw,hv,hc1,hc2,hc3])|(refine pif (fun h=>?_) (fun h=>?_)<;>first|exact pN h|push_cast [iO,tN,hw,hv,hc1,hc2,hc3]))
    (apply pwp_loop3 (α:=Nat) 11 [11,12,13,43,44,45] (fun q=>[(45,.c (.v (.int .i64 q)))]) (fun q=>[]) (fun q=>q≤w.names.length∧∀ j,j < q → (ifaceS (w.names.getD j default)=true∧inM (w.names.getD j default) (w.names.take j)=false)) (fun q=>w.names.length - q) (0);(focus ((try push_cast [iO,tN]);rfl));(focus exact ⟨Nat.zero_le _,fun j hj=>by omega⟩);(focus ((refine weak_fg ?_;try push_cast [iO,tN]))))
    rintro q ⟨hq,hpq⟩
    push_cast [iO,tN]
    by_cases hqt:q < w.names.length
    ·obtain ⟨s,hs⟩:∃ s,w.names.getD q default=s:=⟨_,rfl⟩
     have hsm:s ∈ w.names:=by rw [← hs,getD_lt _ hqt];exact List.getElem_mem _
     have hif:=iface_pure s (h.siz w hm s hsm)
     have hct:=scontains_pure (w.names.take q) s (by rw [List.length_take];omega)
     rw [List.map_take] at hct
     cases hI:ifaceS s with
     | false =>
      rw [hI] at hif
      have hno:=wshOk_no hlt (hat2.trans (namesOk_no hqt (.inl (by rw [hs];exact hI))))
      repeat' (first|((refine plc [] (hif) ?_ ?_;push_cast [iO,tN,hs];rintro r os ⟨rfl,rfl⟩;push_cast [iO,tN,hs]))|((first|refine pC ?_|refine pQC ?_|refine pU ?_);push_cast [iO,tN,hs])|(refine pif (fun h=>?_) (fun h=>?_)<;>first|exact pN h|push_cast [iO,tN,hs]))
      (refine retK_of [] ?_;push_cast [iO,tN,hno])
     | true =>
      rw [hI] at hif
      cases hC:inM s (w.names.take q) with
      | true =>
       rw [hC] at hct
       have hno:=wshOk_no hlt (hat2.trans (namesOk_no hqt (.inr (by rw [hs];exact hC))))
       repeat' (first|((refine plc [] (hif) ?_ ?_;push_cast [iO,tN,hs];rintro r os ⟨rfl,rfl⟩;push_cast [iO,tN,hs]))|((refine plc [] (hct) ?_ ?_;push_cast [iO,tN,hs];rintro r os ⟨rfl,rfl⟩;push_cast [iO,tN,hs]))|((first|refine pC ?_|refine pQC ?_|refine pU ?_);push_cast [iO,tN,hs])|(refine pif (fun h=>?_) (fun h=>?_)<;>first|exact pN h|push_cast [iO,tN,hs]))
       (refine retK_of [] ?_;push_cast [iO,tN,hno])
      | false =>
       rw [hC] at hct
       repeat' (first|((refine plc [] (hif) ?_ ?_;push_cast [iO,tN,hs];rintro r os ⟨rfl,rfl⟩;push_cast [iO,tN,hs]))|((refine plc [] (hct) ?_ ?_;push_cast [iO,tN,hs];rintro r os ⟨rfl,rfl⟩;push_cast [iO,tN,hs]))|((first|refine pC ?_|refine pQC ?_|refine pU ?_);push_cast [iO,tN,hs])|(refine pif (fun h=>?_) (fun h=>?_)<;>first|exact pN h|push_cast [iO,tN,hs]))
       refine ⟨q+1,⟨by omega,fun j hj=>?_⟩,by (refine weak_fg ?_;push_cast [iO,tN]),by omega⟩
       by_cases e:j=q
       ·rw [e,hs];exact ⟨hI,hC⟩
       ·exact hpq j (by omega)
    ·have hok:wshAt l k=true:=by
      rw [hat2]
      refine List.all_eq_true.2 fun j hj=>?_
      obtain ⟨h1,h2⟩:=hpq j (by have:=List.mem_range.1 hj;omega)
      rw [h1,h2];rfl
     repeat' (first|((first|refine pC ?_|refine pQC ?_|refine pU ?_);push_cast [iO,tN])|(refine pif (fun h=>?_) (fun h=>?_)<;>first|exact pN h|push_cast [iO,tN]))
     refine ⟨k+1,⟨by omega,fun j hj=>?_⟩,by (refine weak_fg ?_;push_cast [iO,tN]),by omega⟩
     by_cases e:j=k
     ·rw [e];exact hok
     ·exact hpre j (by omega)
end Go.Proofs.YthconflkbeipoaaGreatDoor
