/- What the program computes, and the plain laws of it, part 46. -/
import Derived.Test.YthconflkbeipoaaGreatDoorS43
namespace Go.Proofs.YthconflkbeipoaaGreatDoor
attribute [local irreducible] PL QL PWPr PCalls Weak RetK Kontr PA
open Go.RowKit
open IntWalk renaming iteOmega → iO, toNatUp → tN
set_option linter.unusedVariables false
set_option linter.unusedSimpArgs false
set_option maxRecDepth 20000
def pvR (rc:Rcd) (key:ByteArray):ByteArray:=(valOf rc.props key).getD ⟨#[]⟩
def allK (rc:Rcd) (pol:List ByteArray) (j:Nat):List ByteArray:=rc.name :: (pol.take j).map (pvR rc)
def foldK (all:List ByteArray) (q:Nat):List ByteArray:=(all.take q).foldl addI []
theorem allK_len (rc:Rcd) (pol:List ByteArray) {j:Nat} (h:j≤pol.length):(allK rc pol j).length=j+1:=by
 unfold allK
 rw [List.length_cons,List.length_map,List.length_take,Nat.min_eq_left h]
theorem allK_next (rc:Rcd) (pol:List ByteArray) {j:Nat} (h:j < pol.length):allK rc pol (j+1)=allK rc pol j++[pvR rc (pol.getD j default)]:=by
 unfold allK
 rw [List.take_succ_eq_append_getElem h,List.map_append,List.map_singleton,getD_lt pol h,List.cons_append]
theorem allK_fold (rc:Rcd) (pol:List ByteArray) (o:ByteArray) (h:ifaceS o=true):foldK (allK rc pol pol.length++[o]) (allK rc pol pol.length++[o]).length=candM rc pol o:=by
 unfold foldK
 rw [List.take_length,← candR_eq h]
 unfold candR allK
 rw [List.take_length]
 rfl
theorem foldK_next (all:List ByteArray) {k:Nat} (hk:k < all.length):foldK all (k+1)=addI (foldK all k) (all.getD k default):=foldI_snoc all hk
theorem foldK_len (all:List ByteArray) {k:Nat} (h:k≤all.length):(foldK all k).length≤k:=foldI_len all k h
set_option maxHeartbeats 8000000 in
theorem rwishes_pure (l:List Dev) (rs:List Rcd) (pol:List ByteArray) (hl:l.length≤1000) (hz:∀ d ∈ l,d.original.size≤1000) (hr:∀ r ∈ rs,r.ok) (hrl:rs.length≤1000) (hp:pol.length≤900000) (hno:∀ d ∈ l,d.kind=4 → ifaceS d.original=true) (hps:∀ d ∈ l,Fit d.original) :
  PCalls Tryz.prog 20 [.agg (trE l),.c (.sl 12 (rs.map Rcd.d)),.c (.sl 1 (pol.map strD))] [] fun r os=>r = .c (.sl 2 ((wishM l rs pol).map Wsh.d))∧os=[]:=by
 refine pcalls_of Tryz.func20 rfl (by simp [Tryz.ntmps20]) ?_
 rw [Tryz.ntmps20,Tryz.results20]
 push_cast [iO,tN]
 have cB:CutB 18 [103]:=trivial
 repeat' (first|((first|refine pC ?_|refine pQC ?_|refine pU ?_);push_cast [iO,tN])|(refine pif (fun h=>?_) (fun h=>?_)<;>first|exact pN h|push_cast [iO,tN]))
 refine pwp_weak (weak_adopt 7 36 2 (by omega) (by push_cast [iO,tN])) ?_
 push_cast [iO,tN]
 (apply pwp_loop3 (α:=Nat) 18 [103] (fun k=>[(8,.c (.v (.int .i64 k))),(7,.c (.own 1 (wishK l rs pol k).length))]) (fun k=>[(1,.arr 36 2 ((wishK l rs pol k).map Wsh.d))]) (fun k=>k≤l.length) (fun k=>l.length - k) (0);(focus ((try push_cast [iO,tN]);rfl));(focus exact (Nat.zero_le _));(focus ((refine weak_fg ?_;try push_cast [iO,tN]);(try (exact ⟨rfl,rfl⟩)))))
 intro k hk
 push_cast [iO,tN]
 by_cases hlt:k < l.length
 case neg =>
  have hk2:k=l.length:=by omega
  subst hk2
  repeat' (first|((first|refine pC ?_|refine pQC ?_|refine pU ?_);push_cast [iO,tN])|(refine pif (fun h=>?_) (fun h=>?_)<;>first|exact pN h|push_cast [iO,tN]))
  (refine retK_of [] ?_;push_cast [iO,tN])
  all_goals trivial
 obtain ⟨d,hd⟩:∃ d,l.getD k default=d:=⟨_,rfl⟩
 have hdm:d ∈ l:=by rw [← hd];exact getD_mem hlt
 by_cases hkind:d.kind=4
 case neg =>
  have hsk:=wishK_f (rs:=rs) (pol:=pol) hlt (by rw [hd];exact hkind)
  repeat' (first|((first|refine pC ?_|refine pQC ?_|refine pU ?_);push_cast [iO,tN,hd,hkind])|(refine pif (fun h=>?_) (fun h=>?_)<;>first|exact pN h|push_cast [iO,tN,hd,hkind]))
  exact ⟨k+1,by omega,by (refine weak_fg ?_;push_cast [iO,tN,hsk]),by omega⟩
 have hpl:=rplace_pure l d.index hl hz
 have hst:=wishK_t (rs:=rs) (pol:=pol) hlt (by rw [hd];exact hkind)
 rw [hd] at hst
 have hsl:(wishK l rs pol (k+1)).length=(wishK l rs pol k).length+1:=by rw [hst,List.length_append,List.length_singleton]
 have hnl:=wishK_len l rs pol k
 obtain ⟨u,hu⟩:∃ u,wishK l rs pol k=u:=⟨_,rfl⟩
 rw [hu] at hst hsl hnl ⊢
 cases hrec:recO rs d.index with
 | none =>
  have hro:=rof_none rs d.index hrec (by omega)
  have hw:wishD l rs pol d=⟨placeM l d.index,[d.name]⟩:=by unfold wishD;rw [hrec]
  rw [hw] at hst
  repeat' (first|((refine plc [] (hpl) ?_ ?_;push_cast [iO,tN,hd,hkind];rintro r os ⟨rfl,rfl⟩;push_cast [iO,tN,hd,hkind]))|((refine plc [] (hro) ?_ ?_;push_cast [iO,tN,hd,hkind];rintro r os ⟨rfl,rfl⟩;push_cast [iO,tN,hd,hkind]))|((first|refine pC ?_|refine pQC ?_|refine pU ?_);push_cast [iO,tN,hd,hkind])|(refine pif (fun h=>?_) (fun h=>?_)<;>first|exact pN h|push_cast [iO,tN,hd,hkind]))
  exact ⟨k+1,by omega,by (refine weak_fg ?_;push_cast [iO,tN,hst,hsl]),by omega⟩
 | some rc =>
  have hro:=rof_some rs d.index rc hrec (by omega)
  have hrm:rc ∈ rs:=List.mem_of_find?_eq_some hrec
  have hrk:=hr rc hrm
  have hw:wishD l rs pol d=⟨placeM l d.index,candM rc pol d.original⟩:=by unfold wishD;rw [hrec]
  rw [hw,← allK_fold rc pol d.original (hno d hdm hkind)] at hst
  repeat' (first|((refine plc [] (hpl) ?_ ?_;push_cast [iO,tN,hd,hkind];rintro r os ⟨rfl,rfl⟩;push_cast [iO,tN,hd,hkind]))|((refine plc [] (hro) ?_ ?_;push_cast [iO,tN,hd,hkind];rintro r os ⟨rfl,rfl⟩;push_cast [iO,tN,hd,hkind]))|(refine hidN 12 ?_)|(refine pwp_seq fun K hK=>?_)|(refine pwp_block ?_)|((first|refine pC ?_|refine pQC ?_|refine pU ?_);push_cast [iO,tN,hd,hkind])|(refine pif (fun h=>?_) (fun h=>?_)<;>first|exact pN h|push_cast [iO,tN,hd,hkind]))
  refine unhid ?_
  refine pwp_cut 18 [103] ?_
  push_cast [iO,tN]
  refine pwp_regionL ?_
  refine pl_run1 (q:=.c (.ptr 4 7)) rfl (by push_cast [iO,tN]) (by push_cast [iO,tN]) ?_
  push_cast [iO,tN]
  refine pl_run1 (q:=.c (.v (.string rc.name))) rfl (by push_cast [iO,tN]) (by push_cast [iO,tN]) ?_
  push_cast [iO,tN]
  refine pl_litown (e:=9) (sz:=1) (l:=[strD rc.name]) rfl (by push_cast [iO,tN]) (by push_cast [iO,tN]) (by decide) (by push_cast [iO,tN]) (by push_cast [iO,tN]) ?_
  push_cast [iO,tN]
  refine pl_of_pops ?_
  push_cast [iO,tN]
  have e0:[strD rc.name]=(allK rc pol 0).map strD:=rfl
  repeat' (first|((first|refine pC ?_|refine pQC ?_|refine pU ?_);push_cast [iO,tN])|(refine pif (fun h=>?_) (fun h=>?_)<;>first|exact pN h|push_cast [iO,tN]))
  (apply pwp_loop3 (α:=Nat) 18 [103] (fun j=>[(14,.c (.v (.int .i64 j))),(13,.c (.own 5 (allK rc pol j).length))]) (fun j=>[(5,.arr 9 1 ((allK rc pol j).map strD))]) (fun j=>j≤pol.length) (fun j=>pol.length - j) (0);(focus ((try push_cast [iO,tN]);rfl));(focus exact (Nat.zero_le _));(focus ((refine weak_fg ?_;try push_cast [iO,tN]);(try (exact ⟨rfl,rfl⟩)))))
  intro j hj
  push_cast [iO,tN]
  have hal:=allK_len rc pol hj
  by_cases hjt:j < pol.length
  ·have hg:=rget03a_pure rc.props (pol.getD j default) (by have:=hrk.props.1;omega)
   have hnx:=allK_next rc pol hjt
   have hal2:=allK_len rc pol (j:=j+1) (by omega)
   obtain ⟨al,hal0⟩:∃ al,allK rc pol j=al:=⟨_,rfl⟩
   rw [hal0] at hal hnx ⊢
   unfold pvR at hnx
   repeat' (first|((refine pwp_cut 18 [103] ?_;apply pwp_drawn_to;(focus kernel_rfl);(focus (simp only [List.length_cons,List.length_nil,Nat.reduceAdd];(repeat' first|((refine plc [] (hg) ?_ ?_;push_cast [iO,tN,  hjt];rintro r os ⟨rfl,rfl⟩;push_cast [iO,tN,  hjt]))|((first|refine pah 0 ?_|refine pah 2 ?_|refine pah 3 ?_|refine pah 4 ?_|refine pah 7 ?_|refine pah 8 ?_|refine pah 9 ?_|refine pah 10 ?_|refine pah 11 ?_);push_cast [iO,tN,  hjt])|(refine pad ?_;first|with_reducible exact weak_cutS 18 [103] _|(refine weak_fg ?_;push_cast [iO,tN,  hjt]))|((first|refine pas [1] ?_|refine pas [5] ?_|refine pas [6] ?_);push_cast [iO,tN,  hjt])|((first|refine pas [1,5] ?_|refine pas [1,6] ?_|refine pas [5,6] ?_);push_cast [iO,tN,  hjt];refine ⟨?_,?_⟩)|((first|refine pas [1,5,6] ?_);push_cast [iO,tN,  hjt];refine ⟨?_,?_,?_⟩));done));push_cast [iO,tN,  hjt]))|((first|refine pC ?_|refine pQC ?_|refine pU ?_);push_cast [iO,tN,hjt])|(refine pif (fun h=>?_) (fun h=>?_)<;>first|exact pN h|push_cast [iO,tN,hjt]))
   exact ⟨j+1,by omega,by (refine weak_fg ?_;push_cast [iO,tN,hnx,hal,hal2]),by omega⟩
  have hj2:j=pol.length:=by omega
  subst hj2
  obtain ⟨al,hal0⟩:∃ al,allK rc pol pol.length=al:=⟨_,rfl⟩
  rw [hal0] at hal hst ⊢
  repeat' (first|((first|refine pC ?_|refine pQC ?_|refine pU ?_);push_cast [iO,tN])|(refine pif (fun h=>?_) (fun h=>?_)<;>first|exact pN h|push_cast [iO,tN]))
  obtain ⟨all,hall⟩:∃ all,al++[d.original]=all:=⟨_,rfl⟩
  have hlen:all.length=al.length+1:=by rw [← hall,List.length_append,List.length_singleton]
  have hmap:List.map strD al++[[D.v (Value.string d.original)]]=all.map strD:=by rw [← hall,List.map_append];rfl
  have hfits:∀ s ∈ all,Fit s:=fun s hs=>by
   rw [← hall,← hal0] at hs
   rcases List.mem_append.1 hs with hs|hs
   ·rcases List.mem_cons.1 hs with rfl|hs
    ·exact hrk.name
    ·obtain ⟨key,_,rfl⟩:=List.mem_map.1 hs
     unfold pvR
     cases hv:valOf rc.props key with
     | none=>decide
     | some v=>exact hrk.props.2 ⟨key,v⟩ (valOf_mem hv)
   ·rw [List.mem_singleton] at hs;rw [hs];exact hps d hdm
  rw [hall] at hst
  refine pwp_weak (weak_adopt_box 3 1 9 1 (by omega) 36 [.v (.string (placeM l d.index)),.v (.slice none 0 0)] rfl rfl) ?_
  push_cast [iO,tN]
  rw [hmap,← hlen]
  (apply pwp_loop3 (α:=Nat) 18 [103] (fun q=>[(17,.c (.v (.int .i64 q)))]) (fun q=>[(3,.box 36 [.v (.string (placeM l d.index)),.own 6 (foldK all q).length]),(6,.arr 9 1 ((foldK all q).map strD))]) (fun q=>q≤all.length) (fun q=>all.length - q) (0);(focus ((try push_cast [iO,tN]);rfl));(focus exact (Nat.zero_le _));(focus ((refine weak_fg ?_;try push_cast [iO,tN]);(try (exact ⟨rfl,rfl⟩)))))
  intro q hq
  push_cast [iO,tN]
  have hfl:=foldK_len all hq
  by_cases hqt:q < all.length
  case neg =>
   have hq2:q=all.length:=by omega
   subst hq2
   refine pwp_weak (weak_frz 6 (by omega)) ?_
   push_cast [iO,tN]
   repeat' (first|((first|refine pC ?_|refine pQC ?_|refine pU ?_);push_cast [iO,tN])|(refine pif (fun h=>?_) (fun h=>?_)<;>first|exact pN h|push_cast [iO,tN]))
   exact ⟨k+1,by omega,by (refine weak_fg ?_;push_cast [iO,tN,hst,hsl]),by omega⟩
  obtain ⟨s,hs⟩:∃ s,all.getD q default=s:=⟨_,rfl⟩
  have hsm:s ∈ all:=by rw [← hs];exact getD_mem hqt
  have hif:=riface_pure s (hfits s hsm)
  have hnx:=foldK_next all hqt
  obtain ⟨f,hf⟩:∃ f,foldK all q=f:=⟨_,rfl⟩
  rw [hs,hf] at hnx
  rw [hf] at hfl ⊢
  have hin:=rin5_pure f s (by omega)
  have hqs:s=all.getD q default:=hs.symm
  cases hI:ifaceS s with
  | false =>
   have h2:foldK all (q+1)=f:=by rw [hnx];unfold addI;rw [hI,if_neg Bool.false_ne_true]
   rw [hI] at hif
   repeat' (first|((refine ql_call2 false rfl rfl (by kernel_rfl) (hif) (fun r os h=>h.1) rfl ?_ ?_;push_cast [iO,tN,hs];refine ql_of_qops ?_;push_cast [iO,tN,hs]))|((refine ql_call2 false rfl rfl (by kernel_rfl) (hin) (fun r os h=>h.1) rfl ?_ ?_;push_cast [iO,tN,hs];refine ql_of_qops ?_;push_cast [iO,tN,hs]))|((first|refine pC ?_|refine pQC ?_|refine pU ?_);push_cast [iO,tN,hs])|(refine pif (fun h=>?_) (fun h=>?_)<;>first|exact pN h|push_cast [iO,tN,hs]))
   exact ⟨q+1,by omega,by (refine weak_fg ?_;push_cast [iO,tN,h2]),by omega⟩
  | true =>
   rw [hI] at hif
   cases hC:inM s f with
   | true =>
    have h2:foldK all (q+1)=f:=by rw [hnx];unfold addI addC;rw [if_pos hI,if_pos hC]
    rw [hC] at hin
    repeat' (first|((refine ql_call2 false rfl rfl (by kernel_rfl) (hif) (fun r os h=>h.1) rfl ?_ ?_;push_cast [iO,tN,hs];refine ql_of_qops ?_;push_cast [iO,tN,hs]))|((refine ql_call2 false rfl rfl (by kernel_rfl) (hin) (fun r os h=>h.1) rfl ?_ ?_;push_cast [iO,tN,hs];refine ql_of_qops ?_;push_cast [iO,tN,hs]))|((first|refine pC ?_|refine pQC ?_|refine pU ?_);push_cast [iO,tN,hs])|(refine pif (fun h=>?_) (fun h=>?_)<;>first|exact pN h|push_cast [iO,tN,hs]))
    exact ⟨q+1,by omega,by (refine weak_fg ?_;push_cast [iO,tN,h2]),by omega⟩
   | false =>
    have h2:foldK all (q+1)=f++[s]:=by rw [hnx];unfold addI addC;rw [if_pos hI,hC,if_neg Bool.false_ne_true]
    rw [hC] at hin
    repeat' (first|((refine ql_call2 false rfl rfl (by kernel_rfl) (hif) (fun r os h=>h.1) rfl ?_ ?_;push_cast [iO,tN,hs];refine ql_of_qops ?_;push_cast [iO,tN,hs]))|((refine ql_call2 false rfl rfl (by kernel_rfl) (hin) (fun r os h=>h.1) rfl ?_ ?_;push_cast [iO,tN,hs];refine ql_of_qops ?_;push_cast [iO,tN,hs]))|(refine hidR 23 ?_)|((first|refine pC ?_|refine pQC ?_|refine pU ?_);push_cast [iO,tN,hs])|(refine pif (fun h=>?_) (fun h=>?_)<;>first|exact pN h|push_cast [iO,tN,hs]))
    refine unhid ?_
    (refine pwp_cut 18 [103] ?_;apply pwp_drawn_to;(focus kernel_rfl);(focus (simp only [List.length_cons,List.length_nil,Nat.reduceAdd];(repeat' first|((first|refine pah 0 ?_|refine pah 2 ?_|refine pah 3 ?_|refine pah 4 ?_|refine pah 8 ?_);push_cast [iO,tN,  hs])|(refine pad ?_;first|with_reducible exact weak_cutS 18 [103] _|(refine weak_fg ?_;push_cast [iO,tN,  hs]))|((first|refine pas [1] ?_|refine pas [5] ?_|refine pas [6] ?_|refine pas [7] ?_|refine pas [9] ?_);push_cast [iO,tN,  hs])|((first|refine pas [1,5] ?_|refine pas [1,6] ?_|refine pas [1,7] ?_|refine pas [1,9] ?_|refine pas [5,6] ?_|refine pas [5,7] ?_|refine pas [5,9] ?_|refine pas [6,7] ?_|refine pas [6,9] ?_|refine pas [7,9] ?_);push_cast [iO,tN,  hs];refine ⟨?_,?_⟩)|((first|refine pas [1,5,6] ?_|refine pas [1,5,7] ?_|refine pas [1,5,9] ?_|refine pas [1,6,7] ?_|refine pas [1,6,9] ?_|refine pas [1,7,9] ?_|refine pas [5,6,7] ?_|refine pas [5,6,9] ?_|refine pas [5,7,9] ?_|refine pas [6,7,9] ?_);push_cast [iO,tN,  hs];refine ⟨?_,?_,?_⟩)|((first|refine pas [1,5,6,7] ?_|refine pas [1,5,6,9] ?_|refine pas [1,5,7,9] ?_|refine pas [1,6,7,9] ?_|refine pas [5,6,7,9] ?_);push_cast [iO,tN,  hs];refine ⟨?_,?_,?_,?_⟩));done));push_cast [iO,tN,  hs])
    repeat' (first|((first|refine pC ?_|refine pQC ?_|refine pU ?_);push_cast [iO,tN])|(refine pif (fun h=>?_) (fun h=>?_)<;>first|exact pN h|push_cast [iO,tN]))
    exact ⟨q+1,by omega,by (refine weak_fg ?_;push_cast [iO,tN,h2]),by omega⟩
end Go.Proofs.YthconflkbeipoaaGreatDoor
