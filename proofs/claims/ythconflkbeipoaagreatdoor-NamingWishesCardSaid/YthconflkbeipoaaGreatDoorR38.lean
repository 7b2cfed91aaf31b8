/- What the program computes, and the plain laws of it, part 38. -/
import Derived.Test.YthconflkbeipoaaGreatDoorR37
namespace Go.Proofs.YthconflkbeipoaaGreatDoor
attribute [local irreducible] PL QL PWPr PCalls Weak RetK Kontr PA
open Go.RowKit
open IntWalk renaming iteOmega → iO, toNatUp → tN
set_option linter.unusedVariables false
set_option linter.unusedSimpArgs false
set_option maxRecDepth 20000
def pvR (rc:Rcd) (key:ByteArray):ByteArray:=(valOf rc.props key).getD ⟨#[]⟩
def allK (rc:Rcd) (pol:List ByteArray) (j:Nat):List ByteArray:=rc.name :: (pol.take j).map (pvR rc)
def foldK (all:List ByteArray) (q:Nat):List ByteArray:=(all.take q).foldl addI []
theorem allK_len (rc:Rcd) (pol:List ByteArray) {j:Nat} (h:j≤pol.length):(allK rc pol j).length=j+1:=by
 unfold allK
 rw [List.length_cons,List.length_map,List.length_take,Nat.min_eq_left h]
theorem allK_next (rc:Rcd) (pol:List ByteArray) {j:Nat} (h:j < pol.length):allK rc pol (j+1)=allK rc pol j++[pvR rc (pol.getD j default)]:=by
 unfold allK
 rw [List.take_succ_eq_append_getElem h,List.map_append,List.map_singleton,getD_lt pol h,List.cons_append]
theorem allK_fold (rc:Rcd) (pol:List ByteArray) (o:ByteArray) (h:ifaceS o=true):foldK (allK rc pol pol.length++[o]) (allK rc pol pol.length++[o]).length=candM rc pol o:=by
 unfold foldK
 rw [List.take_length,← candR_eq h]
 unfold candR allK
 rw [List.take_length]
 rfl
theorem foldK_next (all:List ByteArray) {k:Nat} (hk:k < all.length):foldK all (k+1)=addI (foldK all k) (all.getD k default):=foldI_snoc all hk
theorem foldK_len (all:List ByteArray) {k:Nat} (h:k≤all.length):(foldK all k).length≤k:=foldI_len all k h
set_option maxHeartbeats 8000000 in
theorem rwishes_pure (l:List Dev) (rs:List Rcd) (pol:List ByteArray) (hl:l.length≤1000) (hz:∀ d ∈ l,d.original.size≤1000) (hr:∀ r ∈ rs,r.ok) (hrl:rs.length≤1000) (hp:pol.length≤900000) (hno:∀ d ∈ l,d.kind=4 → ifaceS d.original=true) (hps:∀ d ∈ l,Fit d.original) :
  PCalls Tryz.prog 20 [.agg (trE l),.c (.sl 12 (rs.map Rcd.d)),.c (.sl 1 (pol.map strD))] [] fun r os=>r = .c (.sl 2 ((wishM l rs pol).map Wsh.d))∧os=[]:=by
 refine pcalls_of Tryz.func20 rfl (by simp [Tryz.ntmps20]) ?_
 rw [Tryz.ntmps20,Tryz.results20]
 push_cast [iO,tN]
 have cB:CutB 18 [103]:=trivial
 repeat' (first|((first|refine pC ?_|refine pQC ?_|refine pU ?_);push_cast [iO,tN])|(refine pif (fun h=>?_) (fun h=>?_)<;>first|exact pN h|push_cast [iO,tN]))
 refine pwp_weak (weak_adopt 7 36 2 (by omega) (by push_cast [iO,tN])) ?_
 push_cast [iO,tN]
 (apply pwp_loop3 (α:=Nat) 18 [103] (fun k=>[(8,.c (.v (.int .i64 k))),(7,.c (.own 1 (wishK l rs pol k).length))]) (fun k=>[(1,.arr 36 2 ((wishK l rs pol k).map Wsh.d))]) (fun k=>k≤l.length) (fun k=>l.length - k) (0);(focus ((try push_cast [iO,tN]);rfl));(focus exact (Nat.zero_le _));(focus ((refine weak_fg ?_;try push_cast [iO,tN]);(try (exact ⟨rfl,rfl⟩)))))
 intro k hk
 push_cast [iO,tN]
 by_cases hlt:k < l.length
 case neg =>
  have hk2:k=l.length:=by omega
  subst hk2
  repeat' (first|((first|refine pC ?_|refine pQC ?_|refine pU ?_);push_cast [iO,tN])|(refine pif (fun h=>?_) (fun h=>?_)<;>first|exact pN h|push_cast [iO,tN]))
  (refine retK_of [] ?_;push_cast [iO,tN])
  all_goals trivial
 obtain ⟨d,hd⟩:∃ d,l.getD k default=d:=⟨_,rfl⟩
 have hdm:d ∈ l:=by rw [← hd];exact getD_mem hlt
 by_cases hkind:d.kind=4
 case neg =>
  have hsk:=wishK_f (rs:=rs) (pol:=pol) hlt (by rw [hd];exact hkind)
  repeat' (first|((first|refine pC ?_|refine pQC ?_|refine pU ?_);push_cast [iO,tN,hd,hkind])|(refine pif (fun h=>?_) (fun h=>?_)<;>first|exact pN h|push_cast [iO,tN,hd,hkind]))
  exact ⟨k+1,by omega,by (refine weak_fg ?_;push_cast [iO,tN,hsk]),by omega⟩
 have hpl:=rplace_pure l d.index hl hz
 have hst:=wishK_t (rs:=rs) (pol:=pol) hlt (by rw [hd];exact hkind)
 rw [hd] at hst
 have hsl:(wishK l rs pol (k+1)).length=(wishK l rs pol k).length+1:=by rw [hst,List.length_append,List.length_singleton]
 have hnl:=wishK_len l rs pol k
 obtain ⟨u,hu⟩:∃ u,wishK l rs pol k=u:=⟨_,rfl⟩
 rw [hu] at hst hsl hnl ⊢
 cases hrec:recO rs d.index with
 | none =>
  have hro:=rof_none rs d.index hrec (by omega)
  have hw:wishD l rs pol d=⟨placeM l d.index,[d.name]⟩:=by unfold wishD;rw [hrec]
  rw [hw] at hst
  repeat' (first|((refine plc [] (hpl) ?_ ?_;push_cast [iO,tN,hd,hkind];rintro r os ⟨rfl,rfl⟩;push_cast [iO,tN,hd,hkind]))|((refine plc [] (hro) ?_ ?_;push_cast [iO,tN,hd,hkind];rintro r os ⟨rfl,rfl⟩;push_cast [iO,tN,hd,hkind]))|((first|refine pC ?_|refine pQC ?_|refine pU ?_);push_cast [iO,tN,hd,hkind])|(refine pif (fun h=>?_) (fun h=>?_)<;>first|exact pN h|push_cast [iO,tN,hd,hkind]))
  exact ⟨k+1,by omega,by (refine weak_fg ?_;push_cast [iO,tN,hst,hsl]),by omega⟩
 | some rc =>
  have hro:=rof_some rs d.index rc hrec (by omega)
  have hrm:rc ∈ rs:=List.mem_of_find?_eq_some hrec
  have hrk:=hr rc hrm
  have hw:wishD l rs pol d=⟨placeM l d.index,candM rc pol d.original⟩:=by unfold wishD;rw [hrec]
  rw [hw,← allK_fold rc pol d.original (hno d hdm hkind)] at hst
  repeat' (first|((refine plc [] (hpl) ?_ ?_;push_cast [iO,tN,hd,hkind];rintro r os ⟨rfl,rfl⟩;push_cast [iO,tN,hd,hkind]))|((refine plc [] (hro) ?_ ?_;push_cast [iO,tN,hd,hkind];rintro r os ⟨rfl,rfl⟩;push_cast [iO,tN,hd,hkind]))|(refine hidN 12 ?_)|(refine pwp_seq fun K hK=>?_)|(refine pwp_block ?_)|((first|refine pC ?_|refine pQC ?_|refine pU ?_);push_cast [iO,tN,hd,hkind])|(refine pif (fun h=>?_) (fun h=>?_)<;>first|exact pN h|push_cast [iO,tN,hd,hkind]))
  refine unhid ?_
  refine pwp_cut 18 [103] ?_
  push_cast [iO,tN]
  refine pwp_regionL ?_
  refine pl_run1 (q:=.c (.ptr 4 7)) rfl (by push_cast [iO,tN]) (by push_cast [iO,tN]) ?_
  push_cast [iO,tN]
  refine pl_run1 (q:=.c (.v (.string rc.name))) rfl (by push_cast [iO,tN]) (by push_cast [iO,tN]) ?_
  push_cast [iO,tN]
  refine pl_litown (e:=9) (sz:=1) (l:=[strD rc.name]) rfl (by push_cast [iO,tN]) (by push_cast [iO,tN]) (by decide) (by push_cast [iO,tN]) (by push_cast [iO,tN]) ?_
  push_cast [iO,tN]
  refine pl_of_pops ?_
  push_cast [iO,tN]
  have e0:[strD rc.name]=(allK rc pol 0).map strD:=rfl
  repeat' (first|((first|refine pC ?_|refine pQC ?_|refine pU ?_);push_cast [iO,tN])|(refine pif (fun h=>?_) (fun h=>?_)<;>first|exact pN h|push_cast [iO,tN]))
  (apply pwp_loop3 (α:=Nat) 18 [103] (fun j=>[(14,.c (.v (.int .i64 j))),(13,.c (.own 5 (allK rc pol j).length))]) (fun j=>[(5,.arr 9 1 ((allK rc pol j).map strD))]) (fun j=>j≤pol.length) (fun j=>pol.length - j) (0);(focus ((try push_cast [iO,tN]);rfl));(focus exact (Nat.zero_le _));(focus ((refine weak_fg ?_;try push_cast [iO,tN]);(try (exact ⟨rfl,rfl⟩)))))
  intro j hj
  push_cast [iO,tN]
  have hal:=allK_len rc pol hj
  by_cases hjt:j < pol.length
  ·have hg:=rget03a_pure rc.props (pol.getD j default) (by have:=hrk.props.1;omega)
   have hnx:=allK_next rc pol hjt
   have hal2:=allK_len rc pol (j:=j+1) (by omega)
   obtain ⟨al,hal0⟩:∃ al,allK rc pol j=al:=⟨_,rfl⟩
   rw [hal0] at hal hnx ⊢
   unfold pvR at hnx
   repeat' (first|((refine pwp_cut 18 [103] ?_;apply pwp_drawn_to;(focus kernel_rfl);(focus (simp only [List.length_cons,List.length_nil,Nat.reduceAdd];(repeat' first|((refine plc [] (hg) ?_ ?_;push_cast [iO,tN,  hjt];rintro r os ⟨rfl,rfl⟩;push_cast [iO,tN,  hjt]))|((first|refine pah 0 ?_|refine pah 2 ?_|refine pah 3 ?_|refine pah 4 ?_|refine pah 7 ?_|refine pah 8 ?_|refine pah 9 ?_|refine pah 10 ?_|refine pah 11 ?_);push_cast [iO,tN,  hjt])|(refine pad ?_;first|with_reducible exact weak_cutS 18 [103] _|(refine weak_fg ?_;push_cast [iO,tN,  hjt]))|((first|refine pas [1] ?_|refine pas [5] ?_|refine pas [6] ?_);push_cast [iO,tN,  hjt])|((first|refine pas [1,5] ?_|refine pas [1,6] ?_|refine pas [5,6] ?_);push_cast [iO,tN,  hjt];refine ⟨?_,?_⟩)|((first|refine pas [1,5,6] ?_);push_cast [iO,tN,  hjt];refine ⟨?_,?_,?_⟩));done));push_cast [iO,tN,  hjt]))|((first|refine pC ?_|refine pQC ?_|refine pU ?_);push_cast [iO,tN,hjt])|(refine pif (fun h=>?_) (fun h=>?_)<;>first|exact pN h|push_cast [iO,tN,hjt]))
   exact ⟨j+1,by omega,by (refine weak_fg ?_;push_cast [iO,tN,hnx,hal,hal2]),by omega⟩
  have hj2:j=pol.length:=by omega
  subst hj2
  obtain ⟨al,hal0⟩:∃ al,allK rc pol pol.length=al:=⟨_,rfl⟩
  rw [hal0] at hal hst ⊢
  repeat' (first|((first|refine pC ?_|refine pQC ?_|refine pU ?_);push_cast [iO,tN])|(refine pif (fun h=>?_) (fun h=>?_)<;>first|exact pN h|push_cast [iO,tN]))
  obtain ⟨all,hall⟩:∃ all,al++[d.original]=all:=⟨_,rfl⟩
  have hlen:all.length=al.length+1:=by rw [← hall,List.length_append,List.length_singleton]
  have hmap:List.map strD al++[[D.v (Value.string d.original)]]=all.map strD:=by rw [← hall,List.map_append];rfl
  have hfits:∀ s ∈ all,Fit s:=fun s hs=>by
   rw [← hall,← hal0] at hs
   rcases List.mem_append.1 hs with hs|hs
   ·rcases List.mem_cons.1 hs with rfl|hs
    ·exact hrk.name
    ·obtain ⟨key,_,rfl⟩:=List.mem_map.1 hs
     unfold pvR
     cases hv:valOf rc.props key with
     | none=>decide
     | some v=>exact hrk.props.2 ⟨key,v⟩ (valOf_mem hv)
   ·rw [List.mem_singleton] at hs;rw [hs];exact hps d hdm
  rw [hall] at hst
  refine pwp_weak (weak_adopt_box 3 1 9 1 (by omega) 36 [.v (.string (placeM l d.index)),.v (.slice none 0 0)] rfl rfl) ?_
  push_cast [iO,tN]
  rw [hmap,← hlen]
  (apply pwp_loop3 (α:=Nat) 18 [103] (fun q=>[(17,.c (.v (.int .i64 q)))]) (fun q=>[(3,.box 36 [.v (.string (placeM l d.index)),.own 6 (foldK all q).length]),(6,.arr 9 1 ((foldK all q).map strD))]) (fun q=>q≤all.length) (fun q=>all.length - q) (0);(focus ((try push_cast [iO,tN]);rfl));(focus exact (Nat.zero_le _));(focus ((refine weak_fg ?_;try push_cast [iO,tN]);(try (exact ⟨rfl,rfl⟩)))))
  intro q hq
  push_cast [iO,tN]
  have hfl:=foldK_len all hq
  by_cases hqt:q < all.length
  case neg =>
   have hq2:q=all.length:=by omega
   subst hq2
   refine pwp_weak (weak_frz 6 (by omega)) ?_
   push_cast [iO,tN]
   repeat' (first|((first|refine pC ?_|refine pQC ?_|refine pU ?_);push_cast [iO,tN])|(refine pif (fun h=>?_) (fun h=>?_)<;>first|exact pN h|push_cast [iO,tN]))
   exact ⟨k+1,by omega,by (refine weak_fg ?_;push_cast [iO,tN,hst,hsl]),by omega⟩
  obtain ⟨s,hs⟩:∃ s,all.getD q default=s:=⟨_,rfl⟩
  have hsm:s ∈ all:=by rw [← hs];exact getD_mem hqt
  have hif:=riface_pure s (hfits s hsm)
  have hnx:=foldK_next all hqt
  obtain ⟨f,hf⟩:∃ f,foldK all q=f:=⟨_,rfl⟩
  rw [hs,hf] at hnx
  rw [hf] at hfl ⊢
  have hin:=rin5_pure f s (by omega)
  have hqs:s=all.getD q default:=hs.symm
  cases hI:ifaceS s with
  | false =>
   have h2:foldK all (q+1)=f:=by rw [hnx];unfold addI;rw [hI,if_neg Bool.false_ne_true]
   rw [hI] at hif
   repeat' (first|((refine ql_call2 false rfl rfl (by kernel_rfl) (hif) (fun r os h=>h.1) rfl ?_ ?_;push_cast [iO,tN,hs];refine ql_of_qops ?_;push_cast [iO,tN,hs]))|((refine ql_call2 false rfl rfl (by kernel_rfl) (hin) (fun r os h=>h.1) rfl ?_ ?_;push_cast [iO,tN,hs];refine ql_of_qops ?_;push_cast [iO,tN,hs]))|((first|refine pC ?_|refine pQC ?_|refine pU ?_);push_cast [iO,tN,hs])|(refine pif (fun h=>?_) (fun h=>?_)<;>first|exact pN h|push_cast [iO,tN,hs]))
   exact ⟨q+1,by omega,by (refine weak_fg ?_;push_cast [iO,tN,h2]),by omega⟩
  | true =>
   rw [hI] at hif
   cases hC:inM s f with
   | true =>
    have h2:foldK all (q+1)=f:=by rw [hnx];unfold addI addC;rw [if_pos hI,if_pos hC]
    rw [hC] at hin
    repeat' (first|((refine ql_call2 false rfl rfl (by kernel_rfl) (hif) (fun r os h=>h.1) rfl ?_ ?_;push_cast [iO,tN,hs];refine ql_of_qops ?_;push_cast [iO,tN,hs]))|((refine ql_call2 false rfl rfl (by kernel_rfl) (hin) (fun r os h=>h.1) rfl ?_ ?_;push_cast [iO,tN,hs];refine ql_of_qops ?_;push_cast [iO,tN,hs]))|((first|refine pC ?_|refine pQC ?_|refine pU ?_);push_cast [iO,tN,hs])|(refine pif (fun h=>?_) (fun h=>?_)<;>first|exact pN h|push_cast [iO,tN,hs]))
    exact ⟨q+1,by omega,by (refine weak_fg ?_;push_cast [iO,tN,h2]),by omega⟩
   | false =>
    have h2:foldK all (q+1)=f++[s]:=by rw [hnx];unfold addI addC;rw [if_pos hI,hC,if_neg Bool.false_ne_true]
    rw [hC] at hin
    repeat' (first|((refine ql_call2 false rfl rfl (by kernel_rfl) (hif) (fun r os h=>h.1) rfl ?_ ?_;push_cast [iO,tN,hs];refine ql_of_qops ?_;push_cast [iO,tN,hs]))|((refine ql_call2 false rfl rfl (by kernel_rfl) (hin) (fun r os h=>h.1) rfl ?_ ?_;push_cast [iO,tN,hs];refine ql_of_qops ?_;push_cast [iO,tN,hs]))|(refine hidR 23 ?_)|((first|refine pC ?_|refine pQC ?_|refine pU ?_);push_cast [iO,tN,hs])|(refine pif (fun h=>?_) (fun h=>?_)<;>first|exact pN h|push_cast [iO,tN,hs]))
    refine unhid ?_
    (refine pwp_cut 18 [103] ?_;apply pwp_drawn_to;(focus kernel_rfl);(focus (simp only [List.length_cons,List.length_nil,Nat.reduceAdd];(repeat' first|((first|refine pah 0 ?_|refine pah 2 ?_|refine pah 3 ?_|refine pah 4 ?_|refine pah 8 ?_);push_cast [iO,tN,  hs])|(refine pad ?_;first|with_reducible exact weak_cutS 18 [103] _|(refine weak_fg ?_;push_cast [iO,tN,  hs]))|((first|refine pas [1] ?_|refine pas [5] ?_|refine pas [6] ?_|refine pas [7] ?_|refine pas [9] ?_);push_cast [iO,tN,  hs])|((first|refine pas [1,5] ?_|refine pas [1,6] ?_|refine pas [1,7] ?_|refine pas [1,9] ?_|refine pas [5,6] ?_|refine pas [5,7] ?_|refine pas [5,9] ?_|refine pas [6,7] ?_|refine pas [6,9] ?_|refine pas [7,9] ?_);push_cast [iO,tN,  hs];refine ⟨?_,?_⟩)|((first|refine pas [1,5,6] ?_|refine pas [1,5,7] ?_|refine pas [1,5,9] ?_|refine pas [1,6,7] ?_|refine pas [1,6,9] ?_|refine pas [1,7,9] ?_|refine pas [5,6,7] ?_|refine pas [5,6,9] ?_|refine pas [5,7,9] ?_|refine pas [6,7,9] ?_);push_cast [iO,tN,  hs];refine ⟨?_,?_,?_⟩)|((first|refine pas [1,5,6,7] ?_|refine pas [1,5,6,9] ?_|refine pas [1,5,7,9] ?_|refine pas [1,6,7,9] ?_|refine pas [5,6,7,9] ?_);push_cast [iO,tN,  hs];refine ⟨?_,?_,?_,?_⟩));done));push_cast [iO,tN,  hs])
    repeat' (first|((first|refine pC ?_|refine pQC ?_|refine pU ?_);push_cast [iO,tN])|(refine pif (fun h=>?_) (fun h=>?_)<;>first|exact pN h|push_cast [iO,tN]))
    exact ⟨q+1,by omega,by (refine weak_fg ?_;push_cast [iO,tN,h2]),by omega⟩
set_option maxRecDepth 20000
theorem wsh_eq {a b:Wsh} (h1:a.path=b.path) (h2:a.names=b.names):a=b:=by
 cases a;cases b
 simp only at h1 h2
 rw [h1,h2]
theorem take_nx {α:Type} [Inhabited α] {a b:List α} {k:Nat} (h1:k < a.length) (h2:k < b.length) (h:a.take k=b.take k) (e:a.getD k default=b.getD k default):a.take (k+1)=b.take (k+1):=by
 rw [List.take_succ_eq_append_getElem h1,List.take_succ_eq_append_getElem h2,h,← getD_lt a h1,← getD_lt b h2,e]
theorem ne_at {α:Type} [Inhabited α] [DecidableEq α] {a b:List α} {k:Nat} (e:¬ a.getD k default=b.getD k default):decide (a=b)=false:=decide_eq_false fun h=>e (by rw [h])
set_option maxHeartbeats 8000000 in
theorem samewish_pure (a b:List Wsh) (ha:a.length≤1000000) (hb:b.length≤1000000) (han:∀ w ∈ a,w.names.length≤1000000) (hbn:∀ w ∈ b,w.names.length≤1000000) :
  PCalls Tryz.prog 26 [.c (.sl 2 (a.map Wsh.d)),.c (.sl 2 (b.map Wsh.d))] [] fun r os=>r = .c (.v (.bool (decide (a=b))))∧os=[]:=by
 refine pcalls_of Tryz.func26 rfl (by simp [Tryz.ntmps26]) ?_
 rw [Tryz.ntmps26,Tryz.results26]
 push_cast [iO,tN]
 have cB:CutB 7 []:=trivial
 by_cases hl:a.length=b.length
 case neg =>
  have hn:decide (a=b)=false:=decide_eq_false fun e=>hl (by rw [e])
  have hl2:¬ (a.length:Int)=(b.length:Int):=by omega
  repeat' (first|((first|refine pC ?_|refine pQC ?_|refine pU ?_);push_cast [iO,tN,hl,hl2])|(refine pif (fun h=>?_) (fun h=>?_)<;>first|exact pN h|push_cast [iO,tN,hl,hl2]))
  (refine retK_of [] ?_;push_cast [iO,tN,hn])
 have hl2:(a.length:Int)=(b.length:Int):=by omega
 repeat' (first|((first|refine pC ?_|refine pQC ?_|refine pU ?_);push_cast [iO,tN,hl,hl2])|(refine pif (fun h=>?_) (fun h=>?_)<;>first|exact pN h|push_cast [iO,tN,hl,hl2]))
 (apply pwp_loop3 (α:=Nat) 7 [] (fun k=>[(5,.c (.v (.int .i64 k)))]) (fun k=>[]) (fun k=>k≤a.length∧a.take k=b.take k) (fun k=>a.length - k) (0);(focus ((try push_cast [iO,tN]);rfl));(focus exact ⟨Nat.zero_le _,rfl⟩);(focus ((refine weak_fg ?_;try push_cast [iO,tN]))))
 rintro k ⟨hk,hpre⟩
 push_cast [iO,tN]
 by_cases hlt:k < a.length
 case neg =>
  have he:a=b:=by rw [← List.take_of_length_le (show a.length≤k by omega),← List.take_of_length_le (show b.length≤k by omega)];exact hpre
  have hd:decide (a=b)=true:=decide_eq_true he
  repeat' (first|((first|refine pC ?_|refine pQC ?_|refine pU ?_);push_cast [iO,tN])|(refine pif (fun h=>?_) (fun h=>?_)<;>first|exact pN h|push_cast [iO,tN]))
  (refine retK_of [] ?_;push_cast [iO,tN,hd])
 have hlt':k < b.length:=by omega
 have hna:=han _ (getD_mem hlt)
 have hnb:=hbn _ (getD_mem hlt')
 by_cases h1:(a.getD k default).path=(b.getD k default).path
 case neg =>
  have hn:=ne_at (fun e=>h1 (by rw [e])) (a:=a) (b:=b) (k:=k)
  have g1:((a.getD k default).path≠(b.getD k default).path)=True:=eq_true h1
  repeat' (first|((first|refine pC ?_|refine pQC ?_|refine pU ?_);push_cast [iO,tN,g1,decide_true,if_true,if_false])|(refine pif (fun h=>?_) (fun h=>?_)<;>first|exact pN h|push_cast [iO,tN,g1,decide_true,if_true,if_false]))
  (refine retK_of [] ?_;push_cast [iO,tN,hn])
 by_cases h2:(a.getD k default).names.length=(b.getD k default).names.length
 case neg =>
  have hn:=ne_at (fun e=>h2 (by rw [e])) (a:=a) (b:=b) (k:=k)
  have h2':¬ ((a.getD k default).names.length:Int)=((b.getD k default).names.length:Int):=by omega
  have g1:((b.getD k default).path≠(b.getD k default).path)=False:=by simp
  repeat' (first|((first|refine pC ?_|refine pQC ?_|refine pU ?_);push_cast [iO,tN,h1,g1,h2,h2',decide_false,if_true,if_false])|(refine pif (fun h=>?_) (fun h=>?_)<;>first|exact pN h|push_cast [iO,tN,h1,g1,h2,h2',decide_false,if_true,if_false]))
  (refine retK_of [] ?_;push_cast [iO,tN,hn])
 have h2':((a.getD k default).names.length:Int)=((b.getD k default).names.length:Int):=by omega
 generalize hx:a.getD k default=x at hna h1 h2 h2'
 generalize hy:b.getD k default=y at hnb h1 h2 h2'
 have g1:(y.path≠y.path)=False:=by simp
 repeat' (first|((first|refine pC ?_|refine pQC ?_|refine pU ?_);push_cast [iO,tN,hx,hy,h1,g1,h2,h2',decide_false,if_true,if_false])|(refine pif (fun h=>?_) (fun h=>?_)<;>first|exact pN h|push_cast [iO,tN,hx,hy,h1,g1,h2,h2',decide_false,if_true,if_false]))
 (apply pwp_loop3 (α:=Nat) 7 [] (fun j=>[(6,.c (.v (.int .i64 j)))]) (fun j=>[]) (fun j=>j≤x.names.length∧x.names.take j=y.names.take j) (fun j=>x.names.length - j) (0);(focus ((try push_cast [iO,tN]);rfl));(focus exact ⟨Nat.zero_le _,rfl⟩);(focus ((refine weak_fg ?_;try push_cast [iO,tN]))))
 rintro j ⟨hj,hpj⟩
 push_cast [iO,tN]
 by_cases hjl:j < x.names.length
 case neg =>
  have he:x.names=y.names:=by rw [← List.take_of_length_le (show x.names.length≤j by omega),← List.take_of_length_le (show y.names.length≤j by omega)];exact hpj
  have hxy:a.getD k default=b.getD k default:=by rw [hx,hy];exact wsh_eq h1 he
  repeat' (first|((first|refine pC ?_|refine pQC ?_|refine pU ?_);push_cast [iO,tN,hx,hy])|(refine pif (fun h=>?_) (fun h=>?_)<;>first|exact pN h|push_cast [iO,tN,hx,hy]))
  exact ⟨k+1,⟨by omega,take_nx hlt hlt' hpre hxy⟩,by (refine weak_fg ?_;push_cast [iO,tN]),by omega⟩
 have hjl':j < y.names.length:=by omega
 by_cases h3:x.names.getD j default=y.names.getD j default
 ·repeat' (first|((first|refine pC ?_|refine pQC ?_|refine pU ?_);push_cast [iO,tN,hx,hy,h3])|(refine pif (fun h=>?_) (fun h=>?_)<;>first|exact pN h|push_cast [iO,tN,hx,hy,h3]))
  exact ⟨j+1,⟨by omega,take_nx hjl hjl' hpj h3⟩,by (refine weak_fg ?_;push_cast [iO,tN]),by omega⟩
 ·have hn:=ne_at (fun e=>h3 (by rw [hx,hy] at e;rw [e])) (a:=a) (b:=b) (k:=k)
  repeat' (first|((first|refine pC ?_|refine pQC ?_|refine pU ?_);push_cast [iO,tN,hx,hy,h3])|(refine pif (fun h=>?_) (fun h=>?_)<;>first|exact pN h|push_cast [iO,tN,hx,hy,h3]))
  (refine retK_of [] ?_;push_cast [iO,tN,hn])
set_option maxRecDepth 20000
set_option maxHeartbeats 4000000 in
theorem rpresent_pure (l:List Dev) (hl:l.length≤1000) (hz:∀ d ∈ l,d.original.size≤1000) :
  PCalls Tryz.prog 29 [.agg (trE l)] [] fun r os=>r = .c (.sl 2 ((nowP l).map Atr.d))∧os=[]:=by
 refine pcalls_of Tryz.func29 rfl (by simp [Tryz.ntmps29]) ?_
 rw [Tryz.ntmps29,Tryz.results29]
 push_cast [iO,tN]
 have cB:CutB 6 []:=trivial
 repeat' (first|((first|refine pC ?_|refine pQC ?_|refine pU ?_);push_cast [iO,tN])|(refine pif (fun h=>?_) (fun h=>?_)<;>first|exact pN h|push_cast [iO,tN]))
 refine pwp_weak (weak_adopt 3 33 2 (by omega) (by push_cast [iO,tN])) ?_
 push_cast [iO,tN]
 (apply pwp_loop3 (α:=Nat) 6 [] (fun k=>[(4,.c (.v (.int .i64 k))),(3,.c (.own 1 (nowK l k).length))]) (fun k=>[(1,.arr 33 2 ((nowK l k).map Atr.d))]) (fun k=>k≤l.length) (fun k=>l.length - k) (0);(focus ((try push_cast [iO,tN]);rfl));(focus exact (Nat.zero_le _));(focus ((refine weak_fg ?_;try push_cast [iO,tN]);(try (exact ⟨rfl,rfl⟩)))))
 intro k hk
 push_cast [iO,tN]
 by_cases hlt:k < l.length
 case neg =>
  have hk2:k=l.length:=by omega
  subst hk2
  repeat' (first|((first|refine pC ?_|refine pQC ?_|refine pU ?_);push_cast [iO,tN])|(refine pif (fun h=>?_) (fun h=>?_)<;>first|exact pN h|push_cast [iO,tN]))
  (refine retK_of [] ?_;push_cast [iO,tN])
  all_goals trivial
 obtain ⟨d,hd⟩:∃ d,l.getD k default=d:=⟨_,rfl⟩
 have hnl:=nowK_len l k
 by_cases hkind:d.kind=4
 case neg =>
  have hsk:=nowK_f hlt (by rw [hd];exact hkind)
  repeat' (first|((first|refine pC ?_|refine pQC ?_|refine pU ?_);push_cast [iO,tN,hd,hkind])|(refine pif (fun h=>?_) (fun h=>?_)<;>first|exact pN h|push_cast [iO,tN,hd,hkind]))
  exact ⟨k+1,by omega,by (refine weak_fg ?_;push_cast [iO,tN,hsk]),by omega⟩
 have hpl:=rplace_pure l d.index hl hz
 have hst:=nowK_t hlt (by rw [hd];exact hkind)
 rw [hd] at hst
 replace hst:nowK l (k+1)=nowK l k++[⟨placeM l d.index,d.name⟩]:=hst
 have hsl:(nowK l (k+1)).length=(nowK l k).length+1:=by rw [hst,List.length_append,List.length_singleton]
 obtain ⟨u,hu⟩:∃ u,nowK l k=u:=⟨_,rfl⟩
 rw [hu] at hst hnl hsl ⊢
 repeat' (first|(refine hidR 7 ?_)|((first|refine pC ?_|refine pQC ?_|refine pU ?_);push_cast [iO,tN,hd,hkind])|(refine pif (fun h=>?_) (fun h=>?_)<;>first|exact pN h|push_cast [iO,tN,hd,hkind]))
 refine unhid ?_
 (refine pwp_drawn (by kernel_rfl) ?_;try simp only [List.length_cons,List.length_nil,Nat.reduceAdd];repeat' first|((refine plc [] (hpl) ?_ ?_;push_cast [iO,tN,  hd,hkind];rintro r os ⟨rfl,rfl⟩;push_cast [iO,tN,  hd,hkind]))|(refine pl_app2 (e:=33) (sz:=2) (by':=32) (rows:=u.map Atr.d) (ys:=[[.v (.string (placeM l d.index)),.v (.string d.name)]]) 1 rfl (by push_cast [iO,tN,  hd,hkind]) (by push_cast [iO,tN,  hd,hkind]) (by push_cast [iO,tN,  hd,hkind]) (by push_cast [iO,tN,  hd,hkind]) (by omega) (by push_cast [iO,tN,  hd,hkind]) (by push_cast [iO,tN,  hd,hkind]) (by push_cast [iO,tN,  hd,hkind]) (by push_cast [iO,tN,  hd,hkind]) (by simp) (by push_cast [iO,tN,  hd,hkind];omega) (by push_cast [iO,tN,  hd,hkind];omega) ?_ ?_<;>(refine pl_of_pops ?_;push_cast [iO,tN,  hd,hkind]))|((first|refine pah 0 ?_|refine pah 2 ?_|refine pah 5 ?_|refine pah 7 ?_);push_cast [iO,tN,  hd,hkind])|(refine pad ?_;try push_cast [iO,tN,  hd,hkind])|((first|refine pas [1] ?_|refine pas [3] ?_|refine pas [4] ?_|refine pas [6] ?_|refine pas [8] ?_|refine pas [9] ?_|refine pas [10] ?_);push_cast [iO,tN,  hd,hkind])|((first|refine pas [1,3] ?_|refine pas [1,4] ?_|refine pas [1,6] ?_|refine pas [1,8] ?_|refine pas [1,9] ?_|refine pas [1,10] ?_|refine pas [3,4] ?_|refine pas [3,6] ?_|refine pas [3,8] ?_|refine pas [3,9] ?_|refine pas [3,10] ?_|refine pas [4,6] ?_|refine pas [4,8] ?_|refine pas [4,9] ?_|refine pas [4,10] ?_|refine pas [6,8] ?_|refine pas [6,9] ?_|refine pas [6,10] ?_|refine pas [8,9] ?_|refine pas [8,10] ?_|refine pas [9,10] ?_);push_cast [iO,tN,  hd,hkind];refine ⟨?_,?_⟩)|((first|refine pas [1,3,4] ?_|refine pas [1,3,6] ?_|refine pas [1,3,8] ?_|refine pas [1,3,9] ?_|refine pas [1,3,10] ?_|refine pas [1,4,6] ?_|refine pas [1,4,8] ?_|refine pas [1,4,9] ?_|refine pas [1,4,10] ?_|refine pas [1,6,8] ?_|refine pas [1,6,9] ?_|refine pas [1,6,10] ?_|refine pas [1,8,9] ?_|refine pas [1,8,10] ?_|refine pas [1,9,10] ?_|refine pas [3,4,6] ?_|refine pas [3,4,8] ?_|refine pas [3,4,9] ?_|refine pas [3,4,10] ?_|refine pas [3,6,8] ?_|refine pas [3,6,9] ?_|refine pas [3,6,10] ?_|refine pas [3,8,9] ?_|refine pas [3,8,10] ?_|refine pas [3,9,10] ?_|refine pas [4,6,8] ?_|refine pas [4,6,9] ?_|refine pas [4,6,10] ?_|refine pas [4,8,9] ?_|refine pas [4,8,10] ?_|refine pas [4,9,10] ?_|refine pas [6,8,9] ?_|refine pas [6,8,10] ?_|refine pas [6,9,10] ?_|refine pas [8,9,10] ?_);push_cast [iO,tN,  hd,hkind];refine ⟨?_,?_,?_⟩))
 all_goals first|exact ⟨k+1,by omega,by ((refine weak_fg ?_;push_cast [iO,tN,hst,hsl]);done),by omega⟩|exact ⟨k+1,by omega,by (refine Weak.trans (weak_sw 2 (by omega)) ?_;push_cast [iO,tN];refine Weak.trans (weak_sw 1 (by omega)) ?_;push_cast [iO,tN];(refine weak_fg ?_;push_cast [iO,tN,hst,hsl]);done),by omega⟩
end Go.Proofs.YthconflkbeipoaaGreatDoor
namespace Go.Proofs.YthconflkbeipoaaGreatDoor
open Go.RowKit
open IntWalk renaming iteOmega → iO, toNatUp → tN
set_option linter.unusedVariables false
set_option linter.unusedSimpArgs false
section
variable {P:Program} {N p:Nat} {ops:Array Oper} {rest:List Oper} {o:Oper} {s:S} {K:S → Prop}
theorem pl_makeR {t e:TypeId} {x z:Operand} {by' n sz:Nat} {kx kz:IntKind} {zs:List E} {ds:List D} (ho:o.op = .makeSlice t x z) (hg:gd ops s o.guard=some true) (hd:dstOk N o.dst)
  (hel:elOf P t=some (e,sz)) (hby:bytOf P e=some by') (hz:zerOf P e=some zs) (hzd:toDs zs=some ds) (hzl:ds.length=sz) (h1:0 < sz) (hx:s.ev x=some (.c (.v (.int kx (n:Int))))) (hzz:s.ev z=some (.c (.v (.int kz (n:Int)))))
  (hb1:(by':Int) * n≤281474976710656) (hb2:(n:Int)≤9223372036854775807)
  (hK:PL P N p ops rest (S.put ⟨s.t,s.o++[.arr e sz (List.replicate n ds)]⟩ o.dst (.c (.own s.o.length n))) K):PL P N p ops (o :: rest) s K:=by
 refine pl_heap (q:=.c (.own s.o.length n)) (os:=s.o++[.arr e sz (List.replicate n ds)]) hg (fun Γ a w hA=>?_) (by simp) hd hK
 have hI:=hA.inv
 have hn:=hI.m.n
 obtain ⟨hu,hsz'⟩:=el_run hel
 obtain ⟨ie,zv,hie,hzv,hzr⟩:=zer_ok hz
 have hies:ie.size=sz:=by obtain ⟨i',hi',e'⟩:=Option.map_eq_some_iff.1 hsz';rw [hie] at hi';cases hi';exact e'
 have hieb:ie.bytes=by':=by
  obtain ⟨i',hi',e'⟩:=Option.map_eq_some_iff.1 (show (P.info? e).map (·.bytes)=some by' from hby);rw [hie] at hi';cases hi';exact e'
 have hrow:All2 (RD w Γ.I) ds zv.cells.toList:=(toDs_ok hzd (hzr w Γ)).1
 have hzsz:zv.cells.size=sz:=by rw [← Array.length_toList,← hrow.length,hzl]
 have hxv:a.eval x = .int kx (n:Int):=(S.ev_ok hx hI).1
 have hzv2:a.eval z = .int kz (n:Int):=(S.ev_ok hzz hI).1
 have hr:=run_make (P:=P) w t e ie zv hu hie hzv kx kz n n (by omega) (Int.le_refl _) (by rw [hieb];exact hb1) hb2
 simp only [Int.toNat_natCast,hies] at hr
 obtain ⟨xs,hxs⟩:∃ xs,madeCells zv.cells (n * sz)=xs:=⟨_,rfl⟩
 have hxl:xs.toList=(List.replicate n zv.cells.toList).flatten:=by
  rw [← zero_cells (z:=zv.cells.toList) n,← hxs,Array.toArray_toList]
  unfold madeCells Builtin.zeroCells
  rw [hzsz]
 have hfl:∀ m:Nat,(List.replicate m ds).flatten.length=m * sz:=fun m=>by
  induction m with
  | zero=>simp
  | succ m ih=>rw [List.replicate_succ,List.flatten_cons,List.length_append,ih,hzl,Nat.succ_mul];omega
 have hall:∀ m:Nat,All2 (RD w Γ.I) (List.replicate m ds).flatten (List.replicate m zv.cells.toList).flatten:=fun m=>by
  induction m with
  | zero=>trivial
  | succ m ih=>rw [List.replicate_succ,List.replicate_succ,List.flatten_cons,List.flatten_cons];exact hrow.append ih
 have hxz:xs.size=n * sz:=by rw [← Array.length_toList,hxl,← (hall n).length,hfl]
 rw [hxs] at hr
 have hE:Ext No w (w.alloc (.cells xs e)):=(Ext.refl No w).alloc _
 have hS:=Same.of_ext hE
 have hag:=push_agree Γ w.heap.size n
 have hrun:(execOp a.eval o).run P w = .ok (.value (.slice (some ⟨w.heap.size,0,none⟩) n n)) (w.alloc (.cells xs e)):=by
  simp only [execOp,ho,hxv,hzv2,Sem.run_bind,hr,Result.andThen_ok,Sem.run_pure]
 have hm:MemOk (Γ.push w.heap.size n) (s.o++[.arr e sz (List.replicate n ds)]) (w.alloc (.cells xs e)):=by
  refine hI.m.push hS _ _ _ ⟨fun r hr=>by rw [List.mem_replicate] at hr;rw [hr.2];exact hzl,h1,fun h=>?_,fun _=>⟨xs,?_,?_,?_,?_,?_⟩⟩ (fun _=>Nat.le_refl _)
  ·simp only [G.push,upd_same] at h;subst h;rfl
  ·simp only [G.push,upd_same];exact Blk.new w e xs
  ·simp only [G.push,upd_same];exact hxz
  ·simp only [G.push,upd_same,List.length_replicate];exact Nat.le_refl _
  ·simp only [G.push,upd_same,maxLen];omega
  ·rw [List.length_replicate,hxl,List.take_of_length_le (by rw [← (hall n).length,hfl];exact Nat.le_refl _)]
   exact (hall n).mono fun _ _=>RD.stay (hS.stay Γ.I) _ _
 refine ⟨_,_,Γ.push w.heap.size n,.inl hrun,⟨by simp [G.push,hn],?_⟩,hI.heap hm (hS.stay Γ.I) hag,grow_push hI.m hE _ _ (fun _=>Nat.le_refl _) hA.le⟩
 unfold OwnRep
 by_cases h0:n=0
 ·subst h0
  exact .inl ⟨by simp only [G.push,← hn,upd_same],⟨_,rfl⟩,rfl⟩
 ·refine .inr ⟨?_,?_,?_⟩
  ·simp only [G.push,← hn,upd_same];omega
  ·simp only [G.push,← hn,upd_same]
  ·simp only [G.push,← hn,upd_same];exact Nat.le_refl _
end
end Go.Proofs.YthconflkbeipoaaGreatDoor
