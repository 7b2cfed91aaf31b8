/- What the program computes, and the plain laws of it, part 21. -/
import Derived.Test.YthhfpcbpiphfiaaGreatDoorR18
namespace Go.Proofs.YthhfpcbpiphfiaaGreatDoor
attribute [local irreducible] PL QL PWPr PCalls Weak RetK Kontr PA
open Go.RowKit
open IntWalk renaming iteOmega → iO, toNatUp → tN
set_option linter.unusedVariables false
set_option linter.unusedSimpArgs false
set_option maxRecDepth 20000
def pre1 (p:ByteArray) (i:Nat) (c:UInt8):Bool:=decide (i < p.size) && (byt p i == c)
theorem pre1_not (p:ByteArray) (i:Nat):notQ p i=pre1 p i 33:=rfl
theorem sub_list (p:ByteArray) (i:Nat):(p.extract i p.size).data.toList=p.data.toList.drop i:=by
 rw [ByteArray.data_extract,Array.toList_extract,List.extract_eq_take_drop];exact List.take_of_length_le (by rw [List.length_drop];exact Nat.le_refl _)
theorem pre1_has (p:ByteArray) (i:Nat) (c:UInt8):Lib.hasPrefix (p.extract i p.size).data.toList (⟨#[c]⟩:ByteArray).data.toList=pre1 p i c:=by
 rw [sub_list]
 unfold pre1 byt
 by_cases h:i < p.size
 ·have h':i < p.data.toList.length:=h
  rw [List.drop_eq_getElem_cons h',decide_eq_true h,Bool.true_and,List.getD_eq_getElem?_getD,List.getElem?_eq_getElem h']
  show Lib.hasPrefix (p.data.toList[i] :: p.data.toList.drop (i+1)) [c]=_
  have e:∀ (x:UInt8) (l:List UInt8),Lib.hasPrefix (x :: l) [c]=(x == c):=fun x l=>by
   show (c == x && true)=(x == c)
   rw [Bool.and_true];exact Bool.beq_comm
  exact e _ _
 ·have h':p.data.toList.length≤i:=by have:p.data.toList.length=p.size:=rfl;omega
  rw [List.drop_eq_nil_of_le h',decide_eq_false h]
  show Lib.hasPrefix [] [c]=_
  simp [Lib.hasPrefix]
theorem hasp1 (p:ByteArray) (i:Nat) (c:UInt8):PCalls Tryz.prog 85 [.c (.v (.string (p.extract i p.size))),.c (.v (.string (⟨#[c]⟩)))] [] fun r os=>r = .c (.v (.bool (pre1 p i c)))∧os=[]:=by
 have:=hasp_pure (p.extract i p.size) ⟨#[c]⟩
 rw [pre1_has] at this
 exact this
set_option maxRecDepth 20000 in
set_option maxHeartbeats 4000000 in
theorem bset_pure (p:ByteArray) (i:Nat) (hi:i≤p.size) (hp:p.size≤1000000) (hb:∀ k,byt p k≤126) :
  PCalls Tryz.prog 67 [.c (.ptr 0 0)] [.box 107 (rdE p i)] fun r os =>
   match bsetM p i with
   | none=>r = .two (.agg (noneS.map boolE)) (.c (.v (.bool false)))∧∃ j:Nat,os=[.box 107 (rdE p j)]
   | some q=>r = .two (.agg (q.1.map boolE)) (.c (.v (.bool true)))∧os=[.box 107 (rdE p q.2)]:=by
 have he:=every_pure
 have hn0:=hasp1 p i 33
 rw [← pre1_not] at hn0
 refine pcalls_of Tryz.func67 rfl (by simp [Tryz.ntmps67]) ?_
 rw [Tryz.ntmps67,Tryz.results67]
 push_cast [-List.reduceReplicate,iO,tN]
 have cB:CutB 9 [64,90]:=trivial
 cases hnq:notQ p i
 case false =>
  rw [hnq] at hn0
  obtain ⟨J,hJ⟩:∃ J,setJ p i=J:=⟨_,rfl⟩
  have hiJ:J=i:=by rw [← hJ];unfold setJ;rw [hnq];rfl
  have hJs:J≤p.size:=by omega
  have hiJ':(i:Int)=(J:Int):=by omega
  repeat' (first |  ((refine ql_call2 false rfl rfl (by kernel_rfl) (hn0) (fun r os h=>h.1) rfl ?_ ?_;push_cast [-List.reduceReplicate,iO,tN];refine ql_of_qops ?_;push_cast [-List.reduceReplicate,iO,tN]))  | ((first|refine pC ?_|refine pQC ?_|refine pU ?_);push_cast [-List.reduceReplicate,iO,tN])|(refine pif (fun h=>?_) (fun h=>?_)<;>first|exact pN h|push_cast [-List.reduceReplicate,iO,tN]))
  (apply pwp_loop3 (α:=Nat × List Bool) 9 [64,90] (fun x=>[(6,.c (.v (.int .i64 J)))]) (fun x=>[(0,.box 107 (rdE p x.1)),(2,.box 115 (x.2.map boolE))]) (fun x=>J≤x.1∧x.1≤p.size∧x.2.length=127∧bsetGo p J noneS=bsetGo p x.1 x.2∧(J < x.1 → byt p J≠93)) (fun x=>p.size - x.1) ((J,noneS));(focus ((try push_cast [-List.reduceReplicate,iO,tN]);rfl));(focus exact ⟨by omega,hJs,rfl,rfl,fun h=>absurd h (by simp)⟩);(focus ((refine weak_fg ?_;try push_cast [-List.reduceReplicate,iO,tN]);(try (exact ⟨hiJ',hiJ',leEs_refl _⟩)))))
  rintro ⟨j,cs⟩ ⟨h1,h2,h3,h4,h5⟩
  simp only at h1 h2 h3 h4 h5 ⊢
  push_cast [-List.reduceReplicate,iO,tN]
  have hpj:=hasp1 p j 93
  by_cases hjJ:j=J
  case pos =>
   have hcJ:((j:Int)=(J:Int))=True:=eq_true (by omega)
   by_cases h93:byt p j=93
   case pos =>
    have hR:bsetM p i=none:=by unfold bsetM;rw [hJ,if_pos (.inr (hjJ ▸ h93))]
    by_cases hs:p.size≤j
    ·have e:byt p j=0:=by unfold byt;rw [List.getD_eq_getElem?_getD,List.getElem?_eq_none hs];rfl
     rw [e] at h93;cases h93
    have hp1:pre1 p j 93=true:=by unfold pre1;rw [decide_eq_true (by omega),h93];rfl
    rw [hp1] at hpj
    repeat' (first|((refine pwp_cut 9 [64,90] ?_;apply pwp_drawn_to;(focus kernel_rfl);(focus (simp only [List.length_cons,List.length_nil,Nat.reduceAdd];(repeat' first|(refine plc [] (hpj) ?_ ?_;push_cast [-List.reduceReplicate,iO,tN,hcJ];rintro r os ⟨rfl,rfl⟩;push_cast [-List.reduceReplicate,iO,tN,hcJ])|((first|refine pah 0 ?_|refine pah 1 ?_|refine pah 2 ?_|refine pah 4 ?_|refine pah 5 ?_|refine pah 6 ?_|refine pah 8 ?_|refine pah 10 ?_|refine pah 11 ?_|refine pah 13 ?_|refine pah 14 ?_);push_cast [-List.reduceReplicate,iO,tN,hcJ])|(refine pad ?_;first|with_reducible exact weak_cutS 9 [64,90] _|(refine weak_fg ?_;push_cast [-List.reduceReplicate,iO,tN,hcJ]))|((first|refine pas [3] ?_|refine pas [7] ?_|refine pas [9] ?_|refine pas [12] ?_);push_cast [-List.reduceReplicate,iO,tN,hcJ])|((first|refine pas [3,7] ?_);push_cast [-List.reduceReplicate,iO,tN,hcJ];refine ⟨?_,?_⟩));done));push_cast [-List.reduceReplicate,iO,tN,hcJ]))|((refine ql_call2 false rfl rfl (by kernel_rfl) (hpj) (fun r os h=>h.1) rfl ?_ ?_;push_cast [-List.reduceReplicate,iO,tN,hcJ];refine ql_of_qops ?_;push_cast [-List.reduceReplicate,iO,tN,hcJ]))|((first|refine pC ?_|refine pQC ?_|refine pU ?_);push_cast [-List.reduceReplicate,iO,tN,hcJ])|(refine pif (fun h=>?_) (fun h=>?_)<;>first|exact pN h|push_cast [-List.reduceReplicate,iO,tN,hcJ]))
    (refine retK_of [0] ?_;push_cast [-List.reduceReplicate,iO,tN,hR])
    exact ⟨_,_,leP_refl _,leOs_refl _,by rw [noneS_rep],_,rfl⟩
   by_cases hs:p.size≤j
   case pos =>
    have hp0:pre1 p j 93=false:=by unfold pre1;rw [decide_eq_false (by omega)];rfl
    have hR:bsetM p i=none:=by
     unfold bsetM;rw [hJ]
     by_cases hq:p.size≤J∨byt p J=93
     ·rw [if_pos hq]
     ·rw [if_neg hq,h4,bsetGo,dif_pos hs]
    rw [hp0] at hpj
    have hm:=member_none p j cs (by omega) hp
    repeat' (first|((refine pwp_cut 9 [64,90] ?_;apply pwp_drawn_to;(focus kernel_rfl);(focus (simp only [List.length_cons,List.length_nil,Nat.reduceAdd];(repeat' first|(refine plc [] (hpj) ?_ ?_;push_cast [-List.reduceReplicate,iO,tN,hcJ];rintro r os ⟨rfl,rfl⟩;push_cast [-List.reduceReplicate,iO,tN,hcJ])|(refine plc [0,2] (hm) ?_ ?_;push_cast [-List.reduceReplicate,iO,tN,hcJ];rintro r os ⟨rfl,rfl⟩;push_cast [-List.reduceReplicate,iO,tN,hcJ])|((first|refine pah 0 ?_|refine pah 1 ?_|refine pah 2 ?_|refine pah 4 ?_|refine pah 5 ?_|refine pah 6 ?_|refine pah 8 ?_|refine pah 10 ?_|refine pah 11 ?_|refine pah 13 ?_|refine pah 14 ?_);push_cast [-List.reduceReplicate,iO,tN,hcJ])|(refine pad ?_;first|with_reducible exact weak_cutS 9 [64,90] _|(refine weak_fg ?_;push_cast [-List.reduceReplicate,iO,tN,hcJ]))|((first|refine pas [3] ?_|refine pas [7] ?_|refine pas [9] ?_|refine pas [12] ?_);push_cast [-List.reduceReplicate,iO,tN,hcJ])|((first|refine pas [3,7] ?_);push_cast [-List.reduceReplicate,iO,tN,hcJ];refine ⟨?_,?_⟩));done));push_cast [-List.reduceReplicate,iO,tN,hcJ]))|((refine ql_call2 false rfl rfl (by kernel_rfl) (hpj) (fun r os h=>h.1) rfl ?_ ?_;push_cast [-List.reduceReplicate,iO,tN,hcJ];refine ql_of_qops ?_;push_cast [-List.reduceReplicate,iO,tN,hcJ]))|((first|refine pC ?_|refine pQC ?_|refine pU ?_);push_cast [-List.reduceReplicate,iO,tN,hcJ])|(refine pif (fun h=>?_) (fun h=>?_)<;>first|exact pN h|push_cast [-List.reduceReplicate,iO,tN,hcJ]))
    (refine retK_of [0] ?_;push_cast [-List.reduceReplicate,iO,tN,hR])
    exact ⟨_,_,leP_refl _,leOs_refl _,by rw [noneS_rep],_,rfl⟩
   have hp0:pre1 p j 93=false:=by unfold pre1;rw [beq_eq_false_iff_ne.2 h93,Bool.and_false]
   rw [hp0] at hpj
   have hm:=member_pure p j cs (by omega) hp h3 hb
   have hml:=memAt_lt p j
   have hmz:=memAt_le (p:=p) (i:=j) (by omega)
   by_cases hle:byt p j≤memTo p j
   case neg =>
    rw [decide_eq_false hle] at hm
    have hR:bsetM p i=none:=by
     unfold bsetM;rw [hJ]
     by_cases hq:p.size≤J∨byt p J=93
     ·rw [if_pos hq]
     ·rw [if_neg hq,h4,bsetGo,dif_neg hs,if_neg h93,if_neg hle]
    repeat' (first|((refine pwp_cut 9 [64,90] ?_;apply pwp_drawn_to;(focus kernel_rfl);(focus (simp only [List.length_cons,List.length_nil,Nat.reduceAdd];(repeat' first|(refine plc [] (hpj) ?_ ?_;push_cast [-List.reduceReplicate,iO,tN,hcJ];rintro r os ⟨rfl,rfl⟩;push_cast [-List.reduceReplicate,iO,tN,hcJ])|(refine plc [0,2] (hm) ?_ ?_;push_cast [-List.reduceReplicate,iO,tN,hcJ];rintro r os ⟨rfl,rfl⟩;push_cast [-List.reduceReplicate,iO,tN,hcJ])|((first|refine pah 0 ?_|refine pah 1 ?_|refine pah 2 ?_|refine pah 4 ?_|refine pah 5 ?_|refine pah 6 ?_|refine pah 8 ?_|refine pah 10 ?_|refine pah 11 ?_|refine pah 13 ?_|refine pah 14 ?_);push_cast [-List.reduceReplicate,iO,tN,hcJ])|(refine pad ?_;first|with_reducible exact weak_cutS 9 [64,90] _|(refine weak_fg ?_;push_cast [-List.reduceReplicate,iO,tN,hcJ]))|((first|refine pas [3] ?_|refine pas [7] ?_|refine pas [9] ?_|refine pas [12] ?_);push_cast [-List.reduceReplicate,iO,tN,hcJ])|((first|refine pas [3,7] ?_);push_cast [-List.reduceReplicate,iO,tN,hcJ];refine ⟨?_,?_⟩));done));push_cast [-List.reduceReplicate,iO,tN,hcJ]))|((refine ql_call2 false rfl rfl (by kernel_rfl) (hpj) (fun r os h=>h.1) rfl ?_ ?_;push_cast [-List.reduceReplicate,iO,tN,hcJ];refine ql_of_qops ?_;push_cast [-List.reduceReplicate,iO,tN,hcJ]))|((first|refine pC ?_|refine pQC ?_|refine pU ?_);push_cast [-List.reduceReplicate,iO,tN,hcJ])|(refine pif (fun h=>?_) (fun h=>?_)<;>first|exact pN h|push_cast [-List.reduceReplicate,iO,tN,hcJ]))
    (refine retK_of [0] ?_;push_cast [-List.reduceReplicate,iO,tN,hR])
    exact ⟨_,_,leP_refl _,leOs_refl _,by rw [noneS_rep],_,rfl⟩
   have hstep:bsetGo p j cs=bsetGo p (memAt p j) (memS p j cs):=by rw [bsetGo,dif_neg hs,if_neg h93,if_pos hle]
   rw [decide_eq_true hle] at hm
   repeat' (first|((refine pwp_cut 9 [64,90] ?_;apply pwp_drawn_to;(focus kernel_rfl);(focus (simp only [List.length_cons,List.length_nil,Nat.reduceAdd];(repeat' first|(refine plc [] (hpj) ?_ ?_;push_cast [-List.reduceReplicate,iO,tN,hcJ];rintro r os ⟨rfl,rfl⟩;push_cast [-List.reduceReplicate,iO,tN,hcJ])|(refine plc [0,2] (hm) ?_ ?_;push_cast [-List.reduceReplicate,iO,tN,hcJ];rintro r os ⟨rfl,rfl⟩;push_cast [-List.reduceReplicate,iO,tN,hcJ])|((first|refine pah 0 ?_|refine pah 1 ?_|refine pah 2 ?_|refine pah 4 ?_|refine pah 5 ?_|refine pah 6 ?_|refine pah 8 ?_|refine pah 10 ?_|refine pah 11 ?_|refine pah 13 ?_|refine pah 14 ?_);push_cast [-List.reduceReplicate,iO,tN,hcJ])|(refine pad ?_;first|with_reducible exact weak_cutS 9 [64,90] _|(refine weak_fg ?_;push_cast [-List.reduceReplicate,iO,tN,hcJ]))|((first|refine pas [3] ?_|refine pas [7] ?_|refine pas [9] ?_|refine pas [12] ?_);push_cast [-List.reduceReplicate,iO,tN,hcJ])|((first|refine pas [3,7] ?_);push_cast [-List.reduceReplicate,iO,tN,hcJ];refine ⟨?_,?_⟩));done));push_cast [-List.reduceReplicate,iO,tN,hcJ]))|((refine ql_call2 false rfl rfl (by kernel_rfl) (hpj) (fun r os h=>h.1) rfl ?_ ?_;push_cast [-List.reduceReplicate,iO,tN,hcJ];refine ql_of_qops ?_;push_cast [-List.reduceReplicate,iO,tN,hcJ]))|((first|refine pC ?_|refine pQC ?_|refine pU ?_);push_cast [-List.reduceReplicate,iO,tN,hcJ])|(refine pif (fun h=>?_) (fun h=>?_)<;>first|exact pN h|push_cast [-List.reduceReplicate,iO,tN,hcJ]))
   exact ⟨(memAt p j,memS p j cs),⟨by simp only;omega,hmz,by simp only;rw [memS_len,h3],by simp only;rw [h4,hstep],fun _=>by rw [← hjJ];exact h93⟩,by (refine weak_fg ?_;push_cast [-List.reduceReplicate,iO,tN]),by simp only;omega⟩
  have hcJ:((j:Int)=(J:Int))=False:=eq_false (by omega)
  have h5':=h5 (by omega)
  by_cases h93:byt p j=93
  case pos =>
   by_cases hs:p.size≤j
   ·have e:byt p j=0:=by unfold byt;rw [List.getD_eq_getElem?_getD,List.getElem?_eq_none hs];rfl
    rw [e] at h93;cases h93
   have hp1:pre1 p j 93=true:=by unfold pre1;rw [decide_eq_true (by omega),h93];rfl
   rw [hp1] at hpj
   have hR:bsetM p i=some (if notQ p i then notS cs else cs,j+1):=by
    unfold bsetM;rw [hJ,if_neg (by rintro (h|h);omega;exact h5' h),h4,bsetGo,dif_neg hs,if_pos h93]
   rw [hnq] at hR
   have hct:List.take 127 (cs.map boolE)=cs.map boolE:=List.take_of_length_le (by rw [List.length_map,h3];exact Nat.le_refl _)
   have hel:=everyL_len
   repeat' (first|((refine ql_call2 false rfl rfl (by kernel_rfl) (hpj) (fun r os h=>h.1) rfl ?_ ?_;push_cast [-List.reduceReplicate,iO,tN,hcJ,hel];refine ql_of_qops ?_;push_cast [-List.reduceReplicate,iO,tN,hcJ,hel]))|(refine plc [] (he) ?_ ?_;push_cast [-List.reduceReplicate,iO,tN,hcJ,hel];rintro r os ⟨rfl,rfl⟩;push_cast [-List.reduceReplicate,iO,tN,hcJ,hel])|((first|refine pC ?_|refine pQC ?_|refine pU ?_);push_cast [-List.reduceReplicate,iO,tN,hcJ,hel])|(refine pif (fun h=>?_) (fun h=>?_)<;>first|exact pN h|push_cast [-List.reduceReplicate,iO,tN,hcJ,hel]))
   (refine retK_of [0] ?_;push_cast [-List.reduceReplicate,iO,tN,hR,hct])
  by_cases hs:p.size≤j
  case pos =>
   have hp0:pre1 p j 93=false:=by unfold pre1;rw [decide_eq_false (by omega)];rfl
   have hR:bsetM p i=none:=by
    unfold bsetM;rw [hJ]
    by_cases hq:p.size≤J∨byt p J=93
    ·rw [if_pos hq]
    ·rw [if_neg hq,h4,bsetGo,dif_pos hs]
   rw [hp0] at hpj
   have hm:=member_none p j cs (by omega) hp
   repeat' (first|((refine pwp_cut 9 [64,90] ?_;apply pwp_drawn_to;(focus kernel_rfl);(focus (simp only [List.length_cons,List.length_nil,Nat.reduceAdd];(repeat' first|(refine plc [] (hpj) ?_ ?_;push_cast [-List.reduceReplicate,iO,tN,hcJ];rintro r os ⟨rfl,rfl⟩;push_cast [-List.reduceReplicate,iO,tN,hcJ])|(refine plc [0,2] (hm) ?_ ?_;push_cast [-List.reduceReplicate,iO,tN,hcJ];rintro r os ⟨rfl,rfl⟩;push_cast [-List.reduceReplicate,iO,tN,hcJ])|((first|refine pah 0 ?_|refine pah 1 ?_|refine pah 2 ?_|refine pah 4 ?_|refine pah 5 ?_|refine pah 6 ?_|refine pah 8 ?_|refine pah 10 ?_|refine pah 11 ?_|refine pah 13 ?_|refine pah 14 ?_);push_cast [-List.reduceReplicate,iO,tN,hcJ])|(refine pad ?_;first|with_reducible exact weak_cutS 9 [64,90] _|(refine weak_fg ?_;push_cast [-List.reduceReplicate,iO,tN,hcJ]))|((first|refine pas [3] ?_|refine pas [7] ?_|refine pas [9] ?_|refine pas [12] ?_);push_cast [-List.reduceReplicate,iO,tN,hcJ])|((first|refine pas [3,7] ?_);push_cast [-List.reduceReplicate,iO,tN,hcJ];refine ⟨?_,?_⟩));done));push_cast [-List.reduceReplicate,iO,tN,hcJ]))|((refine ql_call2 false rfl rfl (by kernel_rfl) (hpj) (fun r os h=>h.1) rfl ?_ ?_;push_cast [-List.reduceReplicate,iO,tN,hcJ];refine ql_of_qops ?_;push_cast [-List.reduceReplicate,iO,tN,hcJ]))|((first|refine pC ?_|refine pQC ?_|refine pU ?_);push_cast [-List.reduceReplicate,iO,tN,hcJ])|(refine pif (fun h=>?_) (fun h=>?_)<;>first|exact pN h|push_cast [-List.reduceReplicate,iO,tN,hcJ]))
   (refine retK_of [0] ?_;push_cast [-List.reduceReplicate,iO,tN,hR])
   exact ⟨_,_,leP_refl _,leOs_refl _,by rw [noneS_rep],_,rfl⟩
  have hp0:pre1 p j 93=false:=by unfold pre1;rw [beq_eq_false_iff_ne.2 h93,Bool.and_false]
  rw [hp0] at hpj
  have hm:=member_pure p j cs (by omega) hp h3 hb
  have hml:=memAt_lt p j
  have hmz:=memAt_le (p:=p) (i:=j) (by omega)
  by_cases hle:byt p j≤memTo p j
  case neg =>
   rw [decide_eq_false hle] at hm
   have hR:bsetM p i=none:=by
    unfold bsetM;rw [hJ]
    by_cases hq:p.size≤J∨byt p J=93
    ·rw [if_pos hq]
    ·rw [if_neg hq,h4,bsetGo,dif_neg hs,if_neg h93,if_neg hle]
   repeat' (first|((refine pwp_cut 9 [64,90] ?_;apply pwp_drawn_to;(focus kernel_rfl);(focus (simp only [List.length_cons,List.length_nil,Nat.reduceAdd];(repeat' first|(refine plc [] (hpj) ?_ ?_;push_cast [-List.reduceReplicate,iO,tN,hcJ];rintro r os ⟨rfl,rfl⟩;push_cast [-List.reduceReplicate,iO,tN,hcJ])|(refine plc [0,2] (hm) ?_ ?_;push_cast [-List.reduceReplicate,iO,tN,hcJ];rintro r os ⟨rfl,rfl⟩;push_cast [-List.reduceReplicate,iO,tN,hcJ])|((first|refine pah 0 ?_|refine pah 1 ?_|refine pah 2 ?_|refine pah 4 ?_|refine pah 5 ?_|refine pah 6 ?_|refine pah 8 ?_|refine pah 10 ?_|refine pah 11 ?_|refine pah 13 ?_|refine pah 14 ?_);push_cast [-List.reduceReplicate,iO,tN,hcJ])|(refine pad ?_;first|with_reducible exact weak_cutS 9 [64,90] _|(refine weak_fg ?_;push_cast [-List.reduceReplicate,iO,tN,hcJ]))|((first|refine pas [3] ?_|refine pas [7] ?_|refine pas [9] ?_|refine pas [12] ?_);push_cast [-List.reduceReplicate,iO,tN,hcJ])|((first|refine pas [3,7] ?_);push_cast [-List.reduceReplicate,iO,tN,hcJ];refine ⟨?_,?_⟩));done));push_cast [-List.reduceReplicate,iO,tN,hcJ]))|((refine ql_call2 false rfl rfl (by kernel_rfl) (hpj) (fun r os h=>h.1) rfl ?_ ?_;push_cast [-List.reduceReplicate,iO,tN,hcJ];refine ql_of_qops ?_;push_cast [-List.reduceReplicate,iO,tN,hcJ]))|((first|refine pC ?_|refine pQC ?_|refine pU ?_);push_cast [-List.reduceReplicate,iO,tN,hcJ])|(refine pif (fun h=>?_) (fun h=>?_)<;>first|exact pN h|push_cast [-List.reduceReplicate,iO,tN,hcJ]))
   (refine retK_of [0] ?_;push_cast [-List.reduceReplicate,iO,tN,hR])
   exact ⟨_,_,leP_refl _,leOs_refl _,by rw [noneS_rep],_,rfl⟩
  have hstep:bsetGo p j cs=bsetGo p (memAt p j) (memS p j cs):=by rw [bsetGo,dif_neg hs,if_neg h93,if_pos hle]
  rw [decide_eq_true hle] at hm
  repeat' (first|((refine pwp_cut 9 [64,90] ?_;apply pwp_drawn_to;(focus kernel_rfl);(focus (simp only [List.length_cons,List.length_nil,Nat.reduceAdd];(repeat' first|(refine plc [] (hpj) ?_ ?_;push_cast [-List.reduceReplicate,iO,tN,hcJ];rintro r os ⟨rfl,rfl⟩;push_cast [-List.reduceReplicate,iO,tN,hcJ])|(refine plc [0,2] (hm) ?_ ?_;push_cast [-List.reduceReplicate,iO,tN,hcJ];rintro r os ⟨rfl,rfl⟩;push_cast [-List.reduceReplicate,iO,tN,hcJ])|((first|refine pah 0 ?_|refine pah 1 ?_|refine pah 2 ?_|refine pah 4 ?_|refine pah 5 ?_|refine pah 6 ?_|refine pah 8 ?_|refine pah 10 ?_|refine pah 11 ?_|refine pah 13 ?_|refine pah 14 ?_);push_cast [-List.reduceReplicate,iO,tN,hcJ])|(refine pad ?_;first|with_reducible exact weak_cutS 9 [64,90] _|(refine weak_fg ?_;push_cast [-List.reduceReplicate,iO,tN,hcJ]))|((first|refine pas [3] ?_|refine pas [7] ?_|refine pas [9] ?_|refine pas [12] ?_);push_cast [-List.reduceReplicate,iO,tN,hcJ])|((first|refine pas [3,7] ?_);push_cast [-List.reduceReplicate,iO,tN,hcJ];refine ⟨?_,?_⟩));done));push_cast [-List.reduceReplicate,iO,tN,hcJ]))|((refine ql_call2 false rfl rfl (by kernel_rfl) (hpj) (fun r os h=>h.1) rfl ?_ ?_;push_cast [-List.reduceReplicate,iO,tN,hcJ];refine ql_of_qops ?_;push_cast [-List.reduceReplicate,iO,tN,hcJ]))|((first|refine pC ?_|refine pQC ?_|refine pU ?_);push_cast [-List.reduceReplicate,iO,tN,hcJ])|(refine pif (fun h=>?_) (fun h=>?_)<;>first|exact pN h|push_cast [-List.reduceReplicate,iO,tN,hcJ]))
  exact ⟨(memAt p j,memS p j cs),⟨by simp only;omega,hmz,by simp only;rw [memS_len,h3],by simp only;rw [h4,hstep],fun _=>by exact h5'⟩,by (refine weak_fg ?_;push_cast [-List.reduceReplicate,iO,tN]),by simp only;omega⟩
 have hji:i < p.size:=by
  unfold notQ at hnq;rw [Bool.and_eq_true,decide_eq_true_eq] at hnq;exact hnq.1
 obtain ⟨J,hJ⟩:∃ J,setJ p i=J:=⟨_,rfl⟩
 have hiJ:J=i+1:=by rw [← hJ];unfold setJ;rw [hnq];rfl
 have hJs:J≤p.size:=by omega
 have hiJ':(i:Int)+1=(J:Int):=by omega
 rw [hnq] at hn0
 repeat' (first |  ((refine ql_call2 false rfl rfl (by kernel_rfl) (hn0) (fun r os h=>h.1) rfl ?_ ?_;push_cast [-List.reduceReplicate,iO,tN];refine ql_of_qops ?_;push_cast [-List.reduceReplicate,iO,tN]))  | ((first|refine pC ?_|refine pQC ?_|refine pU ?_);push_cast [-List.reduceReplicate,iO,tN])|(refine pif (fun h=>?_) (fun h=>?_)<;>first|exact pN h|push_cast [-List.reduceReplicate,iO,tN]))
 (apply pwp_loop3 (α:=Nat × List Bool) 9 [64,90] (fun x=>[(6,.c (.v (.int .i64 J)))]) (fun x=>[(0,.box 107 (rdE p x.1)),(2,.box 115 (x.2.map boolE))]) (fun x=>J≤x.1∧x.1≤p.size∧x.2.length=127∧bsetGo p J noneS=bsetGo p x.1 x.2∧(J < x.1 → byt p J≠93)) (fun x=>p.size - x.1) ((J,noneS));(focus ((try push_cast [-List.reduceReplicate,iO,tN]);rfl));(focus exact ⟨by omega,hJs,rfl,rfl,fun h=>absurd h (by simp)⟩);(focus ((refine weak_fg ?_;try push_cast [-List.reduceReplicate,iO,tN]);(try (exact ⟨hiJ',hiJ',leEs_refl _⟩)))))
 rintro ⟨j,cs⟩ ⟨h1,h2,h3,h4,h5⟩
 simp only at h1 h2 h3 h4 h5 ⊢
 push_cast [-List.reduceReplicate,iO,tN]
 have hpj:=hasp1 p j 93
 by_cases hjJ:j=J
 case pos =>
  have hcJ:((j:Int)=(J:Int))=True:=eq_true (by omega)
  by_cases h93:byt p j=93
  case pos =>
   have hR:bsetM p i=none:=by unfold bsetM;rw [hJ,if_pos (.inr (hjJ ▸ h93))]
   by_cases hs:p.size≤j
   ·have e:byt p j=0:=by unfold byt;rw [List.getD_eq_getElem?_getD,List.getElem?_eq_none hs];rfl
    rw [e] at h93;cases h93
   have hp1:pre1 p j 93=true:=by unfold pre1;rw [decide_eq_true (by omega),h93];rfl
   rw [hp1] at hpj
   repeat' (first|((refine pwp_cut 9 [64,90] ?_;apply pwp_drawn_to;(focus kernel_rfl);(focus (simp only [List.length_cons,List.length_nil,Nat.reduceAdd];(repeat' first|(refine plc [] (hpj) ?_ ?_;push_cast [-List.reduceReplicate,iO,tN,hcJ];rintro r os ⟨rfl,rfl⟩;push_cast [-List.reduceReplicate,iO,tN,hcJ])|((first|refine pah 0 ?_|refine pah 1 ?_|refine pah 2 ?_|refine pah 4 ?_|refine pah 5 ?_|refine pah 6 ?_|refine pah 8 ?_|refine pah 10 ?_|refine pah 11 ?_|refine pah 13 ?_|refine pah 14 ?_);push_cast [-List.reduceReplicate,iO,tN,hcJ])|(refine pad ?_;first|with_reducible exact weak_cutS 9 [64,90] _|(refine weak_fg ?_;push_cast [-List.reduceReplicate,iO,tN,hcJ]))|((first|refine pas [3] ?_|refine pas [7] ?_|refine pas [9] ?_|refine pas [12] ?_);push_cast [-List.reduceReplicate,iO,tN,hcJ])|((first|refine pas [3,7] ?_);push_cast [-List.reduceReplicate,iO,tN,hcJ];refine ⟨?_,?_⟩));done));push_cast [-List.reduceReplicate,iO,tN,hcJ]))|((refine ql_call2 false rfl rfl (by kernel_rfl) (hpj) (fun r os h=>h.1) rfl ?_ ?_;push_cast [-List.reduceReplicate,iO,tN,hcJ];refine ql_of_qops ?_;push_cast [-List.reduceReplicate,iO,tN,hcJ]))|((first|refine pC ?_|refine pQC ?_|refine pU ?_);push_cast [-List.reduceReplicate,iO,tN,hcJ])|(refine pif (fun h=>?_) (fun h=>?_)<;>first|exact pN h|push_cast [-List.reduceReplicate,iO,tN,hcJ]))
   (refine retK_of [0] ?_;push_cast [-List.reduceReplicate,iO,tN,hR])
   exact ⟨_,_,leP_refl _,leOs_refl _,by rw [noneS_rep],_,rfl⟩
  by_cases hs:p.size≤j
  case pos =>
   have hp0:pre1 p j 93=false:=by unfold pre1;rw [decide_eq_false (by omega)];rfl
   have hR:bsetM p i=none:=by
    unfold bsetM;rw [hJ]
    by_cases hq:p.size≤J∨byt p J=93
    ·rw [if_pos hq]
    ·rw [if_neg hq,h4,bsetGo,dif_pos hs]
   rw [hp0] at hpj
   have hm:=member_none p j cs (by omega) hp
   repeat' (first|((refine pwp_cut 9 [64,90] ?_;apply pwp_drawn_to;(focus kernel_rfl);(focus (simp only [List.length_cons,List.length_nil,Nat.reduceAdd];(repeat' first|(refine plc [] (hpj) ?_ ?_;push_cast [-List.reduceReplicate,iO,tN,hcJ];rintro r os ⟨rfl,rfl⟩;push_cast [-List.reduceReplicate,iO,tN,hcJ])|(refine plc [0,2] (hm) ?_ ?_;push_cast [-List.reduceReplicate,iO,tN,hcJ];rintro r os ⟨rfl,rfl⟩;push_cast [-List.reduceReplicate,iO,tN,hcJ])|((first|refine pah 0 ?_|refine pah 1 ?_|refine pah 2 ?_|refine pah 4 ?_|refine pah 5 ?_|refine pah 6 ?_|refine pah 8 ?_|refine pah 10 ?_|refine pah 11 ?_|refine pah 13 ?_|refine pah 14 ?_);push_cast [-List.reduceReplicate,iO,tN,hcJ])|(refine pad ?_;first|with_reducible exact weak_cutS 9 [64,90] _|(refine weak_fg ?_;push_cast [-List.reduceReplicate,iO,tN,hcJ]))|((first|refine pas [3] ?_|refine pas [7] ?_|refine pas [9] ?_|refine pas [12] ?_);push_cast [-List.reduceReplicate,iO,tN,hcJ])|((first|refine pas [3,7] ?_);push_cast [-List.reduceReplicate,iO,tN,hcJ];refine ⟨?_,?_⟩));done));push_cast [-List.reduceReplicate,iO,tN,hcJ]))|((refine ql_call2 false rfl rfl (by kernel_rfl) (hpj) (fun r os h=>h.1) rfl ?_ ?_;push_cast [-List.reduceReplicate,iO,tN,hcJ];refine ql_of_qops ?_;push_cast [-List.reduceReplicate,iO,tN,hcJ]))|((first|refine pC ?_|refine pQC ?_|refine pU ?_);push_cast [-List.reduceReplicate,iO,tN,hcJ])|(refine pif (fun h=>?_) (fun h=>?_)<;>first|exact pN h|push_cast [-List.reduceReplicate,iO,tN,hcJ]))
   (refine retK_of [0] ?_;push_cast [-List.reduceReplicate,iO,tN,hR])
   exact ⟨_,_,leP_refl _,leOs_refl _,by rw [noneS_rep],_,rfl⟩
  have hp0:pre1 p j 93=false:=by unfold pre1;rw [beq_eq_false_iff_ne.2 h93,Bool.and_false]
  rw [hp0] at hpj
  have hm:=member_pure p j cs (by omega) hp h3 hb
  have hml:=memAt_lt p j
  have hmz:=memAt_le (p:=p) (i:=j) (by omega)
  by_cases hle:byt p j≤memTo p j
  case neg =>
   rw [decide_eq_false hle] at hm
   have hR:bsetM p i=none:=by
    unfold bsetM;rw [hJ]
    by_cases hq:p.size≤J∨byt p J=93
    ·rw [if_pos hq]
    ·rw [if_neg hq,h4,bsetGo,dif_neg hs,if_neg h93,if_neg hle]
   repeat' (first|((refine pwp_cut 9 [64,90] ?_;apply pwp_drawn_to;(focus kernel_rfl);(focus (simp only [List.length_cons,List.length_nil,Nat.reduceAdd];(repeat' first|(refine plc [] (hpj) ?_ ?_;push_cast [-List.reduceReplicate,iO,tN,hcJ];rintro r os ⟨rfl,rfl⟩;push_cast [-List.reduceReplicate,iO,tN,hcJ])|(refine plc [0,2] (hm) ?_ ?_;push_cast [-List.reduceReplicate,iO,tN,hcJ];rintro r os ⟨rfl,rfl⟩;push_cast [-List.reduceReplicate,iO,tN,hcJ])|((first|refine pah 0 ?_|refine pah 1 ?_|refine pah 2 ?_|refine pah 4 ?_|refine pah 5 ?_|refine pah 6 ?_|refine pah 8 ?_|refine pah 10 ?_|refine pah 11 ?_|refine pah 13 ?_|refine pah 14 ?_);push_cast [-List.reduceReplicate,iO,tN,hcJ])|(refine pad ?_;first|with_reducible exact weak_cutS 9 [64,90] _|(refine weak_fg ?_;push_cast [-List.reduceReplicate,iO,tN,hcJ]))|((first|refine pas [3] ?_|refine pas [7] ?_|refine pas [9] ?_|refine pas [12] ?_);push_cast [-List.reduceReplicate,iO,tN,hcJ])|((first|refine pas [3,7] ?_);push_cast [-List.reduceReplicate,iO,tN,hcJ];refine ⟨?_,?_⟩));done));push_cast [-List.reduceReplicate,iO,tN,hcJ]))|((refine ql_call2 false rfl rfl (by kernel_rfl) (hpj) (fun r os h=>h.1) rfl ?_ ?_;push_cast [-List.reduceReplicate,iO,tN,hcJ];refine ql_of_qops ?_;push_cast [-List.reduceReplicate,iO,tN,hcJ]))|((first|refine pC ?_|refine pQC ?_|refine pU ?_);push_cast [-List.reduceReplicate,iO,tN,hcJ])|(refine pif (fun h=>?_) (fun h=>?_)<;>first|exact pN h|push_cast [-List.reduceReplicate,iO,tN,hcJ]))
   (refine retK_of [0] ?_;push_cast [-List.reduceReplicate,iO,tN,hR])
   exact ⟨_,_,leP_refl _,leOs_refl _,by rw [noneS_rep],_,rfl⟩
  have hstep:bsetGo p j cs=bsetGo p (memAt p j) (memS p j cs):=by rw [bsetGo,dif_neg hs,if_neg h93,if_pos hle]
  rw [decide_eq_true hle] at hm
  repeat' (first|((refine pwp_cut 9 [64,90] ?_;apply pwp_drawn_to;(focus kernel_rfl);(focus (simp only [List.length_cons,List.length_nil,Nat.reduceAdd];(repeat' first|(refine plc [] (hpj) ?_ ?_;push_cast [-List.reduceReplicate,iO,tN,hcJ];rintro r os ⟨rfl,rfl⟩;push_cast [-List.reduceReplicate,iO,tN,hcJ])|(refine plc [0,2] (hm) ?_ ?_;push_cast [-List.reduceReplicate,iO,tN,hcJ];rintro r os ⟨rfl,rfl⟩;push_cast [-List.reduceReplicate,iO,tN,hcJ])|((first|refine pah 0 ?_|refine pah 1 ?_|refine pah 2 ?_|refine pah 4 ?_|refine pah 5 ?_|refine pah 6 ?_|refine pah 8 ?_|refine pah 10 ?_|refine pah 11 ?_|refine pah 13 ?_|refine pah 14 ?_);push_cast [-List.reduceReplicate,iO,tN,hcJ])|(refine pad ?_;first|with_reducible exact weak_cutS 9 [64,90] _|(refine weak_fg ?_;push_cast [-List.reduceReplicate,iO,tN,hcJ]))|((first|refine pas [3] ?_|refine pas [7] ?_|refine pas [9] ?_|refine pas [12] ?_);push_cast [-List.reduceReplicate,iO,tN,hcJ])|((first|refine pas [3,7] ?_);push_cast [-List.reduceReplicate,iO,tN,hcJ];refine ⟨?_,?_⟩));done));push_cast [-List.reduceReplicate,iO,tN,hcJ]))|((refine ql_call2 false rfl rfl (by kernel_rfl) (hpj) (fun r os h=>h.1) rfl ?_ ?_;push_cast [-List.reduceReplicate,iO,tN,hcJ];refine ql_of_qops ?_;push_cast [-List.reduceReplicate,iO,tN,hcJ]))|((first|refine pC ?_|refine pQC ?_|refine pU ?_);push_cast [-List.reduceReplicate,iO,tN,hcJ])|(refine pif (fun h=>?_) (fun h=>?_)<;>first|exact pN h|push_cast [-List.reduceReplicate,iO,tN,hcJ]))
  exact ⟨(memAt p j,memS p j cs),⟨by simp only;omega,hmz,by simp only;rw [memS_len,h3],by simp only;rw [h4,hstep],fun _=>by rw [← hjJ];exact h93⟩,by (refine weak_fg ?_;push_cast [-List.reduceReplicate,iO,tN]),by simp only;omega⟩
 have hcJ:((j:Int)=(J:Int))=False:=eq_false (by omega)
 have h5':=h5 (by omega)
 by_cases h93:byt p j=93
 case pos =>
  by_cases hs:p.size≤j
  ·have e:byt p j=0:=by unfold byt;rw [List.getD_eq_getElem?_getD,List.getElem?_eq_none hs];rfl
   rw [e] at h93;cases h93
  have hp1:pre1 p j 93=true:=by unfold pre1;rw [decide_eq_true (by omega),h93];rfl
  rw [hp1] at hpj
  have hR:bsetM p i=some (if notQ p i then notS cs else cs,j+1):=by
   unfold bsetM;rw [hJ,if_neg (by rintro (h|h);omega;exact h5' h),h4,bsetGo,dif_neg hs,if_pos h93]
  rw [hnq] at hR
  have hct:List.take 127 (cs.map boolE)=cs.map boolE:=List.take_of_length_le (by rw [List.length_map,h3];exact Nat.le_refl _)
  have hel:=everyL_len
  repeat' (first|((refine ql_call2 false rfl rfl (by kernel_rfl) (hpj) (fun r os h=>h.1) rfl ?_ ?_;push_cast [-List.reduceReplicate,iO,tN,hcJ,hel];refine ql_of_qops ?_;push_cast [-List.reduceReplicate,iO,tN,hcJ,hel]))|(refine plc [] (he) ?_ ?_;push_cast [-List.reduceReplicate,iO,tN,hcJ,hel];rintro r os ⟨rfl,rfl⟩;push_cast [-List.reduceReplicate,iO,tN,hcJ,hel])|((first|refine pC ?_|refine pQC ?_|refine pU ?_);push_cast [-List.reduceReplicate,iO,tN,hcJ,hel])|(refine pif (fun h=>?_) (fun h=>?_)<;>first|exact pN h|push_cast [-List.reduceReplicate,iO,tN,hcJ,hel]))
  (apply pwp_loop3 (α:=Nat) 9 [64,90] (fun k=>[(7,.c (.v (.int .i64 (32+k))))]) (fun k=>[(2,.box 115 ((notN cs k).map boolE))]) (fun k=>k≤95) (fun k=>95 - k) (0);(focus ((try push_cast [-List.reduceReplicate,iO,tN]);rfl));(focus exact (by omega));(focus ((refine weak_fg ?_;try push_cast [-List.reduceReplicate,iO,tN]);(try (exact leEs_refl _)))))
  intro k hk
  push_cast [-List.reduceReplicate,iO,tN]
  have hlen:(notN cs k).length=127:=by rw [notN_len,h3]
  by_cases hlt:k < 95
  ·have hev:=everyL_get hlt
   have hd1:=drop_bools everyL (32+k) (by rw [hel];omega)
   have hd2:=drop_bools (notN cs k) (32+k) (by rw [hlen];omega)
   rw [hev] at hd1
   repeat' (first|((first|refine pC ?_|refine pQC ?_|refine pU ?_);push_cast [-List.reduceReplicate,iO,tN,hlen,hel,hd1,hd2])|(refine pif (fun h=>?_) (fun h=>?_)<;>first|exact pN h|push_cast [-List.reduceReplicate,iO,tN,hlen,hel,hd1,hd2]))
   have hs2:(List.map boolE (notN cs k)).set (32+k) (.v (.bool (!(notN cs k).getD (32+k) false)))=(notN cs (k+1)).map boolE:=by rw [notN,hev,Bool.true_and,List.map_set]
   have hk3:(32+(k:Int)+1)=32+((k:Int)+1):=by omega
   refine ⟨k+1,by omega,?_,by omega⟩
   (refine weak_keep true [0,1,2,4] ?_;push_cast [-List.reduceReplicate,iO,tN,hs2,hk3])
  ·have hk2:k=95:=by omega
   subst hk2
   have hct:List.take 127 ((notN cs 95).map boolE)=(notS cs).map boolE:=List.take_of_length_le (by rw [List.length_map,hlen];exact Nat.le_refl _)
   repeat' (first|((first|refine pC ?_|refine pQC ?_|refine pU ?_);push_cast [-List.reduceReplicate,iO,tN,hlen])|(refine pif (fun h=>?_) (fun h=>?_)<;>first|exact pN h|push_cast [-List.reduceReplicate,iO,tN,hlen]))
   (refine retK_of [0] ?_;push_cast [-List.reduceReplicate,iO,tN,hR,hct])
 by_cases hs:p.size≤j
 case pos =>
  have hp0:pre1 p j 93=false:=by unfold pre1;rw [decide_eq_false (by omega)];rfl
  have hR:bsetM p i=none:=by
   unfold bsetM;rw [hJ]
   by_cases hq:p.size≤J∨byt p J=93
   ·rw [if_pos hq]
   ·rw [if_neg hq,h4,bsetGo,dif_pos hs]
  rw [hp0] at hpj
  have hm:=member_none p j cs (by omega) hp
  repeat' (first|((refine pwp_cut 9 [64,90] ?_;apply pwp_drawn_to;(focus kernel_rfl);(focus (simp only [List.length_cons,List.length_nil,Nat.reduceAdd];(repeat' first|(refine plc [] (hpj) ?_ ?_;push_cast [-List.reduceReplicate,iO,tN,hcJ];rintro r os ⟨rfl,rfl⟩;push_cast [-List.reduceReplicate,iO,tN,hcJ])|(refine plc [0,2] (hm) ?_ ?_;push_cast [-List.reduceReplicate,iO,tN,hcJ];rintro r os ⟨rfl,rfl⟩;push_cast [-List.reduceReplicate,iO,tN,hcJ])|((first|refine pah 0 ?_|refine pah 1 ?_|refine pah 2 ?_|refine pah 4 ?_|refine pah 5 ?_|refine pah 6 ?_|refine pah 8 ?_|refine pah 10 ?_|refine pah 11 ?_|refine pah 13 ?_|refine pah 14 ?_);push_cast [-List.reduceReplicate,iO,tN,hcJ])|(refine pad ?_;first|with_reducible exact weak_cutS 9 [64,90] _|(refine weak_fg ?_;push_cast [-List.reduceReplicate,iO,tN,hcJ]))|((first|refine pas [3] ?_|refine pas [7] ?_|refine pas [9] ?_|refine pas [12] ?_);push_cast [-List.reduceReplicate,iO,tN,hcJ])|((first|refine pas [3,7] ?_);push_cast [-List.reduceReplicate,iO,tN,hcJ];refine ⟨?_,?_⟩));done));push_cast [-List.reduceReplicate,iO,tN,hcJ]))|((refine ql_call2 false rfl rfl (by kernel_rfl) (hpj) (fun r os h=>h.1) rfl ?_ ?_;push_cast [-List.reduceReplicate,iO,tN,hcJ];refine ql_of_qops ?_;push_cast [-List.reduceReplicate,iO,tN,hcJ]))|((first|refine pC ?_|refine pQC ?_|refine pU ?_);push_cast [-List.reduceReplicate,iO,tN,hcJ])|(refine pif (fun h=>?_) (fun h=>?_)<;>first|exact pN h|push_cast [-List.reduceReplicate,iO,tN,hcJ]))
  (refine retK_of [0] ?_;push_cast [-List.reduceReplicate,iO,tN,hR])
  exact ⟨_,_,leP_refl _,leOs_refl _,by rw [noneS_rep],_,rfl⟩
 have hp0:pre1 p j 93=false:=by unfold pre1;rw [beq_eq_false_iff_ne.2 h93,Bool.and_false]
 rw [hp0] at hpj
 have hm:=member_pure p j cs (by omega) hp h3 hb
 have hml:=memAt_lt p j
 have hmz:=memAt_le (p:=p) (i:=j) (by omega)
 by_cases hle:byt p j≤memTo p j
 case neg =>
  rw [decide_eq_false hle] at hm
  have hR:bsetM p i=none:=by
   unfold bsetM;rw [hJ]
   by_cases hq:p.size≤J∨byt p J=93
   ·rw [if_pos hq]
   ·rw [if_neg hq,h4,bsetGo,dif_neg hs,if_neg h93,if_neg hle]
  repeat' (first|((refine pwp_cut 9 [64,90] ?_;apply pwp_drawn_to;(focus kernel_rfl);(focus (simp only [List.length_cons,List.length_nil,Nat.reduceAdd];(repeat' first|(refine plc [] (hpj) ?_ ?_;push_cast [-List.reduceReplicate,iO,tN,hcJ];rintro r os ⟨rfl,rfl⟩;push_cast [-List.reduceReplicate,iO,tN,hcJ])|(refine plc [0,2] (hm) ?_ ?_;push_cast [-List.reduceReplicate,iO,tN,hcJ];rintro r os ⟨rfl,rfl⟩;push_cast [-List.reduceReplicate,iO,tN,hcJ])|((first|refine pah 0 ?_|refine pah 1 ?_|refine pah 2 ?_|refine pah 4 ?_|refine pah 5 ?_|refine pah 6 ?_|refine pah 8 ?_|refine pah 10 ?_|refine pah 11 ?_|refine pah 13 ?_|refine pah 14 ?_);push_cast [-List.reduceReplicate,iO,tN,hcJ])|(refine pad ?_;first|with_reducible exact weak_cutS 9 [64,90] _|(refine weak_fg ?_;push_cast [-List.reduceReplicate,iO,tN,hcJ]))|((first|refine pas [3] ?_|refine pas [7] ?_|refine pas [9] ?_|refine pas [12] ?_);push_cast [-List.reduceReplicate,iO,tN,hcJ])|((first|refine pas [3,7] ?_);push_cast [-List.reduceReplicate,iO,tN,hcJ];refine ⟨?_,?_⟩));done));push_cast [-List.reduceReplicate,iO,tN,hcJ]))|((refine ql_call2 false rfl rfl (by kernel_rfl) (hpj) (fun r os h=>h.1) rfl ?_ ?_;push_cast [-List.reduceReplicate,iO,tN,hcJ];refine ql_of_qops ?_;push_cast [-List.reduceReplicate,iO,tN,hcJ]))|((first|refine pC ?_|refine pQC ?_|refine pU ?_);push_cast [-List.reduceReplicate,iO,tN,hcJ])|(refine pif (fun h=>?_) (fun h=>?_)<;>first|exact pN h|push_cast [-List.reduceReplicate,iO,tN,hcJ]))
  (refine retK_of [0] ?_;push_cast [-List.reduceReplicate,iO,tN,hR])
  exact ⟨_,_,leP_refl _,leOs_refl _,by rw [noneS_rep],_,rfl⟩
 have hstep:bsetGo p j cs=bsetGo p (memAt p j) (memS p j cs):=by rw [bsetGo,dif_neg hs,if_neg h93,if_pos hle]
 rw [decide_eq_true hle] at hm
 repeat' (first|((refine pwp_cut 9 [64,90] ?_;apply pwp_drawn_to;(focus kernel_rfl);(focus (simp only [List.length_cons,List.length_nil,Nat.reduceAdd];(repeat' first|(refine plc [] (hpj) ?_ ?_;push_cast [-List.reduceReplicate,iO,tN,hcJ];rintro r os ⟨rfl,rfl⟩;push_cast [-List.reduceReplicate,iO,tN,hcJ])|(refine plc [0,2] (hm) ?_ ?_;push_cast [-List.reduceReplicate,iO,tN,hcJ];rintro r os ⟨rfl,rfl⟩;push_cast [-List.reduceReplicate,iO,tN,hcJ])|((first|refine pah 0 ?_|refine pah 1 ?_|refine pah 2 ?_|refine pah 4 ?_|refine pah 5 ?_|refine pah 6 ?_|refine pah 8 ?_|refine pah 10 ?_|refine pah 11 ?_|refine pah 13 ?_|refine pah 14 ?_);push_cast [-List.reduceReplicate,iO,tN,hcJ])|(refine pad ?_;first|with_reducible exact weak_cutS 9 [64,90] _|(refine weak_fg ?_;push_cast [-List.reduceReplicate,iO,tN,hcJ]))|((first|refine pas [3] ?_|refine pas [7] ?_|refine pas [9] ?_|refine pas [12] ?_);push_cast [-List.reduceReplicate,iO,tN,hcJ])|((first|refine pas [3,7] ?_);push_cast [-List.reduceReplicate,iO,tN,hcJ];refine ⟨?_,?_⟩));done));push_cast [-List.reduceReplicate,iO,tN,hcJ]))|((refine ql_call2 false rfl rfl (by kernel_rfl) (hpj) (fun r os h=>h.1) rfl ?_ ?_;push_cast [-List.reduceReplicate,iO,tN,hcJ];refine ql_of_qops ?_;push_cast [-List.reduceReplicate,iO,tN,hcJ]))|((first|refine pC ?_|refine pQC ?_|refine pU ?_);push_cast [-List.reduceReplicate,iO,tN,hcJ])|(refine pif (fun h=>?_) (fun h=>?_)<;>first|exact pN h|push_cast [-List.reduceReplicate,iO,tN,hcJ]))
 exact ⟨(memAt p j,memS p j cs),⟨by simp only;omega,hmz,by simp only;rw [memS_len,h3],by simp only;rw [h4,hstep],fun _=>by exact h5'⟩,by (refine weak_fg ?_;push_cast [-List.reduceReplicate,iO,tN]),by simp only;omega⟩
end Go.Proofs.YthhfpcbpiphfiaaGreatDoor
