/- What the program computes, and the plain laws of it, part 44. -/
import Derived.ProofKit
import Derived.OpenShut
import Derived.ShutString
import Derived.ChangeOld
import Derived.Deep.Slices
import Derived.Deep.Fields
import Derived.Test.YtmjffgienmcabaaGreatDoorS42
import Derived.Test.YtmjffgienmcabaaGreatDoorS43
namespace Go.Proofs.YtmjffgienmcabaaGreatDoor
attribute [local irreducible] PL QL PWPr PCalls Weak RetK Kontr PA
open Go.RowKit
open IntWalk renaming iteOmega → iO, toNatUp → tN
set_option linter.unusedVariables false
set_option linter.unusedSimpArgs false
set_option maxRecDepth 20000
theorem fm_take_len {α β:Type} (f:α → List β) (l:List α) (k:Nat):((l.take k).flatMap f).length≤(l.flatMap f).length:=by
 conv=>rhs;rw [← List.take_append_drop k l,List.flatMap_append,List.length_append]
 exact Nat.le_add_right _ _
theorem findD_any (ds:List Dev) (n:Int):(findD ds n).isSome=ds.any fun d=>decide (d.index=n):=by
 unfold findD
 rw [Bool.eq_iff_iff,List.find?_isSome,List.any_eq_true]
theorem filt_put {c:Cfg} {l:List ByteArray} {k:Nat} (hk:k < l.length):putAll [] ((l.take (k+1)).filter (thereB c))=if thereB c (l.getD k default)=true then putM (putAll [] ((l.take k).filter (thereB c))) (l.getD k default) else putAll [] ((l.take k).filter (thereB c)):=by
 rw [List.take_succ_eq_append_getElem hk,List.filter_append,getD_lt _ hk]
 by_cases h:thereB c l[k]=true
 ·rw [if_pos h,List.filter_cons_of_pos h,List.filter_nil,putAll_snoc]
 ·rw [if_neg h,List.filter_cons_of_neg h,List.filter_nil,List.append_nil]
set_option maxHeartbeats 16000000 in
theorem rseeds_pure (c:Cfg) (ds:List Dev) (rs:List Rec) (hc:FindOk c) (hkl:c.keep.length≤1000000) (hdl:ds.length≤1000000) (hal:∀ d ∈ ds,d.alias_.size≤9000000000000000000) (hrl:rs.length≤1000000000) (hld:∀ r ∈ rs,r.load.length≤9223372036854775806∧∀ s ∈ r.load,s.size≤9000000000000000000) (hN:(askedL c ds rs).length≤1000000000) :
  PCalls Tryz.prog 11 [.agg c.e,.agg (trE ds),.c (.sl 12 (rs.map Rec.d))] [] fun r os=>r = .c (.sl 1 ((seedsL c ds rs).map strD))∧os=[]:=by
 have hcm:=hc.mods
 have hfind:=fun s hs=>rfind18_pure c s hc hs
 unfold seedsL
 obtain ⟨N,hNe⟩:∃ N,askedL c ds rs=N:=⟨_,rfl⟩
 have hNs:(ds.flatMap (devAsk c)).length+(rs.flatMap (recAsk c ds)).length+c.keep.length≤1000000000:=by
  unfold askedL at hN
  simp only [List.length_append] at hN
  omega
 have hfl:∀ s,(findA c s).length≤1000:=fun s=>Nat.le_trans (findA_len c s) hcm
 rw [hNe] at hN ⊢
 refine pcalls_of Tryz.func11 rfl (by simp [Tryz.ntmps11]) ?_
 rw [Tryz.ntmps11,Tryz.results11]
 push_cast [iO,tN]
 have cB:CutB 17 []:=trivial
 repeat' (first|((first|refine pC ?_|refine pQC ?_|refine pU ?_);push_cast [iO,tN])|(refine pif (fun h=>?_) (fun h=>?_)<;>first|exact pN h|push_cast [iO,tN]))
 refine pwp_weak (weak_adopt 7 9 1 (by omega) (by push_cast [iO,tN])) ?_
 push_cast [iO,tN]
 obtain ⟨D0,hD0⟩:∃ D0,ds.flatMap (devAsk c)=D0:=⟨_,rfl⟩
 rw [hD0] at hNs
 (apply pwp_loop3 (α:=Nat × List ByteArray) 17 [] (fun x=>[(9,.c (.v (.int .i64 x.1))),(7,.c (.own 2 (x.2.length)))]) (fun x=>[(2,.arr 9 1 (x.2.map strD))]) (fun x=>x.1≤ds.length∧x.2=(ds.take x.1).flatMap (devAsk c)) (fun x=>ds.length - x.1) ((0,[]));(focus ((try push_cast [iO,tN]);rfl));(focus exact ⟨by omega,rfl⟩);(focus ((refine weak_fg ?_;try push_cast [iO,tN]))))
 rintro ⟨k,a⟩ ⟨hk,ha⟩
 simp only at hk ha ⊢
 have hal2:a.length≤1000000000:=by have h1:=fm_take_len (devAsk c) ds k;rw [← ha,hD0] at h1;omega
 push_cast [iO,tN]
 by_cases hlt:k < ds.length
 ·obtain ⟨d,hd⟩:∃ d,ds.getD k default=d:=⟨_,rfl⟩
  have hdm:d ∈ ds:=by rw [← hd,getD_lt ds hlt];exact List.getElem_mem _
  have hf:=hfind d.alias_ (hal d hdm)
  have hF:=hfl d.alias_
  obtain ⟨F,hFe⟩:∃ F,findA c d.alias_=F:=⟨_,rfl⟩
  have hnx:(ds.take (k+1)).flatMap (devAsk c)=a++(F++[d.driver]):=by rw [fm_next (devAsk c) hlt,← ha,hd,← hFe];rfl
  rw [hFe] at hf hF
  repeat' (first|(refine hidR 5 ?_)|((first|refine pC ?_|refine pQC ?_|refine pU ?_);push_cast [iO,tN,hd])|(refine pif (fun h=>?_) (fun h=>?_)<;>first|exact pN h|push_cast [iO,tN,hd]))
  refine unhid ?_
  (refine pwp_cut 17 [] ?_;refine pwp_drawn (by kernel_rfl) ?_;simp only [List.length_cons,List.length_nil,Nat.reduceAdd];refine pah 0 ?_;push_cast [iO,tN,  hd];refine pah 2 ?_;push_cast [iO,tN,  hd];refine pah 4 ?_;push_cast [iO,tN,  hd];apply pa_hav;intro z7;apply pa_hav;intro z6;apply pa_hav;intro z5;apply pa_hav;intro z3;apply pa_hav;intro z4;apply pa_hav;intro z2;apply pa_hav;intro z1;refine pas [1,3] ?_;push_cast [iO,tN,  hd];refine ⟨?_,?_⟩;(focus (exact z1));(focus (refine pah 5 ?_;push_cast [iO,tN,  hd];refine pah 6 ?_;push_cast [iO,tN,  hd];exact z2));refine pas [3] ?_;push_cast [iO,tN,  hd];(focus (refine pah 5 ?_;push_cast [iO,tN,  hd];refine pah 6 ?_;push_cast [iO,tN,  hd];exact z3));refine pas [1,7] ?_;push_cast [iO,tN,  hd];refine ⟨paw z3 ?_,z4⟩<;>(refine weak_fg ?_;push_cast [iO,tN,  hd]);refine pas [1] ?_;push_cast [iO,tN,  hd];refine z5;refine pas [7] ?_;push_cast [iO,tN,  hd];refine paw z5 ?_<;>(refine weak_fg ?_;push_cast [iO,tN,  hd]);refine pas [8] ?_;push_cast [iO,tN,  hd];(focus ((first|((refine plc [] (hf) ?_ ?_;push_cast [iO,tN,  hd];rintro r os ⟨rfl,rfl⟩;push_cast [iO,tN,  hd])));exact z6));refine pas [9] ?_;push_cast [iO,tN,  hd];(focus (refine pah 10 ?_;push_cast [iO,tN,  hd];exact paw z7 (weak_cutS 17 [] _)));push_cast [iO,tN,  hd];refine pad ?_;push_cast [iO,tN,  hd])
  repeat' (first|((first|refine pC ?_|refine pQC ?_|refine pU ?_);push_cast [iO,tN,hd])|(refine pif (fun h=>?_) (fun h=>?_)<;>first|exact pN h|push_cast [iO,tN,hd]))
  exact ⟨(k+1,a++(F++[d.driver])),⟨by simp only;omega,hnx.symm⟩,by (refine weak_fg ?_;push_cast [iO,tN,← Nat.add_assoc]),by simp only;omega⟩
 have hk2:k=ds.length:=by omega
 rw [hk2,List.take_length,hD0] at ha
 subst ha
 repeat' (first|((first|refine pC ?_|refine pQC ?_|refine pU ?_);push_cast [iO,tN])|(refine pif (fun h=>?_) (fun h=>?_)<;>first|exact pN h|push_cast [iO,tN]))
 (apply pwp_loop3 (α:=Nat × List ByteArray) 17 [] (fun x=>[(10,.c (.v (.int .i64 x.1))),(7,.c (.own 2 (x.2.length)))]) (fun x=>[(2,.arr 9 1 (x.2.map strD))]) (fun x=>x.1≤rs.length∧x.2=a++(rs.take x.1).flatMap (recAsk c ds)) (fun x=>rs.length - x.1) ((0,a));(focus ((try push_cast [iO,tN]);rfl));(focus exact ⟨by omega,by simp⟩);(focus ((refine weak_fg ?_;try push_cast [iO,tN]))))
 rintro ⟨k,b⟩ ⟨hk,hb⟩
 simp only at hk hb ⊢
 have hbl:b.length≤1000000000:=by have h1:=fm_take_len (recAsk c ds) rs k;rw [hb,List.length_append];omega
 push_cast [iO,tN]
 by_cases hlt:k < rs.length
 ·obtain ⟨r,hr⟩:∃ r,rs.getD k default=r:=⟨_,rfl⟩
  have hrm:r ∈ rs:=by rw [← hr,getD_lt rs hlt];exact List.getElem_mem _
  obtain ⟨hl1,hl2⟩:=hld r hrm
  have hnx:a++(rs.take (k+1)).flatMap (recAsk c ds)=b++recAsk c ds r:=by rw [fm_next (recAsk c ds) hlt,hb,hr,List.append_assoc]
  have hfd:=rfind_pure ds r.index (by omega)
  have hrN:(b++recAsk c ds r).length≤1000000000:=by
   have h1:=fm_take_len (recAsk c ds) rs (k+1)
   rw [← hnx,List.length_append]
   omega
  obtain ⟨d0,hd0⟩:∃ d0,(findD ds r.index).getD default=d0:=⟨_,rfl⟩
  rw [hd0,findD_any] at hfd
  repeat' (first|(refine hidR 10 ?_)|((first|refine pC ?_|refine pQC ?_|refine pU ?_);push_cast [iO,tN,hr])|(refine pif (fun h=>?_) (fun h=>?_)<;>first|exact pN h|push_cast [iO,tN,hr]))
  refine unhid ?_
  cases hv:ds.any fun d=>decide (d.index=r.index) with
  | false =>
   have hq:recAsk c ds r=[]:=by unfold recAsk;rw [if_neg (by simp [hv])]
   rw [hq,List.append_nil] at hnx
   rw [hv] at hfd
   (refine pwp_cut 17 [] ?_;apply pwp_drawn_to;(focus kernel_rfl);(focus (simp only [List.length_cons,List.length_nil,Nat.reduceAdd];(repeat' first|((refine plc [] (hfd) ?_ ?_;push_cast [iO,tN,  hr];rintro r os ⟨rfl,rfl⟩;push_cast [iO,tN,  hr]))|((first|refine pah 1 ?_|refine pah 2 ?_|refine pah 3 ?_|refine pah 4 ?_|refine pah 7 ?_|refine pah 8 ?_|refine pah 9 ?_|refine pah 12 ?_);push_cast [iO,tN,  hr])|(refine pad ?_;first|with_reducible exact weak_cutS 17 [] _|(refine weak_fg ?_;push_cast [iO,tN,  hr]))|((first|refine pas [0] ?_|refine pas [5] ?_|refine pas [6] ?_|refine pas [10] ?_|refine pas [11] ?_);push_cast [iO,tN,  hr])|((first|refine pas [0,5] ?_|refine pas [0,6] ?_|refine pas [0,10] ?_|refine pas [5,10] ?_|refine pas [6,10] ?_);push_cast [iO,tN,  hr];refine ⟨?_,?_⟩)|((first|refine pas [0,5,10] ?_);push_cast [iO,tN,  hr];refine ⟨?_,?_,?_⟩));done));push_cast [iO,tN,  hr])
   repeat' (first|((first|refine pC ?_|refine pQC ?_|refine pU ?_);push_cast [iO,tN])|(refine pif (fun h=>?_) (fun h=>?_)<;>first|exact pN h|push_cast [iO,tN]))
   exact ⟨(k+1,b),⟨by simp only;omega,hnx.symm⟩,by (refine weak_fg ?_;push_cast [iO,tN]),by simp only;omega⟩
  | true =>
   have hq:recAsk c ds r=r.load.flatMap (findA c):=by unfold recAsk;rw [if_pos hv]
   rw [hq] at hnx hrN
   rw [hv] at hfd
   rw [List.length_append] at hrN
   (refine pwp_cut 17 [] ?_;apply pwp_drawn_to;(focus kernel_rfl);(focus (simp only [List.length_cons,List.length_nil,Nat.reduceAdd];(repeat' first|((refine plc [] (hfd) ?_ ?_;push_cast [iO,tN,  hr];rintro r os ⟨rfl,rfl⟩;push_cast [iO,tN,  hr]))|((first|refine pah 1 ?_|refine pah 2 ?_|refine pah 3 ?_|refine pah 4 ?_|refine pah 7 ?_|refine pah 8 ?_|refine pah 9 ?_|refine pah 12 ?_);push_cast [iO,tN,  hr])|(refine pad ?_;first|with_reducible exact weak_cutS 17 [] _|(refine weak_fg ?_;push_cast [iO,tN,  hr]))|((first|refine pas [0] ?_|refine pas [5] ?_|refine pas [6] ?_|refine pas [10] ?_|refine pas [11] ?_);push_cast [iO,tN,  hr])|((first|refine pas [0,5] ?_|refine pas [0,6] ?_|refine pas [0,10] ?_|refine pas [5,10] ?_|refine pas [6,10] ?_);push_cast [iO,tN,  hr];refine ⟨?_,?_⟩)|((first|refine pas [0,5,10] ?_);push_cast [iO,tN,  hr];refine ⟨?_,?_,?_⟩));done));push_cast [iO,tN,  hr])
   repeat' (first|((first|refine pC ?_|refine pQC ?_|refine pU ?_);push_cast [iO,tN])|(refine pif (fun h=>?_) (fun h=>?_)<;>first|exact pN h|push_cast [iO,tN]))
   (apply pwp_loop3 (α:=Nat × List ByteArray) 17 [] (fun y=>[(13,.c (.v (.int .i64 y.1))),(7,.c (.own 2 (y.2.length)))]) (fun y=>[(2,.arr 9 1 (y.2.map strD))]) (fun y=>y.1≤r.load.length∧y.2=b++(r.load.take y.1).flatMap (findA c)) (fun y=>r.load.length - y.1) ((0,b));(focus ((try push_cast [iO,tN]);rfl));(focus exact ⟨by omega,by simp⟩);(focus ((refine weak_fg ?_;try push_cast [iO,tN]))))
   rintro ⟨j,b2⟩ ⟨hj,hb2⟩
   simp only at hj hb2 ⊢
   have hb2l:b2.length≤1000000000:=by have h1:=fm_take_len (findA c) r.load j;rw [hb2,List.length_append];omega
   push_cast [iO,tN]
   by_cases hjt:j < r.load.length
   ·obtain ⟨s,hs⟩:∃ s,r.load.getD j default=s:=⟨_,rfl⟩
    have hsm:s ∈ r.load:=by rw [← hs,getD_lt _ hjt];exact List.getElem_mem _
    have hf:=hfind s (hl2 s hsm)
    have hF:=hfl s
    obtain ⟨F,hFe⟩:∃ F,findA c s=F:=⟨_,rfl⟩
    have hnx2:b++(r.load.take (j+1)).flatMap (findA c)=b2++F:=by rw [fm_next (findA c) hjt,hb2,hs,List.append_assoc,hFe]
    rw [hFe] at hf hF
    repeat' (first|(refine hidR 15 ?_)|((first|refine pC ?_|refine pQC ?_|refine pU ?_);push_cast [iO,tN,hr,hs])|(refine pif (fun h=>?_) (fun h=>?_)<;>first|exact pN h|push_cast [iO,tN,hr,hs]))
    refine unhid ?_
    (refine pwp_cut 17 [] ?_;refine pwp_drawn (by kernel_rfl) ?_;simp only [List.length_cons,List.length_nil,Nat.reduceAdd];refine pah 0 ?_;push_cast [iO,tN,  hr,hs];refine pah 2 ?_;push_cast [iO,tN,  hr,hs];refine pah 3 ?_;push_cast [iO,tN,  hr,hs];refine pah 4 ?_;push_cast [iO,tN,  hr,hs];refine pah 5 ?_;push_cast [iO,tN,  hr,hs];refine pah 7 ?_;push_cast [iO,tN,  hr,hs];apply pa_hav;intro z7;apply pa_hav;intro z6;apply pa_hav;intro z5;apply pa_hav;intro z3;apply pa_hav;intro z4;apply pa_hav;intro z2;apply pa_hav;intro z1;refine pas [1,6] ?_;push_cast [iO,tN,  hr,hs];refine ⟨?_,?_⟩;(focus (exact z1));(focus (refine pah 8 ?_;push_cast [iO,tN,  hr,hs];exact z2));refine pas [6] ?_;push_cast [iO,tN,  hr,hs];(focus (refine pah 8 ?_;push_cast [iO,tN,  hr,hs];exact z3));refine pas [1,9] ?_;push_cast [iO,tN,  hr,hs];refine ⟨paw z3 ?_,z4⟩<;>(refine weak_fg ?_;push_cast [iO,tN,  hr,hs]);refine pas [1] ?_;push_cast [iO,tN,  hr,hs];refine z5;refine pas [9] ?_;push_cast [iO,tN,  hr,hs];refine paw z5 ?_<;>(refine weak_fg ?_;push_cast [iO,tN,  hr,hs]);refine pas [10] ?_;push_cast [iO,tN,  hr,hs];(focus ((first|((refine plc [] (hf) ?_ ?_;push_cast [iO,tN,  hr,hs];rintro r os ⟨rfl,rfl⟩;push_cast [iO,tN,  hr,hs])));exact z6));refine pas [11] ?_;push_cast [iO,tN,  hr,hs];(focus (refine pah 12 ?_;push_cast [iO,tN,  hr,hs];exact paw z7 (weak_cutS 17 [] _)));push_cast [iO,tN,  hr,hs];refine pad ?_;push_cast [iO,tN,  hr,hs])
    repeat' (first|((first|refine pC ?_|refine pQC ?_|refine pU ?_);push_cast [iO,tN])|(refine pif (fun h=>?_) (fun h=>?_)<;>first|exact pN h|push_cast [iO,tN]))
    exact ⟨(j+1,b2++F),⟨by simp only;omega,hnx2.symm⟩,by (refine weak_fg ?_;push_cast [iO,tN]),by simp only;omega⟩
   ·have hj2:j=r.load.length:=by omega
    rw [hj2,List.take_length] at hb2
    rw [← hb2] at hnx
    repeat' (first|((first|refine pC ?_|refine pQC ?_|refine pU ?_);push_cast [iO,tN,hr])|(refine pif (fun h=>?_) (fun h=>?_)<;>first|exact pN h|push_cast [iO,tN,hr]))
    exact ⟨(k+1,b2),⟨by simp only;omega,hnx.symm⟩,by (refine weak_fg ?_;push_cast [iO,tN]),by simp only;omega⟩
 have hk3:k=rs.length:=by omega
 rw [hk3,List.take_length] at hb
 have hN2:b++c.keep=N:=by rw [hb,← hNe];unfold askedL;rw [hD0]
 have hNl:N.length=b.length+c.keep.length:=by rw [← hN2,List.length_append]
 have e5:b.map strD++c.keep.map strD=N.map strD:=by rw [← List.map_append,hN2]
 have e6:(N.map strD).take (b.length+c.keep.length)=N.map strD:=List.take_of_length_le (by rw [List.length_map];omega)
 have e4:(b.map strD++c.keep.map strD).take (b.length+c.keep.length)=N.map strD:=by rw [e5,e6]
 repeat' (first|((first|refine pC ?_|refine pQC ?_|refine pU ?_);push_cast [iO,tN])|(refine pif (fun h=>?_) (fun h=>?_)<;>first|exact pN h|push_cast [iO,tN]))
 refine pwp_weak (weak_frz 2 (by omega)) ?_
 push_cast [iO,tN,e4,e5,e6]
 (apply pwp_loop3 (α:=Nat) 17 [] (fun k=>[(14,.c (.v (.int .i64 k))),(8,.c (.sl 1 ((putAll [] ((N.take k).filter (thereB c))).map strD)))]) (fun k=>[]) (fun k=>k≤N.length) (fun k=>N.length - k) (0);(focus ((try push_cast [iO,tN]);rfl));(focus exact (by omega));(focus ((refine weak_fg ?_;try push_cast [iO,tN]);(try (rfl)))))
 intro k hk
 have hol:(putAll [] ((N.take k).filter (thereB c))).length≤1000000000:=by
  have h1:=(putAll_spec ((N.take k).filter (thereB c)) [] List.Pairwise.nil).2.2.2.2
  have h2:=List.length_filter_le (thereB c) (N.take k)
  rw [List.length_take] at h2
  simp only [List.length_nil] at h1
  omega
 by_cases hlt:k < N.length
 ·have hnx:=filt_put (c:=c) hlt
  obtain ⟨s,hs⟩:∃ s,N.getD k default=s:=⟨_,rfl⟩
  obtain ⟨o,ho⟩:∃ o,putAll [] ((N.take k).filter (thereB c))=o:=⟨_,rfl⟩
  rw [hs,ho] at hnx
  rw [ho] at hol ⊢
  have hmo:=module_pure c.modules s (by omega)
  have hpu:=put_pure o s hol
  obtain ⟨m2,hm2⟩:∃ m2,(modOf c.modules s).getD noMod=m2:=⟨_,rfl⟩
  rw [hm2] at hmo
  push_cast [iO,tN]
  repeat' (first|(refine hidR 20 ?_)|((first|refine pC ?_|refine pQC ?_|refine pU ?_);push_cast [iO,tN,hs])|(refine pif (fun h=>?_) (fun h=>?_)<;>first|exact pN h|push_cast [iO,tN,hs]))
  refine unhid ?_
  cases hv:thereB c s with
  | true =>
   rw [if_pos hv] at hnx
   have hv':(modOf c.modules s).isSome=true:=hv
   rw [hv'] at hmo
   (refine pwp_cut 17 [] ?_;apply pwp_drawn_to;(focus kernel_rfl);(focus (simp only [List.length_cons,List.length_nil,Nat.reduceAdd];(repeat' first|((refine plc [] (hmo) ?_ ?_;push_cast [iO,tN,  hs];rintro r os ⟨rfl,rfl⟩;push_cast [iO,tN,  hs]))|((first|refine pah 0 ?_|refine pah 2 ?_|refine pah 3 ?_|refine pah 4 ?_|refine pah 7 ?_|refine pah 8 ?_|refine pah 9 ?_|refine pah 12 ?_);push_cast [iO,tN,  hs])|(refine pad ?_;first|with_reducible exact weak_cutS 17 [] _|(refine weak_fg ?_;push_cast [iO,tN,  hs]))|((first|refine pas [1] ?_|refine pas [5] ?_|refine pas [6] ?_|refine pas [10] ?_|refine pas [11] ?_);push_cast [iO,tN,  hs])|((first|refine pas [1,5] ?_|refine pas [1,6] ?_|refine pas [1,10] ?_|refine pas [5,10] ?_|refine pas [6,10] ?_);push_cast [iO,tN,  hs];refine ⟨?_,?_⟩)|((first|refine pas [1,5,10] ?_);push_cast [iO,tN,  hs];refine ⟨?_,?_,?_⟩));done));push_cast [iO,tN,  hs])
   repeat' (first|((refine plc [] (hpu) ?_ ?_;push_cast [iO,tN,hs];rintro r os ⟨rfl,rfl⟩;push_cast [iO,tN,hs]))|((first|refine pC ?_|refine pQC ?_|refine pU ?_);push_cast [iO,tN,hs])|(refine pif (fun h=>?_) (fun h=>?_)<;>first|exact pN h|push_cast [iO,tN,hs]))
   exact ⟨k+1,by omega,by (refine weak_fg ?_;push_cast [iO,tN,hnx]),by omega⟩
  | false =>
   rw [if_neg (by simp [hv])] at hnx
   have hv':(modOf c.modules s).isSome=false:=hv
   rw [hv'] at hmo
   (refine pwp_cut 17 [] ?_;apply pwp_drawn_to;(focus kernel_rfl);(focus (simp only [List.length_cons,List.length_nil,Nat.reduceAdd];(repeat' first|((refine plc [] (hmo) ?_ ?_;push_cast [iO,tN,  hs];rintro r os ⟨rfl,rfl⟩;push_cast [iO,tN,  hs]))|((first|refine pah 0 ?_|refine pah 2 ?_|refine pah 3 ?_|refine pah 4 ?_|refine pah 7 ?_|refine pah 8 ?_|refine pah 9 ?_|refine pah 12 ?_);push_cast [iO,tN,  hs])|(refine pad ?_;first|with_reducible exact weak_cutS 17 [] _|(refine weak_fg ?_;push_cast [iO,tN,  hs]))|((first|refine pas [1] ?_|refine pas [5] ?_|refine pas [6] ?_|refine pas [10] ?_|refine pas [11] ?_);push_cast [iO,tN,  hs])|((first|refine pas [1,5] ?_|refine pas [1,6] ?_|refine pas [1,10] ?_|refine pas [5,10] ?_|refine pas [6,10] ?_);push_cast [iO,tN,  hs];refine ⟨?_,?_⟩)|((first|refine pas [1,5,10] ?_);push_cast [iO,tN,  hs];refine ⟨?_,?_,?_⟩));done));push_cast [iO,tN,  hs])
   repeat' (first|((first|refine pC ?_|refine pQC ?_|refine pU ?_);push_cast [iO,tN])|(refine pif (fun h=>?_) (fun h=>?_)<;>first|exact pN h|push_cast [iO,tN]))
   exact ⟨k+1,by omega,by (refine weak_fg ?_;push_cast [iO,tN,hnx]),by omega⟩
 ·have htk:N.take k=N:=List.take_of_length_le (by omega)
  rw [htk]
  obtain ⟨o,ho⟩:∃ o,putAll [] (N.filter (thereB c))=o:=⟨_,rfl⟩
  rw [ho]
  push_cast [iO,tN]
  repeat' (first|((first|refine pC ?_|refine pQC ?_|refine pU ?_);push_cast [iO,tN])|(refine pif (fun h=>?_) (fun h=>?_)<;>first|exact pN h|push_cast [iO,tN]))
  (refine retK_of [] ?_;push_cast [iO,tN])
set_option maxHeartbeats 4000000 in
theorem rwanted_pure (c:Cfg) (ds:List Dev) (rs:List Rec) (hc2:CfgOk2 c) (hc:FindOk c) (hkl:c.keep.length≤1000000) (hdl:ds.length≤1000000) (hal:∀ d ∈ ds,d.alias_.size≤9000000000000000000) (hrl:rs.length≤1000000000) (hld:∀ r ∈ rs,r.load.length≤9223372036854775806∧∀ s ∈ r.load,s.size≤9000000000000000000) (hN:(askedL c ds rs).length≤1000000000) :
  PCalls Tryz.prog 13 [.agg c.e,.agg (trE ds),.c (.sl 12 (rs.map Rec.d))] [] fun r os=>r = .c (.sl 1 ((wantedL c ds rs).map strD))∧os=[]:=by
 have hse:=rseeds_pure c ds rs hc hkl hdl hal hrl hld hN
 have hsn:=seeds_len c ds rs
 have hcm:=hc.mods
 have hcl:=rClosure_pure c (seedsL c ds rs) hc2 (by omega)
 unfold wantedL
 obtain ⟨W,hW⟩:∃ W,closL c.modules c.off (seedsL c ds rs)=W:=⟨_,rfl⟩
 rw [hW] at hcl ⊢
 refine pcalls_of Tryz.func13 rfl (by simp [Tryz.ntmps13]) ?_
 rw [Tryz.ntmps13,Tryz.results13]
 push_cast [iO,tN]
 have cB:CutB 7 []:=trivial
 repeat' (first |  (refine hidR 1 ?_)  | ((first|refine pC ?_|refine pQC ?_|refine pU ?_);push_cast [iO,tN])|(refine pif (fun h=>?_) (fun h=>?_)<;>first|exact pN h|push_cast [iO,tN]))
 refine unhid ?_
 (refine pwp_cut 7 [] ?_;refine pwp_drawn (by kernel_rfl) ?_;simp only [List.length_cons,List.length_nil,Nat.reduceAdd];refine pah 3 ?_;push_cast [iO,tN];apply pa_hav;intro z10;apply pa_hav;intro z9;apply pa_hav;intro z7;apply pa_hav;intro z8;apply pa_hav;intro z4;apply pa_hav;intro z5;apply pa_hav;intro z6;apply pa_hav;intro z1;apply pa_hav;intro z2;apply pa_hav;intro z3;refine pas [0,1,2] ?_;push_cast [iO,tN];refine ⟨z1,z2,z3⟩;refine pas [0,1] ?_;push_cast [iO,tN];refine ⟨z5,z6⟩;refine pas [0,2] ?_;push_cast [iO,tN];refine ⟨z4,paw z6 ?_⟩<;>(refine weak_fg ?_;push_cast [iO,tN]);refine pas [1,2] ?_;push_cast [iO,tN];refine ⟨paw z4 ?_,paw z5 ?_⟩<;>(refine weak_fg ?_;push_cast [iO,tN]);refine pas [0,4] ?_;push_cast [iO,tN];refine ⟨?_,?_⟩;(focus (exact z7));(focus ((first|((refine plc [] (hse) ?_ ?_;push_cast [iO,tN];rintro r os ⟨rfl,rfl⟩;push_cast [iO,tN]))|((refine plc [] (hcl) ?_ ?_;push_cast [iO,tN];rintro r os ⟨rfl,rfl⟩;push_cast [iO,tN])));exact z8));refine pas [1] ?_;push_cast [iO,tN];refine paw z7 ?_<;>(refine weak_fg ?_;push_cast [iO,tN]);refine pas [2] ?_;push_cast [iO,tN];refine paw z7 ?_<;>(refine weak_fg ?_;push_cast [iO,tN]);refine pas [0] ?_;push_cast [iO,tN];refine z9;refine pas [4] ?_;push_cast [iO,tN];(focus ((first|((refine plc [] (hse) ?_ ?_;push_cast [iO,tN];rintro r os ⟨rfl,rfl⟩;push_cast [iO,tN]))|((refine plc [] (hcl) ?_ ?_;push_cast [iO,tN];rintro r os ⟨rfl,rfl⟩;push_cast [iO,tN])));refine paw z9 ?_;refine weak_fg ?_;push_cast [iO,tN]));refine pas [5] ?_;push_cast [iO,tN];(focus ((first|((refine plc [] (hse) ?_ ?_;push_cast [iO,tN];rintro r os ⟨rfl,rfl⟩;push_cast [iO,tN]))|((refine plc [] (hcl) ?_ ?_;push_cast [iO,tN];rintro r os ⟨rfl,rfl⟩;push_cast [iO,tN])));refine pah 6 ?_;push_cast [iO,tN];exact paw z10 (weak_cutS 7 [] _)));push_cast [iO,tN];refine pad ?_;push_cast [iO,tN])
 repeat' (first|((first|refine pC ?_|refine pQC ?_|refine pU ?_);push_cast [iO,tN])|(refine pif (fun h=>?_) (fun h=>?_)<;>first|exact pN h|push_cast [iO,tN]))
 (refine retK_of [] ?_;push_cast [iO,tN])
set_option maxRecDepth 20000
set_option maxHeartbeats 4000000 in
theorem wantedD_pure (c:Cfg) (ds:List Dev) (rs:List Rec) (hc:SeedOk c) (hc2:CfgOk2 c) (ha:AskOk ds rs) :
  PCalls Tryz.prog 12 [.agg c.e,.agg (trE ds),.c (.sl 12 (rs.map Rec.d))] [] fun r os=>r = .c (.sl 1 ((wantedL c ds rs).map strD))∧os=[]:=by
 have hse:=seeds_pure c ds rs hc ha
 have hsl:=seeds_spec c ds rs
 have hsn:=seeds_len c ds rs
 have hcm:=hc.few.mods
 have hnz:∀ x ∈ c.modules.map Mod.name,x.size≤maxLen:=fun x hx=>by
  obtain ⟨m,h1,h2⟩:=List.mem_map.1 hx
  rw [← h2]
  exact hc.name m h1
 have hcl:=closure_pure c (seedsL c ds rs) hc2 (by omega) (fun x hx=>hnz x (there_mem ((hsl.2 x).1 hx).2)) hnz
 unfold wantedL
 obtain ⟨W,hW⟩:∃ W,closL c.modules c.off (seedsL c ds rs)=W:=⟨_,rfl⟩
 rw [hW] at hcl ⊢
 have e2:=List.take_of_length_le (l:=W.map strD) (i:=W.length) (by simp)
 refine pcalls_of Tryz.func12 rfl (by simp [Tryz.ntmps12]) ?_
 rw [Tryz.ntmps12,Tryz.results12]
 push_cast [iO,tN]
 have cB:CutB 7 []:=trivial
 repeat' (first |  (refine hidR 1 ?_)  | ((first|refine pC ?_|refine pQC ?_|refine pU ?_);push_cast [iO,tN])|(refine pif (fun h=>?_) (fun h=>?_)<;>first|exact pN h|push_cast [iO,tN]))
 refine unhid ?_
 (refine pwp_cut 7 [] ?_;refine pwp_drawn (by kernel_rfl) ?_;simp only [List.length_cons,List.length_nil,Nat.reduceAdd];refine pah 3 ?_;push_cast [iO,tN];apply pa_hav;intro z10;apply pa_hav;intro z9;apply pa_hav;intro z7;apply pa_hav;intro z8;apply pa_hav;intro z4;apply pa_hav;intro z5;apply pa_hav;intro z6;apply pa_hav;intro z1;apply pa_hav;intro z2;apply pa_hav;intro z3;refine pas [0,1,2] ?_;push_cast [iO,tN];refine ⟨z1,z2,z3⟩;refine pas [0,1] ?_;push_cast [iO,tN];refine ⟨z5,z6⟩;refine pas [0,2] ?_;push_cast [iO,tN];refine ⟨z4,paw z6 ?_⟩<;>(refine weak_fg ?_;push_cast [iO,tN]);refine pas [1,2] ?_;push_cast [iO,tN];refine ⟨paw z4 ?_,paw z5 ?_⟩<;>(refine weak_fg ?_;push_cast [iO,tN]);refine pas [0,4] ?_;push_cast [iO,tN];refine ⟨?_,?_⟩;(focus (exact z7));(focus ((first|((refine plc [] (hse) ?_ ?_;push_cast [iO,tN];rintro r os ⟨rfl,rfl⟩;push_cast [iO,tN]))|(refine pl_call2 false [] rfl rfl (by kernel_rfl) hcl ?_ nofun ?_;push_cast [iO,tN];rintro r os ⟨rfl,rfl⟩;refine pl_weak (weak_frz 2 (by omega)) ?_;push_cast [iO,tN,e2];refine pl_of_pops ?_;push_cast [iO,tN]));exact z8));refine pas [1] ?_;push_cast [iO,tN];refine paw z7 ?_<;>(refine weak_fg ?_;push_cast [iO,tN]);refine pas [2] ?_;push_cast [iO,tN];refine paw z7 ?_<;>(refine weak_fg ?_;push_cast [iO,tN]);refine pas [0] ?_;push_cast [iO,tN];refine z9;refine pas [4] ?_;push_cast [iO,tN];(focus ((first|((refine plc [] (hse) ?_ ?_;push_cast [iO,tN];rintro r os ⟨rfl,rfl⟩;push_cast [iO,tN]))|(refine pl_call2 false [] rfl rfl (by kernel_rfl) hcl ?_ nofun ?_;push_cast [iO,tN];rintro r os ⟨rfl,rfl⟩;refine pl_weak (weak_frz 2 (by omega)) ?_;push_cast [iO,tN,e2];refine pl_of_pops ?_;push_cast [iO,tN]));refine paw z9 ?_;refine weak_fg ?_;push_cast [iO,tN]));refine pas [5] ?_;push_cast [iO,tN];(focus ((first|((refine plc [] (hse) ?_ ?_;push_cast [iO,tN];rintro r os ⟨rfl,rfl⟩;push_cast [iO,tN]))|(refine pl_call2 false [] rfl rfl (by kernel_rfl) hcl ?_ nofun ?_;push_cast [iO,tN];rintro r os ⟨rfl,rfl⟩;refine pl_weak (weak_frz 2 (by omega)) ?_;push_cast [iO,tN,e2];refine pl_of_pops ?_;push_cast [iO,tN]));refine pah 6 ?_;push_cast [iO,tN];exact paw z10 (weak_cutS 7 [] _)));push_cast [iO,tN];refine pad ?_;push_cast [iO,tN])
 repeat' (first|((first|refine pC ?_|refine pQC ?_|refine pU ?_);push_cast [iO,tN])|(refine pif (fun h=>?_) (fun h=>?_)<;>first|exact pN h|push_cast [iO,tN]))
 (refine retK_of [] ?_;push_cast [iO,tN])
end Go.Proofs.YtmjffgienmcabaaGreatDoor
namespace Go.Proofs.YtmjffgienmcabaaGreatDoor
open Go.ChangeShapes Go.WideShapes Go.ChangeAt Go.RowKit
open Go.ChangeMaps (open_string shut_string)
set_option linter.unusedVariables false
set_option linter.unusedSimpArgs false
theorem int_bd {n:Int} (h:(Lit.int .i64 n).wf=true) : -9223372036854775808≤n∧n≤9223372036854775807:=by
 simpa [Lit.wf,IntKind.min,IntKind.max,IntKind.signed,IntKind.bits] using h
theorem trod_rows {H:Type} {enc:TypeId × Value → H} {P:Program} {W:World} {t e:TypeId} {size fuel:Nat} {A:Option Addr} {n c:Nat} {x:DataW H × List MemPlace}
  (ht:P.underlying t=some (.slice e)) (hC:P.cellsOf e=size) (hp:0 < size) (h:DataW.trod enc P W 0 (fun _=>true) true fuel t [.slice A n c]=some x) :
  ∃ F:Nat → List Value,n≤c∧c≤maxLen∧(∀ i,i < n → (F i).length=size∧∃ m y,DataW.trod enc P W 0 (fun _=>true) true m e (F i)=some y) ∧
   Rd W (fun _=>True) size A n ((List.range n).flatMap F):=by
 rcases Go.Deep.open_slice ht h with ⟨hcs,_⟩|⟨a,len,cap,m,fu,D,Pl,hcs,_,hl,hm,hmm,_,hi⟩
 ·simp at hcs
  obtain ⟨rfl,rfl,rfl⟩:=hcs
  exact ⟨fun _=>[],Nat.le_refl _,by simp [maxLen],fun i hi=>absurd hi (by omega),by simpa using Rd.nil⟩
 ·simp at hcs
  obtain ⟨rfl,rfl,rfl⟩:=hcs
  simp only [if_true] at hmm
  subst hmm
  obtain ⟨F,hF⟩:=Go.Deep.choose_lt (n:=n) (p:=fun i (cs':List Value)=>W.cells? 0 (a.add (i * P.cellsOf e)) (P.cellsOf e)=some cs'∧DataW.trod enc P W 0 (fun _=>true) true fu e cs'=some (D i,Pl i))
   (fun i h=>hi i (by omega))
  have hlen:∀ i,i < n → (F i).length=size:=fun i h=>by
   have:=(World.cells?_some (hF i h).1).2.1
   rw [this,hC]
  have hflat:∀ k,k≤n → ((List.range k).flatMap F).length=k * size:=by
   intro k
   induction k with
   | zero=>intro _;simp
   | succ k ih =>
    intro hk
    rw [List.range_succ,List.flatMap_append,List.length_append,ih (by omega)]
    simp [hlen k (by omega),Nat.add_mul]
  refine ⟨F,hl,hm,fun i h=>⟨hlen i h,fu,_,(hF i h).2⟩,hflat n (Nat.le_refl _),fun hn=>?_⟩
  have hcell:∀ i,i < n → ∀ j,j < size → W.cell? ((a.add (i * size)).add j)=(F i)[j]?:=fun i h j hj=>by
   have h1:=(World.cells?_some (hF i h).1).2.2 j (by rw [hC];exact hj)
   rw [hC] at h1
   exact h1
  have hget:∀ k,k≤n → ∀ j,((List.range k).flatMap F)[j]? = if j < k * size then (F (j / size))[j % size]? else none:=by
   intro k
   induction k with
   | zero=>intro _ j;simp
   | succ k ih =>
    intro hk j
    rw [List.range_succ,List.flatMap_append]
    by_cases hj:j < k * size
    ·rw [List.getElem?_append_left (by rw [hflat k (by omega)];exact hj),ih (by omega),if_pos hj,if_pos (by rw [Nat.add_mul];omega)]
    ·rw [List.getElem?_append_right (by rw [hflat k (by omega)];omega),hflat k (by omega)]
     simp only [List.flatMap_cons,List.flatMap_nil,List.append_nil]
     by_cases hj2:j < (k+1) * size
     ·have hj3:j - k * size < size:=by rw [Nat.add_mul] at hj2;omega
      have e1:j / size=k:=by
       rw [show j=(j - k * size)+k * size by omega,Nat.add_mul_div_right _ _ hp,Nat.div_eq_of_lt hj3];omega
      have e2:j % size=j - k * size:=by
       conv=>lhs;rw [show j=(j - k * size)+k * size by omega]
       rw [Nat.add_mul_mod_self_right,Nat.mod_eq_of_lt hj3]
      rw [if_pos hj2,e1,e2]
     ·rw [if_neg hj2,List.getElem?_eq_none (by rw [hlen k (by omega)];rw [Nat.add_mul] at hj2;omega)]
  obtain ⟨b,off,spot⟩:=a
  have h0:=hcell 0 (by omega) 0 hp
  have hs:spot=none:=by
   have hx:(F 0)[0]? = some ((F 0)[0]'(by rw [hlen 0 (by omega)];exact hp)):=List.getElem?_eq_getElem _
   rw [hx] at h0
   simpa [Addr.add] using World.cell?_spot h0
  subst hs
  have h0b:b < W.heap.size:=by
   have hx:(F 0)[0]? = some ((F 0)[0]'(by rw [hlen 0 (by omega)];exact hp)):=List.getElem?_eq_getElem _
   rw [hx] at h0
   have:=World.block_lt_of_cell? _ _ h0
   simpa [Addr.add_lit] using this
  refine ⟨b,off,rfl,trivial,h0b,fun j u hu=>?_⟩
  rw [hget n (Nat.le_refl _)] at hu
  split at hu
  ·rename_i hj
   have hq:j / size < n:=Nat.div_lt_of_lt_mul (by rw [Nat.mul_comm];exact hj)
   have h1:=hcell (j / size) hq (j % size) (Nat.mod_lt _ hp)
   rw [Addr.add_lit,Addr.add_lit,Nat.add_assoc,Nat.mul_comm,Nat.div_add_mod] at h1
   rw [h1,hu]
  ·cases hu
end Go.Proofs.YtmjffgienmcabaaGreatDoor
