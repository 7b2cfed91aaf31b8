/- What the program computes, and the plain laws of it, part 27. -/
import Derived.WideKeyEntry
import Derived.Test.YthhfpcbpiphfiaaGreatDoorR26
namespace Go.Proofs.YthhfpcbpiphfiaaGreatDoor
attribute [local irreducible] PL QL PWPr PCalls Weak RetK Kontr PA
open Go.RowKit
open IntWalk renaming iteOmega → iO, toNatUp → tN
set_option linter.unusedVariables false
set_option linter.unusedSimpArgs false
set_option maxRecDepth 20000
def zeroPr:Pr:=⟨0,0,0,0⟩
def stepR (p q:Alts) (x:Pr):PV:=match stepV p q x with
 | none=>.three (.agg zeroPr.e) (.agg ((List.replicate 127 false).map boolE)) (.c (.v (.bool false)))
 | some (y,s)=>.three (.agg y.e) (.agg (s.map boolE)) (.c (.v (.bool (anyB s))))
def bothK (a b:El):Nat → List Bool
 | 0=>noneS
 | k+1=>(bothK a b k).set (32+k) (a.set.getD (32+k) false && b.set.getD (32+k) false)
def anyK (a b:El):Nat → Bool
 | 0=>false
 | k+1=>anyK a b k || (a.set.getD (32+k) false && b.set.getD (32+k) false)
theorem noneS_le (a b:El):leEs (List.replicate 127 (E.v (.bool false))) ((bothK a b 0).map boolE):=by
 show leEs _ (noneS.map boolE)
 rw [noneS_rep]
 exact leEs_refl _
theorem bothK_len (a b:El):∀ k,(bothK a b k).length=127
 | 0=>by unfold bothK noneS;rw [List.length_replicate]
 | k+1=>by rw [bothK,List.length_set];exact bothK_len a b k
theorem bothK_get (a b:El) (c:Nat):∀ k,k≤95 → (bothK a b k).getD c false=(decide (32≤c∧c < 32+k) && (a.set.getD c false && b.set.getD c false))
 | 0,_=>by
  rw [decide_eq_false (by omega),Bool.false_and,bothK,noneS,List.getD_eq_getElem?_getD,List.getElem?_replicate]
  split<;>rfl
 | k+1,hk=>by
  have ih:=bothK_get a b c k (by omega)
  rw [bothK]
  by_cases h:c=32+k
  ·subst h
   rw [List.getD_eq_getElem?_getD,List.getElem?_set_self (by rw [bothK_len];omega),Option.getD_some,decide_eq_true (by omega),Bool.true_and]
  ·rw [List.getD_eq_getElem?_getD,List.getElem?_set_ne (fun e=>h e.symm),← List.getD_eq_getElem?_getD,ih]
   have e:decide (32≤c∧c < 32+k)=decide (32≤c∧c < 32+(k+1)):=by rw [decide_eq_decide];omega
   rw [e]
theorem bothK_end (a b:El):bothK a b 95=bothV a b:=by
 have hlen:(bothV a b).length=127:=by unfold bothV;rw [List.length_map,List.length_range]
 refine List.ext_getElem (by rw [bothK_len,hlen]) fun c h1 h2=>?_
 have g:=bothK_get a b c 95 (by omega)
 rw [List.getD_eq_getElem?_getD,List.getElem?_eq_getElem h1,Option.getD_some] at g
 rw [g]
 have g2:∀ (f:Nat → Bool) (h:c < ((List.range 127).map f).length),((List.range 127).map f)[c]=f c:=fun f h=>by rw [List.getElem_map,List.getElem_range]
 refine Eq.trans ?_ (g2 (fun c=>decide (32≤c) && (a.set.getD c false && b.set.getD c false)) h2).symm
 have h3:c < 127:=by rw [hlen] at h2;exact h2
 have e:decide (32≤c∧c < 32+95)=decide (32≤c):=by rw [decide_eq_decide];omega
 rw [e]
theorem anyK_eq (a b:El):∀ k,anyK a b k=(List.range (32+k)).any fun c=>decide (32≤c) && (a.set.getD c false && b.set.getD c false)
 | 0=>by
  rw [anyK]
  symm
  rw [List.any_eq_false]
  intro c hc
  rw [List.mem_range] at hc
  rw [decide_eq_false (by omega),Bool.false_and]
  exact Bool.false_ne_true
 | k+1=>by
  rw [anyK,anyK_eq a b k,show 32+(k+1)=(32+k)+1 from rfl,List.range_succ,List.any_append,List.any_cons,List.any_nil,decide_eq_true (show 32≤32+k by omega),Bool.true_and,Bool.or_false]
theorem anyK_end (a b:El):anyK a b 95=anyB (bothV a b):=by
 rw [anyK_eq]
 unfold anyB bothV
 rw [List.any_map]
 rfl
set_option maxHeartbeats 8000000 in
theorem gstep_pure (p q:Alts) (es:List (MK × List D)) (x:Pr) (hx:PrOk p q x) (hp:AltsOk p) (hq:AltsOk q) :
  PCalls Tryz.prog 51 [.c (.ptr 0 0),.agg x.e] (srO p q es) fun r os=>r=stepR p q x∧os=srO p q es:=by
 have h1:=gat_pure p x.pa x.pi hx.a hx.i (by have:=hp.len;omega) (by have:=hp.els x.pa;omega) (hp.set x.pa)
 have h2:=gat_pure q x.qa x.qi hx.b hx.j (by have:=hq.len;omega) (by have:=hq.els x.qa;omega) (hq.set x.qa)
 have n1:=gnext_pure x.pa x.pi (by have:=hx.i;have:=hp.els x.pa;omega)
 have n2:=gnext_pure x.qa x.qi (by have:=hx.j;have:=hq.els x.qa;omega)
 obtain ⟨s1,hs1⟩:∃ s,(atV p x.pa x.pi).isSome=s:=⟨_,rfl⟩
 obtain ⟨s2,hs2⟩:∃ s,(atV q x.qa x.qi).isSome=s:=⟨_,rfl⟩
 obtain ⟨e1,he1⟩:∃ e,(atV p x.pa x.pi).getD noEl=e:=⟨_,rfl⟩
 obtain ⟨e2,he2⟩:∃ e,(atV q x.qa x.qi).getD noEl=e:=⟨_,rfl⟩
 rw [show (⟨0,false,List.replicate 127 false⟩:El)=noEl from rfl,hs1,he1] at h1
 rw [show (⟨0,false,List.replicate 127 false⟩:El)=noEl from rfl,hs2,he2] at h2
 have d1:e1.d.map D.e = .v (.int .u8 (e1.lit:Int)) :: .v (.bool e1.star) :: e1.set.map boolE:=by unfold El.d;simp only [List.map_cons,boolD_e];rfl
 have d2:e2.d.map D.e = .v (.int .u8 (e2.lit:Int)) :: .v (.bool e2.star) :: e2.set.map boolE:=by unfold El.d;simp only [List.map_cons,boolD_e];rfl
 have l1:e1.set.length=127:=by
  rw [← he1]
  cases hc:atV p x.pa x.pi with
  | none=>simp [noEl]
  | some e =>
   obtain ⟨g1,g2⟩:=atV_some hx.i hc
   rw [Option.getD_some,g2]
   exact hp.set x.pa _ (by rw [getD_lt _ g1];exact List.getElem_mem _)
 have l2:e2.set.length=127:=by
  rw [← he2]
  cases hc:atV q x.qa x.qi with
  | none=>simp [noEl]
  | some e =>
   obtain ⟨g1,g2⟩:=atV_some hx.j hc
   rw [Option.getD_some,g2]
   exact hq.set x.qa _ (by rw [getD_lt _ g1];exact List.getElem_mem _)
 rw [d1] at h1
 rw [d2] at h2
 obtain ⟨b1,hb1⟩:∃ b,e1.set.map boolE=b:=⟨_,rfl⟩
 obtain ⟨b2,hb2⟩:∃ b,e2.set.map boolE=b:=⟨_,rfl⟩
 have lb1:b1.length=127:=by rw [← hb1,List.length_map];exact l1
 have lb2:b2.length=127:=by rw [← hb2,List.length_map];exact l2
 have k1:∀ n,b1.all (keyOk n)=true:=fun n=>by rw [← hb1,List.all_map];exact List.all_eq_true.2 fun _ _=>rfl
 have k2:∀ n,b2.all (keyOk n)=true:=fun n=>by rw [← hb2,List.all_map];exact List.all_eq_true.2 fun _ _=>rfl
 have r1:∀ r,b1.map (E.ren r)=b1:=fun r=>by rw [← hb1,List.map_map];rfl
 have r2:∀ r,b2.map (E.ren r)=b2:=fun r=>by rw [← hb2,List.map_map];rfl
 rw [hb1] at h1
 rw [hb2] at h2
 obtain ⟨st1,hst1⟩:∃ b,e1.star=b:=⟨_,rfl⟩
 obtain ⟨st2,hst2⟩:∃ b,e2.star=b:=⟨_,rfl⟩
 rw [hst1] at h1
 rw [hst2] at h2
 refine pcalls_of Tryz.func51 rfl (by simp [Tryz.ntmps51]) ?_
 rw [Tryz.ntmps51,Tryz.results51]
 push_cast [-List.reduceReplicate,iO,tN]
 have cB:CutB 14 [47]:=trivial
 repeat' (first |  (refine hidR 1 ?_)  | ((first|refine pC ?_|refine pQC ?_|refine pU ?_);push_cast [-List.reduceReplicate,iO,tN])|(refine pif (fun h=>?_) (fun h=>?_)<;>first|exact pN h|push_cast [-List.reduceReplicate,iO,tN]))
 refine unhid ?_
 (refine pwp_cut 14 [47] ?_;apply pwp_drawn_to;(focus kernel_rfl);(focus (simp only [List.length_cons,List.length_nil,Nat.reduceAdd];(repeat' first|((refine plc [] (h1) ?_ ?_;push_cast [-List.reduceReplicate,iO,tN,  lb1,r1,k1];rintro r os ⟨rfl,rfl⟩;push_cast [-List.reduceReplicate,iO,tN,  lb1,r1,k1]))|((first|refine pah 0 ?_|refine pah 1 ?_|refine pah 2 ?_|refine pah 4 ?_|refine pah 7 ?_|refine pah 8 ?_|refine pah 9 ?_|refine pah 12 ?_);push_cast [-List.reduceReplicate,iO,tN,  lb1,r1,k1])|((first|refine pal 3 ?_|refine pal 5 ?_);push_cast [-List.reduceReplicate,iO,tN,  lb1,r1,k1])|(refine pad ?_;first|with_reducible exact weak_cutS 14 [47] _|(refine weak_fg ?_;push_cast [-List.reduceReplicate,iO,tN,  lb1,r1,k1]))|((first|refine pas [6] ?_|refine pas [10] ?_|refine pas [11] ?_);push_cast [-List.reduceReplicate,iO,tN,  lb1,r1,k1])|((first|refine pas [6,10] ?_);push_cast [-List.reduceReplicate,iO,tN,  lb1,r1,k1];refine ⟨?_,?_⟩));done));push_cast [-List.reduceReplicate,iO,tN,  lb1,r1,k1])
 (refine pwp_cut 14 [47] ?_;apply pwp_drawn_to;(focus kernel_rfl);(focus (simp only [List.length_cons,List.length_nil,Nat.reduceAdd];(repeat' first|((refine plc [] (h2) ?_ ?_;push_cast [-List.reduceReplicate,iO,tN,  lb1,r1,k1,lb2,r2,k2];rintro r os ⟨rfl,rfl⟩;push_cast [-List.reduceReplicate,iO,tN,  lb1,r1,k1,lb2,r2,k2]))|((first|refine pah 0 ?_|refine pah 1 ?_|refine pah 2 ?_|refine pah 4 ?_|refine pah 7 ?_|refine pah 8 ?_|refine pah 9 ?_|refine pah 12 ?_);push_cast [-List.reduceReplicate,iO,tN,  lb1,r1,k1,lb2,r2,k2])|((first|refine pal 3 ?_|refine pal 5 ?_);push_cast [-List.reduceReplicate,iO,tN,  lb1,r1,k1,lb2,r2,k2])|(refine pad ?_;first|with_reducible exact weak_cutS 14 [47] _|(refine weak_fg ?_;push_cast [-List.reduceReplicate,iO,tN,  lb1,r1,k1,lb2,r2,k2]))|((first|refine pas [6] ?_|refine pas [10] ?_|refine pas [11] ?_);push_cast [-List.reduceReplicate,iO,tN,  lb1,r1,k1,lb2,r2,k2])|((first|refine pas [6,10] ?_);push_cast [-List.reduceReplicate,iO,tN,  lb1,r1,k1,lb2,r2,k2];refine ⟨?_,?_⟩));done));push_cast [-List.reduceReplicate,iO,tN,  lb1,r1,k1,lb2,r2,k2])
 cases s1 with
 | false =>
  have hR:stepR p q x = .three (.agg zeroPr.e) (.agg ((List.replicate 127 false).map boolE)) (.c (.v (.bool false))):=by
   unfold stepR stepV
   rw [Option.isSome_eq_false_iff,Option.isNone_iff_eq_none] at hs1
   rw [hs1]
  rw [hR]
  push_cast [-List.reduceReplicate,iO,tN]
  repeat' (first|((first|refine pC ?_|refine pQC ?_|refine pU ?_);push_cast [-List.reduceReplicate,iO,tN])|(refine pif (fun h=>?_) (fun h=>?_)<;>first|exact pN h|push_cast [-List.reduceReplicate,iO,tN]))
  (refine retK_of [0,1] ?_;push_cast [-List.reduceReplicate,iO,tN,zeroPr,boolE])
 | true =>
  cases s2 with
  | false =>
   have hR:stepR p q x = .three (.agg zeroPr.e) (.agg ((List.replicate 127 false).map boolE)) (.c (.v (.bool false))):=by
    unfold stepR stepV
    rw [Option.isSome_eq_false_iff,Option.isNone_iff_eq_none] at hs2
    rw [hs2]
    cases atV p x.pa x.pi<;>rfl
   rw [hR]
   push_cast [-List.reduceReplicate,iO,tN]
   repeat' (first|((first|refine pC ?_|refine pQC ?_|refine pU ?_);push_cast [-List.reduceReplicate,iO,tN])|(refine pif (fun h=>?_) (fun h=>?_)<;>first|exact pN h|push_cast [-List.reduceReplicate,iO,tN]))
   (refine retK_of [0,1] ?_;push_cast [-List.reduceReplicate,iO,tN,zeroPr,boolE])
  | true =>
   have g1:atV p x.pa x.pi=some e1:=by
    cases hc:atV p x.pa x.pi with
    | none=>rw [hc] at hs1;cases hs1
    | some e=>rw [hc,Option.getD_some] at he1;rw [he1]
   have g2:atV q x.qa x.qi=some e2:=by
    cases hc:atV q x.qa x.qi with
    | none=>rw [hc] at hs2;cases hs2
    | some e=>rw [hc,Option.getD_some] at he2;rw [he2]
   by_cases hst:(st1 && st2)=true
   ·have hR:stepR p q x = .three (.agg zeroPr.e) (.agg ((List.replicate 127 false).map boolE)) (.c (.v (.bool false))):=by
     unfold stepR stepV
     rw [g1,g2]
     simp only [hst1,hst2,hst,if_true]
    rw [hR]
    obtain ⟨rfl,rfl⟩:=Bool.and_eq_true_iff.1 hst
    push_cast [-List.reduceReplicate,iO,tN]
    repeat' (first|((first|refine pC ?_|refine pQC ?_|refine pU ?_);push_cast [-List.reduceReplicate,iO,tN])|(refine pif (fun h=>?_) (fun h=>?_)<;>first|exact pN h|push_cast [-List.reduceReplicate,iO,tN]))
    (refine retK_of [0,1] ?_;push_cast [-List.reduceReplicate,iO,tN,zeroPr,boolE])
   ·have hR:stepR p q x = .three (.agg (stepN e1 e2 x).e) (.agg ((bothV e1 e2).map boolE)) (.c (.v (.bool (anyB (bothV e1 e2))))):=by
     unfold stepR stepV
     rw [g1,g2]
     simp only [hst1,hst2,if_neg hst]
    rw [hR]
    have hst':(st1 && st2)=false:=by simpa using hst
    cases st1 with
    | false =>
     cases st2 with
     | false =>
      push_cast [-List.reduceReplicate,iO,tN]
      repeat' (first|((first|refine pC ?_|refine pQC ?_|refine pU ?_);push_cast [-List.reduceReplicate,iO,tN])|(refine pif (fun h=>?_) (fun h=>?_)<;>first|exact pN h|push_cast [-List.reduceReplicate,iO,tN]))
      (apply pwp_loop3 (α:=Nat) 14 [47] (fun k=>[(13,.c (.v (.int .i64 (32+k)))),(12,.c (.v (.bool (anyK e1 e2 k))))]) (fun k=>[(7,.box 115 ((bothK e1 e2 k).map boolE))]) (fun k=>k≤95) (fun k=>95 - k) (0);(focus ((try push_cast [-List.reduceReplicate,iO,tN]);rfl));(focus exact (by omega));(focus ((refine weak_fg ?_;try push_cast [-List.reduceReplicate,iO,tN]);(try (exact ⟨rfl,noneS_le e1 e2,by rw [k1,k2];rfl⟩)))))
      intro k hk
      push_cast [-List.reduceReplicate,iO,tN]
      have hlen:(bothK e1 e2 k).length=127:=bothK_len e1 e2 k
      by_cases hlt:k < 95
      ·
       have hs2:(List.map boolE (bothK e1 e2 k)).set (32+k) (.v (.bool (e1.set.getD (32+k) false && e2.set.getD (32+k) false)))=(bothK e1 e2 (k+1)).map boolE:=by rw [bothK,List.map_set]
       have hs3:anyK e1 e2 (k+1)=(anyK e1 e2 k || (e1.set.getD (32+k) false && e2.set.getD (32+k) false)):=rfl
       have hk3:(32+(k:Int)+1)=32+((k:Int)+1):=by omega
       have hd1:∀ u v:E,(u :: v :: b1).drop (2+(32+k)) = .v (.bool (e1.set.getD (32+k) false)) :: b1.drop (32+k+1):=fun u v=>by
        rw [show 2+(32+k)=(32+k)+1+1 from by omega,List.drop_succ_cons,List.drop_succ_cons,← hb1]
        exact drop_bools e1.set (32+k) (by rw [l1];omega)
       have hd2:∀ u v:E,(u :: v :: b2).drop (2+(32+k)) = .v (.bool (e2.set.getD (32+k) false)) :: b2.drop (32+k+1):=fun u v=>by
        rw [show 2+(32+k)=(32+k)+1+1 from by omega,List.drop_succ_cons,List.drop_succ_cons,← hb2]
        exact drop_bools e2.set (32+k) (by rw [l2];omega)
       have hB2:(32+(k:Int))≤126:=by omega
       have hlen2:(bothK e1 e2 (k+1)).length=127:=bothK_len e1 e2 (k+1)
       have hgt:((bothK e1 e2 (k+1)).map boolE).drop (32+k) = .v (.bool (e1.set.getD (32+k) false && e2.set.getD (32+k) false)) :: ((bothK e1 e2 (k+1)).map boolE).drop (32+k+1):=by
        have h:=bothK_get e1 e2 (32+k) (k+1) (by omega)
        rw [decide_eq_true (by omega),Bool.true_and] at h
        have h2:=drop_bools (bothK e1 e2 (k+1)) (32+k) (by rw [hlen2];omega)
        rw [h] at h2
        exact h2
       obtain ⟨a,ha⟩:∃ a,anyK e1 e2 k=a:=⟨_,rfl⟩
       cases hv1:e1.set.getD (32+k) false<;>cases hv2:e2.set.getD (32+k) false<;>cases a
       all_goals
        rw [hv1,hv2] at hs2 hs3 hgt
        rw [ha] at hs3 ⊢
        simp only [Bool.false_and,Bool.and_false,Bool.and_self,Bool.or_false,Bool.or_true,Bool.or_self] at hs2 hs3 hgt
        rw [hv1] at hd1
        rw [hv2] at hd2
        repeat' (first|((first|refine pC ?_|refine pQC ?_|refine pU ?_);push_cast [-List.reduceReplicate,iO,tN,hlen,hd1,hd2,lb1,lb2,hB2,hs2,hlen2,hgt])|(refine pif (fun h=>?_) (fun h=>?_)<;>first|exact pN h|push_cast [-List.reduceReplicate,iO,tN,hlen,hd1,hd2,lb1,lb2,hB2,hs2,hlen2,hgt]))
        exact ⟨k+1,by omega,by (refine weak_fg ?_;push_cast [-List.reduceReplicate,iO,tN,hs2,hs3,hk3,k1,k2,Bool.and_self]),by omega⟩
      ·have hk2:k=95:=by omega
       subst hk2
       rw [bothK_end,anyK_end]
       rw [bothK_end] at hlen
       have hst:List.take 127 ((bothV e1 e2).map boolE)=(bothV e1 e2).map boolE:=List.take_of_length_le (by rw [List.length_map,hlen];exact Nat.le_refl _)
       repeat' (first|((refine plc [] (n1) ?_ ?_;push_cast [-List.reduceReplicate,iO,tN,hlen,hst];rintro r os ⟨rfl,rfl⟩;push_cast [-List.reduceReplicate,iO,tN,hlen,hst]))|((refine plc [] (n2) ?_ ?_;push_cast [-List.reduceReplicate,iO,tN,hlen,hst];rintro r os ⟨rfl,rfl⟩;push_cast [-List.reduceReplicate,iO,tN,hlen,hst]))|(refine hidR 16 ?_)|((first|refine pC ?_|refine pQC ?_|refine pU ?_);push_cast [-List.reduceReplicate,iO,tN,hlen,hst])|(refine pif (fun h=>?_) (fun h=>?_)<;>first|exact pN h|push_cast [-List.reduceReplicate,iO,tN,hlen,hst]))
       refine unhid ?_
       (refine pwp_cut 14 [47] ?_;apply pwp_drawn_to;(focus kernel_rfl);(focus (simp only [List.length_cons,List.length_nil,Nat.reduceAdd];(repeat' first|((first|refine pah 2 ?_|refine pah 5 ?_);push_cast [-List.reduceReplicate,iO,tN,  hlen,hst,k1,k2,Bool.and_self])|(refine pad ?_;first|with_reducible exact weak_cutS 14 [47] _|(refine weak_fg ?_;push_cast [-List.reduceReplicate,iO,tN,  hlen,hst,k1,k2,Bool.and_self]))|((first|refine pas [0] ?_|refine pas [1] ?_|refine pas [3] ?_|refine pas [4] ?_);push_cast [-List.reduceReplicate,iO,tN,  hlen,hst,k1,k2,Bool.and_self])|((first|refine pas [0,1] ?_|refine pas [1,3] ?_);push_cast [-List.reduceReplicate,iO,tN,  hlen,hst,k1,k2,Bool.and_self];refine ⟨?_,?_⟩));done));push_cast [-List.reduceReplicate,iO,tN,  hlen,hst,k1,k2,Bool.and_self])
       (refine retK_of [0,1] ?_;push_cast [-List.reduceReplicate,iO,tN,hst,stepN,hst1,hst2,Pr.e])
     | true =>
      push_cast [-List.reduceReplicate,iO,tN]
      repeat' (first|((first|refine pC ?_|refine pQC ?_|refine pU ?_);push_cast [-List.reduceReplicate,iO,tN])|(refine pif (fun h=>?_) (fun h=>?_)<;>first|exact pN h|push_cast [-List.reduceReplicate,iO,tN]))
      (apply pwp_loop3 (α:=Nat) 14 [47] (fun k=>[(13,.c (.v (.int .i64 (32+k)))),(12,.c (.v (.bool (anyK e1 e2 k))))]) (fun k=>[(7,.box 115 ((bothK e1 e2 k).map boolE))]) (fun k=>k≤95) (fun k=>95 - k) (0);(focus ((try push_cast [-List.reduceReplicate,iO,tN]);rfl));(focus exact (by omega));(focus ((refine weak_fg ?_;try push_cast [-List.reduceReplicate,iO,tN]);(try (exact ⟨rfl,noneS_le e1 e2,by rw [k1,k2];rfl⟩)))))
      intro k hk
      push_cast [-List.reduceReplicate,iO,tN]
      have hlen:(bothK e1 e2 k).length=127:=bothK_len e1 e2 k
      by_cases hlt:k < 95
      ·
       have hs2:(List.map boolE (bothK e1 e2 k)).set (32+k) (.v (.bool (e1.set.getD (32+k) false && e2.set.getD (32+k) false)))=(bothK e1 e2 (k+1)).map boolE:=by rw [bothK,List.map_set]
       have hs3:anyK e1 e2 (k+1)=(anyK e1 e2 k || (e1.set.getD (32+k) false && e2.set.getD (32+k) false)):=rfl
       have hk3:(32+(k:Int)+1)=32+((k:Int)+1):=by omega
       have hd1:∀ u v:E,(u :: v :: b1).drop (2+(32+k)) = .v (.bool (e1.set.getD (32+k) false)) :: b1.drop (32+k+1):=fun u v=>by
        rw [show 2+(32+k)=(32+k)+1+1 from by omega,List.drop_succ_cons,List.drop_succ_cons,← hb1]
        exact drop_bools e1.set (32+k) (by rw [l1];omega)
       have hd2:∀ u v:E,(u :: v :: b2).drop (2+(32+k)) = .v (.bool (e2.set.getD (32+k) false)) :: b2.drop (32+k+1):=fun u v=>by
        rw [show 2+(32+k)=(32+k)+1+1 from by omega,List.drop_succ_cons,List.drop_succ_cons,← hb2]
        exact drop_bools e2.set (32+k) (by rw [l2];omega)
       have hB2:(32+(k:Int))≤126:=by omega
       have hlen2:(bothK e1 e2 (k+1)).length=127:=bothK_len e1 e2 (k+1)
       have hgt:((bothK e1 e2 (k+1)).map boolE).drop (32+k) = .v (.bool (e1.set.getD (32+k) false && e2.set.getD (32+k) false)) :: ((bothK e1 e2 (k+1)).map boolE).drop (32+k+1):=by
        have h:=bothK_get e1 e2 (32+k) (k+1) (by omega)
        rw [decide_eq_true (by omega),Bool.true_and] at h
        have h2:=drop_bools (bothK e1 e2 (k+1)) (32+k) (by rw [hlen2];omega)
        rw [h] at h2
        exact h2
       obtain ⟨a,ha⟩:∃ a,anyK e1 e2 k=a:=⟨_,rfl⟩
       cases hv1:e1.set.getD (32+k) false<;>cases hv2:e2.set.getD (32+k) false<;>cases a
       all_goals
        rw [hv1,hv2] at hs2 hs3 hgt
        rw [ha] at hs3 ⊢
        simp only [Bool.false_and,Bool.and_false,Bool.and_self,Bool.or_false,Bool.or_true,Bool.or_self] at hs2 hs3 hgt
        rw [hv1] at hd1
        rw [hv2] at hd2
        repeat' (first|((first|refine pC ?_|refine pQC ?_|refine pU ?_);push_cast [-List.reduceReplicate,iO,tN,hlen,hd1,hd2,lb1,lb2,hB2,hs2,hlen2,hgt])|(refine pif (fun h=>?_) (fun h=>?_)<;>first|exact pN h|push_cast [-List.reduceReplicate,iO,tN,hlen,hd1,hd2,lb1,lb2,hB2,hs2,hlen2,hgt]))
        exact ⟨k+1,by omega,by (refine weak_fg ?_;push_cast [-List.reduceReplicate,iO,tN,hs2,hs3,hk3,k1,k2,Bool.and_self]),by omega⟩
      ·have hk2:k=95:=by omega
       subst hk2
       rw [bothK_end,anyK_end]
       rw [bothK_end] at hlen
       have hst:List.take 127 ((bothV e1 e2).map boolE)=(bothV e1 e2).map boolE:=List.take_of_length_le (by rw [List.length_map,hlen];exact Nat.le_refl _)
       repeat' (first|((refine plc [] (n1) ?_ ?_;push_cast [-List.reduceReplicate,iO,tN,hlen,hst];rintro r os ⟨rfl,rfl⟩;push_cast [-List.reduceReplicate,iO,tN,hlen,hst]))|((refine plc [] (n2) ?_ ?_;push_cast [-List.reduceReplicate,iO,tN,hlen,hst];rintro r os ⟨rfl,rfl⟩;push_cast [-List.reduceReplicate,iO,tN,hlen,hst]))|(refine hidR 16 ?_)|((first|refine pC ?_|refine pQC ?_|refine pU ?_);push_cast [-List.reduceReplicate,iO,tN,hlen,hst])|(refine pif (fun h=>?_) (fun h=>?_)<;>first|exact pN h|push_cast [-List.reduceReplicate,iO,tN,hlen,hst]))
       refine unhid ?_
       (refine pwp_cut 14 [47] ?_;apply pwp_drawn_to;(focus kernel_rfl);(focus (simp only [List.length_cons,List.length_nil,Nat.reduceAdd];(repeat' first|((first|refine pah 2 ?_|refine pah 5 ?_);push_cast [-List.reduceReplicate,iO,tN,  hlen,hst,k1,k2,Bool.and_self])|(refine pad ?_;first|with_reducible exact weak_cutS 14 [47] _|(refine weak_fg ?_;push_cast [-List.reduceReplicate,iO,tN,  hlen,hst,k1,k2,Bool.and_self]))|((first|refine pas [0] ?_|refine pas [1] ?_|refine pas [3] ?_|refine pas [4] ?_);push_cast [-List.reduceReplicate,iO,tN,  hlen,hst,k1,k2,Bool.and_self])|((first|refine pas [0,1] ?_|refine pas [1,3] ?_);push_cast [-List.reduceReplicate,iO,tN,  hlen,hst,k1,k2,Bool.and_self];refine ⟨?_,?_⟩));done));push_cast [-List.reduceReplicate,iO,tN,  hlen,hst,k1,k2,Bool.and_self])
       (refine retK_of [0,1] ?_;push_cast [-List.reduceReplicate,iO,tN,hst,stepN,hst1,hst2,Pr.e])
    | true =>
     cases st2 with
     | false =>
      push_cast [-List.reduceReplicate,iO,tN]
      repeat' (first|((first|refine pC ?_|refine pQC ?_|refine pU ?_);push_cast [-List.reduceReplicate,iO,tN])|(refine pif (fun h=>?_) (fun h=>?_)<;>first|exact pN h|push_cast [-List.reduceReplicate,iO,tN]))
      (apply pwp_loop3 (α:=Nat) 14 [47] (fun k=>[(13,.c (.v (.int .i64 (32+k)))),(12,.c (.v (.bool (anyK e1 e2 k))))]) (fun k=>[(7,.box 115 ((bothK e1 e2 k).map boolE))]) (fun k=>k≤95) (fun k=>95 - k) (0);(focus ((try push_cast [-List.reduceReplicate,iO,tN]);rfl));(focus exact (by omega));(focus ((refine weak_fg ?_;try push_cast [-List.reduceReplicate,iO,tN]);(try (exact ⟨rfl,noneS_le e1 e2,by rw [k1,k2];rfl⟩)))))
      intro k hk
      push_cast [-List.reduceReplicate,iO,tN]
      have hlen:(bothK e1 e2 k).length=127:=bothK_len e1 e2 k
      by_cases hlt:k < 95
      ·
       have hs2:(List.map boolE (bothK e1 e2 k)).set (32+k) (.v (.bool (e1.set.getD (32+k) false && e2.set.getD (32+k) false)))=(bothK e1 e2 (k+1)).map boolE:=by rw [bothK,List.map_set]
       have hs3:anyK e1 e2 (k+1)=(anyK e1 e2 k || (e1.set.getD (32+k) false && e2.set.getD (32+k) false)):=rfl
       have hk3:(32+(k:Int)+1)=32+((k:Int)+1):=by omega
       have hd1:∀ u v:E,(u :: v :: b1).drop (2+(32+k)) = .v (.bool (e1.set.getD (32+k) false)) :: b1.drop (32+k+1):=fun u v=>by
        rw [show 2+(32+k)=(32+k)+1+1 from by omega,List.drop_succ_cons,List.drop_succ_cons,← hb1]
        exact drop_bools e1.set (32+k) (by rw [l1];omega)
       have hd2:∀ u v:E,(u :: v :: b2).drop (2+(32+k)) = .v (.bool (e2.set.getD (32+k) false)) :: b2.drop (32+k+1):=fun u v=>by
        rw [show 2+(32+k)=(32+k)+1+1 from by omega,List.drop_succ_cons,List.drop_succ_cons,← hb2]
        exact drop_bools e2.set (32+k) (by rw [l2];omega)
       have hB2:(32+(k:Int))≤126:=by omega
       have hlen2:(bothK e1 e2 (k+1)).length=127:=bothK_len e1 e2 (k+1)
       have hgt:((bothK e1 e2 (k+1)).map boolE).drop (32+k) = .v (.bool (e1.set.getD (32+k) false && e2.set.getD (32+k) false)) :: ((bothK e1 e2 (k+1)).map boolE).drop (32+k+1):=by
        have h:=bothK_get e1 e2 (32+k) (k+1) (by omega)
        rw [decide_eq_true (by omega),Bool.true_and] at h
        have h2:=drop_bools (bothK e1 e2 (k+1)) (32+k) (by rw [hlen2];omega)
        rw [h] at h2
        exact h2
       obtain ⟨a,ha⟩:∃ a,anyK e1 e2 k=a:=⟨_,rfl⟩
       cases hv1:e1.set.getD (32+k) false<;>cases hv2:e2.set.getD (32+k) false<;>cases a
       all_goals
        rw [hv1,hv2] at hs2 hs3 hgt
        rw [ha] at hs3 ⊢
        simp only [Bool.false_and,Bool.and_false,Bool.and_self,Bool.or_false,Bool.or_true,Bool.or_self] at hs2 hs3 hgt
        rw [hv1] at hd1
        rw [hv2] at hd2
        repeat' (first|((first|refine pC ?_|refine pQC ?_|refine pU ?_);push_cast [-List.reduceReplicate,iO,tN,hlen,hd1,hd2,lb1,lb2,hB2,hs2,hlen2,hgt])|(refine pif (fun h=>?_) (fun h=>?_)<;>first|exact pN h|push_cast [-List.reduceReplicate,iO,tN,hlen,hd1,hd2,lb1,lb2,hB2,hs2,hlen2,hgt]))
        exact ⟨k+1,by omega,by (refine weak_fg ?_;push_cast [-List.reduceReplicate,iO,tN,hs2,hs3,hk3,k1,k2,Bool.and_self]),by omega⟩
      ·have hk2:k=95:=by omega
       subst hk2
       rw [bothK_end,anyK_end]
       rw [bothK_end] at hlen
       have hst:List.take 127 ((bothV e1 e2).map boolE)=(bothV e1 e2).map boolE:=List.take_of_length_le (by rw [List.length_map,hlen];exact Nat.le_refl _)
       repeat' (first|((refine plc [] (n1) ?_ ?_;push_cast [-List.reduceReplicate,iO,tN,hlen,hst];rintro r os ⟨rfl,rfl⟩;push_cast [-List.reduceReplicate,iO,tN,hlen,hst]))|((refine plc [] (n2) ?_ ?_;push_cast [-List.reduceReplicate,iO,tN,hlen,hst];rintro r os ⟨rfl,rfl⟩;push_cast [-List.reduceReplicate,iO,tN,hlen,hst]))|(refine hidR 16 ?_)|((first|refine pC ?_|refine pQC ?_|refine pU ?_);push_cast [-List.reduceReplicate,iO,tN,hlen,hst])|(refine pif (fun h=>?_) (fun h=>?_)<;>first|exact pN h|push_cast [-List.reduceReplicate,iO,tN,hlen,hst]))
       refine unhid ?_
       (refine pwp_cut 14 [47] ?_;apply pwp_drawn_to;(focus kernel_rfl);(focus (simp only [List.length_cons,List.length_nil,Nat.reduceAdd];(repeat' first|((first|refine pah 2 ?_|refine pah 5 ?_);push_cast [-List.reduceReplicate,iO,tN,  hlen,hst,k1,k2,Bool.and_self])|(refine pad ?_;first|with_reducible exact weak_cutS 14 [47] _|(refine weak_fg ?_;push_cast [-List.reduceReplicate,iO,tN,  hlen,hst,k1,k2,Bool.and_self]))|((first|refine pas [0] ?_|refine pas [1] ?_|refine pas [3] ?_|refine pas [4] ?_);push_cast [-List.reduceReplicate,iO,tN,  hlen,hst,k1,k2,Bool.and_self])|((first|refine pas [0,1] ?_|refine pas [1,3] ?_);push_cast [-List.reduceReplicate,iO,tN,  hlen,hst,k1,k2,Bool.and_self];refine ⟨?_,?_⟩));done));push_cast [-List.reduceReplicate,iO,tN,  hlen,hst,k1,k2,Bool.and_self])
       (refine retK_of [0,1] ?_;push_cast [-List.reduceReplicate,iO,tN,hst,stepN,hst1,hst2,Pr.e])
     | true=>exact absurd rfl hst
end Go.Proofs.YthhfpcbpiphfiaaGreatDoor
namespace Go.Proofs.YthhfpcbpiphfiaaGreatDoor
set_option linter.unusedVariables false
def spreadF (p q:Alts) (n:Int):Nat → List Pr → List Pr → List Pr
 | 0,_,all=>all
 | f+1,l,all=>match l.getLast? with
  | none=>all
  | some x=>if x ∈ all∨costV p q x≠n then spreadF p q n f l.dropLast all else spreadF p q n f (l.dropLast++skipsV p q x) (all++[x])
def lowB (s:List Bool) (m:Nat):Nat:=((List.range m).find? fun c=>decide (32≤c) && s.getD c false).getD m
def leastStep (p q:Alts) (n:Int) (st:Nat × List Pr) (x:Pr):Nat × List Pr:=match stepV p q x with
 | none=>st
 | some (y,s)=>if anyB s=false∨costV p q y≠n - 1 then st else
  let b:=lowB s st.1
  let r:=if b < st.1 then [] else st.2
  if s.getD b false=true then (b,r++[y]) else (b,r)
def leastV (p q:Alts) (n:Int) (l:List Pr):Nat × List Pr:=l.foldl (leastStep p q n) (127,[])
def fuelV (l:List Pr):Nat:=l.length+3000000000001
def textF (p q:Alts):Nat → List Pr → List Nat
 | 0,_=>[]
 | n+1,l=>let r:=leastV p q (n+1:Nat) (spreadF p q (n+1:Nat) (fuelV l) l [])
  r.1 :: textF p q n r.2
def beginV (p q:Alts):List Pr:=(List.range p.length).flatMap fun i=>(List.range q.length).map fun j=>⟨i,0,j,0⟩
def bestV (p q:Alts):Int:=(beginV p q).foldl (fun b x=>lessV b (costV p q x)) (-1)
def commonV (p q:Alts):Option (List Nat):=if bestV p q < 0 then none else some (textF p q (bestV p q).toNat (beginV p q))
theorem nodup_lt:∀ (n:Nat) (l:List Nat),l.Nodup → (∀ x ∈ l,x < n) → l.length≤n
 | 0,l,_,h=>by
  cases l with
  | nil=>exact Nat.le_refl _
  | cons a l=>exact absurd (h a (by simp)) (Nat.not_lt_zero _)
 | n+1,l,hn,h=>by
  by_cases hm:n ∈ l
  ·have h1:=nodup_lt n (l.erase n) (hn.erase n) fun x hx=>by
    have h2:=h x (List.mem_of_mem_erase hx)
    have h3:x≠n:=fun e=>by subst e;exact (hn.not_mem_erase hx)
    omega
   rw [List.length_erase_of_mem hm] at h1
   have:=List.length_pos_of_mem hm
   omega
  ·have h1:=nodup_lt n l hn fun x hx=>by
    have h2:=h x hx
    have h3:x≠n:=fun e=>by subst e;exact hm hx
    omega
   omega
structure SmallA (l:Alts):Prop where
 len:l.length≤1000
 els:∀ a,(altV l a).length < 1000
def Pr.code (x:Pr):Nat:=((x.pa * 1000+x.pi) * 1000+x.qa) * 1000+x.qi
theorem code_lt {p q:Alts} {x:Pr} (h:PrOk p q x) (hp:SmallA p) (hq:SmallA q):x.code < 1000000000000:=by
 have h1:=h.a;have h2:=h.i;have h3:=h.b;have h4:=h.j
 have h5:=hp.len;have h6:=hp.els x.pa;have h7:=hq.len;have h8:=hq.els x.qa
 unfold Pr.code
 omega
theorem code_inj {p q:Alts} {x y:Pr} (h:PrOk p q x) (h':PrOk p q y) (hp:SmallA p) (hq:SmallA q) (e:x.code=y.code):x=y:=by
 have h1:=h.a;have h2:=h.i;have h3:=h.b;have h4:=h.j
 have g1:=h'.a;have g2:=h'.i;have g3:=h'.b;have g4:=h'.j
 have h5:=hp.len;have h6:=hp.els x.pa;have h7:=hq.len;have h8:=hq.els x.qa
 have g6:=hp.els y.pa;have g8:=hq.els y.qa
 unfold Pr.code at e
 obtain ⟨a,b,c,d⟩:=x
 obtain ⟨a',b',c',d'⟩:=y
 simp only at *
 have e1:d=d':=by omega
 have e2:c=c':=by omega
 have e3:b=b':=by omega
 have e4:a=a':=by omega
 subst e1 e2 e3 e4
 rfl
theorem prs_few {p q:Alts} {l:List Pr} (hl:∀ x ∈ l,PrOk p q x) (hn:l.Nodup) (hp:SmallA p) (hq:SmallA q):l.length≤1000000000000:=by
 have h:=nodup_lt 1000000000000 (l.map Pr.code) ?_ ?_
 ·rw [List.length_map] at h;exact h
 ·rw [List.nodup_iff_pairwise_ne,List.pairwise_map]
  have h2:l.Pairwise fun a b=>a≠b:=hn
  refine List.Pairwise.imp_of_mem ?_ h2
  intro a b ha hb hab e
  exact hab (code_inj (hl a ha) (hl b hb) hp hq e)
 ·intro x hx
  obtain ⟨y,hy,rfl⟩:=List.mem_map.1 hx
  exact code_lt (hl y hy) hp hq
theorem lessV_b {b n m:Int} (hb : -1≤b∧b≤m) (hn : -1≤n∧n≤m) : -1≤lessV b n∧lessV b n≤m:=by
 unfold lessV
 split
 ·exact hn
 ·exact hb
theorem costV_bound {p q:Alts}:∀ (n:Nat) (x:Pr),measV p q x≤n → PrOk p q x → -1≤costV p q x∧costV p q x≤(measV p q x:Int)
 | n,x,hn,hx=>by
  have hrec:∀ y,PrOk p q y → measV p q y < measV p q x → -1≤costV p q y∧costV p q y≤(measV p q y:Int):=fun y hy hlt=>costV_bound (n - 1) y (by omega) hy
  rw [costV_step hx]
  have h0 : -1≤endV p q x∧endV p q x≤(measV p q x:Int):=by
   unfold endV
   split<;>constructor<;>omega
  have hf:∀ (l:List Pr) (b:Int),(∀ y ∈ l,PrOk p q y∧measV p q y < measV p q x) → (-1≤b∧b≤(measV p q x:Int)) → (-1≤l.foldl (fun b y=>lessV b (costV p q y)) b∧l.foldl (fun b y=>lessV b (costV p q y)) b≤(measV p q x:Int)):=by
   intro l
   induction l with
   | nil=>intro b _ h;exact h
   | cons a l ih =>
    intro b h hb
    rw [List.foldl_cons]
    obtain ⟨h1,h2⟩:=h a (by simp)
    have:=hrec a h1 h2
    exact ih _ (fun y hy=>h y (by simp [hy])) (lessV_b hb ⟨this.1,by omega⟩)
  have h1:=hf _ _ (fun y hy=>skipsV_ok hx hy) h0
  simp only
  cases hs:stepV p q x with
  | none=>exact h1
  | some ys =>
   obtain ⟨y,s⟩:=ys
   obtain ⟨h2,h3⟩:=stepV_ok hx hs
   have h4:=hrec y h2 h3
   simp only
   split
   ·exact lessV_b h1 ⟨by omega,by omega⟩
   ·exact h1
 termination_by n x h=>measV p q x
 decreasing_by omega
theorem measV_few {p q:Alts} (hp:SmallA p) (hq:SmallA q) (x:Pr):measV p q x≤2000:=by
 have h6:=hp.els x.pa;have h8:=hq.els x.qa
 unfold measV
 omega
theorem costV_few {p q:Alts} {x:Pr} (hx:PrOk p q x) (hp:SmallA p) (hq:SmallA q) : -1≤costV p q x∧costV p q x≤2000:=by
 have h:=costV_bound _ x (Nat.le_refl _) hx
 have:=measV_few hp hq x
 omega
def spM (l all:List Pr):Nat:=l.length+3 * (1000000000000 - all.length)
structure SpOk (p q:Alts) (l all:List Pr):Prop where
 hl:∀ x ∈ l,PrOk p q x
 ha:∀ x ∈ all,PrOk p q x
 nd:all.Nodup
theorem skipsV_len (p q:Alts) (x:Pr):(skipsV p q x).length≤2:=by
 unfold skipsV skip1 skip2
 rw [List.length_append]
 split<;>split<;>simp
theorem SpOk.add {p q:Alts} {l all:List Pr} {x:Pr} (h:SpOk p q (l++[x]) all) (hx:x ∉ all):SpOk p q (l++skipsV p q x) (all++[x]):=by
 have hX:=h.hl x (by simp)
 refine ⟨fun y hy=>?_,fun y hy=>?_,?_⟩
 ·rcases List.mem_append.1 hy with hy|hy
  ·exact h.hl y (by simp [hy])
  ·exact (skipsV_ok hX hy).1
 ·rcases List.mem_append.1 hy with hy|hy
  ·exact h.ha y hy
  ·rw [List.mem_singleton.1 hy];exact hX
 ·rw [List.nodup_append]
  refine ⟨h.nd,by simp,fun a ha b hb e=>?_⟩
  rw [List.mem_singleton.1 hb] at e
  exact hx (e ▸ ha)
theorem SpOk.drop {p q:Alts} {l all:List Pr} {x:Pr} (h:SpOk p q (l++[x]) all):SpOk p q l all:=⟨fun y hy=>h.hl y (by simp [hy]),h.ha,h.nd⟩
theorem SpOk.few {p q:Alts} {l all:List Pr} (h:SpOk p q l all) (hp:SmallA p) (hq:SmallA q):all.length≤1000000000000:=prs_few h.ha h.nd hp hq
theorem spM_add {p q:Alts} {l all:List Pr} {x:Pr} (h:SpOk p q (l++[x]) all) (hx:x ∉ all) (hp:SmallA p) (hq:SmallA q):spM (l++skipsV p q x) (all++[x]) < spM (l++[x]) all:=by
 have h1:=(h.add hx).few hp hq
 have h2:=skipsV_len p q x
 unfold spM
 simp only [List.length_append,List.length_cons,List.length_nil] at h1 ⊢
 omega
theorem spM_drop {l all:List Pr} {x:Pr}:spM l all < spM (l++[x]) all:=by
 unfold spM
 simp only [List.length_append,List.length_cons,List.length_nil]
 omega
theorem spreadF_step (p q:Alts) (n:Int) (f:Nat) (l all:List Pr) (x:Pr):spreadF p q n (f+1) (l++[x]) all=if x ∈ all∨costV p q x≠n then spreadF p q n f l all else spreadF p q n f (l++skipsV p q x) (all++[x]):=by
 rw [spreadF,List.getLast?_append]
 simp
theorem spreadF_nil (p q:Alts) (n:Int) (f:Nat) (all:List Pr):spreadF p q n f [] all=all:=by cases f<;>rfl
theorem spread_ok {p q:Alts} (n:Int) (hp:SmallA p) (hq:SmallA q):∀ (f:Nat) (l all:List Pr),SpOk p q l all → SpOk p q [] (spreadF p q n f l all)
 | 0,l,all,h=>⟨by simp,h.ha,h.nd⟩
 | f+1,l,all,h=>by
  rcases List.eq_nil_or_concat l with rfl|⟨l',x,rfl⟩
  ·rw [spreadF_nil];exact ⟨by simp,h.ha,h.nd⟩
  ·rw [List.concat_eq_append] at h ⊢
   rw [spreadF_step]
   split
   ·exact spread_ok n hp hq f _ _ h.drop
   ·rename_i hx
    exact spread_ok n hp hq f _ _ (h.add fun h'=>hx (Or.inl h'))
theorem leastStep_ok {p q:Alts} {n:Int} {st:Nat × List Pr} {x:Pr} (hx:PrOk p q x) (h:∀ y ∈ st.2,PrOk p q y):(∀ y ∈ (leastStep p q n st x).2,PrOk p q y)∧(leastStep p q n st x).2.length≤st.2.length+1:=by
 unfold leastStep
 split
 ·exact ⟨h,by omega⟩
 ·rename_i y s hs
  have hy:=(stepV_ok hx hs).1
  split
  ·exact ⟨h,by omega⟩
  ·simp only
   have h2:(∀ z ∈ (if lowB s st.1 < st.1 then [] else st.2),PrOk p q z)∧(if lowB s st.1 < st.1 then ([]:List Pr) else st.2).length≤st.2.length:=by
    split
    ·exact ⟨by simp,by simp⟩
    ·exact ⟨h,Nat.le_refl _⟩
   split
   ·refine ⟨fun z hz=>?_,?_⟩
    ·simp only at hz
     rcases List.mem_append.1 hz with hz|hz
     ·exact h2.1 z hz
     ·rw [List.mem_singleton.1 hz];exact hy
    ·simp only [List.length_append,List.length_cons,List.length_nil]
     have:=h2.2
     omega
   ·exact ⟨h2.1,by have:=h2.2;simp only;omega⟩
theorem leastGo_ok {p q:Alts} {n:Int}:∀ (l:List Pr) (st:Nat × List Pr),(∀ x ∈ l,PrOk p q x) → (∀ y ∈ st.2,PrOk p q y) → (∀ y ∈ (l.foldl (leastStep p q n) st).2,PrOk p q y)∧(l.foldl (leastStep p q n) st).2.length≤st.2.length+l.length
 | [],st,_,h=>⟨h,by simp⟩
 | x :: l,st,hl,h=>by
  obtain ⟨h1,h2⟩:=leastStep_ok (n:=n) (hl x (by simp)) h
  obtain ⟨h3,h4⟩:=leastGo_ok (n:=n) l _ (fun y hy=>hl y (by simp [hy])) h1
  rw [List.foldl_cons]
  exact ⟨h3,by simp only [List.length_cons];omega⟩
theorem lowB_le (s:List Bool) (m:Nat):lowB s m≤m:=by
 unfold lowB
 cases h:(List.range m).find? fun c=>decide (32≤c) && s.getD c false with
 | none=>simp
 | some c =>
  have:=List.mem_of_find?_eq_some h
  rw [List.mem_range] at this
  simp only [Option.getD_some]
  omega
end Go.Proofs.YthhfpcbpiphfiaaGreatDoor
