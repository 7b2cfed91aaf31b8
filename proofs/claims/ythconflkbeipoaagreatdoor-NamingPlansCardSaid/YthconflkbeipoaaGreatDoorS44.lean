/- What the program computes, and the plain laws of it, part 44. -/
import Derived.Test.YthconflkbeipoaaGreatDoorS43
namespace Go.Proofs.YthconflkbeipoaaGreatDoor
attribute [local irreducible] PL QL PWPr PCalls Weak RetK Kontr PA
open Go.RowKit
open IntWalk renaming iteOmega → iO, toNatUp → tN
set_option linter.unusedVariables false
set_option linter.unusedSimpArgs false
set_option maxRecDepth 20000
set_option maxHeartbeats 8000000 in
theorem rfits_pure (now names:List Atr) (hn:now.length≤1000000) (hm:names.length≤1000000) (hz:∀ x ∈ names,x.value.size≤9223372036854775807) :
  PCalls Tryz.prog 50 [.c (.sl 2 (now.map Atr.d)),.c (.sl 2 (names.map Atr.d))] [] fun r os=>r = .c (.v (.bool (fitsB now names)))∧os=[]:=by
 refine pcalls_of Tryz.func50 rfl (by simp [Tryz.ntmps50]) ?_
 rw [Tryz.ntmps50,Tryz.results50]
 push_cast [iO,tN]
 have cB:CutB 13 [65]:=trivial
 repeat' (first|((first|refine pC ?_|refine pQC ?_|refine pU ?_);push_cast [iO,tN])|(refine pif (fun h=>?_) (fun h=>?_)<;>first|exact pN h|push_cast [iO,tN]))
 (apply pwp_loop3 (α:=Nat) 13 [65] (fun k=>[(5,.c (.v (.int .i64 k)))]) (fun k=>[]) (fun k=>k≤names.length∧∀ j,j < k → fitAt now names j=true) (fun k=>names.length - k) (0);(focus ((try push_cast [iO,tN]);rfl));(focus exact ⟨Nat.zero_le _,fun j hj=>by omega⟩);(focus ((refine weak_fg ?_;try push_cast [iO,tN]))))
 rintro k ⟨hk,hpre⟩
 push_cast [iO,tN]
 by_cases hlt:k < names.length
 case pos =>
  obtain ⟨a,ha⟩:∃ a,names.getD k default=a:=⟨_,rfl⟩
  have ham:a ∈ names:=by rw [← ha];exact getD_mem hlt
  have v1:=rvalue_pure now a.name (by omega)
  have v2:=rvalue_pure (names.take k) a.name (by rw [List.length_take];omega)
  have h1:=rhas_pure (names.take k) a.value (by rw [List.length_take];omega)
  have hi:=riface_pure a.value (hz a ham)
  rw [valOf_isSome] at v2
  rw [List.map_take] at v2 h1
  have hat:fitAt now names k=((((valOf now a.name).isSome && !inM a.name (keys (names.take k))) && !inM a.value (vals (names.take k))) && ifaceS a.value):=by unfold fitAt;rw [ha]
  cases hb1:(valOf now a.name).isSome with
  | false =>
   rw [hb1] at v1 hat
   rw [Bool.false_and,Bool.false_and,Bool.false_and] at hat
   have hno:=fitsB_no hlt hat
   repeat' (first|((refine plc [] (v1) ?_ ?_;push_cast [iO,tN,ha];rintro r os ⟨rfl,rfl⟩;push_cast [iO,tN,ha]))|(refine hidR 5 ?_)|((first|refine pC ?_|refine pQC ?_|refine pU ?_);push_cast [iO,tN,ha])|(refine pif (fun h=>?_) (fun h=>?_)<;>first|exact pN h|push_cast [iO,tN,ha]))
   refine unhid ?_
   (refine pwp_cut 13 [65] ?_;apply pwp_drawn_to;(focus kernel_rfl);(focus (simp only [List.length_cons,List.length_nil,Nat.reduceAdd];(repeat' first|((refine plc [] (v2) ?_ ?_;push_cast [iO,tN,  ha];rintro r os ⟨rfl,rfl⟩;push_cast [iO,tN,  ha]))|((first|refine pah 0 ?_|refine pah 1 ?_|refine pah 2 ?_|refine pah 3 ?_|refine pah 4 ?_|refine pah 5 ?_|refine pah 6 ?_|refine pah 9 ?_|refine pah 10 ?_|refine pah 11 ?_|refine pah 12 ?_|refine pah 13 ?_);push_cast [iO,tN,  ha])|(refine pad ?_;first|with_reducible exact weak_cutS 13 [65] _|(refine weak_fg ?_;push_cast [iO,tN,  ha]))|((first|refine pas [7] ?_|refine pas [8] ?_);push_cast [iO,tN,  ha])|((first|refine pas [7,8] ?_);push_cast [iO,tN,  ha];refine ⟨?_,?_⟩));done));push_cast [iO,tN,  ha])
   repeat' (first|((refine ql_call2 false rfl rfl (by kernel_rfl) (h1) (fun r os h=>h.1) rfl ?_ ?_;push_cast [iO,tN,ha];refine ql_of_qops ?_;push_cast [iO,tN,ha]))|((refine ql_call2 false rfl rfl (by kernel_rfl) (hi) (fun r os h=>h.1) rfl ?_ ?_;push_cast [iO,tN,ha];refine ql_of_qops ?_;push_cast [iO,tN,ha]))|((first|refine pC ?_|refine pQC ?_|refine pU ?_);push_cast [iO,tN,ha])|(refine pif (fun h=>?_) (fun h=>?_)<;>first|exact pN h|push_cast [iO,tN,ha]))
   (refine retK_of [] ?_;push_cast [iO,tN,hno])
  | true =>
   rw [hb1] at v1 hat
   cases hb2:inM a.name (keys (names.take k)) with
   | true =>
    rw [hb2] at v2 hat
    have hno:=fitsB_no hlt (hat.trans (by simp))
    repeat' (first|((refine plc [] (v1) ?_ ?_;push_cast [iO,tN,ha];rintro r os ⟨rfl,rfl⟩;push_cast [iO,tN,ha]))|(refine hidR 5 ?_)|((first|refine pC ?_|refine pQC ?_|refine pU ?_);push_cast [iO,tN,ha])|(refine pif (fun h=>?_) (fun h=>?_)<;>first|exact pN h|push_cast [iO,tN,ha]))
    refine unhid ?_
    (refine pwp_cut 13 [65] ?_;apply pwp_drawn_to;(focus kernel_rfl);(focus (simp only [List.length_cons,List.length_nil,Nat.reduceAdd];(repeat' first|((refine plc [] (v2) ?_ ?_;push_cast [iO,tN,  ha];rintro r os ⟨rfl,rfl⟩;push_cast [iO,tN,  ha]))|((first|refine pah 0 ?_|refine pah 1 ?_|refine pah 2 ?_|refine pah 3 ?_|refine pah 4 ?_|refine pah 5 ?_|refine pah 6 ?_|refine pah 9 ?_|refine pah 10 ?_|refine pah 11 ?_|refine pah 12 ?_|refine pah 13 ?_);push_cast [iO,tN,  ha])|(refine pad ?_;first|with_reducible exact weak_cutS 13 [65] _|(refine weak_fg ?_;push_cast [iO,tN,  ha]))|((first|refine pas [7] ?_|refine pas [8] ?_);push_cast [iO,tN,  ha])|((first|refine pas [7,8] ?_);push_cast [iO,tN,  ha];refine ⟨?_,?_⟩));done));push_cast [iO,tN,  ha])
    repeat' (first|((refine ql_call2 false rfl rfl (by kernel_rfl) (h1) (fun r os h=>h.1) rfl ?_ ?_;push_cast [iO,tN,ha];refine ql_of_qops ?_;push_cast [iO,tN,ha]))|((refine ql_call2 false rfl rfl (by kernel_rfl) (hi) (fun r os h=>h.1) rfl ?_ ?_;push_cast [iO,tN,ha];refine ql_of_qops ?_;push_cast [iO,tN,ha]))|((first|refine pC ?_|refine pQC ?_|refine pU ?_);push_cast [iO,tN,ha])|(refine pif (fun h=>?_) (fun h=>?_)<;>first|exact pN h|push_cast [iO,tN,ha]))
    (refine retK_of [] ?_;push_cast [iO,tN,hno])
   | false =>
    rw [hb2] at v2 hat
    cases hb3:inM a.value (vals (names.take k)) with
    | true =>
     rw [hb3] at h1 hat
     have hno:=fitsB_no hlt (hat.trans (by simp))
     repeat' (first|((refine plc [] (v1) ?_ ?_;push_cast [iO,tN,ha];rintro r os ⟨rfl,rfl⟩;push_cast [iO,tN,ha]))|(refine hidR 5 ?_)|((first|refine pC ?_|refine pQC ?_|refine pU ?_);push_cast [iO,tN,ha])|(refine pif (fun h=>?_) (fun h=>?_)<;>first|exact pN h|push_cast [iO,tN,ha]))
     refine unhid ?_
     (refine pwp_cut 13 [65] ?_;apply pwp_drawn_to;(focus kernel_rfl);(focus (simp only [List.length_cons,List.length_nil,Nat.reduceAdd];(repeat' first|((refine plc [] (v2) ?_ ?_;push_cast [iO,tN,  ha];rintro r os ⟨rfl,rfl⟩;push_cast [iO,tN,  ha]))|((first|refine pah 0 ?_|refine pah 1 ?_|refine pah 2 ?_|refine pah 3 ?_|refine pah 4 ?_|refine pah 5 ?_|refine pah 6 ?_|refine pah 9 ?_|refine pah 10 ?_|refine pah 11 ?_|refine pah 12 ?_|refine pah 13 ?_);push_cast [iO,tN,  ha])|(refine pad ?_;first|with_reducible exact weak_cutS 13 [65] _|(refine weak_fg ?_;push_cast [iO,tN,  ha]))|((first|refine pas [7] ?_|refine pas [8] ?_);push_cast [iO,tN,  ha])|((first|refine pas [7,8] ?_);push_cast [iO,tN,  ha];refine ⟨?_,?_⟩));done));push_cast [iO,tN,  ha])
     repeat' (first|((refine ql_call2 false rfl rfl (by kernel_rfl) (h1) (fun r os h=>h.1) rfl ?_ ?_;push_cast [iO,tN,ha];refine ql_of_qops ?_;push_cast [iO,tN,ha]))|((refine ql_call2 false rfl rfl (by kernel_rfl) (hi) (fun r os h=>h.1) rfl ?_ ?_;push_cast [iO,tN,ha];refine ql_of_qops ?_;push_cast [iO,tN,ha]))|((first|refine pC ?_|refine pQC ?_|refine pU ?_);push_cast [iO,tN,ha])|(refine pif (fun h=>?_) (fun h=>?_)<;>first|exact pN h|push_cast [iO,tN,ha]))
     (refine retK_of [] ?_;push_cast [iO,tN,hno])
    | false =>
     rw [hb3] at h1 hat
     cases hb4:ifaceS a.value with
     | false =>
      rw [hb4] at hi hat
      have hno:=fitsB_no hlt (hat.trans (by simp))
      repeat' (first|((refine plc [] (v1) ?_ ?_;push_cast [iO,tN,ha];rintro r os ⟨rfl,rfl⟩;push_cast [iO,tN,ha]))|(refine hidR 5 ?_)|((first|refine pC ?_|refine pQC ?_|refine pU ?_);push_cast [iO,tN,ha])|(refine pif (fun h=>?_) (fun h=>?_)<;>first|exact pN h|push_cast [iO,tN,ha]))
      refine unhid ?_
      (refine pwp_cut 13 [65] ?_;apply pwp_drawn_to;(focus kernel_rfl);(focus (simp only [List.length_cons,List.length_nil,Nat.reduceAdd];(repeat' first|((refine plc [] (v2) ?_ ?_;push_cast [iO,tN,  ha];rintro r os ⟨rfl,rfl⟩;push_cast [iO,tN,  ha]))|((first|refine pah 0 ?_|refine pah 1 ?_|refine pah 2 ?_|refine pah 3 ?_|refine pah 4 ?_|refine pah 5 ?_|refine pah 6 ?_|refine pah 9 ?_|refine pah 10 ?_|refine pah 11 ?_|refine pah 12 ?_|refine pah 13 ?_);push_cast [iO,tN,  ha])|(refine pad ?_;first|with_reducible exact weak_cutS 13 [65] _|(refine weak_fg ?_;push_cast [iO,tN,  ha]))|((first|refine pas [7] ?_|refine pas [8] ?_);push_cast [iO,tN,  ha])|((first|refine pas [7,8] ?_);push_cast [iO,tN,  ha];refine ⟨?_,?_⟩));done));push_cast [iO,tN,  ha])
      repeat' (first|((refine ql_call2 false rfl rfl (by kernel_rfl) (h1) (fun r os h=>h.1) rfl ?_ ?_;push_cast [iO,tN,ha];refine ql_of_qops ?_;push_cast [iO,tN,ha]))|((refine ql_call2 false rfl rfl (by kernel_rfl) (hi) (fun r os h=>h.1) rfl ?_ ?_;push_cast [iO,tN,ha];refine ql_of_qops ?_;push_cast [iO,tN,ha]))|((first|refine pC ?_|refine pQC ?_|refine pU ?_);push_cast [iO,tN,ha])|(refine pif (fun h=>?_) (fun h=>?_)<;>first|exact pN h|push_cast [iO,tN,ha]))
      (refine retK_of [] ?_;push_cast [iO,tN,hno])
     | true =>
      rw [hb4] at hi hat
      have hok:fitAt now names k=true:=hat.trans (by simp)
      repeat' (first|((refine plc [] (v1) ?_ ?_;push_cast [iO,tN,ha];rintro r os ⟨rfl,rfl⟩;push_cast [iO,tN,ha]))|(refine hidR 5 ?_)|((first|refine pC ?_|refine pQC ?_|refine pU ?_);push_cast [iO,tN,ha])|(refine pif (fun h=>?_) (fun h=>?_)<;>first|exact pN h|push_cast [iO,tN,ha]))
      refine unhid ?_
      (refine pwp_cut 13 [65] ?_;apply pwp_drawn_to;(focus kernel_rfl);(focus (simp only [List.length_cons,List.length_nil,Nat.reduceAdd];(repeat' first|((refine plc [] (v2) ?_ ?_;push_cast [iO,tN,  ha];rintro r os ⟨rfl,rfl⟩;push_cast [iO,tN,  ha]))|((first|refine pah 0 ?_|refine pah 1 ?_|refine pah 2 ?_|refine pah 3 ?_|refine pah 4 ?_|refine pah 5 ?_|refine pah 6 ?_|refine pah 9 ?_|refine pah 10 ?_|refine pah 11 ?_|refine pah 12 ?_|refine pah 13 ?_);push_cast [iO,tN,  ha])|(refine pad ?_;first|with_reducible exact weak_cutS 13 [65] _|(refine weak_fg ?_;push_cast [iO,tN,  ha]))|((first|refine pas [7] ?_|refine pas [8] ?_);push_cast [iO,tN,  ha])|((first|refine pas [7,8] ?_);push_cast [iO,tN,  ha];refine ⟨?_,?_⟩));done));push_cast [iO,tN,  ha])
      repeat' (first|((refine ql_call2 false rfl rfl (by kernel_rfl) (h1) (fun r os h=>h.1) rfl ?_ ?_;push_cast [iO,tN,ha];refine ql_of_qops ?_;push_cast [iO,tN,ha]))|((refine ql_call2 false rfl rfl (by kernel_rfl) (hi) (fun r os h=>h.1) rfl ?_ ?_;push_cast [iO,tN,ha];refine ql_of_qops ?_;push_cast [iO,tN,ha]))|((first|refine pC ?_|refine pQC ?_|refine pU ?_);push_cast [iO,tN,ha])|(refine pif (fun h=>?_) (fun h=>?_)<;>first|exact pN h|push_cast [iO,tN,ha]))
      refine ⟨k+1,⟨by omega,fun j hj=>?_⟩,by (refine weak_fg ?_;push_cast [iO,tN]),by omega⟩
      by_cases e:j=k
      ·rw [e];exact hok
      ·exact hpre j (by omega)
 case neg =>
  have hk2:k=names.length:=by omega
  subst hk2
  have hall:((List.range names.length).all fun i=>fitAt now names i)=true:=List.all_eq_true.2 fun j hj=>hpre j (List.mem_range.1 hj)
  repeat' (first|((first|refine pC ?_|refine pQC ?_|refine pU ?_);push_cast [iO,tN])|(refine pif (fun h=>?_) (fun h=>?_)<;>first|exact pN h|push_cast [iO,tN]))
  (apply pwp_loop3 (α:=Nat) 13 [65] (fun i=>[(10,.c (.v (.int .i64 i)))]) (fun i=>[]) (fun i=>i≤now.length∧∀ j,j < i → (inM (now.getD j default).value (vals names) && !inM (now.getD j default).name (keys names))=false) (fun i=>now.length - i) (0);(focus ((try push_cast [iO,tN]);rfl));(focus exact ⟨Nat.zero_le _,fun j hj=>by omega⟩);(focus ((refine weak_fg ?_;try push_cast [iO,tN]))))
  rintro i ⟨hi,hpi⟩
  push_cast [iO,tN]
  by_cases hit:i < now.length
  case neg =>
   have hany:(now.any fun x=>inM x.value (vals names) && !inM x.name (keys names))=false:=by
    rw [List.any_eq_false]
    intro x hx
    obtain ⟨j,hj,rfl⟩:=List.getElem_of_mem hx
    have:=hpi j (by omega)
    rw [getD_lt now hj] at this
    simp [this]
   have hok:fitsB now names=true:=by unfold fitsB;rw [hall,hany];rfl
   repeat' (first|((first|refine pC ?_|refine pQC ?_|refine pU ?_);push_cast [iO,tN])|(refine pif (fun h=>?_) (fun h=>?_)<;>first|exact pN h|push_cast [iO,tN]))
   (refine retK_of [] ?_;push_cast [iO,tN,hok])
  obtain ⟨a,ha⟩:∃ a,now.getD i default=a:=⟨_,rfl⟩
  have ham:a ∈ now:=by rw [← ha];exact getD_mem hit
  have v1:=rvalue_pure names a.name (by omega)
  have h1:=rhas_pure names a.value (by omega)
  rw [valOf_isSome] at v1
  cases hb1:inM a.name (keys names) with
  | true =>
   rw [hb1] at v1
   repeat' (first|((refine plc [] (v1) ?_ ?_;push_cast [iO,tN,ha];rintro r os ⟨rfl,rfl⟩;push_cast [iO,tN,ha]))|((refine plc [] (h1) ?_ ?_;push_cast [iO,tN,ha];rintro r os ⟨rfl,rfl⟩;push_cast [iO,tN,ha]))|((first|refine pC ?_|refine pQC ?_|refine pU ?_);push_cast [iO,tN,ha])|(refine pif (fun h=>?_) (fun h=>?_)<;>first|exact pN h|push_cast [iO,tN,ha]))
   refine ⟨i+1,⟨by omega,fun j hj=>?_⟩,by (refine weak_fg ?_;push_cast [iO,tN]),by omega⟩
   by_cases e:j=i
   ·rw [e,ha,hb1,Bool.not_true,Bool.and_false]
   ·exact hpi j (by omega)
  | false =>
   rw [hb1] at v1
   cases hb2:inM a.value (vals names) with
   | true =>
    rw [hb2] at h1
    have hany:(now.any fun x=>inM x.value (vals names) && !inM x.name (keys names))=true:=List.any_eq_true.2 ⟨a,ham,by rw [hb1,hb2];rfl⟩
    have hno:fitsB now names=false:=by unfold fitsB;rw [hany];simp
    repeat' (first|((refine plc [] (v1) ?_ ?_;push_cast [iO,tN,ha];rintro r os ⟨rfl,rfl⟩;push_cast [iO,tN,ha]))|((refine plc [] (h1) ?_ ?_;push_cast [iO,tN,ha];rintro r os ⟨rfl,rfl⟩;push_cast [iO,tN,ha]))|((first|refine pC ?_|refine pQC ?_|refine pU ?_);push_cast [iO,tN,ha])|(refine pif (fun h=>?_) (fun h=>?_)<;>first|exact pN h|push_cast [iO,tN,ha]))
    (refine retK_of [] ?_;push_cast [iO,tN,hno])
   | false =>
    rw [hb2] at h1
    repeat' (first|((refine plc [] (v1) ?_ ?_;push_cast [iO,tN,ha];rintro r os ⟨rfl,rfl⟩;push_cast [iO,tN,ha]))|((refine plc [] (h1) ?_ ?_;push_cast [iO,tN,ha];rintro r os ⟨rfl,rfl⟩;push_cast [iO,tN,ha]))|((first|refine pC ?_|refine pQC ?_|refine pU ?_);push_cast [iO,tN,ha])|(refine pif (fun h=>?_) (fun h=>?_)<;>first|exact pN h|push_cast [iO,tN,ha]))
    refine ⟨i+1,⟨by omega,fun j hj=>?_⟩,by (refine weak_fg ?_;push_cast [iO,tN]),by omega⟩
    by_cases e:j=i
    ·rw [e,ha,hb2,Bool.false_and]
    ·exact hpi j (by omega)
end Go.Proofs.YthconflkbeipoaaGreatDoor
