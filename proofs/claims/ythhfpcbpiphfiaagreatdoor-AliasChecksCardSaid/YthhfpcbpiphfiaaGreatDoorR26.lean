/- What the program computes, and the plain laws of it, part 26. -/
import Derived.WideKeyEntry
import Derived.Test.YthhfpcbpiphfiaaGreatDoorR25
namespace Go.Proofs.YthhfpcbpiphfiaaGreatDoor
attribute [local irreducible] PL QL PWPr PCalls Weak RetK Kontr PA
open Go.RowKit
open IntWalk renaming iteOmega → iO, toNatUp → tN
set_option linter.unusedVariables false
set_option linter.unusedSimpArgs false
set_option maxRecDepth 20000
def srO (p q:Alts) (es:List (MK × List D)):List Ob:=[.box 77 [.sl 1 (altsD p),.sl 1 (altsD q),.mp 1],.map (some (.wide 4)) false es]
attribute [push_cast] srO
structure AltsOk (l:Alts):Prop where
 len:l.length≤1000000
 els:∀ a,(altV l a).length≤1000000
 set:∀ a,∀ e ∈ altV l a,e.set.length=127
def noEl:El:=⟨0,false,List.replicate 127 false⟩
theorem starV_get (l:Alts) (a i:Nat):starV (atV l a i)=((atV l a i).isSome && ((atV l a i).getD noEl).star):=by
 unfold starV
 cases atV l a i<;>rfl
set_option maxHeartbeats 8000000 in
theorem gskips_pure (p q:Alts) (es:List (MK × List D)) (x:Pr) (hx:PrOk p q x) (hp:AltsOk p) (hq:AltsOk q) :
  PCalls Tryz.prog 50 [.c (.ptr 0 0),.agg x.e] (srO p q es) fun r os=>r = .c (.sl 4 ((skipsV p q x).map Pr.d))∧os=srO p q es:=by
 have h1:=gat_pure p x.pa x.pi hx.a hx.i (by have:=hp.len;omega) (by have:=hp.els x.pa;omega) (hp.set x.pa)
 have h2:=gat_pure q x.qa x.qi hx.b hx.j (by have:=hq.len;omega) (by have:=hq.els x.qa;omega) (hq.set x.qa)
 have n1:=gnext_pure x.pa x.pi (by have:=hx.i;have:=hp.els x.pa;omega)
 have n2:=gnext_pure x.qa x.qi (by have:=hx.j;have:=hq.els x.qa;omega)
 unfold skipsV skip1 skip2
 rw [starV_get,starV_get]
 obtain ⟨s1,hs1⟩:∃ s,(atV p x.pa x.pi).isSome=s:=⟨_,rfl⟩
 obtain ⟨s2,hs2⟩:∃ s,(atV q x.qa x.qi).isSome=s:=⟨_,rfl⟩
 obtain ⟨e1,he1⟩:∃ e,(atV p x.pa x.pi).getD noEl=e:=⟨_,rfl⟩
 obtain ⟨e2,he2⟩:∃ e,(atV q x.qa x.qi).getD noEl=e:=⟨_,rfl⟩
 rw [show (⟨0,false,List.replicate 127 false⟩:El)=noEl from rfl,hs1,he1] at h1
 rw [show (⟨0,false,List.replicate 127 false⟩:El)=noEl from rfl,hs2,he2] at h2
 rw [hs1,hs2,he1,he2]
 have d1:e1.d.map D.e = .v (.int .u8 (e1.lit:Int)) :: .v (.bool e1.star) :: e1.set.map boolE:=by unfold El.d;simp only [List.map_cons,boolD_e];rfl
 have d2:e2.d.map D.e = .v (.int .u8 (e2.lit:Int)) :: .v (.bool e2.star) :: e2.set.map boolE:=by unfold El.d;simp only [List.map_cons,boolD_e];rfl
 have l1:e1.set.length=127:=by
  rw [← he1]
  cases hc:atV p x.pa x.pi with
  | none=>simp [noEl]
  | some e =>
   obtain ⟨g1,g2⟩:=atV_some hx.i hc
   rw [Option.getD_some,g2]
   exact hp.set x.pa _ (by rw [getD_lt _ g1];exact List.getElem_mem _)
 have l2:e2.set.length=127:=by
  rw [← he2]
  cases hc:atV q x.qa x.qi with
  | none=>simp [noEl]
  | some e =>
   obtain ⟨g1,g2⟩:=atV_some hx.j hc
   rw [Option.getD_some,g2]
   exact hq.set x.qa _ (by rw [getD_lt _ g1];exact List.getElem_mem _)
 rw [d1] at h1
 rw [d2] at h2
 obtain ⟨b1,hb1⟩:∃ b,e1.set.map boolE=b:=⟨_,rfl⟩
 obtain ⟨b2,hb2⟩:∃ b,e2.set.map boolE=b:=⟨_,rfl⟩
 have lb1:b1.length=127:=by rw [← hb1,List.length_map];exact l1
 have lb2:b2.length=127:=by rw [← hb2,List.length_map];exact l2
 have k1:∀ n,b1.all (keyOk n)=true:=fun n=>by rw [← hb1,List.all_map];exact List.all_eq_true.2 fun _ _=>rfl
 have k2:∀ n,b2.all (keyOk n)=true:=fun n=>by rw [← hb2,List.all_map];exact List.all_eq_true.2 fun _ _=>rfl
 have r1:∀ r,b1.map (E.ren r)=b1:=fun r=>by rw [← hb1,List.map_map];rfl
 have r2:∀ r,b2.map (E.ren r)=b2:=fun r=>by rw [← hb2,List.map_map];rfl
 rw [hb1] at h1
 rw [hb2] at h2
 obtain ⟨st1,hst1⟩:∃ b,e1.star=b:=⟨_,rfl⟩
 obtain ⟨st2,hst2⟩:∃ b,e2.star=b:=⟨_,rfl⟩
 rw [hst1] at h1 ⊢
 rw [hst2] at h2 ⊢
 refine pcalls_of Tryz.func50 rfl (by simp [Tryz.ntmps50]) ?_
 rw [Tryz.ntmps50,Tryz.results50]
 push_cast [iO,tN]
 have cB:CutB 10 [24,48]:=trivial
 repeat' (first |  (refine hidR 2 ?_)  | ((first|refine pC ?_|refine pQC ?_|refine pU ?_);push_cast [iO,tN])|(refine pif (fun h=>?_) (fun h=>?_)<;>first|exact pN h|push_cast [iO,tN]))
 refine unhid ?_
 refine pwp_weak (weak_adopt 5 82 4 (by omega) (by push_cast [iO,tN])) ?_
 push_cast [iO,tN]
 (refine pwp_cut 10 [24,48] ?_;apply pwp_drawn_to;(focus kernel_rfl);(focus (simp only [List.length_cons,List.length_nil,Nat.reduceAdd];(repeat' first|((refine plc [] (h1) ?_ ?_;push_cast [iO,tN,  lb1,r1,k1];rintro r os ⟨rfl,rfl⟩;push_cast [iO,tN,  lb1,r1,k1]))|((first|refine pah 0 ?_|refine pah 1 ?_|refine pah 2 ?_|refine pah 4 ?_|refine pah 7 ?_|refine pah 8 ?_|refine pah 9 ?_|refine pah 12 ?_);push_cast [iO,tN,  lb1,r1,k1])|((first|refine pal 3 ?_|refine pal 5 ?_);push_cast [iO,tN,  lb1,r1,k1])|(refine pad ?_;first|with_reducible exact weak_cutS 10 [24,48] _|(refine weak_fg ?_;push_cast [iO,tN,  lb1,r1,k1]))|((first|refine pas [6] ?_|refine pas [10] ?_|refine pas [11] ?_);push_cast [iO,tN,  lb1,r1,k1])|((first|refine pas [6,10] ?_);push_cast [iO,tN,  lb1,r1,k1];refine ⟨?_,?_⟩));done));push_cast [iO,tN,  lb1,r1,k1])
 cases s1 with
 | false =>
  simp only [Bool.false_and,Bool.false_eq_true,if_false,List.nil_append]
  push_cast [iO,tN]
  (refine pwp_cut 10 [24,48] ?_;apply pwp_drawn_to;(focus kernel_rfl);(focus (simp only [List.length_cons,List.length_nil,Nat.reduceAdd];(repeat' first|((refine plc [] (h2) ?_ ?_;push_cast [iO,tN,  lb1,r1,k1,lb2,r2,k2];rintro r os ⟨rfl,rfl⟩;push_cast [iO,tN,  lb1,r1,k1,lb2,r2,k2]))|((first|refine pah 0 ?_|refine pah 1 ?_|refine pah 2 ?_|refine pah 4 ?_|refine pah 7 ?_|refine pah 8 ?_|refine pah 9 ?_|refine pah 12 ?_);push_cast [iO,tN,  lb1,r1,k1,lb2,r2,k2])|((first|refine pal 3 ?_|refine pal 5 ?_);push_cast [iO,tN,  lb1,r1,k1,lb2,r2,k2])|(refine pad ?_;first|with_reducible exact weak_cutS 10 [24,48] _|(refine weak_fg ?_;push_cast [iO,tN,  lb1,r1,k1,lb2,r2,k2]))|((first|refine pas [6] ?_|refine pas [10] ?_|refine pas [11] ?_);push_cast [iO,tN,  lb1,r1,k1,lb2,r2,k2])|((first|refine pas [6,10] ?_);push_cast [iO,tN,  lb1,r1,k1,lb2,r2,k2];refine ⟨?_,?_⟩));done));push_cast [iO,tN,  lb1,r1,k1,lb2,r2,k2])
  cases s2 with
  | false =>
   simp only [Bool.false_and,Bool.false_eq_true,if_false,List.append_nil]
   push_cast [iO,tN]
   (refine retK_of [0,1] ?_;push_cast [iO,tN,List.map_cons,List.map_nil,List.map_append])
  | true =>
   cases st2 with
   | false =>
    simp only [Bool.and_false,Bool.false_eq_true,if_false,List.append_nil]
    push_cast [iO,tN]
    (refine retK_of [0,1] ?_;push_cast [iO,tN,List.map_cons,List.map_nil,List.map_append])
   | true =>
    simp only [Bool.and_true,if_true]
    push_cast [iO,tN]
    refine pwp_weak (s':=⟨[(5,.c (.own 3 (0))),(4,.c (.v (.slice none 0 0))),(3,.c (.ptr 2 0)),(0,.c (.ptr 0 0))],[.box 77 [.sl 1 (altsD p),.sl 1 (altsD q),.mp 1],.map (some (.wide 4)) false es,.box 82 x.e,.arr 82 4 []]⟩) (by (refine weak_fg ?_;push_cast [iO,tN])) ?_
    push_cast [iO,tN]
    (refine pwp_cut 10 [24,48] ?_;apply pwp_drawn_to;(focus kernel_rfl);(focus (simp only [List.length_cons,List.length_nil,Nat.reduceAdd];(repeat' first|((refine plc [] (n2) ?_ ?_;push_cast [iO,tN];rintro r os ⟨rfl,rfl⟩;push_cast [iO,tN]))|((first|refine pah 0 ?_|refine pah 1 ?_|refine pah 3 ?_|refine pah 6 ?_|refine pah 9 ?_);push_cast [iO,tN])|((first|refine pal 4 ?_);push_cast [iO,tN])|(refine pad ?_;first|with_reducible exact weak_cutS 10 [24,48] _|(refine weak_fg ?_;push_cast [iO,tN]))|((first|refine pas [2] ?_|refine pas [5] ?_|refine pas [7] ?_|refine pas [8] ?_);push_cast [iO,tN])|((first|refine pas [2,5] ?_);push_cast [iO,tN];refine ⟨?_,?_⟩));done));push_cast [iO,tN])
    (refine retK_of [0,1] ?_;push_cast [iO,tN,List.map_cons,List.map_nil,List.map_append])
 | true =>
  cases st1 with
  | false =>
   simp only [Bool.and_false,Bool.false_eq_true,if_false,List.nil_append]
   push_cast [iO,tN]
   (refine pwp_cut 10 [24,48] ?_;apply pwp_drawn_to;(focus kernel_rfl);(focus (simp only [List.length_cons,List.length_nil,Nat.reduceAdd];(repeat' first|((refine plc [] (h2) ?_ ?_;push_cast [iO,tN,  lb1,r1,k1,lb2,r2,k2];rintro r os ⟨rfl,rfl⟩;push_cast [iO,tN,  lb1,r1,k1,lb2,r2,k2]))|((first|refine pah 0 ?_|refine pah 1 ?_|refine pah 2 ?_|refine pah 4 ?_|refine pah 7 ?_|refine pah 8 ?_|refine pah 9 ?_|refine pah 12 ?_);push_cast [iO,tN,  lb1,r1,k1,lb2,r2,k2])|((first|refine pal 3 ?_|refine pal 5 ?_);push_cast [iO,tN,  lb1,r1,k1,lb2,r2,k2])|(refine pad ?_;first|with_reducible exact weak_cutS 10 [24,48] _|(refine weak_fg ?_;push_cast [iO,tN,  lb1,r1,k1,lb2,r2,k2]))|((first|refine pas [6] ?_|refine pas [10] ?_|refine pas [11] ?_);push_cast [iO,tN,  lb1,r1,k1,lb2,r2,k2])|((first|refine pas [6,10] ?_);push_cast [iO,tN,  lb1,r1,k1,lb2,r2,k2];refine ⟨?_,?_⟩));done));push_cast [iO,tN,  lb1,r1,k1,lb2,r2,k2])
   cases s2 with
   | false =>
    simp only [Bool.false_and,Bool.false_eq_true,if_false,List.append_nil]
    push_cast [iO,tN]
    (refine retK_of [0,1] ?_;push_cast [iO,tN,List.map_cons,List.map_nil,List.map_append])
   | true =>
    cases st2 with
    | false =>
     simp only [Bool.and_false,Bool.false_eq_true,if_false,List.append_nil]
     push_cast [iO,tN]
     (refine retK_of [0,1] ?_;push_cast [iO,tN,List.map_cons,List.map_nil,List.map_append])
    | true =>
     simp only [Bool.and_true,if_true]
     push_cast [iO,tN]
     refine pwp_weak (s':=⟨[(5,.c (.own 3 (0))),(4,.c (.v (.slice none 0 0))),(3,.c (.ptr 2 0)),(0,.c (.ptr 0 0))],[.box 77 [.sl 1 (altsD p),.sl 1 (altsD q),.mp 1],.map (some (.wide 4)) false es,.box 82 x.e,.arr 82 4 []]⟩) (by (refine weak_fg ?_;push_cast [iO,tN])) ?_
     push_cast [iO,tN]
     (refine pwp_cut 10 [24,48] ?_;apply pwp_drawn_to;(focus kernel_rfl);(focus (simp only [List.length_cons,List.length_nil,Nat.reduceAdd];(repeat' first|((refine plc [] (n2) ?_ ?_;push_cast [iO,tN];rintro r os ⟨rfl,rfl⟩;push_cast [iO,tN]))|((first|refine pah 0 ?_|refine pah 1 ?_|refine pah 3 ?_|refine pah 6 ?_|refine pah 9 ?_);push_cast [iO,tN])|((first|refine pal 4 ?_);push_cast [iO,tN])|(refine pad ?_;first|with_reducible exact weak_cutS 10 [24,48] _|(refine weak_fg ?_;push_cast [iO,tN]))|((first|refine pas [2] ?_|refine pas [5] ?_|refine pas [7] ?_|refine pas [8] ?_);push_cast [iO,tN])|((first|refine pas [2,5] ?_);push_cast [iO,tN];refine ⟨?_,?_⟩));done));push_cast [iO,tN])
     (refine retK_of [0,1] ?_;push_cast [iO,tN,List.map_cons,List.map_nil,List.map_append])
  | true =>
   simp only [Bool.and_true,if_true]
   push_cast [iO,tN]
   refine pwp_weak (s':=⟨[(5,.c (.own 3 (0))),(4,.c (.v (.slice none 0 0))),(3,.c (.ptr 2 0)),(0,.c (.ptr 0 0))],[.box 77 [.sl 1 (altsD p),.sl 1 (altsD q),.mp 1],.map (some (.wide 4)) false es,.box 82 x.e,.arr 82 4 []]⟩) (by (refine weak_fg ?_;push_cast [iO,tN])) ?_
   push_cast [iO,tN]
   (refine pwp_cut 10 [24,48] ?_;apply pwp_drawn_to;(focus kernel_rfl);(focus (simp only [List.length_cons,List.length_nil,Nat.reduceAdd];(repeat' first|((refine plc [] (n1) ?_ ?_;push_cast [iO,tN];rintro r os ⟨rfl,rfl⟩;push_cast [iO,tN]))|((first|refine pah 0 ?_|refine pah 1 ?_|refine pah 4 ?_|refine pah 6 ?_|refine pah 9 ?_);push_cast [iO,tN])|((first|refine pal 2 ?_);push_cast [iO,tN])|(refine pad ?_;first|with_reducible exact weak_cutS 10 [24,48] _|(refine weak_fg ?_;push_cast [iO,tN]))|((first|refine pas [3] ?_|refine pas [5] ?_|refine pas [7] ?_|refine pas [8] ?_);push_cast [iO,tN])|((first|refine pas [3,5] ?_);push_cast [iO,tN];refine ⟨?_,?_⟩));done));push_cast [iO,tN])
   (refine pwp_cut 10 [24,48] ?_;apply pwp_drawn_to;(focus kernel_rfl);(focus (simp only [List.length_cons,List.length_nil,Nat.reduceAdd];(repeat' first|((refine plc [] (h2) ?_ ?_;push_cast [iO,tN,  lb2,r2,k2];rintro r os ⟨rfl,rfl⟩;push_cast [iO,tN,  lb2,r2,k2]))|((first|refine pah 0 ?_|refine pah 1 ?_|refine pah 2 ?_|refine pah 4 ?_|refine pah 7 ?_|refine pah 8 ?_|refine pah 9 ?_|refine pah 12 ?_);push_cast [iO,tN,  lb2,r2,k2])|((first|refine pal 3 ?_|refine pal 5 ?_);push_cast [iO,tN,  lb2,r2,k2])|(refine pad ?_;first|with_reducible exact weak_cutS 10 [24,48] _|(refine weak_fg ?_;push_cast [iO,tN,  lb2,r2,k2]))|((first|refine pas [6] ?_|refine pas [10] ?_|refine pas [11] ?_);push_cast [iO,tN,  lb2,r2,k2])|((first|refine pas [6,10] ?_);push_cast [iO,tN,  lb2,r2,k2];refine ⟨?_,?_⟩));done));push_cast [iO,tN,  lb2,r2,k2])
   cases s2 with
   | false =>
    simp only [Bool.false_and,Bool.false_eq_true,if_false,List.append_nil]
    push_cast [iO,tN]
    (refine retK_of [0,1] ?_;push_cast [iO,tN,List.map_cons,List.map_nil,List.map_append])
   | true =>
    cases st2 with
    | false =>
     simp only [Bool.and_false,Bool.false_eq_true,if_false,List.append_nil]
     push_cast [iO,tN]
     (refine retK_of [0,1] ?_;push_cast [iO,tN,List.map_cons,List.map_nil,List.map_append])
    | true =>
     simp only [Bool.and_true,if_true]
     push_cast [iO,tN]
     refine pwp_weak (s':=⟨[(5,.c (.own 3 (1))),(4,.c (.v (.slice none 0 0))),(3,.c (.ptr 2 0)),(0,.c (.ptr 0 0))],[.box 77 [.sl 1 (altsD p),.sl 1 (altsD q),.mp 1],.map (some (.wide 4)) false es,.box 82 x.e,.arr 82 4 [[.v (.int .i64 x.pa),.v (.int .i64 (x.pi+1:Nat)),.v (.int .i64 x.qa),.v (.int .i64 x.qi)]]]⟩) (by (refine weak_fg ?_;push_cast [iO,tN])) ?_
     push_cast [iO,tN]
     (refine pwp_cut 10 [24,48] ?_;apply pwp_drawn_to;(focus kernel_rfl);(focus (simp only [List.length_cons,List.length_nil,Nat.reduceAdd];(repeat' first|((refine plc [] (n2) ?_ ?_;push_cast [iO,tN];rintro r os ⟨rfl,rfl⟩;push_cast [iO,tN]))|((first|refine pah 0 ?_|refine pah 1 ?_|refine pah 3 ?_|refine pah 6 ?_|refine pah 9 ?_);push_cast [iO,tN])|((first|refine pal 4 ?_);push_cast [iO,tN])|(refine pad ?_;first|with_reducible exact weak_cutS 10 [24,48] _|(refine weak_fg ?_;push_cast [iO,tN]))|((first|refine pas [2] ?_|refine pas [5] ?_|refine pas [7] ?_|refine pas [8] ?_);push_cast [iO,tN])|((first|refine pas [2,5] ?_);push_cast [iO,tN];refine ⟨?_,?_⟩));done));push_cast [iO,tN])
     (refine retK_of [0,1] ?_;push_cast [iO,tN,List.map_cons,List.map_nil,List.map_append])
end Go.Proofs.YthhfpcbpiphfiaaGreatDoor
