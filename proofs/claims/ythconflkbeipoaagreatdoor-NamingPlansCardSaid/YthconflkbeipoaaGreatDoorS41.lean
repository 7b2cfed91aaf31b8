/- What the program computes, and the plain laws of it, part 41. -/
import Derived.Test.YthconflkbeipoaaGreatDoorS28
import Derived.Test.YthconflkbeipoaaGreatDoorS40
namespace Go.Proofs.YthconflkbeipoaaGreatDoor
attribute [local irreducible] PL QL PWPr PCalls Weak RetK Kontr PA
open Go.RowKit
open IntWalk renaming iteOmega → iO, toNatUp → tN
set_option linter.unusedVariables false
set_option linter.unusedSimpArgs false
set_option maxRecDepth 20000
def firstZ:Option Nat → Int
 | none => -1
 | some i=>(i:Int)
theorem idx_first {q:Atr → Bool} {l:List Atr} {k:Int} (h:idxB q l k):k=firstZ (firstI l q):=by
 rcases h with ⟨rfl,h⟩|⟨i,rfl,hi,hq,hp⟩
 ·rw [firstI_no fun i hi=>h _ (by rw [getD_lt l hi];exact List.getElem_mem _)];rfl
 ·rw [firstI_of hi hq fun j hj=>hp _ (List.mem_take_iff_getElem.2 ⟨j,by omega,by rw [getD_lt l (by omega)]⟩)];rfl
theorem idx1x_pure (names now:List Atr) (tk:List ByteArray) (ht:TakOk now tk) (hn:now.length≤1000000) :
  PCalls Tryz.prog 80 [.c (.own 2 now.length),.c (.fn (.func 81) [] [0])] (plO1 names now tk) fun r os=>r = .c (.v (.int .i64 (firstZ (firstI now (freeP names now)))))∧os=plO1 names now tk :=
 (idx1_pure names now tk ht hn).mono fun r os ⟨k,hk,hr,ho⟩=>⟨by rw [hr,idx_first hk],ho⟩
theorem idx2x_pure (names now:List Atr) (tk:List ByteArray) (ht:TakOk now tk) (hn:now.length≤1000000) :
  PCalls Tryz.prog 80 [.c (.own 1 now.length),.c (.fn (.func 82) [.v .nilFunc] [0])] (plO names now tk) fun r os=>r = .c (.v (.int .i64 (firstZ (firstI now (wrongP names)))))∧os=plO names now tk :=
 (idx2_pure names now tk ht hn).mono fun r os ⟨k,hk,hr,ho⟩=>⟨by rw [hr,idx_first hk],ho⟩
set_option maxHeartbeats 8000000 in
theorem step_pure (names now:List Atr) (tk:List ByteArray) (h:PlanOk names now) (ht:TakOk now tk) (hfew:names.length+now.length≤90) :
  PCalls Tryz.prog 41 [.c (.ptr 0 0)] (plO names now tk) fun r os=>(nextP names now=none∧r = .two (.agg [.v (.string ⟨#[]⟩),.v (.string ⟨#[]⟩),.v (.string ⟨#[]⟩)]) (.c (.v (.bool false)))∧os=plO names now tk)∨∃ (i:Nat) (u:ByteArray) (tk':List ByteArray),nextP names now=some (i,u)∧TakOk (renP now i u) tk'∧r = .two (.agg (Ren.e ⟨(now.getD i default).name,(now.getD i default).value,u⟩)) (.c (.v (.bool true)))∧os=plO names (renP now i u) tk':=by
 have h1:=idx1x_pure names now tk ht (by omega)
 have h2:=idx2x_pure names now tk ht (by omega)
 have htm:=temporary_pure names now tk ht hfew
 refine pcalls_of Tryz.func41 rfl (by simp [Tryz.ntmps41]) ?_
 rw [Tryz.ntmps41,Tryz.results41]
 push_cast [iO,tN]
 have cB:CutB 6 []:=trivial
 cases e1:firstI now (freeP names now) with
 | some i =>
  obtain ⟨g1,g2,_⟩:=firstI_some e1
  have hnp:nextP names now=some (i,goalP names (now.getD i default)):=by unfold nextP;rw [e1]
  have hsp:=nextP_spec h hnp
  rw [e1] at h1
  simp only [firstZ] at h1
  have hre:=rename_pure names now tk i (goalP names (now.getD i default)) g1 (by omega)
  have htk:=ht.ren h.pv g1 (goalP names (now.getD i default))
  obtain ⟨a,ha⟩:∃ a,now.getD i default=a:=⟨_,rfl⟩
  have hl:=lk_tg0 names a.name
  have hg:(valOf names a.name).getD ⟨#[]⟩=goalP names a:=rfl
  rw [hg] at hl
  rw [ha] at hre htk hnp
  obtain ⟨u,hu⟩:∃ u,goalP names a=u:=⟨_,rfl⟩
  rw [hu] at hl hre htk hnp
  obtain ⟨tk',htk'⟩:∃ tk',addS (delS tk a.value) u=tk':=⟨_,rfl⟩
  rw [htk'] at hre htk
  have hrl:=len_renP now i u
  obtain ⟨now',hnow⟩:∃ now',renP now i u=now':=⟨_,rfl⟩
  repeat' (first|((refine plc [4,0,1,2,3] (h1) ?_ ?_;push_cast [iO,tN,ha];rintro r os ⟨rfl,rfl⟩;push_cast [iO,tN,ha]))|(refine hidR 3 ?_)|((first|refine pC ?_|refine pQC ?_|refine pU ?_);push_cast [iO,tN,ha])|(refine pif (fun h=>?_) (fun h=>?_)<;>first|exact pN h|push_cast [iO,tN,ha]))
  refine unhid ?_
  (refine pwp_cut 6 [] ?_;refine pwp_drawn (by kernel_rfl) ?_;simp only [List.length_cons,List.length_nil,Nat.reduceAdd];refine pah 1 ?_;push_cast [iO,tN,  ha,hl];refine pah 10 ?_;push_cast [iO,tN,  ha,hl];apply pa_hav;intro z27;apply pa_hav;intro z26;apply pa_hav;intro z25;apply pa_hav;intro z23;apply pa_hav;intro z24;apply pa_hav;intro z20;apply pa_hav;intro z21;apply pa_hav;intro z22;apply pa_hav;intro z16;apply pa_hav;intro z18;apply pa_hav;intro z19;apply pa_hav;intro z13;apply pa_hav;intro z15;apply pa_hav;intro z17;apply pa_hav;intro z10;apply pa_hav;intro z11;apply pa_hav;intro z12;apply pa_hav;intro z14;apply pa_hav;intro z7;apply pa_hav;intro z8;apply pa_hav;intro z9;apply pa_hav;intro z4;apply pa_hav;intro z5;apply pa_hav;intro z6;apply pa_hav;intro z2;apply pa_hav;intro z3;apply pa_hav;intro z1;refine pas [0,2,6] ?_;push_cast [iO,tN,  ha,hl];refine ⟨?_,?_,?_⟩;(focus (exact z1));(focus (refine pah 3 ?_;push_cast [iO,tN,  ha,hl];refine pah 4 ?_;push_cast [iO,tN,  ha,hl];exact z2));(focus (refine pah 7 ?_;push_cast [iO,tN,  ha,hl];refine pah 8 ?_;push_cast [iO,tN,  ha,hl];exact z3));refine pas [2,6] ?_;push_cast [iO,tN,  ha,hl];refine ⟨?_,?_⟩;(focus (refine pah 3 ?_;push_cast [iO,tN,  ha,hl];refine pah 4 ?_;push_cast [iO,tN,  ha,hl];exact z4));(focus (refine pah 7 ?_;push_cast [iO,tN,  ha,hl];refine pah 8 ?_;push_cast [iO,tN,  ha,hl];exact z5));refine pas [0,2,9] ?_;push_cast [iO,tN,  ha,hl];refine ⟨?_,?_,?_⟩;(focus (refine paw z5 ?_;refine weak_fg ?_;push_cast [iO,tN,  ha,hl]));(focus (refine pah 3 ?_;push_cast [iO,tN,  ha,hl];refine pah 4 ?_;push_cast [iO,tN,  ha,hl];exact z7));(focus (refine pah 11 ?_;push_cast [iO,tN,  ha,hl];refine pah 12 ?_;push_cast [iO,tN,  ha,hl];exact z8));refine pas [0,5,6] ?_;push_cast [iO,tN,  ha,hl];refine ⟨?_,?_,?_⟩;(focus (refine paw z4 ?_;refine weak_fg ?_;push_cast [iO,tN,  ha,hl]));(focus (exact z6));(focus (refine pah 7 ?_;push_cast [iO,tN,  ha,hl];refine pah 8 ?_;push_cast [iO,tN,  ha,hl];refine paw z7 ?_;refine weak_fg ?_;push_cast [iO,tN,  ha,hl]));refine pas [0,6] ?_;push_cast [iO,tN,  ha,hl];refine ⟨?_,?_⟩;(focus (exact z9));(focus (refine pah 7 ?_;push_cast [iO,tN,  ha,hl];refine pah 8 ?_;push_cast [iO,tN,  ha,hl];exact z12));refine pas [2,9] ?_;push_cast [iO,tN,  ha,hl];refine ⟨?_,?_⟩;(focus (refine pah 3 ?_;push_cast [iO,tN,  ha,hl];refine pah 4 ?_;push_cast [iO,tN,  ha,hl];exact z10));(focus (refine pah 11 ?_;push_cast [iO,tN,  ha,hl];refine pah 12 ?_;push_cast [iO,tN,  ha,hl];exact z11));refine pas [5,6] ?_;push_cast [iO,tN,  ha,hl];refine ⟨?_,?_⟩;(focus (refine paw z9 ?_;refine weak_fg ?_;push_cast [iO,tN,  ha,hl]));(focus (refine pah 7 ?_;push_cast [iO,tN,  ha,hl];refine pah 8 ?_;push_cast [iO,tN,  ha,hl];refine paw z10 ?_;refine weak_fg ?_;push_cast [iO,tN,  ha,hl]));refine pas [6] ?_;push_cast [iO,tN,  ha,hl];(focus (refine pah 7 ?_;push_cast [iO,tN,  ha,hl];refine pah 8 ?_;push_cast [iO,tN,  ha,hl];exact z15));refine pas [0,2,13] ?_;push_cast [iO,tN,  ha,hl];refine ⟨?_,?_,?_⟩;(focus (refine paw z11 ?_;refine weak_fg ?_;push_cast [iO,tN,  ha,hl]));(focus (refine pah 3 ?_;push_cast [iO,tN,  ha,hl];refine pah 4 ?_;push_cast [iO,tN,  ha,hl];exact z13));(focus (exact z14));refine pas [0,5,9] ?_;push_cast [iO,tN,  ha,hl];refine ⟨?_,?_,?_⟩;(focus (refine paw z10 ?_;refine weak_fg ?_;push_cast [iO,tN,  ha,hl]));(focus (refine paw z12 ?_;refine weak_fg ?_;push_cast [iO,tN,  ha,hl]));(focus (refine pah 11 ?_;push_cast [iO,tN,  ha,hl];refine pah 12 ?_;push_cast [iO,tN,  ha,hl];refine paw z13 ?_;refine weak_fg ?_;push_cast [iO,tN,  ha,hl]));refine pas [0,2] ?_;push_cast [iO,tN,  ha,hl];refine ⟨?_,?_⟩;(focus (exact z17));(focus (refine pah 3 ?_;push_cast [iO,tN,  ha,hl];refine pah 4 ?_;push_cast [iO,tN,  ha,hl];exact z19));refine pas [0,9] ?_;push_cast [iO,tN,  ha,hl];refine ⟨?_,?_⟩;(focus (refine paw z15 ?_;refine weak_fg ?_;push_cast [iO,tN,  ha,hl]));(focus (refine pah 11 ?_;push_cast [iO,tN,  ha,hl];refine pah 12 ?_;push_cast [iO,tN,  ha,hl];exact z18));refine pas [2,13] ?_;push_cast [iO,tN,  ha,hl];refine ⟨?_,?_⟩;(focus (refine pah 3 ?_;push_cast [iO,tN,  ha,hl];refine pah 4 ?_;push_cast [iO,tN,  ha,hl];exact z16));(focus (refine paw z17 ?_;refine weak_fg ?_;push_cast [iO,tN,  ha,hl]));refine pas [5,9] ?_;push_cast [iO,tN,  ha,hl];refine ⟨?_,?_⟩;(focus (refine paw z15 ?_;refine weak_fg ?_;push_cast [iO,tN,  ha,hl]));(focus (refine pah 11 ?_;push_cast [iO,tN,  ha,hl];refine pah 12 ?_;push_cast [iO,tN,  ha,hl];refine paw z16 ?_;refine weak_fg ?_;push_cast [iO,tN,  ha,hl]));refine pas [2] ?_;push_cast [iO,tN,  ha,hl];(focus (refine pah 3 ?_;push_cast [iO,tN,  ha,hl];refine pah 4 ?_;push_cast [iO,tN,  ha,hl];exact z21));refine pas [9] ?_;push_cast [iO,tN,  ha,hl];(focus (refine pah 11 ?_;push_cast [iO,tN,  ha,hl];refine pah 12 ?_;push_cast [iO,tN,  ha,hl];exact z20));refine pas [0,5,13] ?_;push_cast [iO,tN,  ha,hl];refine ⟨paw z16 ?_,paw z18 ?_,paw z19 ?_⟩<;>(refine weak_fg ?_;push_cast [iO,tN,  ha,hl]);refine pas [0,5] ?_;push_cast [iO,tN,  ha,hl];refine ⟨paw z21 ?_,z22⟩<;>(refine weak_fg ?_;push_cast [iO,tN,  ha,hl]);refine pas [0,13] ?_;push_cast [iO,tN,  ha,hl];refine ⟨paw z20 ?_,paw z22 ?_⟩<;>(refine weak_fg ?_;push_cast [iO,tN,  ha,hl]);refine pas [5,13] ?_;push_cast [iO,tN,  ha,hl];refine ⟨paw z20 ?_,paw z21 ?_⟩<;>(refine weak_fg ?_;push_cast [iO,tN,  ha,hl]);refine pas [0,14] ?_;push_cast [iO,tN,  ha,hl];refine ⟨z23,z24⟩;refine pas [5] ?_;push_cast [iO,tN,  ha,hl];refine paw z23 ?_<;>(refine weak_fg ?_;push_cast [iO,tN,  ha,hl]);refine pas [13] ?_;push_cast [iO,tN,  ha,hl];refine paw z23 ?_<;>(refine weak_fg ?_;push_cast [iO,tN,  ha,hl]);refine pas [0] ?_;push_cast [iO,tN,  ha,hl];refine z25;refine pas [14] ?_;push_cast [iO,tN,  ha,hl];refine paw z25 ?_<;>(refine weak_fg ?_;push_cast [iO,tN,  ha,hl]);refine pas [15] ?_;push_cast [iO,tN,  ha,hl];(focus ((first|((refine plc [0,1,2,3] (hre) ?_ ?_;push_cast [iO,tN,  ha,hl];rintro r os ⟨rfl,rfl⟩;push_cast [iO,tN,  ha,hl])));exact z26));refine pas [16] ?_;push_cast [iO,tN,  ha,hl];(focus (refine pah 17 ?_;push_cast [iO,tN,  ha,hl];exact paw z27 (weak_cutS 6 [] _)));push_cast [iO,tN,  ha,hl];refine pad ?_;push_cast [iO,tN,  ha,hl])
  repeat' (first|((first|refine pC ?_|refine pQC ?_|refine pU ?_);push_cast [iO,tN])|(refine pif (fun h=>?_) (fun h=>?_)<;>first|exact pN h|push_cast [iO,tN]))
  (refine retK_of [0,1,2,3] ?_;push_cast [iO,tN])
  refine ⟨_,_,leP_refl _,leOs_refl _,.inr ⟨i,u,tk',hnp,htk,by rw [ha],rfl⟩⟩
 | none =>
  rw [e1] at h1
  simp only [firstZ] at h1
  cases e2:firstI now (wrongP names) with
  | none =>
   have hnp:nextP names now=none:=by unfold nextP;rw [e1,e2]
   rw [e2] at h2
   simp only [firstZ] at h2
   repeat' (first |  ((refine plc [4,0,1,2,3] (h1) ?_ ?_;push_cast [iO,tN];rintro r os ⟨rfl,rfl⟩;push_cast [iO,tN]))|(refine hidR 4 ?_)|(refine pwp_seq fun K hK=>?_)  | ((first|refine pC ?_|refine pQC ?_|refine pU ?_);push_cast [iO,tN])|(refine pif (fun h=>?_) (fun h=>?_)<;>first|exact pN h|push_cast [iO,tN]))
   refine unhid ?_
   (refine pwp_cut 6 [] ?_;refine pwp_drawn (by kernel_rfl) ?_;simp only [List.length_cons,List.length_nil,Nat.reduceAdd];apply pa_hav;intro z6;apply pa_hav;intro z5;apply pa_hav;intro z4;apply pa_hav;intro z3;apply pa_hav;intro z1;apply pa_hav;intro z2;refine pas [0,4] ?_;push_cast [iO,tN];refine ⟨?_,?_⟩;(focus (refine pah 1 ?_;push_cast [iO,tN];refine pah 2 ?_;push_cast [iO,tN];exact z1));(focus (refine pah 5 ?_;push_cast [iO,tN];exact z2));refine pas [0] ?_;push_cast [iO,tN];(focus (refine pah 1 ?_;push_cast [iO,tN];refine pah 2 ?_;push_cast [iO,tN];exact z4));refine pas [3,4] ?_;push_cast [iO,tN];refine ⟨?_,?_⟩;(focus (exact z3));(focus (refine pah 5 ?_;push_cast [iO,tN];refine paw z4 ?_;refine weak_fg ?_;push_cast [iO,tN]));refine pas [4] ?_;push_cast [iO,tN];(focus (refine pah 5 ?_;push_cast [iO,tN];exact z5));refine pas [3] ?_;push_cast [iO,tN];refine paw z5 ?_<;>(refine weak_fg ?_;push_cast [iO,tN]);refine pas [6] ?_;push_cast [iO,tN];(focus ((first|((refine plc [0,1,2,3] (h2) ?_ ?_;push_cast [iO,tN];rintro r os ⟨rfl,rfl⟩;push_cast [iO,tN])));refine pah 7 ?_;push_cast [iO,tN];exact paw z6 (weak_cutS 6 [] _)));push_cast [iO,tN];refine pad ?_;push_cast [iO,tN])
   repeat' (first|((first|refine pC ?_|refine pQC ?_|refine pU ?_);push_cast [iO,tN])|(refine pif (fun h=>?_) (fun h=>?_)<;>first|exact pN h|push_cast [iO,tN]))
   (refine retK_of [0,1,2,3] ?_;push_cast [iO,tN])
   exact ⟨_,_,leP_refl _,leOs_refl _,.inl ⟨hnp,rfl,rfl⟩⟩
  | some i =>
   obtain ⟨g1,g2,_⟩:=firstI_some e2
   have hnp:nextP names now=some (i,tempS names now):=by unfold nextP;rw [e1,e2]
   rw [e2] at h2
   simp only [firstZ] at h2
   have hre:=rename_pure names now tk i (tempS names now) g1 (by omega)
   have htk:=ht.ren h.pv g1 (tempS names now)
   obtain ⟨u,hu⟩:∃ u,tempS names now=u:=⟨_,rfl⟩
   rw [hu] at htm hre htk hnp
   obtain ⟨a,ha⟩:∃ a,now.getD i default=a:=⟨_,rfl⟩
   rw [ha] at hre htk
   obtain ⟨tk',htk'⟩:∃ tk',addS (delS tk a.value) u=tk':=⟨_,rfl⟩
   rw [htk'] at hre htk
   have hrl:=len_renP now i u
   repeat' (first |  ((refine plc [4,0,1,2,3] (h1) ?_ ?_;push_cast [iO,tN];rintro r os ⟨rfl,rfl⟩;push_cast [iO,tN]))|(refine hidR 4 ?_)|(refine pwp_seq fun K hK=>?_)  | ((first|refine pC ?_|refine pQC ?_|refine pU ?_);push_cast [iO,tN])|(refine pif (fun h=>?_) (fun h=>?_)<;>first|exact pN h|push_cast [iO,tN]))
   refine unhid ?_
   (refine pwp_cut 6 [] ?_;refine pwp_drawn (by kernel_rfl) ?_;simp only [List.length_cons,List.length_nil,Nat.reduceAdd];apply pa_hav;intro z6;apply pa_hav;intro z5;apply pa_hav;intro z4;apply pa_hav;intro z3;apply pa_hav;intro z1;apply pa_hav;intro z2;refine pas [0,4] ?_;push_cast [iO,tN];refine ⟨?_,?_⟩;(focus (refine pah 1 ?_;push_cast [iO,tN];refine pah 2 ?_;push_cast [iO,tN];exact z1));(focus (refine pah 5 ?_;push_cast [iO,tN];exact z2));refine pas [0] ?_;push_cast [iO,tN];(focus (refine pah 1 ?_;push_cast [iO,tN];refine pah 2 ?_;push_cast [iO,tN];exact z4));refine pas [3,4] ?_;push_cast [iO,tN];refine ⟨?_,?_⟩;(focus (exact z3));(focus (refine pah 5 ?_;push_cast [iO,tN];refine paw z4 ?_;refine weak_fg ?_;push_cast [iO,tN]));refine pas [4] ?_;push_cast [iO,tN];(focus (refine pah 5 ?_;push_cast [iO,tN];exact z5));refine pas [3] ?_;push_cast [iO,tN];refine paw z5 ?_<;>(refine weak_fg ?_;push_cast [iO,tN]);refine pas [6] ?_;push_cast [iO,tN];(focus ((first|((refine plc [0,1,2,3] (h2) ?_ ?_;push_cast [iO,tN];rintro r os ⟨rfl,rfl⟩;push_cast [iO,tN])));refine pah 7 ?_;push_cast [iO,tN];exact paw z6 (weak_cutS 6 [] _)));push_cast [iO,tN];refine pad ?_;push_cast [iO,tN])
   repeat' (first |  (refine hidR 7 ?_)|(refine pwp_seq fun K hK=>?_)  | ((first|refine pC ?_|refine pQC ?_|refine pU ?_);push_cast [iO,tN])|(refine pif (fun h=>?_) (fun h=>?_)<;>first|exact pN h|push_cast [iO,tN]))
   refine unhid ?_
   (refine pwp_cut 6 [] ?_;refine pwp_drawn (by kernel_rfl) ?_;simp only [List.length_cons,List.length_nil,Nat.reduceAdd];refine pah 1 ?_;push_cast [iO,tN];apply pa_hav;intro z7;apply pa_hav;intro z6;apply pa_hav;intro z5;apply pa_hav;intro z3;apply pa_hav;intro z4;apply pa_hav;intro z1;apply pa_hav;intro z2;refine pas [0,2] ?_;push_cast [iO,tN];refine ⟨z1,z2⟩;refine pas [0,3] ?_;push_cast [iO,tN];refine ⟨?_,?_⟩;(focus (exact z3));(focus ((first|((refine plc [0,1,2,3] (htm) ?_ ?_;push_cast [iO,tN];rintro r os ⟨rfl,rfl⟩;push_cast [iO,tN]))|((refine plc [0,1,2,3] (hre) ?_ ?_;push_cast [iO,tN];rintro r os ⟨rfl,rfl⟩;push_cast [iO,tN])));exact z4));refine pas [2] ?_;push_cast [iO,tN];refine paw z3 ?_<;>(refine weak_fg ?_;push_cast [iO,tN]);refine pas [0] ?_;push_cast [iO,tN];refine z5;refine pas [3] ?_;push_cast [iO,tN];(focus ((first|((refine plc [0,1,2,3] (htm) ?_ ?_;push_cast [iO,tN];rintro r os ⟨rfl,rfl⟩;push_cast [iO,tN]))|((refine plc [0,1,2,3] (hre) ?_ ?_;push_cast [iO,tN];rintro r os ⟨rfl,rfl⟩;push_cast [iO,tN])));refine paw z5 ?_;refine weak_fg ?_;push_cast [iO,tN]));refine pas [4] ?_;push_cast [iO,tN];(focus ((first|((refine plc [0,1,2,3] (htm) ?_ ?_;push_cast [iO,tN];rintro r os ⟨rfl,rfl⟩;push_cast [iO,tN]))|((refine plc [0,1,2,3] (hre) ?_ ?_;push_cast [iO,tN];rintro r os ⟨rfl,rfl⟩;push_cast [iO,tN])));exact z6));refine pas [5] ?_;push_cast [iO,tN];(focus (refine pah 6 ?_;push_cast [iO,tN];exact paw z7 (weak_cutS 6 [] _)));push_cast [iO,tN];refine pad ?_;push_cast [iO,tN])
   repeat' (first|((first|refine pC ?_|refine pQC ?_|refine pU ?_);push_cast [iO,tN])|(refine pif (fun h=>?_) (fun h=>?_)<;>first|exact pN h|push_cast [iO,tN]))
   (refine retK_of [0,1,2,3] ?_;push_cast [iO,tN])
   exact ⟨_,_,leP_refl _,leOs_refl _,.inr ⟨i,u,tk',hnp,htk,by rw [ha],rfl⟩⟩
set_option maxRecDepth 20000
theorem nowP_size (l:List Dev):(nowP l).length≤l.length:=nowK_len l l.length
theorem not_key {names:List Atr} (h:(keys names).Nodup) {k:Nat} (hk:k < names.length):(names.getD k default).name ∉ keys (names.take k):=fun hm=>by
 obtain ⟨x,hx,he⟩:=List.mem_map.1 hm
 obtain ⟨j,hj,rfl⟩:=List.mem_take_iff_getElem.1 hx
 have:=key_inj (f:=Atr.name) h (i:=j) (j:=k) (by omega) hk (by rw [getD_lt names (by omega)];exact he)
 omega
theorem not_val {now:List Atr} (h:(vals now).Nodup) {k:Nat} (hk:k < now.length):(now.getD k default).value ∉ vals (now.take k):=fun hm=>by
 obtain ⟨x,hx,he⟩:=List.mem_map.1 hm
 obtain ⟨j,hj,rfl⟩:=List.mem_take_iff_getElem.1 hx
 have:=key_inj (f:=Atr.value) h (i:=j) (j:=k) (by omega) hk (by rw [getD_lt now (by omega)];exact he)
 omega
structure StepQ (names now:List Atr) (ok:Bool) (rn:Ren) (cur:List Atr):Prop where
 pok:PlanOk names cur
 len:cur.length=now.length
 yes:ok=true → planOf names now=rn :: planOf names cur∧muP names cur < muP names now
 no:ok=false → planOf names now=[]∧muP names cur=muP names now
theorem stepx_pure (names now:List Atr) (tk:List ByteArray) (h:PlanOk names now) (ht:TakOk now tk) (hfew:names.length+now.length≤90) :
  PCalls Tryz.prog 41 [.c (.ptr 0 0)] (plO names now tk) fun r os=>∃ (ok:Bool) (rn:Ren) (cur:List Atr) (tk':List ByteArray),StepQ names now ok rn cur∧TakOk cur tk'∧r = .two (.agg (Ren.e rn)) (.c (.v (.bool ok)))∧os=plO names cur tk':=by
 refine (step_pure names now tk h ht hfew).mono ?_
 rintro r os (⟨hn,hr,ho⟩|⟨i,u,tk',hn,htk,hr,ho⟩)
 ·exact ⟨false,⟨⟨#[]⟩,⟨#[]⟩,⟨#[]⟩⟩,now,tk,⟨h,rfl,(fun h=>by cases h),fun _=>⟨(planOf_none hn).1,rfl⟩⟩,ht,hr,ho⟩
 ·have hs:=nextP_spec h hn
  exact ⟨true,⟨(now.getD i default).name,(now.getD i default).value,u⟩,renP now i u,tk',⟨hs.ok,len_renP now i u,(fun _=>⟨(planOf_some h hn).1,hs.mu⟩),(fun h=>by cases h)⟩,htk,hr,ho⟩
theorem plan_no (l:List Dev) (names:List Atr) (h:Okp l) (hl:l.length≤1000) (hz:∀ d ∈ l,d.original.size≤1000) (hm:names.length≤1000000) (hv:∀ x ∈ names,x.value.size≤9223372036854775807) (hf:fitsB (nowP l) names=false) :
  PCalls Tryz.prog 18 [.agg (trE l),.c (.sl 2 (names.map Atr.d))] [] fun r os=>r = .two (.c (.v (.slice none 0 0))) (.c (.v (.int .i64 231)))∧os=[]:=by
 have hp:=present_pure l h hl hz
 have hns:=nowP_size l
 have hfi:=fits_pure (nowP l) names (by omega) hm hv
 rw [hf] at hfi
 refine pcalls_of Tryz.func18 rfl (by simp [Tryz.ntmps18]) ?_
 rw [Tryz.ntmps18,Tryz.results18]
 push_cast [iO,tN]
 have cB:CutB 14 []:=trivial
 repeat' (first |  ((refine plc [] (hp) ?_ ?_;push_cast [iO,tN];rintro r os ⟨rfl,rfl⟩;push_cast [iO,tN]))|((refine pl_call2 true [] rfl rfl (by kernel_rfl) (hfi) ?_ ?_ ?_;push_cast [iO,tN];(intro _ r os;rintro ⟨rfl,rfl⟩;push_cast [iO,tN]);rintro r os ⟨rfl,rfl⟩;refine pl_of_pops ?_;push_cast [iO,tN]))  | ((first|refine pC ?_|refine pQC ?_|refine pU ?_);push_cast [iO,tN])|(refine pif (fun h=>?_) (fun h=>?_)<;>first|exact pN h|push_cast [iO,tN]))
 (refine retK_of [] ?_;push_cast [iO,tN])
set_option maxHeartbeats 8000000 in
theorem plan_ok (l:List Dev) (names:List Atr) (h:Okp l) (hl:l.length≤1000) (hz:∀ d ∈ l,d.original.size≤1000) (hv:∀ x ∈ names,x.value.size≤9223372036854775807) (hf:fitsB (nowP l) names=true) (hP:PlanOk names (nowP l)) (hfew:names.length+(nowP l).length≤90) :
  PCalls Tryz.prog 18 [.agg (trE l),.c (.sl 2 (names.map Atr.d))] [] fun r os=>r = .two (.c (.sl 3 ((planOf names (nowP l)).map Ren.d))) (.c (.v (.int .i64 0)))∧os=[]:=by
 have hp:=present_pure l h hl hz
 have hns:=nowP_size l
 have hfi:=fits_pure (nowP l) names (by omega) (by omega) hv
 rw [hf] at hfi
 have hpl:=planOf_len hP
 obtain ⟨now,hnow⟩:∃ now,nowP l=now:=⟨_,rfl⟩
 rw [hnow] at hp hns hfi hP hfew hpl ⊢
 refine pcalls_of Tryz.func18 rfl (by simp [Tryz.ntmps18]) ?_
 rw [Tryz.ntmps18,Tryz.results18]
 push_cast [iO,tN]
 have cB:CutB 14 [27,28,29,45,46,47,73]:=trivial
 repeat' (first |  ((refine plc [] (hp) ?_ ?_;push_cast [iO,tN];rintro r os ⟨rfl,rfl⟩;push_cast [iO,tN]))|((refine pl_call2 true [] rfl rfl (by kernel_rfl) (hfi) ?_ ?_ ?_;push_cast [iO,tN];(intro _ r os;rintro ⟨rfl,rfl⟩;push_cast [iO,tN]);rintro r os ⟨rfl,rfl⟩;refine pl_of_pops ?_;push_cast [iO,tN]))  | ((first|refine pC ?_|refine pQC ?_|refine pU ?_);push_cast [iO,tN])|(refine pif (fun h=>?_) (fun h=>?_)<;>first|exact pN h|push_cast [iO,tN]))
 (apply pwp_loop3 (α:=Nat) 14 [27,28,29,45,46,47,73] (fun k=>[(29,.c (.v (.int .i64 k)))]) (fun k=>[(2,.map none false (tgE (names.take k)))]) (fun k=>k≤names.length) (fun k=>names.length - k) (0);(focus ((try push_cast [iO,tN]);rfl));(focus exact (Nat.zero_le _));(focus ((refine weak_fg ?_;try push_cast [iO,tN]);(try (rfl)))))
 intro k hk
 push_cast [iO,tN]
 by_cases hlt:k < names.length
 ·have hmp:=mput_tg (v:=(names.getD k default).value) (not_key hP.nk hlt)
  have htk:names.take (k+1)=names.take k++[names.getD k default]:=by rw [List.take_succ_eq_append_getElem hlt,getD_lt names hlt]
  obtain ⟨a,ha⟩:∃ a,names.getD k default=a:=⟨_,rfl⟩
  rw [ha] at hmp htk
  have hae:(⟨a.name,a.value⟩:Atr)=a:=rfl
  rw [hae,← htk] at hmp
  repeat' (first|((refine pwp_cut 14 [27,28,29,45,46,47,73] ?_;apply pwp_drawn_to;(focus kernel_rfl);(focus (simp only [List.length_cons,List.length_nil,Nat.reduceAdd];(repeat' first|((first|refine pah 0 ?_|refine pah 1 ?_|refine pah 2 ?_|refine pah 4 ?_|refine pah 6 ?_);push_cast [iO,tN,  ha,hmp])|(refine pad ?_;first|with_reducible exact weak_cutS 14 [27,28,29,45,46,47,73] _|(refine weak_fg ?_;push_cast [iO,tN,  ha,hmp]))|((first|refine pas [3] ?_|refine pas [5] ?_|refine pas [7] ?_|refine pas [8] ?_);push_cast [iO,tN,  ha,hmp])|((first|refine pas [3,5] ?_|refine pas [3,7] ?_|refine pas [5,7] ?_);push_cast [iO,tN,  ha,hmp];refine ⟨?_,?_⟩)|((first|refine pas [3,5,7] ?_);push_cast [iO,tN,  ha,hmp];refine ⟨?_,?_,?_⟩));done));push_cast [iO,tN,  ha,hmp]))|((first|refine pC ?_|refine pQC ?_|refine pU ?_);push_cast [iO,tN,ha])|(refine pif (fun h=>?_) (fun h=>?_)<;>first|exact pN h|push_cast [iO,tN,ha]))
  exact ⟨k+1,by omega,by (refine weak_fg ?_;push_cast [iO,tN,hmp]),by omega⟩
 have hk2:k=names.length:=by omega
 subst hk2
 rw [List.take_length]
 repeat' (first|((first|refine pC ?_|refine pQC ?_|refine pU ?_);push_cast [iO,tN])|(refine pif (fun h=>?_) (fun h=>?_)<;>first|exact pN h|push_cast [iO,tN]))
 (apply pwp_loop3 (α:=Nat) 14 [27,28,29,45,46,47,73] (fun k=>[(47,.c (.v (.int .i64 k)))]) (fun k=>[(3,.map none false (setE (vals (now.take k))))]) (fun k=>k≤now.length) (fun k=>now.length - k) (0);(focus ((try push_cast [iO,tN]);rfl));(focus exact (Nat.zero_le _));(focus ((refine weak_fg ?_;try push_cast [iO,tN]);(try (rfl)))))
 intro k hk
 push_cast [iO,tN]
 by_cases hlt:k < now.length
 ·have hvs:=vals_snoc now hlt
  have hmp:=mput_set (now.getD k default).value (vals (now.take k))
  rw [addS_snoc (inM_false.2 (not_val hP.pv hlt)),← hvs] at hmp
  obtain ⟨a,ha⟩:∃ a,now.getD k default=a:=⟨_,rfl⟩
  rw [ha] at hmp
  repeat' (first|((refine pwp_cut 14 [27,28,29,45,46,47,73] ?_;apply pwp_drawn_to;(focus kernel_rfl);(focus (simp only [List.length_cons,List.length_nil,Nat.reduceAdd];(repeat' first|((first|refine pah 0 ?_|refine pah 1 ?_|refine pah 2 ?_|refine pah 4 ?_);push_cast [iO,tN,  ha,hmp])|(refine pad ?_;first|with_reducible exact weak_cutS 14 [27,28,29,45,46,47,73] _|(refine weak_fg ?_;push_cast [iO,tN,  ha,hmp]))|((first|refine pas [3] ?_|refine pas [5] ?_|refine pas [6] ?_);push_cast [iO,tN,  ha,hmp])|((first|refine pas [3,5] ?_);push_cast [iO,tN,  ha,hmp];refine ⟨?_,?_⟩));done));push_cast [iO,tN,  ha,hmp]))|((first|refine pC ?_|refine pQC ?_|refine pU ?_);push_cast [iO,tN,ha])|(refine pif (fun h=>?_) (fun h=>?_)<;>first|exact pN h|push_cast [iO,tN,ha]))
  exact ⟨k+1,by omega,by (refine weak_fg ?_;push_cast [iO,tN,hmp]),by omega⟩
 have hk2:k=now.length:=by omega
 subst hk2
 rw [List.take_length]
 have hst:=stepx_pure names now (vals now) hP ⟨hP.pv,fun s=>Iff.rfl⟩ hfew
 repeat' (first |  (refine pwp_seq fun K hK=>?_)  | ((first|refine pC ?_|refine pQC ?_|refine pU ?_);push_cast [iO,tN])|(refine pif (fun h=>?_) (fun h=>?_)<;>first|exact pN h|push_cast [iO,tN]))
 refine pl_weak (weak_adopt 11 62 3 (by omega) (by push_cast [iO,tN])) ?_
 push_cast [iO,tN]
 (refine plc [4,1,2,3] (hst) ?_ ?_;push_cast [iO,tN];rintro r os ⟨ok,rn,cur,tk,hq,htk,rfl,rfl⟩;push_cast [iO,tN])
 have hcl:=hq.len
 repeat' (first|((first|refine pC ?_|refine pQC ?_|refine pU ?_);push_cast [iO,tN,hcl])|(refine pif (fun h=>?_) (fun h=>?_)<;>first|exact pN h|push_cast [iO,tN,hcl]))
 (apply pwp_loop3 (α:=(List Ren × List Atr) × List ByteArray × Bool × Ren) 14 [27,28,29,45,46,47,73] (fun x=>[(13,.c (.v (.bool x.2.2.1))),(12,.c (.ptr 6 0)),(11,.c (.own 5 x.1.1.length))]) (fun x=>[(1,.arr 33 2 (x.1.2.map Atr.d)),(3,.map none false (setE x.2.1)),(4,.box 85 [.own 1 now.length,.mp 2,.mp 3]),(5,.arr 62 3 (x.1.1.map Ren.d)),(6,.box 62 x.2.2.2.e)]) (fun x=>(PlanOk names x.1.2∧TakOk x.1.2 x.2.1∧x.1.2.length=now.length)∧(x.2.2.1=true → planOf names now=x.1.1++x.2.2.2 :: planOf names x.1.2)∧(x.2.2.1=false → planOf names now=x.1.1)) (fun x=>muP names x.1.2+(if x.2.2.1 then 1 else 0)) ((([],cur),tk,ok,rn));(focus ((try push_cast [iO,tN]);rfl));(focus exact ⟨⟨hq.pok,htk,hq.len⟩,(fun ho=>by rw [(hq.yes ho).1];rfl),(fun ho=>(hq.no ho).1)⟩);(focus ((refine weak_fg ?_;try push_cast [iO,tN]);(try (exact hq.len)))))
 rintro ⟨⟨out,cur⟩,tk,ok,rn⟩ ⟨⟨hpk,htk,hcl⟩,hy,hno⟩
 simp only at hpk htk hcl hy hno
 push_cast [iO,tN]
 cases ok with
 | false =>
  have hfin:=hno rfl
  have hol:out.length≤180:=by rw [← hfin];omega
  refine pwp_weak (weak_frz 5 (by omega)) ?_
  push_cast [iO,tN]
  repeat' (first|((first|refine pC ?_|refine pQC ?_|refine pU ?_);push_cast [iO,tN])|(refine pif (fun h=>?_) (fun h=>?_)<;>first|exact pN h|push_cast [iO,tN]))
  (refine retK_of [] ?_;push_cast [iO,tN,hfin])
 | true =>
  have hy1:=hy rfl
  have hol:out.length≤180:=by
   have:=congrArg List.length hy1
   rw [List.length_append,List.length_cons] at this
   omega
  have hst2:=stepx_pure names cur tk hpk htk (by omega)
  simp only [plO,hcl] at hst2
  repeat' (first|((first|refine pC ?_|refine pQC ?_|refine pU ?_);push_cast [iO,tN])|(refine pif (fun h=>?_) (fun h=>?_)<;>first|exact pN h|push_cast [iO,tN]))
  refine pl_weak (weak_sw 6 (by omega)) ?_
  push_cast [iO,tN]
  (refine plc [4,1,2,3] (hst2) ?_ ?_;push_cast [iO,tN];rintro r os ⟨ok2,rn2,cur2,tk2,hq2,htk2,rfl,rfl⟩;push_cast [iO,tN])
  have hcl2:=hq2.len
  rw [hcl] at hcl2
  repeat' (first|((first|refine pC ?_|refine pQC ?_|refine pU ?_);push_cast [iO,tN,hcl2])|(refine pif (fun h=>?_) (fun h=>?_)<;>first|exact pN h|push_cast [iO,tN,hcl2]))
  refine ⟨((out++[rn],cur2),tk2,ok2,rn2),⟨⟨hq2.pok,htk2,hcl2⟩,(fun ho=>by rw [hy1,(hq2.yes ho).1];simp),(fun ho=>by rw [hy1,(hq2.no ho).1])⟩,by (refine weak_fg ?_;push_cast [iO,tN,hcl2]),?_⟩
  cases ok2 with
  | true=>have:=(hq2.yes rfl).2;simp only [if_true];omega
  | false=>have:=(hq2.no rfl).2;simp only [if_true,Bool.false_eq_true,if_false];omega
set_option maxRecDepth 20000
def nm6:List ByteArray:=[⟨#[108,97,110,48]⟩,⟨#[108,97,110,49]⟩,⟨#[101,116,104,48]⟩,⟨#[105,102,48]⟩,⟨#[105,102,49]⟩,⟨#[120]⟩]
def ph5:List ByteArray:=[⟨#[47,97]⟩,⟨#[47,97,47,98]⟩,⟨#[47,99]⟩,⟨#[47,100]⟩,⟨#[47,101,47,102]⟩]
structure WshT (w:List Wsh) (i:Nat):Prop where
 sub:(w.map Wsh.path).Sublist (ph5.take i)
 nod:∀ x ∈ w,x.names.Nodup
 six:∀ x ∈ w,∀ s ∈ x.names,s ∈ nm6
theorem take_sub {α:Type} (l:List α) (i:Nat):(l.take i).Sublist (l.take (i+1)):=by
 have h:l.take i=(l.take (i+1)).take i:=by rw [List.take_take,Nat.min_eq_left (by omega)]
 rw [h]
 exact List.take_sublist _ _
theorem WshT.skip {w:List Wsh} {i:Nat} (h:WshT w i):WshT w (i+1):=⟨h.sub.trans (take_sub _ _),h.nod,h.six⟩
theorem WshT.snoc {w:List Wsh} {i:Nat} (h:WshT w i) (hi:i < 5) {ns:List ByteArray} (hn:ns.Nodup) (hs:∀ s ∈ ns,s ∈ nm6):WshT (w++[⟨ph5.getD i default,ns⟩]) (i+1):=by
 have hl:i < ph5.length:=hi
 refine ⟨?_,fun x hx=>?_,fun x hx=>?_⟩
 ·rw [List.map_append,List.map_singleton,List.take_succ_eq_append_getElem hl,getD_lt ph5 hl]
  exact h.sub.append (List.Sublist.refl _)
 ·rcases List.mem_append.1 hx with hx|hx
  ·exact h.nod x hx
  ·rw [List.mem_singleton] at hx;rw [hx];exact hn
 ·rcases List.mem_append.1 hx with hx|hx
  ·exact h.six x hx
  ·rw [List.mem_singleton] at hx;rw [hx];exact hs
theorem ph5_ok:(ph5.all fun p=>(splitP p).isSome && decide (p.size≤100))=true:=by decide +kernel
theorem ph5_ord:ph5.Pairwise fun p q=>cmpP p q < 0:=by
 have h:((List.range 5).all fun i=>(List.range i).all fun j=>decide (cmpP (ph5.getD j default) (ph5.getD i default) < 0))=true:=by decide +kernel
 rw [List.pairwise_iff_getElem]
 intro i j hi hj hij
 have h1:=List.all_eq_true.1 (List.all_eq_true.1 h j (List.mem_range.2 hj)) i (List.mem_range.2 hij)
 rw [getD_lt ph5 hi,getD_lt ph5 hj] at h1
 exact of_decide_eq_true h1
theorem nm6_ok:(nm6.all fun s=>ifaceS s && decide (s.size≤100))=true:=by decide +kernel
theorem WshT.len {w:List Wsh} (h:WshT w 5):w.length≤5:=by
 have:=h.sub.length_le
 rw [List.length_map,List.length_take] at this
 exact Nat.le_trans this (Nat.min_le_left _ _)
theorem WshT.path {w:List Wsh} (h:WshT w 5) {x:Wsh} (hx:x ∈ w):x.path ∈ ph5:=List.mem_of_mem_take (h.sub.subset (List.mem_map.2 ⟨x,hx,rfl⟩))
theorem WshT.names {w:List Wsh} (h:WshT w 5) {x:Wsh} (hx:x ∈ w):x.names.length≤6:=nodup_sub_len (h.nod x hx) (h.six x hx)
theorem WshT.ok {w:List Wsh} (h:WshT w 5):wshOk w=true:=by
 refine List.all_eq_true.2 fun i hi=>?_
 have hi:=List.mem_range.1 hi
 have hm:w.getD i default ∈ w:=by rw [getD_lt w hi];exact List.getElem_mem _
 have hp:=List.all_eq_true.1 ph5_ok _ (h.path hm)
 rw [Bool.and_eq_true] at hp
 unfold wshAt
 rw [Bool.and_eq_true,Bool.and_eq_true,Bool.or_eq_true,decide_eq_true_eq,decide_eq_true_eq]
 refine ⟨⟨hp.1,?_⟩,List.all_eq_true.2 fun k hk=>?_⟩
 ·by_cases h0:i=0
  ·exact .inl h0
  ·refine .inr ?_
   have hs:=(ph5_ord.sublist (List.take_sublist 5 ph5)).sublist h.sub
   rw [List.pairwise_map,List.pairwise_iff_getElem] at hs
   have:=hs (i - 1) i (by omega) hi (by omega)
   rw [getD_lt w hi,getD_lt w (by omega)]
   exact this
 ·have hk:=List.mem_range.1 hk
  have hs:(w.getD i default).names.getD k default ∈ (w.getD i default).names:=by rw [getD_lt _ hk];exact List.getElem_mem _
  have h1:=List.all_eq_true.1 nm6_ok _ (h.six _ hm _ hs)
  rw [Bool.and_eq_true] at h1
  rw [Bool.and_eq_true,Bool.not_eq_true',inM_false]
  refine ⟨h1.1,fun hc=>?_⟩
  obtain ⟨j,hj,he⟩:=List.mem_take_iff_getElem.1 hc
  rw [getD_lt _ hk] at he
  have:=(List.getElem_inj (h.nod _ hm)).1 he
  omega
end Go.Proofs.YthconflkbeipoaaGreatDoor
namespace Go.Proofs.YthconflkbeipoaaGreatDoor
open Go.RowKit
open IntWalk renaming iteOmega → iO, toNatUp → tN
set_option linter.unusedVariables false
set_option linter.unusedSimpArgs false
def leD:D → D → Prop
 | .v x,.v y=>x=y
 | .v x,.sl _ l=>isEmp x=true∧l=[]
 | .sl sz l,.sl sz' l'=>sz=sz'∧l=l'
 | _,_=>False
def leDs:List D → List D → Prop
 | [],[]=>True
 | a :: l,b :: m=>leD a b∧leDs l m
 | _,_=>False
theorem leD_ok {w:World} {I:Nat → Prop} {d d':D} {y:Value} (h:leD d d') (hr:RD w I d y):RD w I d' y:=by
 cases d with
 | v x =>
  cases d' with
  | v z=>obtain rfl:x=z:=h;exact hr
  | sl sz l =>
   obtain ⟨h,rfl⟩:=h
   obtain ⟨A,c,rfl⟩:=isEmp_ok h
   rw [RD] at hr
   rw [rd_sl,hr.1]
   exact ⟨A,c,[],rfl,Nat.zero_le _,Rd.nil,by simp,trivial⟩
 | sl sz l =>
  cases d' with
  | v z=>exact h.elim
  | sl sz' l'=>obtain ⟨rfl,rfl⟩:=h;exact hr
theorem leDs_ok {w:World} {I:Nat → Prop}:∀ {r r':List D} {ys:List Value},leDs r r' → All2 (RD w I) r ys → All2 (RD w I) r' ys
 | [],[],_,_,hr=>hr
 | a :: l,b :: m,y :: ys,h,hr=>⟨leD_ok h.1 hr.1,leDs_ok h.2 hr.2⟩
 | _ :: _,_ :: _,[],_,hr=>hr.elim
 | [],_ :: _,_,h,_=>h.elim
 | _ :: _,[],_,h,_=>h.elim
theorem leDs_length:∀ {r r':List D},leDs r r' → r.length=r'.length
 | [],[],_=>rfl
 | a :: l,b :: m,h=>by simp [leDs_length h.2]
 | [],_ :: _,h=>h.elim
 | _ :: _,[],h=>h.elim
attribute [push_cast] leD leDs
def leRows:List (List D) → List (List D) → Prop
 | [],[]=>True
 | a :: l,b :: m=>leDs a b∧leRows l m
 | _,_=>False
theorem leRows_ok {w:World} {I:Nat → Prop}:∀ {r r':List (List D)} {ys:List Value},leRows r r' → All2 (RD w I) r.flatten ys → All2 (RD w I) r'.flatten ys
 | [],[],_,_,hr=>hr
 | a :: l,b :: m,ys,h,hr=>by
  simp only [List.flatten_cons] at hr ⊢
  obtain ⟨x,y,rfl,h1,h2⟩:=hr.split
  exact (leDs_ok h.1 h1).append (leRows_ok h.2 h2)
 | [],_ :: _,_,h,_=>h.elim
 | _ :: _,[],_,h,_=>h.elim
theorem leRows_length:∀ {r r':List (List D)},leRows r r' → r.length=r'.length
 | [],[],_=>rfl
 | a :: l,b :: m,h=>by simp [leRows_length h.2]
 | [],_ :: _,h=>h.elim
 | _ :: _,[],h=>h.elim
theorem leRows_mem {sz:Nat}:∀ {r r':List (List D)},leRows r r' → (∀ x ∈ r,x.length=sz) → ∀ x ∈ r',x.length=sz
 | [],[],_,_,x,hx=>by simp at hx
 | a :: l,b :: m,h,hr,x,hx=>by
  rcases List.mem_cons.1 hx with rfl|hx
  ·rw [← leDs_length h.1];exact hr a (by simp)
  ·exact leRows_mem h.2 (fun y hy=>hr y (by simp [hy])) x hx
 | [],_ :: _,h,_,_,_=>h.elim
 | _ :: _,[],h,_,_,_=>h.elim
attribute [push_cast] leRows
def leC:E → E → Prop
 | .full sz l,.sl sz' l'=>sz=sz'∧leRows l l'
 | .v x,.v y=>x=y
 | _,_=>False
def leCs:List E → List E → Prop
 | [],[]=>True
 | a :: r,b :: r'=>leC a b∧leCs r r'
 | _,_=>False
attribute [push_cast] leC leCs
theorem leC_ok {w:World} {Γ:G} {a b:E} {y:Value} (h:leC a b) (hr:RE w Γ a y):RE w Γ b y:=by
 unfold leC at h
 split at h
 ·obtain ⟨rfl,h⟩:=h
  obtain ⟨h2,_⟩:=hr
  obtain ⟨A,c,xs,h3,h4,h5,h6,h7⟩:=rd_sl.1 h2
  show RD w Γ.I (.sl _ _) _
  rw [rd_sl,h3]
  have hl:=leRows_length h
  exact ⟨A,c,xs,by rw [hl],by omega,by rw [← hl];exact h5,leRows_mem h h6,leRows_ok h h7⟩
 ·subst h;exact hr
 ·exact h.elim
theorem leCs_ok {w:World} {Γ:G}:∀ {a b:List E} {ys:List Value},leCs a b → All2 (RE w Γ) a ys → All2 (RE w Γ) b ys
 | [],[],_,_,h=>h
 | _ :: _,_ :: _,[],_,h=>h.elim
 | _ :: _,_ :: _,_ :: _,h,hr=>⟨leC_ok h.1 hr.1,leCs_ok h.2 hr.2⟩
 | [],_ :: _,_,h,_=>h.elim
 | _ :: _,[],_,h,_=>h.elim
theorem weak_aggrows {N p:Nat} {s:S} (i:Nat) {cs:List E} (cs':List E) (hi:s.get i=some (.agg cs)) (h:leCs cs cs'):Weak N p s ⟨(i,.agg cs') :: s.t,s.o⟩:=by
 intro Γ a w hA
 refine ⟨Γ,⟨⟨hA.inv.size,hA.inv.defers,fun j q hq=>?_,hA.inv.m⟩,hA.le⟩,Grow.refl _ _ _⟩
 simp only [S.get,look] at hq
 split at hq
 ·rename_i e
  subst e
  cases hq
  obtain ⟨h1,xs,h2,h3⟩:=hA.inv.t j _ hi
  exact ⟨h1,xs,h2,leCs_ok h h3⟩
 ·exact hA.inv.t j q hq
end Go.Proofs.YthconflkbeipoaaGreatDoor
