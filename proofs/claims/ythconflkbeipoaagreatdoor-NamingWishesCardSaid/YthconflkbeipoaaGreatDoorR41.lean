/- What the program computes, and the plain laws of it, part 41. -/
import Derived.Test.YthconflkbeipoaaGreatDoorR40
namespace Go.Proofs.YthconflkbeipoaaGreatDoor
attribute [local irreducible] PL QL PWPr PCalls Weak RetK Kontr PA
open Go.RowKit
open IntWalk renaming iteOmega → iO, toNatUp → tN
set_option linter.unusedVariables false
set_option linter.unusedSimpArgs false
set_option maxRecDepth 20000
abbrev plO1 (names now:List Atr) (tk:List ByteArray):List Ob:=[.box 82 [.ptr 1 0],.box 85 [.own 2 now.length,.mp 3,.mp 4],.arr 33 2 (now.map Atr.d),.map none false (tgE names),.map none false (setE tk)]
set_option maxHeartbeats 4000000 in
theorem step1_pure (names now:List Atr) (tk:List ByteArray) (ht:TakOk now tk) (a:Atr):PCalls Tryz.prog 81 [.agg (a.d.map D.e),.c (.ptr 0 0)] (plO1 names now tk) fun r os=>r = .c (.v (.bool (freeP names now a)))∧os=plO1 names now tk:=by
 have hw:=wrong_pure names now tk a
 have hl:=lk_tg0 names a.name
 have hk:=lk_set tk (goalP names a)
 have hf:freeP names now a=(wrongP names a && !inM (goalP names a) (vals now)):=rfl
 rw [ht.inm] at hk
 have hg:(valOf names a.name).getD ⟨#[]⟩=goalP names a:=rfl
 rw [hg] at hl
 refine pcalls_of Tryz.func81 rfl (by simp [Tryz.ntmps81]) ?_
 rw [Tryz.ntmps81,Tryz.results81]
 push_cast [iO,tN]
 have cB:CutB 4 []:=trivial
 cases h1:wrongP names a with
 | false =>
  rw [h1] at hw hf
  repeat' (first |  (refine hidR 1 ?_)  | ((first|refine pC ?_|refine pQC ?_|refine pU ?_);push_cast [iO,tN])|(refine pif (fun h=>?_) (fun h=>?_)<;>first|exact pN h|push_cast [iO,tN]))
  refine unhid ?_
  (refine pwp_cut 4 [] ?_;refine pwp_drawn (by kernel_rfl) ?_;simp only [List.length_cons,List.length_nil,Nat.reduceAdd];apply pa_hav;intro z25;apply pa_hav;intro z24;apply pa_hav;intro z22;apply pa_hav;intro z23;apply pa_hav;intro z18;apply pa_hav;intro z19;apply pa_hav;intro z20;apply pa_hav;intro z13;apply pa_hav;intro z15;apply pa_hav;intro z16;apply pa_hav;intro z9;apply pa_hav;intro z21;apply pa_hav;intro z14;apply pa_hav;intro z17;apply pa_hav;intro z8;apply pa_hav;intro z10;apply pa_hav;intro z11;apply pa_hav;intro z12;apply pa_hav;intro z5;apply pa_hav;intro z6;apply pa_hav;intro z7;apply pa_hav;intro z4;apply pa_hav;intro z3;apply pa_hav;intro z1;apply pa_hav;intro z2;refine pas [0,1] ?_;push_cast [iO,tN];refine ⟨z1,z2⟩;refine pas [0] ?_;push_cast [iO,tN];refine z3;refine pas [1] ?_;push_cast [iO,tN];refine paw z3 ?_<;>(refine weak_fg ?_;push_cast [iO,tN]);refine pas [2] ?_;push_cast [iO,tN];(focus ((first|((refine plc [1,2,3,4] (hw) ?_ ?_;push_cast [iO,tN];rintro r os ⟨rfl,rfl⟩;push_cast [iO,tN]))|(skip));refine pah 3 ?_;push_cast [iO,tN];refine pah 12 ?_;push_cast [iO,tN];exact z4));refine pas [4,8,13] ?_;push_cast [iO,tN];refine ⟨?_,?_,?_⟩;(focus (refine pah 5 ?_;push_cast [iO,tN];refine pah 6 ?_;push_cast [iO,tN];exact z5));(focus (refine pah 9 ?_;push_cast [iO,tN];refine pah 10 ?_;push_cast [iO,tN];exact z6));(focus (exact z7));refine pas [4,8] ?_;push_cast [iO,tN];refine ⟨?_,?_⟩;(focus (refine pah 5 ?_;push_cast [iO,tN];refine pah 6 ?_;push_cast [iO,tN];exact z10));(focus (refine pah 9 ?_;push_cast [iO,tN];refine pah 10 ?_;push_cast [iO,tN];exact z12));refine pas [4,11,13] ?_;push_cast [iO,tN];refine ⟨?_,?_,?_⟩;(focus (refine pah 5 ?_;push_cast [iO,tN];refine pah 6 ?_;push_cast [iO,tN];exact z9));(focus (exact z11));(focus (refine paw z12 ?_;refine weak_fg ?_;push_cast [iO,tN]));refine pas [7,8,13] ?_;push_cast [iO,tN];refine ⟨?_,?_,?_⟩;(focus (exact z8));(focus (refine pah 9 ?_;push_cast [iO,tN];refine pah 10 ?_;push_cast [iO,tN];refine paw z9 ?_;refine weak_fg ?_;push_cast [iO,tN]));(focus (refine paw z10 ?_;refine weak_fg ?_;push_cast [iO,tN]));refine pas [4,11] ?_;push_cast [iO,tN];refine ⟨?_,?_⟩;(focus (refine pah 5 ?_;push_cast [iO,tN];refine pah 6 ?_;push_cast [iO,tN];exact z16));(focus (exact z17));refine pas [4,13] ?_;push_cast [iO,tN];refine ⟨?_,?_⟩;(focus (refine pah 5 ?_;push_cast [iO,tN];refine pah 6 ?_;push_cast [iO,tN];exact z15));(focus (refine paw z17 ?_;refine weak_fg ?_;push_cast [iO,tN]));refine pas [7,8] ?_;push_cast [iO,tN];refine ⟨?_,?_⟩;(focus (exact z14));(focus (refine pah 9 ?_;push_cast [iO,tN];refine pah 10 ?_;push_cast [iO,tN];refine paw z16 ?_;refine weak_fg ?_;push_cast [iO,tN]));refine pas [8,13] ?_;push_cast [iO,tN];refine ⟨?_,?_⟩;(focus (refine pah 9 ?_;push_cast [iO,tN];refine pah 10 ?_;push_cast [iO,tN];exact z13));(focus (refine paw z14 ?_;refine weak_fg ?_;push_cast [iO,tN]));refine pas [4,14] ?_;push_cast [iO,tN];refine ⟨?_,?_⟩;(focus (refine pah 5 ?_;push_cast [iO,tN];refine pah 6 ?_;push_cast [iO,tN];exact z20));(focus (exact z21));refine pas [8] ?_;push_cast [iO,tN];(focus (refine pah 9 ?_;push_cast [iO,tN];refine pah 10 ?_;push_cast [iO,tN];exact z19));refine pas [4] ?_;push_cast [iO,tN];(focus (refine pah 5 ?_;push_cast [iO,tN];refine pah 6 ?_;push_cast [iO,tN];exact z23));refine pas [7,11,13] ?_;push_cast [iO,tN];refine ⟨paw z13 ?_,paw z15 ?_,paw z16 ?_⟩<;>(refine weak_fg ?_;push_cast [iO,tN]);refine pas [7,11] ?_;push_cast [iO,tN];refine ⟨paw z19 ?_,paw z20 ?_⟩<;>(refine weak_fg ?_;push_cast [iO,tN]);refine pas [7,13] ?_;push_cast [iO,tN];refine ⟨z18,paw z20 ?_⟩<;>(refine weak_fg ?_;push_cast [iO,tN]);refine pas [11,13] ?_;push_cast [iO,tN];refine ⟨paw z18 ?_,paw z19 ?_⟩<;>(refine weak_fg ?_;push_cast [iO,tN]);refine pas [7,14] ?_;push_cast [iO,tN];refine ⟨z22,paw z23 ?_⟩<;>(refine weak_fg ?_;push_cast [iO,tN]);refine pas [11] ?_;push_cast [iO,tN];refine paw z22 ?_<;>(refine weak_fg ?_;push_cast [iO,tN]);refine pas [13] ?_;push_cast [iO,tN];refine paw z22 ?_<;>(refine weak_fg ?_;push_cast [iO,tN]);refine pas [7] ?_;push_cast [iO,tN];refine z24;refine pas [14] ?_;push_cast [iO,tN];refine paw z24 ?_<;>(refine weak_fg ?_;push_cast [iO,tN]);refine pas [15] ?_;push_cast [iO,tN];(focus (refine pah 16 ?_;push_cast [iO,tN];refine pah 17 ?_;push_cast [iO,tN];refine pah 18 ?_;push_cast [iO,tN];exact paw z25 (weak_cutS 4 [] _)));push_cast [iO,tN];refine pad ?_;push_cast [iO,tN])
  repeat' (first|((first|refine pC ?_|refine pQC ?_|refine pU ?_);push_cast [iO,tN])|(refine pif (fun h=>?_) (fun h=>?_)<;>first|exact pN h|push_cast [iO,tN]))
  (refine retK_of [0,1,2,3,4] ?_;push_cast [iO,tN,hf])
 | true =>
  rw [h1] at hw hf
  repeat' (first |  (refine hidR 1 ?_)  | ((first|refine pC ?_|refine pQC ?_|refine pU ?_);push_cast [iO,tN])|(refine pif (fun h=>?_) (fun h=>?_)<;>first|exact pN h|push_cast [iO,tN]))
  refine unhid ?_
  (refine pwp_cut 4 [] ?_;refine pwp_drawn (by kernel_rfl) ?_;simp only [List.length_cons,List.length_nil,Nat.reduceAdd];apply pa_hav;intro z25;apply pa_hav;intro z24;apply pa_hav;intro z22;apply pa_hav;intro z23;apply pa_hav;intro z18;apply pa_hav;intro z19;apply pa_hav;intro z20;apply pa_hav;intro z13;apply pa_hav;intro z15;apply pa_hav;intro z16;apply pa_hav;intro z9;apply pa_hav;intro z21;apply pa_hav;intro z14;apply pa_hav;intro z17;apply pa_hav;intro z8;apply pa_hav;intro z10;apply pa_hav;intro z11;apply pa_hav;intro z12;apply pa_hav;intro z5;apply pa_hav;intro z6;apply pa_hav;intro z7;apply pa_hav;intro z4;apply pa_hav;intro z3;apply pa_hav;intro z1;apply pa_hav;intro z2;refine pas [0,1] ?_;push_cast [iO,tN,  hl,hk];refine ⟨z1,z2⟩;refine pas [0] ?_;push_cast [iO,tN,  hl,hk];refine z3;refine pas [1] ?_;push_cast [iO,tN,  hl,hk];refine paw z3 ?_<;>(refine weak_fg ?_;push_cast [iO,tN,  hl,hk]);refine pas [2] ?_;push_cast [iO,tN,  hl,hk];(focus ((first|((refine plc [1,2,3,4] (hw) ?_ ?_;push_cast [iO,tN,  hl,hk];rintro r os ⟨rfl,rfl⟩;push_cast [iO,tN,  hl,hk])));refine pah 3 ?_;push_cast [iO,tN,  hl,hk];refine pah 12 ?_;push_cast [iO,tN,  hl,hk];exact z4));refine pas [4,8,13] ?_;push_cast [iO,tN,  hl,hk];refine ⟨?_,?_,?_⟩;(focus (refine pah 5 ?_;push_cast [iO,tN,  hl,hk];refine pah 6 ?_;push_cast [iO,tN,  hl,hk];exact z5));(focus (refine pah 9 ?_;push_cast [iO,tN,  hl,hk];refine pah 10 ?_;push_cast [iO,tN,  hl,hk];exact z6));(focus (exact z7));refine pas [4,8] ?_;push_cast [iO,tN,  hl,hk];refine ⟨?_,?_⟩;(focus (refine pah 5 ?_;push_cast [iO,tN,  hl,hk];refine pah 6 ?_;push_cast [iO,tN,  hl,hk];exact z10));(focus (refine pah 9 ?_;push_cast [iO,tN,  hl,hk];refine pah 10 ?_;push_cast [iO,tN,  hl,hk];exact z12));refine pas [4,11,13] ?_;push_cast [iO,tN,  hl,hk];refine ⟨?_,?_,?_⟩;(focus (refine pah 5 ?_;push_cast [iO,tN,  hl,hk];refine pah 6 ?_;push_cast [iO,tN,  hl,hk];exact z9));(focus (exact z11));(focus (refine paw z12 ?_;refine weak_fg ?_;push_cast [iO,tN,  hl,hk]));refine pas [7,8,13] ?_;push_cast [iO,tN,  hl,hk];refine ⟨?_,?_,?_⟩;(focus (exact z8));(focus (refine pah 9 ?_;push_cast [iO,tN,  hl,hk];refine pah 10 ?_;push_cast [iO,tN,  hl,hk];refine paw z9 ?_;refine weak_fg ?_;push_cast [iO,tN,  hl,hk]));(focus (refine paw z10 ?_;refine weak_fg ?_;push_cast [iO,tN,  hl,hk]));refine pas [4,11] ?_;push_cast [iO,tN,  hl,hk];refine ⟨?_,?_⟩;(focus (refine pah 5 ?_;push_cast [iO,tN,  hl,hk];refine pah 6 ?_;push_cast [iO,tN,  hl,hk];exact z16));(focus (exact z17));refine pas [4,13] ?_;push_cast [iO,tN,  hl,hk];refine ⟨?_,?_⟩;(focus (refine pah 5 ?_;push_cast [iO,tN,  hl,hk];refine pah 6 ?_;push_cast [iO,tN,  hl,hk];exact z15));(focus (refine paw z17 ?_;refine weak_fg ?_;push_cast [iO,tN,  hl,hk]));refine pas [7,8] ?_;push_cast [iO,tN,  hl,hk];refine ⟨?_,?_⟩;(focus (exact z14));(focus (refine pah 9 ?_;push_cast [iO,tN,  hl,hk];refine pah 10 ?_;push_cast [iO,tN,  hl,hk];refine paw z16 ?_;refine weak_fg ?_;push_cast [iO,tN,  hl,hk]));refine pas [8,13] ?_;push_cast [iO,tN,  hl,hk];refine ⟨?_,?_⟩;(focus (refine pah 9 ?_;push_cast [iO,tN,  hl,hk];refine pah 10 ?_;push_cast [iO,tN,  hl,hk];exact z13));(focus (refine paw z14 ?_;refine weak_fg ?_;push_cast [iO,tN,  hl,hk]));refine pas [4,14] ?_;push_cast [iO,tN,  hl,hk];refine ⟨?_,?_⟩;(focus (refine pah 5 ?_;push_cast [iO,tN,  hl,hk];refine pah 6 ?_;push_cast [iO,tN,  hl,hk];exact z20));(focus (exact z21));refine pas [8] ?_;push_cast [iO,tN,  hl,hk];(focus (refine pah 9 ?_;push_cast [iO,tN,  hl,hk];refine pah 10 ?_;push_cast [iO,tN,  hl,hk];exact z19));refine pas [4] ?_;push_cast [iO,tN,  hl,hk];(focus (refine pah 5 ?_;push_cast [iO,tN,  hl,hk];refine pah 6 ?_;push_cast [iO,tN,  hl,hk];exact z23));refine pas [7,11,13] ?_;push_cast [iO,tN,  hl,hk];refine ⟨paw z13 ?_,paw z15 ?_,paw z16 ?_⟩<;>(refine weak_fg ?_;push_cast [iO,tN,  hl,hk]);refine pas [7,11] ?_;push_cast [iO,tN,  hl,hk];refine ⟨paw z19 ?_,paw z20 ?_⟩<;>(refine weak_fg ?_;push_cast [iO,tN,  hl,hk]);refine pas [7,13] ?_;push_cast [iO,tN,  hl,hk];refine ⟨z18,paw z20 ?_⟩<;>(refine weak_fg ?_;push_cast [iO,tN,  hl,hk]);refine pas [11,13] ?_;push_cast [iO,tN,  hl,hk];refine ⟨paw z18 ?_,paw z19 ?_⟩<;>(refine weak_fg ?_;push_cast [iO,tN,  hl,hk]);refine pas [7,14] ?_;push_cast [iO,tN,  hl,hk];refine ⟨z22,paw z23 ?_⟩<;>(refine weak_fg ?_;push_cast [iO,tN,  hl,hk]);refine pas [11] ?_;push_cast [iO,tN,  hl,hk];refine paw z22 ?_<;>(refine weak_fg ?_;push_cast [iO,tN,  hl,hk]);refine pas [13] ?_;push_cast [iO,tN,  hl,hk];refine paw z22 ?_<;>(refine weak_fg ?_;push_cast [iO,tN,  hl,hk]);refine pas [7] ?_;push_cast [iO,tN,  hl,hk];refine z24;refine pas [14] ?_;push_cast [iO,tN,  hl,hk];refine paw z24 ?_<;>(refine weak_fg ?_;push_cast [iO,tN,  hl,hk]);refine pas [15] ?_;push_cast [iO,tN,  hl,hk];(focus (refine pah 16 ?_;push_cast [iO,tN,  hl,hk];refine pah 17 ?_;push_cast [iO,tN,  hl,hk];refine pah 18 ?_;push_cast [iO,tN,  hl,hk];exact paw z25 (weak_cutS 4 [] _)));push_cast [iO,tN,  hl,hk];refine pad ?_;push_cast [iO,tN,  hl,hk])
  repeat' (first|((first|refine pC ?_|refine pQC ?_|refine pU ?_);push_cast [iO,tN])|(refine pif (fun h=>?_) (fun h=>?_)<;>first|exact pN h|push_cast [iO,tN]))
  (refine retK_of [0,1,2,3,4] ?_;push_cast [iO,tN,hf])
set_option maxHeartbeats 4000000 in
theorem idx1_pure (names now:List Atr) (tk:List ByteArray) (ht:TakOk now tk) (hn:now.length≤1000000) :
  PCalls Tryz.prog 80 [.c (.own 2 now.length),.c (.fn (.func 81) [] [0])] (plO1 names now tk) fun r os=>∃ k,idxB (freeP names now) now k∧r = .c (.v (.int .i64 k))∧os=plO1 names now tk:=by
 refine pcalls_of Tryz.func80 rfl (by simp [Tryz.ntmps80]) ?_
 rw [Tryz.ntmps80,Tryz.results80]
 push_cast [iO,tN]
 have cB:CutB 6 [6,7,8]:=trivial
 repeat' (first|((first|refine pC ?_|refine pQC ?_|refine pU ?_);push_cast [iO,tN])|(refine pif (fun h=>?_) (fun h=>?_)<;>first|exact pN h|push_cast [iO,tN]))
 (apply pwp_loop3 (α:=Nat) 6 [6,7,8] (fun k=>[(8,.c (.v (.int .i64 k)))]) (fun k=>[]) (fun k=>k≤now.length∧∀ x ∈ now.take k,(freeP names now) x=false) (fun k=>now.length - k) (0);(focus ((try push_cast [iO,tN]);rfl));(focus exact ⟨Nat.zero_le _,by simp⟩);(focus ((refine weak_fg ?_;try push_cast [iO,tN]))))
 rintro k ⟨hk,hpre⟩
 push_cast [iO,tN]
 by_cases hlt:k < now.length
 ·obtain ⟨a,ha⟩:∃ a,now.getD k default=a:=⟨_,rfl⟩
  have hc:=step1_pure names now tk ht a
  cases hq:(freeP names now) a with
  | true =>
   rw [hq] at hc
   repeat' (first|((refine plc [0,1,2,3,4] (hc) ?_ ?_;push_cast [iO,tN,ha];rintro r os ⟨rfl,rfl⟩;push_cast [iO,tN,ha]))|((first|refine pC ?_|refine pQC ?_|refine pU ?_);push_cast [iO,tN,ha])|(refine pif (fun h=>?_) (fun h=>?_)<;>first|exact pN h|push_cast [iO,tN,ha]))
   (refine retK_of [0,1,2,3,4] ?_;push_cast [iO,tN])
   exact ⟨_,_,leP_refl _,leOs_refl _,k,.inr ⟨k,rfl,hlt,by rw [ha];exact hq,hpre⟩,rfl,rfl⟩
  | false =>
   rw [hq] at hc
   repeat' (first|((refine plc [0,1,2,3,4] (hc) ?_ ?_;push_cast [iO,tN,ha];rintro r os ⟨rfl,rfl⟩;push_cast [iO,tN,ha]))|((first|refine pC ?_|refine pQC ?_|refine pU ?_);push_cast [iO,tN,ha])|(refine pif (fun h=>?_) (fun h=>?_)<;>first|exact pN h|push_cast [iO,tN,ha]))
   refine ⟨k+1,⟨by omega,fun x hx=>?_⟩,by (refine weak_fg ?_;push_cast [iO,tN]),by omega⟩
   rw [List.take_succ_eq_append_getElem hlt,List.mem_append,List.mem_singleton] at hx
   rcases hx with hx|hx
   ·exact hpre x hx
   ·rw [hx,← getD_lt now hlt,ha];exact hq
 ·rw [List.take_of_length_le (by omega)] at hpre
  repeat' (first|((first|refine pC ?_|refine pQC ?_|refine pU ?_);push_cast [iO,tN])|(refine pif (fun h=>?_) (fun h=>?_)<;>first|exact pN h|push_cast [iO,tN]))
  (refine retK_of [0,1,2,3,4] ?_;push_cast [iO,tN])
  exact ⟨_,_,leP_refl _,leOs_refl _,-1,.inl ⟨rfl,hpre⟩,rfl,rfl⟩
set_option maxHeartbeats 4000000 in
theorem idx2_pure (names now:List Atr) (tk:List ByteArray) (ht:TakOk now tk) (hn:now.length≤1000000) :
  PCalls Tryz.prog 80 [.c (.own 1 now.length),.c (.fn (.func 82) [.v .nilFunc] [0])] (plO names now tk) fun r os=>∃ k,idxB (wrongP names) now k∧r = .c (.v (.int .i64 k))∧os=plO names now tk:=by
 refine pcalls_of Tryz.func80 rfl (by simp [Tryz.ntmps80]) ?_
 rw [Tryz.ntmps80,Tryz.results80]
 push_cast [iO,tN]
 have cB:CutB 6 [6,7,8]:=trivial
 repeat' (first|((first|refine pC ?_|refine pQC ?_|refine pU ?_);push_cast [iO,tN])|(refine pif (fun h=>?_) (fun h=>?_)<;>first|exact pN h|push_cast [iO,tN]))
 (apply pwp_loop3 (α:=Nat) 6 [6,7,8] (fun k=>[(8,.c (.v (.int .i64 k)))]) (fun k=>[]) (fun k=>k≤now.length∧∀ x ∈ now.take k,(wrongP names) x=false) (fun k=>now.length - k) (0);(focus ((try push_cast [iO,tN]);rfl));(focus exact ⟨Nat.zero_le _,by simp⟩);(focus ((refine weak_fg ?_;try push_cast [iO,tN]))))
 rintro k ⟨hk,hpre⟩
 push_cast [iO,tN]
 by_cases hlt:k < now.length
 ·obtain ⟨a,ha⟩:∃ a,now.getD k default=a:=⟨_,rfl⟩
  have hc:=wrong_pure names now tk a
  cases hq:(wrongP names) a with
  | true =>
   rw [hq] at hc
   repeat' (first|((refine plc [0,1,2,3] (hc) ?_ ?_;push_cast [iO,tN,ha];rintro r os ⟨rfl,rfl⟩;push_cast [iO,tN,ha]))|((first|refine pC ?_|refine pQC ?_|refine pU ?_);push_cast [iO,tN,ha])|(refine pif (fun h=>?_) (fun h=>?_)<;>first|exact pN h|push_cast [iO,tN,ha]))
   (refine retK_of [0,1,2,3] ?_;push_cast [iO,tN])
   exact ⟨_,_,leP_refl _,leOs_refl _,k,.inr ⟨k,rfl,hlt,by rw [ha];exact hq,hpre⟩,rfl,rfl⟩
  | false =>
   rw [hq] at hc
   repeat' (first|((refine plc [0,1,2,3] (hc) ?_ ?_;push_cast [iO,tN,ha];rintro r os ⟨rfl,rfl⟩;push_cast [iO,tN,ha]))|((first|refine pC ?_|refine pQC ?_|refine pU ?_);push_cast [iO,tN,ha])|(refine pif (fun h=>?_) (fun h=>?_)<;>first|exact pN h|push_cast [iO,tN,ha]))
   refine ⟨k+1,⟨by omega,fun x hx=>?_⟩,by (refine weak_fg ?_;push_cast [iO,tN]),by omega⟩
   rw [List.take_succ_eq_append_getElem hlt,List.mem_append,List.mem_singleton] at hx
   rcases hx with hx|hx
   ·exact hpre x hx
   ·rw [hx,← getD_lt now hlt,ha];exact hq
 ·rw [List.take_of_length_le (by omega)] at hpre
  repeat' (first|((first|refine pC ?_|refine pQC ?_|refine pU ?_);push_cast [iO,tN])|(refine pif (fun h=>?_) (fun h=>?_)<;>first|exact pN h|push_cast [iO,tN]))
  (refine retK_of [0,1,2,3] ?_;push_cast [iO,tN])
  exact ⟨_,_,leP_refl _,leOs_refl _,-1,.inl ⟨rfl,hpre⟩,rfl,rfl⟩
set_option maxRecDepth 20000
def firstZ:Option Nat → Int
 | none => -1
 | some i=>(i:Int)
theorem idx_first {q:Atr → Bool} {l:List Atr} {k:Int} (h:idxB q l k):k=firstZ (firstI l q):=by
 rcases h with ⟨rfl,h⟩|⟨i,rfl,hi,hq,hp⟩
 ·rw [firstI_no fun i hi=>h _ (by rw [getD_lt l hi];exact List.getElem_mem _)];rfl
 ·rw [firstI_of hi hq fun j hj=>hp _ (List.mem_take_iff_getElem.2 ⟨j,by omega,by rw [getD_lt l (by omega)]⟩)];rfl
theorem idx1x_pure (names now:List Atr) (tk:List ByteArray) (ht:TakOk now tk) (hn:now.length≤1000000) :
  PCalls Tryz.prog 80 [.c (.own 2 now.length),.c (.fn (.func 81) [] [0])] (plO1 names now tk) fun r os=>r = .c (.v (.int .i64 (firstZ (firstI now (freeP names now)))))∧os=plO1 names now tk :=
 (idx1_pure names now tk ht hn).mono fun r os ⟨k,hk,hr,ho⟩=>⟨by rw [hr,idx_first hk],ho⟩
theorem idx2x_pure (names now:List Atr) (tk:List ByteArray) (ht:TakOk now tk) (hn:now.length≤1000000) :
  PCalls Tryz.prog 80 [.c (.own 1 now.length),.c (.fn (.func 82) [.v .nilFunc] [0])] (plO names now tk) fun r os=>r = .c (.v (.int .i64 (firstZ (firstI now (wrongP names)))))∧os=plO names now tk :=
 (idx2_pure names now tk ht hn).mono fun r os ⟨k,hk,hr,ho⟩=>⟨by rw [hr,idx_first hk],ho⟩
set_option maxHeartbeats 8000000 in
theorem step_pure (names now:List Atr) (tk:List ByteArray) (h:PlanOk names now) (ht:TakOk now tk) (hfew:names.length+now.length≤90) :
  PCalls Tryz.prog 41 [.c (.ptr 0 0)] (plO names now tk) fun r os=>(nextP names now=none∧r = .two (.agg [.v (.string ⟨#[]⟩),.v (.string ⟨#[]⟩),.v (.string ⟨#[]⟩)]) (.c (.v (.bool false)))∧os=plO names now tk)∨∃ (i:Nat) (u:ByteArray) (tk':List ByteArray),nextP names now=some (i,u)∧TakOk (renP now i u) tk'∧r = .two (.agg (Ren.e ⟨(now.getD i default).name,(now.getD i default).value,u⟩)) (.c (.v (.bool true)))∧os=plO names (renP now i u) tk':=by
 have h1:=idx1x_pure names now tk ht (by omega)
 have h2:=idx2x_pure names now tk ht (by omega)
 have htm:=temporary_pure names now tk ht hfew
 refine pcalls_of Tryz.func41 rfl (by simp [Tryz.ntmps41]) ?_
 rw [Tryz.ntmps41,Tryz.results41]
 push_cast [iO,tN]
 have cB:CutB 6 []:=trivial
 cases e1:firstI now (freeP names now) with
 | some i =>
  obtain ⟨g1,g2,_⟩:=firstI_some e1
  have hnp:nextP names now=some (i,goalP names (now.getD i default)):=by unfold nextP;rw [e1]
  have hsp:=nextP_spec h hnp
  rw [e1] at h1
  simp only [firstZ] at h1
  have hre:=rename_pure names now tk i (goalP names (now.getD i default)) g1 (by omega)
  have htk:=ht.ren h.pv g1 (goalP names (now.getD i default))
  obtain ⟨a,ha⟩:∃ a,now.getD i default=a:=⟨_,rfl⟩
  have hl:=lk_tg0 names a.name
  have hg:(valOf names a.name).getD ⟨#[]⟩=goalP names a:=rfl
  rw [hg] at hl
  rw [ha] at hre htk hnp
  obtain ⟨u,hu⟩:∃ u,goalP names a=u:=⟨_,rfl⟩
  rw [hu] at hl hre htk hnp
  obtain ⟨tk',htk'⟩:∃ tk',addS (delS tk a.value) u=tk':=⟨_,rfl⟩
  rw [htk'] at hre htk
  have hrl:=len_renP now i u
  obtain ⟨now',hnow⟩:∃ now',renP now i u=now':=⟨_,rfl⟩
  repeat' (first|((refine plc [4,0,1,2,3] (h1) ?_ ?_;push_cast [iO,tN,ha];rintro r os ⟨rfl,rfl⟩;push_cast [iO,tN,ha]))|(refine hidR 3 ?_)|((first|refine pC ?_|refine pQC ?_|refine pU ?_);push_cast [iO,tN,ha])|(refine pif (fun h=>?_) (fun h=>?_)<;>first|exact pN h|push_cast [iO,tN,ha]))
  refine unhid ?_
  (refine pwp_cut 6 [] ?_;refine pwp_drawn (by kernel_rfl) ?_;simp only [List.length_cons,List.length_nil,Nat.reduceAdd];refine pah 1 ?_;push_cast [iO,tN,  ha,hl];refine pah 10 ?_;push_cast [iO,tN,  ha,hl];apply pa_hav;intro z27;apply pa_hav;intro z26;apply pa_hav;intro z25;apply pa_hav;intro z23;apply pa_hav;intro z24;apply pa_hav;intro z20;apply pa_hav;intro z21;apply pa_hav;intro z22;apply pa_hav;intro z16;apply pa_hav;intro z18;apply pa_hav;intro z19;apply pa_hav;intro z13;apply pa_hav;intro z15;apply pa_hav;intro z17;apply pa_hav;intro z10;apply pa_hav;intro z11;apply pa_hav;intro z12;apply pa_hav;intro z14;apply pa_hav;intro z7;apply pa_hav;intro z8;apply pa_hav;intro z9;apply pa_hav;intro z4;apply pa_hav;intro z5;apply pa_hav;intro z6;apply pa_hav;intro z2;apply pa_hav;intro z3;apply pa_hav;intro z1;refine pas [0,2,6] ?_;push_cast [iO,tN,  ha,hl];refine ⟨?_,?_,?_⟩;(focus (exact z1));(focus (refine pah 3 ?_;push_cast [iO,tN,  ha,hl];refine pah 4 ?_;push_cast [iO,tN,  ha,hl];exact z2));(focus (refine pah 7 ?_;push_cast [iO,tN,  ha,hl];refine pah 8 ?_;push_cast [iO,tN,  ha,hl];exact z3));refine pas [2,6] ?_;push_cast [iO,tN,  ha,hl];refine ⟨?_,?_⟩;(focus (refine pah 3 ?_;push_cast [iO,tN,  ha,hl];refine pah 4 ?_;push_cast [iO,tN,  ha,hl];exact z4));(focus (refine pah 7 ?_;push_cast [iO,tN,  ha,hl];refine pah 8 ?_;push_cast [iO,tN,  ha,hl];exact z5));refine pas [0,2,9] ?_;push_cast [iO,tN,  ha,hl];refine ⟨?_,?_,?_⟩;(focus (refine paw z5 ?_;refine weak_fg ?_;push_cast [iO,tN,  ha,hl]));(focus (refine pah 3 ?_;push_cast [iO,tN,  ha,hl];refine pah 4 ?_;push_cast [iO,tN,  ha,hl];exact z7));(focus (refine pah 11 ?_;push_cast [iO,tN,  ha,hl];refine pah 12 ?_;push_cast [iO,tN,  ha,hl];exact z8));refine pas [0,5,6] ?_;push_cast [iO,tN,  ha,hl];refine ⟨?_,?_,?_⟩;(focus (refine paw z4 ?_;refine weak_fg ?_;push_cast [iO,tN,  ha,hl]));(focus (exact z6));(focus (refine pah 7 ?_;push_cast [iO,tN,  ha,hl];refine pah 8 ?_;push_cast [iO,tN,  ha,hl];refine paw z7 ?_;refine weak_fg ?_;push_cast [iO,tN,  ha,hl]));refine pas [0,6] ?_;push_cast [iO,tN,  ha,hl];refine ⟨?_,?_⟩;(focus (exact z9));(focus (refine pah 7 ?_;push_cast [iO,tN,  ha,hl];refine pah 8 ?_;push_cast [iO,tN,  ha,hl];exact z12));refine pas [2,9] ?_;push_cast [iO,tN,  ha,hl];refine ⟨?_,?_⟩;(focus (refine pah 3 ?_;push_cast [iO,tN,  ha,hl];refine pah 4 ?_;push_cast [iO,tN,  ha,hl];exact z10));(focus (refine pah 11 ?_;push_cast [iO,tN,  ha,hl];refine pah 12 ?_;push_cast [iO,tN,  ha,hl];exact z11));refine pas [5,6] ?_;push_cast [iO,tN,  ha,hl];refine ⟨?_,?_⟩;(focus (refine paw z9 ?_;refine weak_fg ?_;push_cast [iO,tN,  ha,hl]));(focus (refine pah 7 ?_;push_cast [iO,tN,  ha,hl];refine pah 8 ?_;push_cast [iO,tN,  ha,hl];refine paw z10 ?_;refine weak_fg ?_;push_cast [iO,tN,  ha,hl]));refine pas [6] ?_;push_cast [iO,tN,  ha,hl];(focus (refine pah 7 ?_;push_cast [iO,tN,  ha,hl];refine pah 8 ?_;push_cast [iO,tN,  ha,hl];exact z15));refine pas [0,2,13] ?_;push_cast [iO,tN,  ha,hl];refine ⟨?_,?_,?_⟩;(focus (refine paw z11 ?_;refine weak_fg ?_;push_cast [iO,tN,  ha,hl]));(focus (refine pah 3 ?_;push_cast [iO,tN,  ha,hl];refine pah 4 ?_;push_cast [iO,tN,  ha,hl];exact z13));(focus (exact z14));refine pas [0,5,9] ?_;push_cast [iO,tN,  ha,hl];refine ⟨?_,?_,?_⟩;(focus (refine paw z10 ?_;refine weak_fg ?_;push_cast [iO,tN,  ha,hl]));(focus (refine paw z12 ?_;refine weak_fg ?_;push_cast [iO,tN,  ha,hl]));(focus (refine pah 11 ?_;push_cast [iO,tN,  ha,hl];refine pah 12 ?_;push_cast [iO,tN,  ha,hl];refine paw z13 ?_;refine weak_fg ?_;push_cast [iO,tN,  ha,hl]));refine pas [0,2] ?_;push_cast [iO,tN,  ha,hl];refine ⟨?_,?_⟩;(focus (exact z17));(focus (refine pah 3 ?_;push_cast [iO,tN,  ha,hl];refine pah 4 ?_;push_cast [iO,tN,  ha,hl];exact z19));refine pas [0,9] ?_;push_cast [iO,tN,  ha,hl];refine ⟨?_,?_⟩;(focus (refine paw z15 ?_;refine weak_fg ?_;push_cast [iO,tN,  ha,hl]));(focus (refine pah 11 ?_;push_cast [iO,tN,  ha,hl];refine pah 12 ?_;push_cast [iO,tN,  ha,hl];exact z18));refine pas [2,13] ?_;push_cast [iO,tN,  ha,hl];refine ⟨?_,?_⟩;(focus (refine pah 3 ?_;push_cast [iO,tN,  ha,hl];refine pah 4 ?_;push_cast [iO,tN,  ha,hl];exact z16));(focus (refine paw z17 ?_;refine weak_fg ?_;push_cast [iO,tN,  ha,hl]));refine pas [5,9] ?_;push_cast [iO,tN,  ha,hl];refine ⟨?_,?_⟩;(focus (refine paw z15 ?_;refine weak_fg ?_;push_cast [iO,tN,  ha,hl]));(focus (refine pah 11 ?_;push_cast [iO,tN,  ha,hl];refine pah 12 ?_;push_cast [iO,tN,  ha,hl];refine paw z16 ?_;refine weak_fg ?_;push_cast [iO,tN,  ha,hl]));refine pas [2] ?_;push_cast [iO,tN,  ha,hl];(focus (refine pah 3 ?_;push_cast [iO,tN,  ha,hl];refine pah 4 ?_;push_cast [iO,tN,  ha,hl];exact z21));refine pas [9] ?_;push_cast [iO,tN,  ha,hl];(focus (refine pah 11 ?_;push_cast [iO,tN,  ha,hl];refine pah 12 ?_;push_cast [iO,tN,  ha,hl];exact z20));refine pas [0,5,13] ?_;push_cast [iO,tN,  ha,hl];refine ⟨paw z16 ?_,paw z18 ?_,paw z19 ?_⟩<;>(refine weak_fg ?_;push_cast [iO,tN,  ha,hl]);refine pas [0,5] ?_;push_cast [iO,tN,  ha,hl];refine ⟨paw z21 ?_,z22⟩<;>(refine weak_fg ?_;push_cast [iO,tN,  ha,hl]);refine pas [0,13] ?_;push_cast [iO,tN,  ha,hl];refine ⟨paw z20 ?_,paw z22 ?_⟩<;>(refine weak_fg ?_;push_cast [iO,tN,  ha,hl]);refine pas [5,13] ?_;push_cast [iO,tN,  ha,hl];refine ⟨paw z20 ?_,paw z21 ?_⟩<;>(refine weak_fg ?_;push_cast [iO,tN,  ha,hl]);refine pas [0,14] ?_;push_cast [iO,tN,  ha,hl];refine ⟨z23,z24⟩;refine pas [5] ?_;push_cast [iO,tN,  ha,hl];refine paw z23 ?_<;>(refine weak_fg ?_;push_cast [iO,tN,  ha,hl]);refine pas [13] ?_;push_cast [iO,tN,  ha,hl];refine paw z23 ?_<;>(refine weak_fg ?_;push_cast [iO,tN,  ha,hl]);refine pas [0] ?_;push_cast [iO,tN,  ha,hl];refine z25;refine pas [14] ?_;push_cast [iO,tN,  ha,hl];refine paw z25 ?_<;>(refine weak_fg ?_;push_cast [iO,tN,  ha,hl]);refine pas [15] ?_;push_cast [iO,tN,  ha,hl];(focus ((first|((refine plc [0,1,2,3] (hre) ?_ ?_;push_cast [iO,tN,  ha,hl];rintro r os ⟨rfl,rfl⟩;push_cast [iO,tN,  ha,hl])));exact z26));refine pas [16] ?_;push_cast [iO,tN,  ha,hl];(focus (refine pah 17 ?_;push_cast [iO,tN,  ha,hl];exact paw z27 (weak_cutS 6 [] _)));push_cast [iO,tN,  ha,hl];refine pad ?_;push_cast [iO,tN,  ha,hl])
  repeat' (first|((first|refine pC ?_|refine pQC ?_|refine pU ?_);push_cast [iO,tN])|(refine pif (fun h=>?_) (fun h=>?_)<;>first|exact pN h|push_cast [iO,tN]))
  (refine retK_of [0,1,2,3] ?_;push_cast [iO,tN])
  refine ⟨_,_,leP_refl _,leOs_refl _,.inr ⟨i,u,tk',hnp,htk,by rw [ha],rfl⟩⟩
 | none =>
  rw [e1] at h1
  simp only [firstZ] at h1
  cases e2:firstI now (wrongP names) with
  | none =>
   have hnp:nextP names now=none:=by unfold nextP;rw [e1,e2]
   rw [e2] at h2
   simp only [firstZ] at h2
   repeat' (first |  ((refine plc [4,0,1,2,3] (h1) ?_ ?_;push_cast [iO,tN];rintro r os ⟨rfl,rfl⟩;push_cast [iO,tN]))|(refine hidR 4 ?_)|(refine pwp_seq fun K hK=>?_)  | ((first|refine pC ?_|refine pQC ?_|refine pU ?_);push_cast [iO,tN])|(refine pif (fun h=>?_) (fun h=>?_)<;>first|exact pN h|push_cast [iO,tN]))
   refine unhid ?_
   (refine pwp_cut 6 [] ?_;refine pwp_drawn (by kernel_rfl) ?_;simp only [List.length_cons,List.length_nil,Nat.reduceAdd];apply pa_hav;intro z6;apply pa_hav;intro z5;apply pa_hav;intro z4;apply pa_hav;intro z3;apply pa_hav;intro z1;apply pa_hav;intro z2;refine pas [0,4] ?_;push_cast [iO,tN];refine ⟨?_,?_⟩;(focus (refine pah 1 ?_;push_cast [iO,tN];refine pah 2 ?_;push_cast [iO,tN];exact z1));(focus (refine pah 5 ?_;push_cast [iO,tN];exact z2));refine pas [0] ?_;push_cast [iO,tN];(focus (refine pah 1 ?_;push_cast [iO,tN];refine pah 2 ?_;push_cast [iO,tN];exact z4));refine pas [3,4] ?_;push_cast [iO,tN];refine ⟨?_,?_⟩;(focus (exact z3));(focus (refine pah 5 ?_;push_cast [iO,tN];refine paw z4 ?_;refine weak_fg ?_;push_cast [iO,tN]));refine pas [4] ?_;push_cast [iO,tN];(focus (refine pah 5 ?_;push_cast [iO,tN];exact z5));refine pas [3] ?_;push_cast [iO,tN];refine paw z5 ?_<;>(refine weak_fg ?_;push_cast [iO,tN]);refine pas [6] ?_;push_cast [iO,tN];(focus ((first|((refine plc [0,1,2,3] (h2) ?_ ?_;push_cast [iO,tN];rintro r os ⟨rfl,rfl⟩;push_cast [iO,tN])));refine pah 7 ?_;push_cast [iO,tN];exact paw z6 (weak_cutS 6 [] _)));push_cast [iO,tN];refine pad ?_;push_cast [iO,tN])
   repeat' (first|((first|refine pC ?_|refine pQC ?_|refine pU ?_);push_cast [iO,tN])|(refine pif (fun h=>?_) (fun h=>?_)<;>first|exact pN h|push_cast [iO,tN]))
   (refine retK_of [0,1,2,3] ?_;push_cast [iO,tN])
   exact ⟨_,_,leP_refl _,leOs_refl _,.inl ⟨hnp,rfl,rfl⟩⟩
  | some i =>
   obtain ⟨g1,g2,_⟩:=firstI_some e2
   have hnp:nextP names now=some (i,tempS names now):=by unfold nextP;rw [e1,e2]
   rw [e2] at h2
   simp only [firstZ] at h2
   have hre:=rename_pure names now tk i (tempS names now) g1 (by omega)
   have htk:=ht.ren h.pv g1 (tempS names now)
   obtain ⟨u,hu⟩:∃ u,tempS names now=u:=⟨_,rfl⟩
   rw [hu] at htm hre htk hnp
   obtain ⟨a,ha⟩:∃ a,now.getD i default=a:=⟨_,rfl⟩
   rw [ha] at hre htk
   obtain ⟨tk',htk'⟩:∃ tk',addS (delS tk a.value) u=tk':=⟨_,rfl⟩
   rw [htk'] at hre htk
   have hrl:=len_renP now i u
   repeat' (first |  ((refine plc [4,0,1,2,3] (h1) ?_ ?_;push_cast [iO,tN];rintro r os ⟨rfl,rfl⟩;push_cast [iO,tN]))|(refine hidR 4 ?_)|(refine pwp_seq fun K hK=>?_)  | ((first|refine pC ?_|refine pQC ?_|refine pU ?_);push_cast [iO,tN])|(refine pif (fun h=>?_) (fun h=>?_)<;>first|exact pN h|push_cast [iO,tN]))
   refine unhid ?_
   (refine pwp_cut 6 [] ?_;refine pwp_drawn (by kernel_rfl) ?_;simp only [List.length_cons,List.length_nil,Nat.reduceAdd];apply pa_hav;intro z6;apply pa_hav;intro z5;apply pa_hav;intro z4;apply pa_hav;intro z3;apply pa_hav;intro z1;apply pa_hav;intro z2;refine pas [0,4] ?_;push_cast [iO,tN];refine ⟨?_,?_⟩;(focus (refine pah 1 ?_;push_cast [iO,tN];refine pah 2 ?_;push_cast [iO,tN];exact z1));(focus (refine pah 5 ?_;push_cast [iO,tN];exact z2));refine pas [0] ?_;push_cast [iO,tN];(focus (refine pah 1 ?_;push_cast [iO,tN];refine pah 2 ?_;push_cast [iO,tN];exact z4));refine pas [3,4] ?_;push_cast [iO,tN];refine ⟨?_,?_⟩;(focus (exact z3));(focus (refine pah 5 ?_;push_cast [iO,tN];refine paw z4 ?_;refine weak_fg ?_;push_cast [iO,tN]));refine pas [4] ?_;push_cast [iO,tN];(focus (refine pah 5 ?_;push_cast [iO,tN];exact z5));refine pas [3] ?_;push_cast [iO,tN];refine paw z5 ?_<;>(refine weak_fg ?_;push_cast [iO,tN]);refine pas [6] ?_;push_cast [iO,tN];(focus ((first|((refine plc [0,1,2,3] (h2) ?_ ?_;push_cast [iO,tN];rintro r os ⟨rfl,rfl⟩;push_cast [iO,tN])));refine pah 7 ?_;push_cast [iO,tN];exact paw z6 (weak_cutS 6 [] _)));push_cast [iO,tN];refine pad ?_;push_cast [iO,tN])
   repeat' (first |  (refine hidR 7 ?_)|(refine pwp_seq fun K hK=>?_)  | ((first|refine pC ?_|refine pQC ?_|refine pU ?_);push_cast [iO,tN])|(refine pif (fun h=>?_) (fun h=>?_)<;>first|exact pN h|push_cast [iO,tN]))
   refine unhid ?_
   (refine pwp_cut 6 [] ?_;refine pwp_drawn (by kernel_rfl) ?_;simp only [List.length_cons,List.length_nil,Nat.reduceAdd];refine pah 1 ?_;push_cast [iO,tN];apply pa_hav;intro z7;apply pa_hav;intro z6;apply pa_hav;intro z5;apply pa_hav;intro z3;apply pa_hav;intro z4;apply pa_hav;intro z1;apply pa_hav;intro z2;refine pas [0,2] ?_;push_cast [iO,tN];refine ⟨z1,z2⟩;refine pas [0,3] ?_;push_cast [iO,tN];refine ⟨?_,?_⟩;(focus (exact z3));(focus ((first|((refine plc [0,1,2,3] (htm) ?_ ?_;push_cast [iO,tN];rintro r os ⟨rfl,rfl⟩;push_cast [iO,tN]))|((refine plc [0,1,2,3] (hre) ?_ ?_;push_cast [iO,tN];rintro r os ⟨rfl,rfl⟩;push_cast [iO,tN])));exact z4));refine pas [2] ?_;push_cast [iO,tN];refine paw z3 ?_<;>(refine weak_fg ?_;push_cast [iO,tN]);refine pas [0] ?_;push_cast [iO,tN];refine z5;refine pas [3] ?_;push_cast [iO,tN];(focus ((first|((refine plc [0,1,2,3] (htm) ?_ ?_;push_cast [iO,tN];rintro r os ⟨rfl,rfl⟩;push_cast [iO,tN]))|((refine plc [0,1,2,3] (hre) ?_ ?_;push_cast [iO,tN];rintro r os ⟨rfl,rfl⟩;push_cast [iO,tN])));refine paw z5 ?_;refine weak_fg ?_;push_cast [iO,tN]));refine pas [4] ?_;push_cast [iO,tN];(focus ((first|((refine plc [0,1,2,3] (htm) ?_ ?_;push_cast [iO,tN];rintro r os ⟨rfl,rfl⟩;push_cast [iO,tN]))|((refine plc [0,1,2,3] (hre) ?_ ?_;push_cast [iO,tN];rintro r os ⟨rfl,rfl⟩;push_cast [iO,tN])));exact z6));refine pas [5] ?_;push_cast [iO,tN];(focus (refine pah 6 ?_;push_cast [iO,tN];exact paw z7 (weak_cutS 6 [] _)));push_cast [iO,tN];refine pad ?_;push_cast [iO,tN])
   repeat' (first|((first|refine pC ?_|refine pQC ?_|refine pU ?_);push_cast [iO,tN])|(refine pif (fun h=>?_) (fun h=>?_)<;>first|exact pN h|push_cast [iO,tN]))
   (refine retK_of [0,1,2,3] ?_;push_cast [iO,tN])
   exact ⟨_,_,leP_refl _,leOs_refl _,.inr ⟨i,u,tk',hnp,htk,by rw [ha],rfl⟩⟩
end Go.Proofs.YthconflkbeipoaaGreatDoor
