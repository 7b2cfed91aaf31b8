/- What the program computes, and the plain laws of it, part 40. -/
import Derived.Test.YthconflkbeipoaaGreatDoorS39
namespace Go.Proofs.YthconflkbeipoaaGreatDoor
attribute [local irreducible] PL QL PWPr PCalls Weak RetK Kontr PA
open Go.RowKit
open IntWalk renaming iteOmega → iO, toNatUp → tN
set_option linter.unusedVariables false
set_option linter.unusedSimpArgs false
set_option maxRecDepth 20000
set_option maxHeartbeats 8000000 in
theorem temporary_pure (names now:List Atr) (tk:List ByteArray) (ht:TakOk now tk) (hfew:names.length+now.length≤90) :
  PCalls Tryz.prog 84 [.c (.ptr 0 0)] (plO names now tk) fun r os=>r = .c (.v (.string (tempS names now)))∧os=plO names now tk:=by
 have hT:=temp_le (vals names++vals now)
 have hTl:tempN (vals names++vals now)≤91:=by
  have:(vals names++vals now).length=names.length+now.length:=by unfold vals;rw [List.length_append,List.length_map,List.length_map]
  omega
 refine pcalls_of Tryz.func84 rfl (by simp [Tryz.ntmps84]) ?_
 rw [Tryz.ntmps84,Tryz.results84]
 push_cast [iO,tN]
 have cB:CutB 8 []:=trivial
 repeat' (first|((first|refine pC ?_|refine pQC ?_|refine pU ?_);push_cast [iO,tN])|(refine pif (fun h=>?_) (fun h=>?_)<;>first|exact pN h|push_cast [iO,tN]))
 (apply pwp_loop3 (α:=Nat) 8 [] (fun n=>[(3,.c (.v (.int .i64 n)))]) (fun n=>[]) (fun n=>n≤tempN (vals names++vals now)) (fun n=>tempN (vals names++vals now)+1 - n) (0);(focus ((try push_cast [iO,tN]);rfl));(focus exact (Nat.zero_le _));(focus ((refine weak_fg ?_;try push_cast [iO,tN]);(try (skip)))))
 intro n hn
 push_cast [iO,tN]
 have hit:=itoaN_pure n (by omega)
 have hsz:(⟨#[114,101,110,97,109,101]⟩:ByteArray).size=6:=rfl
 have hren:(⟨#[114,101,110,97,109,101]⟩:ByteArray)++digN n=renN n:=rfl
 have hds:(digN n).size≤n+1:=by
  have h:(digN n).size=(Lib.decDigits n).length:=by unfold digN;simp [ByteArray.size]
  rw [h,Lib.decDigits_length]
  clear h hit hren
  induction n using Nat.strongRecOn with
  | ind n ih =>
   by_cases h10:n < 10
   ·rw [Lib.nDigits_small h10];omega
   ·rw [Lib.nDigits_big h10]
    have:=ih (n / 10) (by omega) (by omega)
    omega
 refine pwp_seq fun K0 hK0=>?_
 refine pwp_block ?_
 refine pwp_seq fun K1 hK1=>?_
 refine pC ?_
 push_cast [iO,tN,hsz,hds]
 (refine plc [] (hit) ?_ ?_;push_cast [iO,tN];rintro r os ⟨rfl,rfl⟩;push_cast [iO,tN])
 push_cast [iO,tN,hsz,hds,hren]
 refine pU ?_
 refine pwp_seq fun K2 hK2=>?_
 refine pC ?_
 push_cast [iO,tN]
 refine pU ?_
 refine pwp_seq fun K3 hK3=>?_
 refine pwp_maprange0 (pre:=[_,_,_,_]) (tk:=9) (tel:=9) (m:=2) (kk:=none) (es:=tgE names) false (fun (x:Bool) done=>(x=true ↔ ∃ e ∈ done,e.2=[.v (.string (renN n))])∧∀ e ∈ done,e ∈ tgE names) (fun x=>⟨[(5,.c (.v (.bool x))),(4,.c (.v (.string (renN n)))),(3,.c (.v (.int .i64 n))),(2,.c (.v (.string (⟨#[]⟩)))),(0,.c (.ptr 0 0))],plO names now tk⟩) ⟨⟨rfl,rfl,rfl⟩,⟨rfl,rfl,rfl⟩,⟨rfl,rfl,rfl⟩,⟨rfl,rfl,rfl⟩,⟨rfl,rfl,rfl⟩,by decide,by decide⟩ (by kernel_rfl) (by kernel_rfl) (by kernel_rfl) (by kernel_rfl) (by kernel_rfl) ⟨rfl,rfl,rfl⟩ ?_ ?_ ?_ (fun _=>rfl) (by simp) ?_ ?_
 ·push_cast [iO,tN,rgo,pval]
  refine forgets_of rfl ?_
  push_cast [iO,tN,fgL]
 ·intro x
  push_cast [iO,tN,freshAt]
 ·exact dsts_ne (by kernel_rfl)
 ·rintro x done e d ⟨hx,hdn⟩ he hd
  have hdn2:∀ e' ∈ e :: done,e' ∈ tgE names:=fun e' h'=>by
   rcases List.mem_cons.1 h' with rfl|h'
   ·exact he
   ·exact hdn e' h'
  obtain ⟨a,ha,rfl⟩:=List.mem_map.1 he
  simp only [List.cons.injEq,and_true] at hd
  subst hd
  by_cases h1:x=true
  ·subst h1
   push_cast [iO,tN,rgo,pval,D.e]
   refine ⟨true,⟨⟨fun _=>?_,fun _=>rfl⟩,hdn2⟩,forgets_of rfl (by push_cast [iO,tN,fgL])⟩
   obtain ⟨e,he,h2⟩:=hx.1 rfl
   exact ⟨e,List.mem_cons_of_mem _ he,h2⟩
  ·have h1:x=false:=by cases x<;>simp_all
   subst h1
   have hno:∀ e ∈ done,e.2≠[D.v (.string (renN n))]:=fun e he h2=>by have:=hx.2 ⟨e,he,h2⟩;cases this
   by_cases h2:a.value=renN n
   ·push_cast [iO,tN,rgo,pval,D.e,h2]
    rw [h2] at hdn2
    refine ⟨true,⟨⟨fun _=>⟨_,List.mem_cons_self ..,rfl⟩,fun _=>rfl⟩,hdn2⟩,forgets_of rfl (by push_cast [iO,tN,fgL])⟩
   ·push_cast [iO,tN,rgo,pval,D.e,h2]
    refine ⟨false,⟨⟨(fun h=>by cases h),?_⟩,hdn2⟩,forgets_of rfl (by push_cast [iO,tN,fgL])⟩
    rintro ⟨e,he,h3⟩
    rcases List.mem_cons.1 he with rfl|he
    ·simp at h3;exact absurd h3 h2
    ·exact absurd h3 (hno e he)
 ·rintro x done hall ⟨hx,hdn⟩
  show K3 _
  refine pU ?_
  have hx2:x=inM (renN n) (vals names):=by
   cases h1:inM (renN n) (vals names) with
   | true =>
    rw [hx]
    obtain ⟨a,ha,he⟩:=List.mem_map.1 (inM_iff.1 h1)
    exact ⟨_,hall _ (List.mem_map.2 ⟨a,ha,rfl⟩),by rw [he]⟩
   | false =>
    cases hc:x with
    | false=>rfl
    | true =>
     obtain ⟨e,he,h2⟩:=hx.1 hc
     obtain ⟨a,ha,rfl⟩:=List.mem_map.1 (hdn e he)
     simp only [List.cons.injEq,D.v.injEq,Value.string.injEq,and_true] at h2
     exact absurd (List.mem_map.2 ⟨a,ha,h2⟩) (inM_false.1 h1)
  subst hx2
  have hlk:=lk_set tk (renN n)
  rw [ht.inm] at hlk
  have happ:inM (renN n) (vals names++vals now)=(inM (renN n) (vals names) || inM (renN n) (vals now)):=by
   rw [Bool.eq_iff_iff,inM_iff,List.mem_append,Bool.or_eq_true,inM_iff,inM_iff]
  have hno:=temp_not (vals names++vals now)
  cases h1:inM (renN n) (vals names) with
  | true =>
   rw [h1,Bool.true_or] at happ
   have hne:n≠tempN (vals names++vals now):=fun e=>by rw [← e,happ] at hno;cases hno
   repeat' (first|((first|refine pC ?_|refine pQC ?_|refine pU ?_);push_cast [iO,tN,hlk])|(refine pif (fun h=>?_) (fun h=>?_)<;>first|exact pN h|push_cast [iO,tN,hlk]))
   exact ⟨n+1,by omega,by (refine weak_fg ?_;push_cast [iO,tN]),by omega⟩
  | false =>
   rw [h1,Bool.false_or] at happ
   cases h2:inM (renN n) (vals now) with
   | true =>
    rw [h2] at happ hlk
    have hne:n≠tempN (vals names++vals now):=fun e=>by rw [← e,happ] at hno;cases hno
    repeat' (first|((first|refine pC ?_|refine pQC ?_|refine pU ?_);push_cast [iO,tN,hlk])|(refine pif (fun h=>?_) (fun h=>?_)<;>first|exact pN h|push_cast [iO,tN,hlk]))
    exact ⟨n+1,by omega,by (refine weak_fg ?_;push_cast [iO,tN]),by omega⟩
   | false =>
    rw [h2] at happ hlk
    have he:n=tempN (vals names++vals now):=by
     rcases Nat.lt_or_ge n (tempN (vals names++vals now)) with hl|hl
     ·have:=temp_mid _ hl
      rw [happ] at this;cases this
     ·omega
    have hS:tempS names now=renN n:=by unfold tempS;rw [← he]
    repeat' (first|((first|refine pC ?_|refine pQC ?_|refine pU ?_);push_cast [iO,tN,hlk])|(refine pif (fun h=>?_) (fun h=>?_)<;>first|exact pN h|push_cast [iO,tN,hlk]))
    (refine retK_of [0,1,2,3] ?_;push_cast [iO,tN,hS])
set_option maxRecDepth 20000
abbrev plO1 (names now:List Atr) (tk:List ByteArray):List Ob:=[.box 82 [.ptr 1 0],.box 85 [.own 2 now.length,.mp 3,.mp 4],.arr 33 2 (now.map Atr.d),.map none false (tgE names),.map none false (setE tk)]
set_option maxHeartbeats 4000000 in
theorem step1_pure (names now:List Atr) (tk:List ByteArray) (ht:TakOk now tk) (a:Atr):PCalls Tryz.prog 81 [.agg (a.d.map D.e),.c (.ptr 0 0)] (plO1 names now tk) fun r os=>r = .c (.v (.bool (freeP names now a)))∧os=plO1 names now tk:=by
 have hw:=wrong_pure names now tk a
 have hl:=lk_tg0 names a.name
 have hk:=lk_set tk (goalP names a)
 have hf:freeP names now a=(wrongP names a && !inM (goalP names a) (vals now)):=rfl
 rw [ht.inm] at hk
 have hg:(valOf names a.name).getD ⟨#[]⟩=goalP names a:=rfl
 rw [hg] at hl
 refine pcalls_of Tryz.func81 rfl (by simp [Tryz.ntmps81]) ?_
 rw [Tryz.ntmps81,Tryz.results81]
 push_cast [iO,tN]
 have cB:CutB 4 []:=trivial
 cases h1:wrongP names a with
 | false =>
  rw [h1] at hw hf
  repeat' (first |  (refine hidR 1 ?_)  | ((first|refine pC ?_|refine pQC ?_|refine pU ?_);push_cast [iO,tN])|(refine pif (fun h=>?_) (fun h=>?_)<;>first|exact pN h|push_cast [iO,tN]))
  refine unhid ?_
  (refine pwp_cut 4 [] ?_;refine pwp_drawn (by kernel_rfl) ?_;simp only [List.length_cons,List.length_nil,Nat.reduceAdd];apply pa_hav;intro z25;apply pa_hav;intro z24;apply pa_hav;intro z22;apply pa_hav;intro z23;apply pa_hav;intro z18;apply pa_hav;intro z19;apply pa_hav;intro z20;apply pa_hav;intro z13;apply pa_hav;intro z15;apply pa_hav;intro z16;apply pa_hav;intro z9;apply pa_hav;intro z21;apply pa_hav;intro z14;apply pa_hav;intro z17;apply pa_hav;intro z8;apply pa_hav;intro z10;apply pa_hav;intro z11;apply pa_hav;intro z12;apply pa_hav;intro z5;apply pa_hav;intro z6;apply pa_hav;intro z7;apply pa_hav;intro z4;apply pa_hav;intro z3;apply pa_hav;intro z1;apply pa_hav;intro z2;refine pas [0,1] ?_;push_cast [iO,tN];refine ⟨z1,z2⟩;refine pas [0] ?_;push_cast [iO,tN];refine z3;refine pas [1] ?_;push_cast [iO,tN];refine paw z3 ?_<;>(refine weak_fg ?_;push_cast [iO,tN]);refine pas [2] ?_;push_cast [iO,tN];(focus ((first|((refine plc [1,2,3,4] (hw) ?_ ?_;push_cast [iO,tN];rintro r os ⟨rfl,rfl⟩;push_cast [iO,tN]))|(skip));refine pah 3 ?_;push_cast [iO,tN];refine pah 12 ?_;push_cast [iO,tN];exact z4));refine pas [4,8,13] ?_;push_cast [iO,tN];refine ⟨?_,?_,?_⟩;(focus (refine pah 5 ?_;push_cast [iO,tN];refine pah 6 ?_;push_cast [iO,tN];exact z5));(focus (refine pah 9 ?_;push_cast [iO,tN];refine pah 10 ?_;push_cast [iO,tN];exact z6));(focus (exact z7));refine pas [4,8] ?_;push_cast [iO,tN];refine ⟨?_,?_⟩;(focus (refine pah 5 ?_;push_cast [iO,tN];refine pah 6 ?_;push_cast [iO,tN];exact z10));(focus (refine pah 9 ?_;push_cast [iO,tN];refine pah 10 ?_;push_cast [iO,tN];exact z12));refine pas [4,11,13] ?_;push_cast [iO,tN];refine ⟨?_,?_,?_⟩;(focus (refine pah 5 ?_;push_cast [iO,tN];refine pah 6 ?_;push_cast [iO,tN];exact z9));(focus (exact z11));(focus (refine paw z12 ?_;refine weak_fg ?_;push_cast [iO,tN]));refine pas [7,8,13] ?_;push_cast [iO,tN];refine ⟨?_,?_,?_⟩;(focus (exact z8));(focus (refine pah 9 ?_;push_cast [iO,tN];refine pah 10 ?_;push_cast [iO,tN];refine paw z9 ?_;refine weak_fg ?_;push_cast [iO,tN]));(focus (refine paw z10 ?_;refine weak_fg ?_;push_cast [iO,tN]));refine pas [4,11] ?_;push_cast [iO,tN];refine ⟨?_,?_⟩;(focus (refine pah 5 ?_;push_cast [iO,tN];refine pah 6 ?_;push_cast [iO,tN];exact z16));(focus (exact z17));refine pas [4,13] ?_;push_cast [iO,tN];refine ⟨?_,?_⟩;(focus (refine pah 5 ?_;push_cast [iO,tN];refine pah 6 ?_;push_cast [iO,tN];exact z15));(focus (refine paw z17 ?_;refine weak_fg ?_;push_cast [iO,tN]));refine pas [7,8] ?_;push_cast [iO,tN];refine ⟨?_,?_⟩;(focus (exact z14));(focus (refine pah 9 ?_;push_cast [iO,tN];refine pah 10 ?_;push_cast [iO,tN];refine paw z16 ?_;refine weak_fg ?_;push_cast [iO,tN]));refine pas [8,13] ?_;push_cast [iO,tN];refine ⟨?_,?_⟩;(focus (refine pah 9 ?_;push_cast [iO,tN];refine pah 10 ?_;push_cast [iO,tN];exact z13));(focus (refine paw z14 ?_;refine weak_fg ?_;push_cast [iO,tN]));refine pas [4,14] ?_;push_cast [iO,tN];refine ⟨?_,?_⟩;(focus (refine pah 5 ?_;push_cast [iO,tN];refine pah 6 ?_;push_cast [iO,tN];exact z20));(focus (exact z21));refine pas [8] ?_;push_cast [iO,tN];(focus (refine pah 9 ?_;push_cast [iO,tN];refine pah 10 ?_;push_cast [iO,tN];exact z19));refine pas [4] ?_;push_cast [iO,tN];(focus (refine pah 5 ?_;push_cast [iO,tN];refine pah 6 ?_;push_cast [iO,tN];exact z23));refine pas [7,11,13] ?_;push_cast [iO,tN];refine ⟨paw z13 ?_,paw z15 ?_,paw z16 ?_⟩<;>(refine weak_fg ?_;push_cast [iO,tN]);refine pas [7,11] ?_;push_cast [iO,tN];refine ⟨paw z19 ?_,paw z20 ?_⟩<;>(refine weak_fg ?_;push_cast [iO,tN]);refine pas [7,13] ?_;push_cast [iO,tN];refine ⟨z18,paw z20 ?_⟩<;>(refine weak_fg ?_;push_cast [iO,tN]);refine pas [11,13] ?_;push_cast [iO,tN];refine ⟨paw z18 ?_,paw z19 ?_⟩<;>(refine weak_fg ?_;push_cast [iO,tN]);refine pas [7,14] ?_;push_cast [iO,tN];refine ⟨z22,paw z23 ?_⟩<;>(refine weak_fg ?_;push_cast [iO,tN]);refine pas [11] ?_;push_cast [iO,tN];refine paw z22 ?_<;>(refine weak_fg ?_;push_cast [iO,tN]);refine pas [13] ?_;push_cast [iO,tN];refine paw z22 ?_<;>(refine weak_fg ?_;push_cast [iO,tN]);refine pas [7] ?_;push_cast [iO,tN];refine z24;refine pas [14] ?_;push_cast [iO,tN];refine paw z24 ?_<;>(refine weak_fg ?_;push_cast [iO,tN]);refine pas [15] ?_;push_cast [iO,tN];(focus (refine pah 16 ?_;push_cast [iO,tN];refine pah 17 ?_;push_cast [iO,tN];refine pah 18 ?_;push_cast [iO,tN];exact paw z25 (weak_cutS 4 [] _)));push_cast [iO,tN];refine pad ?_;push_cast [iO,tN])
  repeat' (first|((first|refine pC ?_|refine pQC ?_|refine pU ?_);push_cast [iO,tN])|(refine pif (fun h=>?_) (fun h=>?_)<;>first|exact pN h|push_cast [iO,tN]))
  (refine retK_of [0,1,2,3,4] ?_;push_cast [iO,tN,hf])
 | true =>
  rw [h1] at hw hf
  repeat' (first |  (refine hidR 1 ?_)  | ((first|refine pC ?_|refine pQC ?_|refine pU ?_);push_cast [iO,tN])|(refine pif (fun h=>?_) (fun h=>?_)<;>first|exact pN h|push_cast [iO,tN]))
  refine unhid ?_
  (refine pwp_cut 4 [] ?_;refine pwp_drawn (by kernel_rfl) ?_;simp only [List.length_cons,List.length_nil,Nat.reduceAdd];apply pa_hav;intro z25;apply pa_hav;intro z24;apply pa_hav;intro z22;apply pa_hav;intro z23;apply pa_hav;intro z18;apply pa_hav;intro z19;apply pa_hav;intro z20;apply pa_hav;intro z13;apply pa_hav;intro z15;apply pa_hav;intro z16;apply pa_hav;intro z9;apply pa_hav;intro z21;apply pa_hav;intro z14;apply pa_hav;intro z17;apply pa_hav;intro z8;apply pa_hav;intro z10;apply pa_hav;intro z11;apply pa_hav;intro z12;apply pa_hav;intro z5;apply pa_hav;intro z6;apply pa_hav;intro z7;apply pa_hav;intro z4;apply pa_hav;intro z3;apply pa_hav;intro z1;apply pa_hav;intro z2;refine pas [0,1] ?_;push_cast [iO,tN,  hl,hk];refine ⟨z1,z2⟩;refine pas [0] ?_;push_cast [iO,tN,  hl,hk];refine z3;refine pas [1] ?_;push_cast [iO,tN,  hl,hk];refine paw z3 ?_<;>(refine weak_fg ?_;push_cast [iO,tN,  hl,hk]);refine pas [2] ?_;push_cast [iO,tN,  hl,hk];(focus ((first|((refine plc [1,2,3,4] (hw) ?_ ?_;push_cast [iO,tN,  hl,hk];rintro r os ⟨rfl,rfl⟩;push_cast [iO,tN,  hl,hk])));refine pah 3 ?_;push_cast [iO,tN,  hl,hk];refine pah 12 ?_;push_cast [iO,tN,  hl,hk];exact z4));refine pas [4,8,13] ?_;push_cast [iO,tN,  hl,hk];refine ⟨?_,?_,?_⟩;(focus (refine pah 5 ?_;push_cast [iO,tN,  hl,hk];refine pah 6 ?_;push_cast [iO,tN,  hl,hk];exact z5));(focus (refine pah 9 ?_;push_cast [iO,tN,  hl,hk];refine pah 10 ?_;push_cast [iO,tN,  hl,hk];exact z6));(focus (exact z7));refine pas [4,8] ?_;push_cast [iO,tN,  hl,hk];refine ⟨?_,?_⟩;(focus (refine pah 5 ?_;push_cast [iO,tN,  hl,hk];refine pah 6 ?_;push_cast [iO,tN,  hl,hk];exact z10));(focus (refine pah 9 ?_;push_cast [iO,tN,  hl,hk];refine pah 10 ?_;push_cast [iO,tN,  hl,hk];exact z12));refine pas [4,11,13] ?_;push_cast [iO,tN,  hl,hk];refine ⟨?_,?_,?_⟩;(focus (refine pah 5 ?_;push_cast [iO,tN,  hl,hk];refine pah 6 ?_;push_cast [iO,tN,  hl,hk];exact z9));(focus (exact z11));(focus (refine paw z12 ?_;refine weak_fg ?_;push_cast [iO,tN,  hl,hk]));refine pas [7,8,13] ?_;push_cast [iO,tN,  hl,hk];refine ⟨?_,?_,?_⟩;(focus (exact z8));(focus (refine pah 9 ?_;push_cast [iO,tN,  hl,hk];refine pah 10 ?_;push_cast [iO,tN,  hl,hk];refine paw z9 ?_;refine weak_fg ?_;push_cast [iO,tN,  hl,hk]));(focus (refine paw z10 ?_;refine weak_fg ?_;push_cast [iO,tN,  hl,hk]));refine pas [4,11] ?_;push_cast [iO,tN,  hl,hk];refine ⟨?_,?_⟩;(focus (refine pah 5 ?_;push_cast [iO,tN,  hl,hk];refine pah 6 ?_;push_cast [iO,tN,  hl,hk];exact z16));(focus (exact z17));refine pas [4,13] ?_;push_cast [iO,tN,  hl,hk];refine ⟨?_,?_⟩;(focus (refine pah 5 ?_;push_cast [iO,tN,  hl,hk];refine pah 6 ?_;push_cast [iO,tN,  hl,hk];exact z15));(focus (refine paw z17 ?_;refine weak_fg ?_;push_cast [iO,tN,  hl,hk]));refine pas [7,8] ?_;push_cast [iO,tN,  hl,hk];refine ⟨?_,?_⟩;(focus (exact z14));(focus (refine pah 9 ?_;push_cast [iO,tN,  hl,hk];refine pah 10 ?_;push_cast [iO,tN,  hl,hk];refine paw z16 ?_;refine weak_fg ?_;push_cast [iO,tN,  hl,hk]));refine pas [8,13] ?_;push_cast [iO,tN,  hl,hk];refine ⟨?_,?_⟩;(focus (refine pah 9 ?_;push_cast [iO,tN,  hl,hk];refine pah 10 ?_;push_cast [iO,tN,  hl,hk];exact z13));(focus (refine paw z14 ?_;refine weak_fg ?_;push_cast [iO,tN,  hl,hk]));refine pas [4,14] ?_;push_cast [iO,tN,  hl,hk];refine ⟨?_,?_⟩;(focus (refine pah 5 ?_;push_cast [iO,tN,  hl,hk];refine pah 6 ?_;push_cast [iO,tN,  hl,hk];exact z20));(focus (exact z21));refine pas [8] ?_;push_cast [iO,tN,  hl,hk];(focus (refine pah 9 ?_;push_cast [iO,tN,  hl,hk];refine pah 10 ?_;push_cast [iO,tN,  hl,hk];exact z19));refine pas [4] ?_;push_cast [iO,tN,  hl,hk];(focus (refine pah 5 ?_;push_cast [iO,tN,  hl,hk];refine pah 6 ?_;push_cast [iO,tN,  hl,hk];exact z23));refine pas [7,11,13] ?_;push_cast [iO,tN,  hl,hk];refine ⟨paw z13 ?_,paw z15 ?_,paw z16 ?_⟩<;>(refine weak_fg ?_;push_cast [iO,tN,  hl,hk]);refine pas [7,11] ?_;push_cast [iO,tN,  hl,hk];refine ⟨paw z19 ?_,paw z20 ?_⟩<;>(refine weak_fg ?_;push_cast [iO,tN,  hl,hk]);refine pas [7,13] ?_;push_cast [iO,tN,  hl,hk];refine ⟨z18,paw z20 ?_⟩<;>(refine weak_fg ?_;push_cast [iO,tN,  hl,hk]);refine pas [11,13] ?_;push_cast [iO,tN,  hl,hk];refine ⟨paw z18 ?_,paw z19 ?_⟩<;>(refine weak_fg ?_;push_cast [iO,tN,  hl,hk]);refine pas [7,14] ?_;push_cast [iO,tN,  hl,hk];refine ⟨z22,paw z23 ?_⟩<;>(refine weak_fg ?_;push_cast [iO,tN,  hl,hk]);refine pas [11] ?_;push_cast [iO,tN,  hl,hk];refine paw z22 ?_<;>(refine weak_fg ?_;push_cast [iO,tN,  hl,hk]);refine pas [13] ?_;push_cast [iO,tN,  hl,hk];refine paw z22 ?_<;>(refine weak_fg ?_;push_cast [iO,tN,  hl,hk]);refine pas [7] ?_;push_cast [iO,tN,  hl,hk];refine z24;refine pas [14] ?_;push_cast [iO,tN,  hl,hk];refine paw z24 ?_<;>(refine weak_fg ?_;push_cast [iO,tN,  hl,hk]);refine pas [15] ?_;push_cast [iO,tN,  hl,hk];(focus (refine pah 16 ?_;push_cast [iO,tN,  hl,hk];refine pah 17 ?_;push_cast [iO,tN,  hl,hk];refine pah 18 ?_;push_cast [iO,tN,  hl,hk];exact paw z25 (weak_cutS 4 [] _)));push_cast [iO,tN,  hl,hk];refine pad ?_;push_cast [iO,tN,  hl,hk])
  repeat' (first|((first|refine pC ?_|refine pQC ?_|refine pU ?_);push_cast [iO,tN])|(refine pif (fun h=>?_) (fun h=>?_)<;>first|exact pN h|push_cast [iO,tN]))
  (refine retK_of [0,1,2,3,4] ?_;push_cast [iO,tN,hf])
set_option maxHeartbeats 4000000 in
theorem idx1_pure (names now:List Atr) (tk:List ByteArray) (ht:TakOk now tk) (hn:now.length≤1000000) :
  PCalls Tryz.prog 80 [.c (.own 2 now.length),.c (.fn (.func 81) [] [0])] (plO1 names now tk) fun r os=>∃ k,idxB (freeP names now) now k∧r = .c (.v (.int .i64 k))∧os=plO1 names now tk:=by
 refine pcalls_of Tryz.func80 rfl (by simp [Tryz.ntmps80]) ?_
 rw [Tryz.ntmps80,Tryz.results80]
 push_cast [iO,tN]
 have cB:CutB 6 [6,7,8]:=trivial
 repeat' (first|((first|refine pC ?_|refine pQC ?_|refine pU ?_);push_cast [iO,tN])|(refine pif (fun h=>?_) (fun h=>?_)<;>first|exact pN h|push_cast [iO,tN]))
 (apply pwp_loop3 (α:=Nat) 6 [6,7,8] (fun k=>[(8,.c (.v (.int .i64 k)))]) (fun k=>[]) (fun k=>k≤now.length∧∀ x ∈ now.take k,(freeP names now) x=false) (fun k=>now.length - k) (0);(focus ((try push_cast [iO,tN]);rfl));(focus exact ⟨Nat.zero_le _,by simp⟩);(focus ((refine weak_fg ?_;try push_cast [iO,tN]))))
 rintro k ⟨hk,hpre⟩
 push_cast [iO,tN]
 by_cases hlt:k < now.length
 ·obtain ⟨a,ha⟩:∃ a,now.getD k default=a:=⟨_,rfl⟩
  have hc:=step1_pure names now tk ht a
  cases hq:(freeP names now) a with
  | true =>
   rw [hq] at hc
   repeat' (first|((refine plc [0,1,2,3,4] (hc) ?_ ?_;push_cast [iO,tN,ha];rintro r os ⟨rfl,rfl⟩;push_cast [iO,tN,ha]))|((first|refine pC ?_|refine pQC ?_|refine pU ?_);push_cast [iO,tN,ha])|(refine pif (fun h=>?_) (fun h=>?_)<;>first|exact pN h|push_cast [iO,tN,ha]))
   (refine retK_of [0,1,2,3,4] ?_;push_cast [iO,tN])
   exact ⟨_,_,leP_refl _,leOs_refl _,k,.inr ⟨k,rfl,hlt,by rw [ha];exact hq,hpre⟩,rfl,rfl⟩
  | false =>
   rw [hq] at hc
   repeat' (first|((refine plc [0,1,2,3,4] (hc) ?_ ?_;push_cast [iO,tN,ha];rintro r os ⟨rfl,rfl⟩;push_cast [iO,tN,ha]))|((first|refine pC ?_|refine pQC ?_|refine pU ?_);push_cast [iO,tN,ha])|(refine pif (fun h=>?_) (fun h=>?_)<;>first|exact pN h|push_cast [iO,tN,ha]))
   refine ⟨k+1,⟨by omega,fun x hx=>?_⟩,by (refine weak_fg ?_;push_cast [iO,tN]),by omega⟩
   rw [List.take_succ_eq_append_getElem hlt,List.mem_append,List.mem_singleton] at hx
   rcases hx with hx|hx
   ·exact hpre x hx
   ·rw [hx,← getD_lt now hlt,ha];exact hq
 ·rw [List.take_of_length_le (by omega)] at hpre
  repeat' (first|((first|refine pC ?_|refine pQC ?_|refine pU ?_);push_cast [iO,tN])|(refine pif (fun h=>?_) (fun h=>?_)<;>first|exact pN h|push_cast [iO,tN]))
  (refine retK_of [0,1,2,3,4] ?_;push_cast [iO,tN])
  exact ⟨_,_,leP_refl _,leOs_refl _,-1,.inl ⟨rfl,hpre⟩,rfl,rfl⟩
set_option maxHeartbeats 4000000 in
theorem idx2_pure (names now:List Atr) (tk:List ByteArray) (ht:TakOk now tk) (hn:now.length≤1000000) :
  PCalls Tryz.prog 80 [.c (.own 1 now.length),.c (.fn (.func 82) [.v .nilFunc] [0])] (plO names now tk) fun r os=>∃ k,idxB (wrongP names) now k∧r = .c (.v (.int .i64 k))∧os=plO names now tk:=by
 refine pcalls_of Tryz.func80 rfl (by simp [Tryz.ntmps80]) ?_
 rw [Tryz.ntmps80,Tryz.results80]
 push_cast [iO,tN]
 have cB:CutB 6 [6,7,8]:=trivial
 repeat' (first|((first|refine pC ?_|refine pQC ?_|refine pU ?_);push_cast [iO,tN])|(refine pif (fun h=>?_) (fun h=>?_)<;>first|exact pN h|push_cast [iO,tN]))
 (apply pwp_loop3 (α:=Nat) 6 [6,7,8] (fun k=>[(8,.c (.v (.int .i64 k)))]) (fun k=>[]) (fun k=>k≤now.length∧∀ x ∈ now.take k,(wrongP names) x=false) (fun k=>now.length - k) (0);(focus ((try push_cast [iO,tN]);rfl));(focus exact ⟨Nat.zero_le _,by simp⟩);(focus ((refine weak_fg ?_;try push_cast [iO,tN]))))
 rintro k ⟨hk,hpre⟩
 push_cast [iO,tN]
 by_cases hlt:k < now.length
 ·obtain ⟨a,ha⟩:∃ a,now.getD k default=a:=⟨_,rfl⟩
  have hc:=wrong_pure names now tk a
  cases hq:(wrongP names) a with
  | true =>
   rw [hq] at hc
   repeat' (first|((refine plc [0,1,2,3] (hc) ?_ ?_;push_cast [iO,tN,ha];rintro r os ⟨rfl,rfl⟩;push_cast [iO,tN,ha]))|((first|refine pC ?_|refine pQC ?_|refine pU ?_);push_cast [iO,tN,ha])|(refine pif (fun h=>?_) (fun h=>?_)<;>first|exact pN h|push_cast [iO,tN,ha]))
   (refine retK_of [0,1,2,3] ?_;push_cast [iO,tN])
   exact ⟨_,_,leP_refl _,leOs_refl _,k,.inr ⟨k,rfl,hlt,by rw [ha];exact hq,hpre⟩,rfl,rfl⟩
  | false =>
   rw [hq] at hc
   repeat' (first|((refine plc [0,1,2,3] (hc) ?_ ?_;push_cast [iO,tN,ha];rintro r os ⟨rfl,rfl⟩;push_cast [iO,tN,ha]))|((first|refine pC ?_|refine pQC ?_|refine pU ?_);push_cast [iO,tN,ha])|(refine pif (fun h=>?_) (fun h=>?_)<;>first|exact pN h|push_cast [iO,tN,ha]))
   refine ⟨k+1,⟨by omega,fun x hx=>?_⟩,by (refine weak_fg ?_;push_cast [iO,tN]),by omega⟩
   rw [List.take_succ_eq_append_getElem hlt,List.mem_append,List.mem_singleton] at hx
   rcases hx with hx|hx
   ·exact hpre x hx
   ·rw [hx,← getD_lt now hlt,ha];exact hq
 ·rw [List.take_of_length_le (by omega)] at hpre
  repeat' (first|((first|refine pC ?_|refine pQC ?_|refine pU ?_);push_cast [iO,tN])|(refine pif (fun h=>?_) (fun h=>?_)<;>first|exact pN h|push_cast [iO,tN]))
  (refine retK_of [0,1,2,3] ?_;push_cast [iO,tN])
  exact ⟨_,_,leP_refl _,leOs_refl _,-1,.inl ⟨rfl,hpre⟩,rfl,rfl⟩
end Go.Proofs.YthconflkbeipoaaGreatDoor
