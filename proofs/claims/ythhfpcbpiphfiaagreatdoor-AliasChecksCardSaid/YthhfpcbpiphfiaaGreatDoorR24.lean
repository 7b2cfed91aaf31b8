/- What the program computes, and the plain laws of it, part 24. -/
import Derived.Lib.ItoaNum
import Derived.WideKeyEntry
import Derived.DeepKeys4
import Derived.Test.YthhfpcbpiphfiaaGreatDoorR23
namespace Go.Proofs.YthhfpcbpiphfiaaGreatDoor
attribute [local irreducible] PL QL PWPr PCalls Weak RetK Kontr PA
open Go.RowKit
open IntWalk renaming iteOmega → iO, toNatUp → tN
set_option linter.unusedVariables false
set_option linter.unusedSimpArgs false
set_option maxRecDepth 20000
def namesB (l:List ByteArray):Bool:=(l.all validS) && decide (l.length≤16)
theorem rnames_pure (l:List ByteArray) (hl:l.length≤9223372036854775807) (hf:∀ s ∈ l,Fit s):PCalls Tryz.prog 26 [.c (.sl 1 (l.map strD))] [] fun r os=>r = .c (.v (.bool (namesB l)))∧os=[]:=by
 refine pcalls_of Tryz.func26 rfl (by simp [Tryz.ntmps26]) ?_
 rw [Tryz.ntmps26,Tryz.results26]
 push_cast [iO,tN]
 have cB:CutB 4 []:=trivial
 repeat' (first|((first|refine pC ?_|refine pQC ?_|refine pU ?_);push_cast [iO,tN])|(refine pif (fun h=>?_) (fun h=>?_)<;>first|exact pN h|push_cast [iO,tN]))
 (apply pwp_loop3 (α:=Nat) 4 [] (fun k=>[(3,.c (.v (.int .i64 k)))]) (fun k=>[]) (fun k=>k≤l.length∧(l.take k).all validS=true) (fun k=>l.length - k) (0);(focus ((try push_cast [iO,tN]);rfl));(focus exact ⟨Nat.zero_le _,rfl⟩);(focus ((refine weak_fg ?_;try push_cast [iO,tN]);(try (rfl)))))
 rintro k ⟨hk,hpre⟩
 push_cast [iO,tN]
 by_cases hlt:k < l.length
 ·have hm:l.getD k default ∈ l:=by rw [getD_lt l hlt];exact List.getElem_mem _
  have hc:=rvalid_pure (l.getD k default) (hf _ hm)
  have htk:l.take (k+1)=l.take k++[l.getD k default]:=by rw [List.take_succ_eq_append_getElem hlt,getD_lt l hlt]
  cases hb:validS (l.getD k default) with
  | false =>
   have hn:namesB l=false:=by
    unfold namesB
    have:l.all validS=false:=by rw [List.all_eq_false];exact ⟨_,hm,by rw [hb];decide⟩
    rw [this];rfl
   rw [hb] at hc
   rw [hn]
   repeat' (first |  ((refine plc [] (hc) ?_ ?_;push_cast [iO,tN];rintro r os ⟨rfl,rfl⟩;push_cast [iO,tN]))  | ((first|refine pC ?_|refine pQC ?_|refine pU ?_);push_cast [iO,tN])|(refine pif (fun h=>?_) (fun h=>?_)<;>first|exact pN h|push_cast [iO,tN]))
   (refine retK_of [] ?_;push_cast [iO,tN])
  | true =>
   rw [hb] at hc
   repeat' (first |  ((refine plc [] (hc) ?_ ?_;push_cast [iO,tN];rintro r os ⟨rfl,rfl⟩;push_cast [iO,tN]))  | ((first|refine pC ?_|refine pQC ?_|refine pU ?_);push_cast [iO,tN])|(refine pif (fun h=>?_) (fun h=>?_)<;>first|exact pN h|push_cast [iO,tN]))
   exact ⟨k+1,⟨by omega,by rw [htk,List.all_append,hpre,List.all_cons,hb];rfl⟩,by (refine weak_fg ?_;push_cast [iO,tN]),by omega⟩
 ·rw [List.take_of_length_le (by omega)] at hpre
  have hn:namesB l=decide (l.length≤16):=by unfold namesB;rw [hpre];rfl
  rw [hn]
  repeat' (first|((first|refine pC ?_|refine pQC ?_|refine pU ?_);push_cast [iO,tN])|(refine pif (fun h=>?_) (fun h=>?_)<;>first|exact pN h|push_cast [iO,tN]))
  (refine retK_of [] ?_;push_cast [iO,tN])
  exact decide_eq_decide.2 (by omega)
theorem all_any (l:List ByteArray):(l.any fun s=>!validS s) = !(l.all validS):=by
 induction l with
 | nil=>rfl
 | cons a l ih=>simp only [List.any_cons,List.all_cons,ih];cases validS a<;>simp
theorem modB_names (m:Mod):modB m=(((((validS m.name && namesB m.needs) && namesB m.pre) && namesB m.post) && decide (m.aliases.length≤16)) && !(m.aliases.any fun p=>decide (globM p≠0))):=by
 unfold modB fewB namesB
 rw [List.any_append,List.any_append,all_any,all_any,all_any]
 generalize m.needs.all validS=a
 generalize m.pre.all validS=b
 generalize m.post.all validS=c
 generalize validS m.name=d
 generalize (m.aliases.any fun p=>decide (globM p≠0))=e
 generalize decide (m.aliases.length≤16)=f
 generalize decide (m.needs.length≤16)=g
 generalize decide (m.pre.length≤16)=h
 generalize decide (m.post.length≤16)=i
 cases a<;>cases b<;>cases c<;>cases d<;>cases e<;>cases f<;>cases g<;>cases h<;>cases i<;>rfl
theorem modOf_some {l:List Mod} {n:ByteArray} {m:Mod} (hm:m ∈ l) (h:m.name=n):(modOf l n).isNone=false:=by
 cases hq:modOf l n with
 | some x=>rfl
 | none =>
  unfold modOf at hq
  rw [List.find?_eq_none] at hq
  exact absurd h (by simpa using hq m hm)
set_option maxHeartbeats 8000000 in
theorem rmodules_pure (l:List Mod) (hl:l.length≤9223372036854775807) (hm:∀ m ∈ l,ModFit m):PCalls Tryz.prog 16 [.c (.sl 6 (l.map Mod.d))] [] fun r os=>r = .c (.v (.bool (newB l)))∧os=[]:=by
 refine pcalls_of Tryz.func16 rfl (by simp [Tryz.ntmps16]) ?_
 rw [Tryz.ntmps16,Tryz.results16]
 push_cast [iO,tN]
 have cB:CutB 7 [74]:=trivial
 by_cases hlen:l.length≤128
 case neg =>
  have hb:newB l=false:=by unfold newB;rw [decide_eq_false hlen];rfl
  have hl2:(128:Int) < (l.length:Int):=by omega
  rw [hb]
  repeat' (first|((first|refine pC ?_|refine pQC ?_|refine pU ?_);push_cast [iO,tN,hl2])|(refine pif (fun h=>?_) (fun h=>?_)<;>first|exact pN h|push_cast [iO,tN,hl2]))
  (refine retK_of [] ?_;push_cast [iO,tN])
 repeat' (first|((first|refine pC ?_|refine pQC ?_|refine pU ?_);push_cast [iO,tN])|(refine pif (fun h=>?_) (fun h=>?_)<;>first|exact pN h|push_cast [iO,tN]))
 (apply pwp_loop3 (α:=Nat) 7 [74] (fun i=>[(3,.c (.v (.int .i64 i)))]) (fun i=>[]) (fun i=>i≤l.length∧newOk l i=true) (fun i=>l.length - i) (0);(focus ((try push_cast [iO,tN]);rfl));(focus exact ⟨Nat.zero_le _,rfl⟩);(focus ((refine weak_fg ?_;try push_cast [iO,tN]);(try (rfl)))))
 rintro i ⟨hi,hok⟩
 push_cast [iO,tN]
 by_cases hlt:i < l.length
 case neg =>
  have hi2:i=l.length:=by omega
  subst hi2
  have hb:newB l=true:=by unfold newB;rw [decide_eq_true hlen,hok];rfl
  rw [hb]
  repeat' (first|((first|refine pC ?_|refine pQC ?_|refine pU ?_);push_cast [iO,tN])|(refine pif (fun h=>?_) (fun h=>?_)<;>first|exact pN h|push_cast [iO,tN]))
  (refine retK_of [] ?_;push_cast [iO,tN])
 have hmem:l.getD i default ∈ l:=by rw [getD_lt l hlt];exact List.getElem_mem _
 have hno:=newOk_no hlt
 have hmf:=hm _ hmem
 have hst:(modOf (l.take i) (l.getD i default).name).isNone=true → modB (l.getD i default)=true → newOk l (i+1)=true:=fun h h2=>by rw [newOk,hok,h,h2];rfl
 obtain ⟨m,hmm⟩:∃ m,l.getD i default=m:=⟨_,rfl⟩
 rw [hmm] at hno hst hmf
 have hno2:modB m=false → newB l=false:=fun h=>hno (by rw [h,Bool.and_false])
 have hno3:(modOf (l.take i) m.name).isNone=false → newB l=false:=fun h=>hno (by rw [h,Bool.false_and])
 rw [modB_names] at hno2 hst
 have c1:=rvalid_pure m.name hmf.name
 have c2:=rnames_pure m.needs hmf.l2 hmf.ne
 have c3:=rnames_pure m.pre hmf.l3 hmf.pr
 have c4:=rnames_pure m.post hmf.l4 hmf.po
 have q1:=hmf.l1
 obtain ⟨A,hA⟩:∃ A,((((validS m.name && namesB m.needs) && namesB m.pre) && namesB m.post) && decide (m.aliases.length≤16))=A:=⟨_,rfl⟩
 rw [hA] at hno2 hst
 cases A with
 | false =>
  have hb:=hno2 rfl
  rw [hb]
  cases h1:validS m.name with
  | false =>
   rw [h1] at c1
   repeat' (first|((refine plc [] (c1) ?_ ?_;push_cast [iO,tN,hmm];rintro r os ⟨rfl,rfl⟩;push_cast [iO,tN,hmm]))|((first|refine pC ?_|refine pQC ?_|refine pU ?_);push_cast [iO,tN,hmm])|(refine pif (fun h=>?_) (fun h=>?_)<;>first|exact pN h|push_cast [iO,tN,hmm]))
   (refine retK_of [] ?_;push_cast [iO,tN])
  | true =>
  cases h2:namesB m.needs with
  | false =>
   rw [h1] at c1
   rw [h2] at c2
   repeat' (first|((refine plc [] (c1) ?_ ?_;push_cast [iO,tN,hmm];rintro r os ⟨rfl,rfl⟩;push_cast [iO,tN,hmm]))|((refine plc [] (c2) ?_ ?_;push_cast [iO,tN,hmm];rintro r os ⟨rfl,rfl⟩;push_cast [iO,tN,hmm]))|((first|refine pC ?_|refine pQC ?_|refine pU ?_);push_cast [iO,tN,hmm])|(refine pif (fun h=>?_) (fun h=>?_)<;>first|exact pN h|push_cast [iO,tN,hmm]))
   (refine retK_of [] ?_;push_cast [iO,tN])
  | true =>
  cases h3:namesB m.pre with
  | false =>
   rw [h1] at c1
   rw [h2] at c2
   rw [h3] at c3
   repeat' (first|((refine plc [] (c1) ?_ ?_;push_cast [iO,tN,hmm];rintro r os ⟨rfl,rfl⟩;push_cast [iO,tN,hmm]))|((refine plc [] (c2) ?_ ?_;push_cast [iO,tN,hmm];rintro r os ⟨rfl,rfl⟩;push_cast [iO,tN,hmm]))|((refine plc [] (c3) ?_ ?_;push_cast [iO,tN,hmm];rintro r os ⟨rfl,rfl⟩;push_cast [iO,tN,hmm]))|((first|refine pC ?_|refine pQC ?_|refine pU ?_);push_cast [iO,tN,hmm])|(refine pif (fun h=>?_) (fun h=>?_)<;>first|exact pN h|push_cast [iO,tN,hmm]))
   (refine retK_of [] ?_;push_cast [iO,tN])
  | true =>
  cases h4:namesB m.post with
  | false =>
   rw [h1] at c1
   rw [h2] at c2
   rw [h3] at c3
   rw [h4] at c4
   repeat' (first|((refine plc [] (c1) ?_ ?_;push_cast [iO,tN,hmm];rintro r os ⟨rfl,rfl⟩;push_cast [iO,tN,hmm]))|((refine plc [] (c2) ?_ ?_;push_cast [iO,tN,hmm];rintro r os ⟨rfl,rfl⟩;push_cast [iO,tN,hmm]))|((refine plc [] (c3) ?_ ?_;push_cast [iO,tN,hmm];rintro r os ⟨rfl,rfl⟩;push_cast [iO,tN,hmm]))|((refine plc [] (c4) ?_ ?_;push_cast [iO,tN,hmm];rintro r os ⟨rfl,rfl⟩;push_cast [iO,tN,hmm]))|((first|refine pC ?_|refine pQC ?_|refine pU ?_);push_cast [iO,tN,hmm])|(refine pif (fun h=>?_) (fun h=>?_)<;>first|exact pN h|push_cast [iO,tN,hmm]))
   (refine retK_of [] ?_;push_cast [iO,tN])
  | true =>
   rw [h1] at c1
   rw [h2] at c2
   rw [h3] at c3
   rw [h4] at c4
   rw [h1,h2,h3,h4] at hA
   simp only [Bool.true_and,decide_eq_false_iff_not] at hA
   have hA2:(16:Int) < (m.aliases.length:Int):=by omega
   repeat' (first|((refine plc [] (c1) ?_ ?_;push_cast [iO,tN,hmm,hA2];rintro r os ⟨rfl,rfl⟩;push_cast [iO,tN,hmm,hA2]))|((refine plc [] (c2) ?_ ?_;push_cast [iO,tN,hmm,hA2];rintro r os ⟨rfl,rfl⟩;push_cast [iO,tN,hmm,hA2]))|((refine plc [] (c3) ?_ ?_;push_cast [iO,tN,hmm,hA2];rintro r os ⟨rfl,rfl⟩;push_cast [iO,tN,hmm,hA2]))|((refine plc [] (c4) ?_ ?_;push_cast [iO,tN,hmm,hA2];rintro r os ⟨rfl,rfl⟩;push_cast [iO,tN,hmm,hA2]))|((first|refine pC ?_|refine pQC ?_|refine pU ?_);push_cast [iO,tN,hmm,hA2])|(refine pif (fun h=>?_) (fun h=>?_)<;>first|exact pN h|push_cast [iO,tN,hmm,hA2]))
   (refine retK_of [] ?_;push_cast [iO,tN])
 | true =>
  simp only [Bool.and_eq_true,decide_eq_true_eq] at hA
  obtain ⟨⟨⟨⟨h1,h2⟩,h3⟩,h4⟩,h5⟩:=hA
  rw [h1] at c1
  rw [h2] at c2
  rw [h3] at c3
  rw [h4] at c4
  repeat' (first|((refine plc [] (c1) ?_ ?_;push_cast [iO,tN,hmm];rintro r os ⟨rfl,rfl⟩;push_cast [iO,tN,hmm]))|((refine plc [] (c2) ?_ ?_;push_cast [iO,tN,hmm];rintro r os ⟨rfl,rfl⟩;push_cast [iO,tN,hmm]))|((refine plc [] (c3) ?_ ?_;push_cast [iO,tN,hmm];rintro r os ⟨rfl,rfl⟩;push_cast [iO,tN,hmm]))|((refine plc [] (c4) ?_ ?_;push_cast [iO,tN,hmm];rintro r os ⟨rfl,rfl⟩;push_cast [iO,tN,hmm]))|((first|refine pC ?_|refine pQC ?_|refine pU ?_);push_cast [iO,tN,hmm])|(refine pif (fun h=>?_) (fun h=>?_)<;>first|exact pN h|push_cast [iO,tN,hmm]))
  (apply pwp_loop3 (α:=Nat) 7 [74] (fun k=>[(5,.c (.v (.int .i64 k)))]) (fun k=>[]) (fun k=>k≤m.aliases.length∧(m.aliases.take k).any (fun p=>decide (globM p≠0))=false) (fun k=>m.aliases.length - k) (0);(focus ((try push_cast [iO,tN]);rfl));(focus exact ⟨Nat.zero_le _,rfl⟩);(focus ((refine weak_fg ?_;try push_cast [iO,tN]);(try (rfl)))))
  rintro k ⟨hk,hpre⟩
  push_cast [iO,tN]
  by_cases hkl:k < m.aliases.length
  ·have hc:=gcheck_pure (m.aliases.getD k default) (hmf.als _ (by rw [getD_lt _ hkl];exact List.getElem_mem _))
   obtain ⟨v,hv⟩:∃ v,globM (m.aliases.getD k default)=v:=⟨_,rfl⟩
   rw [hv] at hc
   by_cases h0:v=0
   ·have h0':(v == 0)=true:=by rw [h0];rfl
    subst h0
    repeat' (first |  ((refine plc [] (hc) ?_ ?_;push_cast [iO,tN];rintro r os ⟨rfl,rfl⟩;push_cast [iO,tN]))  | ((first|refine pC ?_|refine pQC ?_|refine pU ?_);push_cast [iO,tN])|(refine pif (fun h=>?_) (fun h=>?_)<;>first|exact pN h|push_cast [iO,tN]))
    exact ⟨k+1,⟨by omega,anyAt_go hkl hpre (by rw [hv];rfl)⟩,by (refine weak_fg ?_;push_cast [iO,tN]),by omega⟩
   ·have hany:=anyAt_all (p:=fun p=>decide (globM p≠0)) hkl (by simp only [hv];exact decide_eq_true h0)
    have hb:=hno2 (by rw [hany];rfl)
    rw [hb]
    repeat' (first|((refine plc [] (hc) ?_ ?_;push_cast [iO,tN,h0];rintro r os ⟨rfl,rfl⟩;push_cast [iO,tN,h0]))|((first|refine pC ?_|refine pQC ?_|refine pU ?_);push_cast [iO,tN,h0])|(refine pif (fun h=>?_) (fun h=>?_)<;>first|exact pN h|push_cast [iO,tN,h0]))
    (refine retK_of [] ?_;push_cast [iO,tN])
  rw [List.take_of_length_le (by omega)] at hpre
  have hst2:(modOf (l.take i) m.name).isNone=true → newOk l (i+1)=true:=fun h=>hst h (by rw [hpre];rfl)
  repeat' (first|((first|refine pC ?_|refine pQC ?_|refine pU ?_);push_cast [iO,tN])|(refine pif (fun h=>?_) (fun h=>?_)<;>first|exact pN h|push_cast [iO,tN]))
  (apply pwp_loop3 (α:=Nat) 7 [74] (fun j=>[(6,.c (.v (.int .i64 j)))]) (fun j=>[]) (fun j=>j≤i∧∀ x ∈ (l.take j),x.name≠m.name) (fun j=>i - j) (0);(focus ((try push_cast [iO,tN]);rfl));(focus exact ⟨Nat.zero_le _,fun x hx=>by simp at hx⟩);(focus ((refine weak_fg ?_;try push_cast [iO,tN]);(try (rfl)))))
  rintro j ⟨hj,hpre2⟩
  push_cast [iO,tN]
  by_cases hji:j < i
  ·have hjl:j < l.length:=by omega
   have htk:l.take (j+1)=l.take j++[l.getD j default]:=by rw [List.take_succ_eq_append_getElem hjl,getD_lt l hjl]
   have hin:l.getD j default ∈ l.take i:=by
    rw [getD_lt l hjl]
    exact List.mem_take_iff_getElem.2 ⟨j,by omega,rfl⟩
   obtain ⟨x,hx⟩:∃ x,l.getD j default=x:=⟨_,rfl⟩
   rw [hx] at htk hin
   by_cases hn:x.name=m.name
   ·have hb:=hno3 (modOf_some hin hn)
    rw [hb]
    repeat' (first|((refine pwp_cut 7 [74] ?_;apply pwp_drawn_to;(focus kernel_rfl);(focus (simp only [List.length_cons,List.length_nil,Nat.reduceAdd];(repeat' first|((first|refine pah 0 ?_|refine pah 1 ?_|refine pah 2 ?_|refine pah 3 ?_|refine pah 5 ?_|refine pah 7 ?_);push_cast [iO,tN,  hx,hn])|(refine pad ?_;first|with_reducible exact weak_cutS 7 [74] _|(refine weak_fg ?_;push_cast [iO,tN,  hx,hn]))|((first|refine pas [4] ?_|refine pas [6] ?_);push_cast [iO,tN,  hx,hn])|((first|refine pas [4,6] ?_);push_cast [iO,tN,  hx,hn];refine ⟨?_,?_⟩));done));push_cast [iO,tN,  hx,hn]))|((first|refine pC ?_|refine pQC ?_|refine pU ?_);push_cast [iO,tN,hx,hn])|(refine pif (fun h=>?_) (fun h=>?_)<;>first|exact pN h|push_cast [iO,tN,hx,hn]))
    (refine retK_of [] ?_;push_cast [iO,tN])
   ·have hn':=eq_false hn
    repeat' (first|((refine pwp_cut 7 [74] ?_;apply pwp_drawn_to;(focus kernel_rfl);(focus (simp only [List.length_cons,List.length_nil,Nat.reduceAdd];(repeat' first|((first|refine pah 0 ?_|refine pah 1 ?_|refine pah 2 ?_|refine pah 3 ?_|refine pah 5 ?_|refine pah 7 ?_);push_cast [iO,tN,  hx,hn'])|(refine pad ?_;first|with_reducible exact weak_cutS 7 [74] _|(refine weak_fg ?_;push_cast [iO,tN,  hx,hn']))|((first|refine pas [4] ?_|refine pas [6] ?_);push_cast [iO,tN,  hx,hn'])|((first|refine pas [4,6] ?_);push_cast [iO,tN,  hx,hn'];refine ⟨?_,?_⟩));done));push_cast [iO,tN,  hx,hn']))|((first|refine pC ?_|refine pQC ?_|refine pU ?_);push_cast [iO,tN,hx,hn'])|(refine pif (fun h=>?_) (fun h=>?_)<;>first|exact pN h|push_cast [iO,tN,hx,hn']))
    exact ⟨j+1,⟨by omega,fun y hy=>by
     rw [htk] at hy
     rcases List.mem_append.1 hy with hy|hy
     ·exact hpre2 y hy
     ·rw [List.mem_singleton.1 hy];exact hn⟩,by (refine weak_fg ?_;push_cast [iO,tN]),by omega⟩
  have hji2:j=i:=by omega
  subst hji2
  have hnx:=hst2 (modOf_none hpre2)
  repeat' (first|((first|refine pC ?_|refine pQC ?_|refine pU ?_);push_cast [iO,tN])|(refine pif (fun h=>?_) (fun h=>?_)<;>first|exact pN h|push_cast [iO,tN]))
  exact ⟨j+1,⟨by omega,hnx⟩,by (refine weak_fg ?_;push_cast [iO,tN]),by omega⟩
end Go.Proofs.YthhfpcbpiphfiaaGreatDoor
namespace Go.Proofs.YthhfpcbpiphfiaaGreatDoor
open Go.RowKit
open IntWalk renaming iteOmega → iO, toNatUp → tN
set_option linter.unusedVariables false
set_option linter.unusedSimpArgs false
section
variable {P:Program} {N p:Nat} {ops:Array Oper} {rest:List Oper} {o:Oper} {s:S} {K:S → Prop}
theorem ql_same {q:PV} (hg:gd ops s o.guard=some true) (h:∀ Γ a w,Inv N Γ s a w → ∃ y,RP w Γ q y∧∀ w',Same w w' → (execOp a.eval o).run P w' = .ok (.value y) w') (hd:dstOk N o.dst) (hr:QL P N p ops rest (s.put o.dst q) K):QL P N p ops (o :: rest) s K:=by
 intro Γ a w hA
 obtain ⟨y,h1,h2⟩:=h Γ a w hA.inv
 unfold wpQuietIn
 rw [if_pos (gd_ok hg hA.inv)]
 refine ⟨fun _ _ _ _=>trivial,y,fun w' hw'=>?_,quiet_mono' (fun a' ⟨s',k1,k2,k3⟩=>⟨s',k1,k2,k3.trans (put_defers _ _ _)⟩) (hr Γ _ w ⟨hA.inv.put (dst_lt hd) h1,hA.le⟩)⟩
 unfold Oper.quietAtIn
 rw [h2 w' (Same.of_ext hw')]
 exact ⟨rfl,rfl⟩
theorem ql_min {x z:Operand} {ts:Array TypeId} {k:IntKind} {a b:Int} (ho:o.op = .call ⟨.builtin .min,#[x,z],ts⟩) (hg:gd ops s o.guard=some true) (hx:s.ev x=some (.c (.v (.int k a)))) (hz:s.ev z=some (.c (.v (.int k b)))) (hd:dstOk N o.dst)
  (hK:QL P N p ops rest (s.put o.dst (.c (.v (.int k (if b < a then b else a))))) K):QL P N p ops (o :: rest) s K:=by
 refine ql_same (q:=.c (.v (.int k (if b < a then b else a)))) hg (fun Γ a' w hI=>?_) hd hK
 have h1:=S.ev_ok hx hI
 have h2:=S.ev_ok hz hI
 exact ⟨_,⟨rfl,rfl⟩,fun w' _=>by simp [execOp,ho,resolve,invoke,builtin,Builtin.min_,Builtin.min2,h1.1,h2.1]⟩
end
structure WKey (P:Program) (kt:TypeId) (n:Nat):Prop where
 law:WideMaps.KeyLaw P kt
 key:∀ ns:List Int,ns.length=n → (∀ x ∈ ns,-9223372036854775808≤x∧x≤9223372036854775807) → ∃ l,keyOf P kt (MK.t ns).v=some l
def GoodK (n:Nat) (k:MK):Prop:=∃ ns:List Int,k = .t ns∧ns.length=n∧∀ x ∈ ns,-9223372036854775808≤x∧x≤9223372036854775807
theorem GoodK.kind {n:Nat} {k:MK} (h:GoodK n k):k.kind=some (.wide n):=by
 obtain ⟨ns,rfl,rfl,_⟩:=h
 rfl
theorem GoodK.key {P:Program} {kt:TypeId} {n:Nat} (W:WKey P kt n) {k:MK} (h:GoodK n k):∃ l,keyOf P kt k.v=some l:=by
 obtain ⟨ns,rfl,h1,h2⟩:=h
 exact W.key ns h1 h2
theorem int_list_inj:∀ {a b:List Int},a.map (Value.int .i64)=b.map (Value.int .i64) → a=b
 | [],[],_=>rfl
 | [],_ :: _,h=>by cases h
 | _ :: _,[],h=>by cases h
 | x :: a,y :: b,h=>by
  simp only [List.map_cons,List.cons.injEq,Value.int.injEq,true_and] at h
  rw [h.1,int_list_inj h.2]
theorem GoodK.inj {n:Nat} {a b:MK} (ha:GoodK n a) (hb:GoodK n b) (h:a.v=b.v):a=b:=by
 obtain ⟨x,rfl,_,_⟩:=ha
 obtain ⟨y,rfl,_,_⟩:=hb
 simp only [MK.v,Value.agg.injEq] at h
 have h2:x.map (Value.int .i64)=y.map (Value.int .i64):=by simpa using h
 rw [int_list_inj h2]
theorem mget_no {key:MK}:∀ {es:List (MK × List D)},key ∉ es.map (·.1) → mget es key=none∧∀ r,mput es key r=es++[(key,r)]
 | [],_=>⟨rfl,fun _=>rfl⟩
 | (a,x) :: es,h=>by
  simp only [List.map_cons,List.mem_cons,not_or] at h
  obtain ⟨h1,h2⟩:=mget_no h.2
  have hne:¬ a=key:=fun e=>h.1 e.symm
  exact ⟨by rw [mget,if_neg hne];exact h1,fun r=>by rw [mput,if_neg hne,h2];rfl⟩
theorem mget_at {key:MK}:∀ {es:List (MK × List D)} {j:Nat} {e:MK × List D},es[j]? = some e → e.1=key → (es.map (·.1)).Nodup → mget es key=some e.2∧∀ r,mput es key r=es.set j (key,r)
 | [],j,e,h,_,_=>by simp at h
 | (a,x) :: es,0,e,h,he,hn=>by
  simp at h
  subst h
  exact ⟨by rw [mget,if_pos he],fun r=>by rw [mput,if_pos he,← he];rfl⟩
 | (a,x) :: es,j+1,e,h,he,hn=>by
  simp only [List.map_cons,List.nodup_cons] at hn
  have h':es[j]? = some e:=by simpa using h
  obtain ⟨h1,h2⟩:=mget_at h' he hn.2
  have hne:¬ a=key:=fun e2=>hn.1 (List.mem_map.2 ⟨e,List.mem_of_getElem? h',by rw [he,e2]⟩)
  exact ⟨by rw [mget,if_neg hne];exact h1,fun r=>by rw [mput,if_neg hne,h2];rfl⟩
theorem all2_l {α β:Type} {R:α → β → Prop}:∀ {l:List α} {m:List β} {i:Nat} {a:α},All2 R l m → l[i]? = some a → ∃ b,m[i]? = some b∧R a b
 | [],_,i,a,_,h=>by simp at h
 | x :: l,m,i,a,h,ha=>by
  obtain ⟨b,m',rfl,h1,h2⟩:=All2.cons_l.1 h
  cases i with
  | zero=>simp at ha;subst ha;exact ⟨b,rfl,h1⟩
  | succ i =>
   obtain ⟨c,h3,h4⟩:=all2_l h2 (by simpa using ha)
   exact ⟨c,by simpa using h3,h4⟩
theorem all2_r {α β:Type} {R:α → β → Prop}:∀ {l:List α} {m:List β} {i:Nat} {b:β},All2 R l m → m[i]? = some b → ∃ a,l[i]? = some a∧R a b
 | [],m,i,b,h,hb=>by
  rw [All2.nil_l] at h
  subst h
  simp at hb
 | x :: l,m,i,b,h,hb=>by
  obtain ⟨c,m',rfl,h1,h2⟩:=All2.cons_l.1 h
  cases i with
  | zero=>simp at hb;subst hb;exact ⟨x,rfl,h1⟩
  | succ i =>
   obtain ⟨a,h3,h4⟩:=all2_r h2 (by simpa using hb)
   exact ⟨a,by simpa using h3,h4⟩
theorem nodup_at {α:Type} {l:List α} {i j:Nat} {a:α} (h:l.Nodup) (hi:l[i]? = some a) (hj:l[j]? = some a):i=j:=by
 obtain ⟨h1,e1⟩:=List.getElem?_eq_some_iff.1 hi
 obtain ⟨h2,e2⟩:=List.getElem?_eq_some_iff.1 hj
 rw [List.Nodup,List.pairwise_iff_getElem] at h
 rcases Nat.lt_trichotomy i j with h3|h3|h3
 ·exact absurd (e1.trans e2.symm) (h i j h1 h2 h3)
 ·exact h3
 ·exact absurd (e2.trans e1.symm) (h j i h2 h1 h3)
theorem find_wk {P:Program} {kt:TypeId} {n:Nat} (W:WKey P kt n) {w:World} {I:Nat → Prop} {ag:Bool} {key:MK} (hk:GoodK n key) {es:List (MK × List D)} {ms:List MapEntry}
  (hr:All2 (fun e m=>m.key=e.1.v∧RV w I ag e.2 m.val) es ms) (hes:∀ e ∈ es,GoodK n e.1) (hnd:(es.map (·.1)).Nodup) :
  (mget es key=none∧(∀ r,mput es key r=es++[(key,r)])∧key ∉ es.map (·.1)∧∀ w':World,(Instr.findKey kt key.v ms).run P w' = .ok none w') ∨
  ∃ j e m,es[j]? = some e∧ms[j]? = some m∧e.1=key∧m.key=key.v∧mget es key=some e.2∧(∀ r,mput es key r=es.set j (key,r))∧RV w I ag e.2 m.val∧∀ w':World,(Instr.findKey kt key.v ms).run P w' = .ok (some (j,m.val)) w':=by
 obtain ⟨l,hl⟩:=hk.key W
 have hms:∀ m ∈ ms,∃ l,keyOf P kt m.key=some l:=by
  intro m hm
  obtain ⟨i,hi,rfl⟩:=List.getElem_of_mem hm
  obtain ⟨e,he,h1,_⟩:=all2_r (i:=i) hr (List.getElem?_eq_getElem hi)
  rw [h1]
  exact (hes e (List.mem_of_getElem? he)).key W
 by_cases hin:key ∈ es.map (·.1)
 ·obtain ⟨e,he,rfl⟩:=List.mem_map.1 hin
  obtain ⟨j,hj,rfl⟩:=List.getElem_of_mem he
  have hje:es[j]? = some es[j]:=List.getElem?_eq_getElem hj
  obtain ⟨m,hm,h1,h2⟩:=all2_l hr hje
  obtain ⟨g1,g2⟩:=mget_at hje rfl hnd
  refine .inr ⟨j,es[j],m,hje,hm,rfl,h1,g1,g2,h2,fun w'=>?_⟩
  rcases W.law.find w' hl ms hms with ⟨_,h⟩|⟨j',m',h3,h4,h5⟩
  ·exact absurd h1 (h m (List.mem_of_getElem? hm))
  ·obtain ⟨e',he',h6,_⟩:=all2_r hr h4
   have hkk:e'.1=es[j].1:=(hes e' (List.mem_of_getElem? he')).inj (hes _ he) (by rw [← h6,h5])
   have hjj:j'=j:=by
    have l1:(es.map (·.1))[j']? = some es[j].1:=by rw [List.getElem?_map,he'];simp [hkk]
    have l2:(es.map (·.1))[j]? = some es[j].1:=by rw [List.getElem?_map,hje];rfl
    exact nodup_at hnd l1 l2
   subst hjj
   rw [hm] at h4
   cases h4
   exact h3
 ·obtain ⟨g1,g2⟩:=mget_no hin
  refine .inl ⟨g1,g2,hin,fun w'=>?_⟩
  rcases W.law.find w' hl ms hms with ⟨h,_⟩|⟨j',m',h3,h4,h5⟩
  ·exact h
  ·obtain ⟨e',he',h6,_⟩:=all2_r hr h4
   exact absurd (List.mem_map.2 ⟨e',List.mem_of_getElem? he',(hes e' (List.mem_of_getElem? he')).inj hk (by rw [← h6,h5])⟩) hin
theorem all2_ints {w:World} {Γ:G}:∀ {ns:List Int} {xs:List Value},All2 (RE w Γ) (ns.map fun n=>E.v (.int .i64 n)) xs → xs=ns.map (Value.int .i64)
 | [],xs,h=>by rw [List.map_nil,All2.nil_l] at h;rw [h];rfl
 | n :: ns,xs,h=>by
  rw [List.map_cons] at h
  obtain ⟨y,ys,rfl,h1,h2⟩:=All2.cons_l.1 h
  rw [all2_ints h2,List.map_cons,h1.1]
section
variable {P:Program} {N p:Nat} {ops:Array Oper} {rest:List Oper} {o:Oper} {s:S} {K:S → Prop}
theorem keyW_ok {Γ:G} {a:Act} {w:World} {x:Operand} {ns:List Int} (h:s.ev x=some (.agg (ns.map fun n=>E.v (.int .i64 n)))) (hI:Inv N Γ s a w):a.eval x=(MK.t ns).v:=by
 obtain ⟨xs,h1,h2⟩:=S.ev_ok h hI
 rw [h1,all2_ints h2]
 rfl
theorem lookW_ok {t kt e:TypeId} {n k:Nat} {x ix:Operand} {ok ag:Bool} {ns:List Int} {es:List (MK × List D)} {z q:PV} {Γ:G} {a:Act} {w:World} (W:WKey P kt n) (ho:o.op = .lookup t x ix ok) (hu:P.underlying t=some (.map kt e))
  (hx:s.ev x=some (.c (.mp k))) (hk:s.o[k]? = some (.map (some (.wide n)) ag es)) (hi:s.ev ix=some (.agg (ns.map fun n=>E.v (.int .i64 n)))) (hkey:GoodK n (.t ns)) (hes:∀ e ∈ es,GoodK n e.1) (hz:zvOf P e=some z) (hq:lkP ag z ok (mget es (.t ns))=some q) (hI:Inv N Γ s a w) :
  ∃ y,RP w Γ q y∧∀ w',Same w w' → (execOp a.eval o).run P w' = .ok (.value y) w':=by
 have hxv:=S.ev_ok hx hI
 have hiv:=keyW_ok hi hI
 obtain ⟨l,hl⟩:=hkey.key W
 obtain ⟨zv,hz1,hz2⟩:=zv_ok hz
 obtain ⟨h0,ms,ck,hb,hM⟩:=hI.m.ob k _ hk
 have hlt:Γ.β k < w.heap.size:=(Array.getElem?_eq_some_iff.1 hb).1
 have hb':∀ w',Same w w' → w'.heap[Γ.β k]? = some (.map ms ck):=fun w' hS=>(hS.block _ hlt).trans hb
 rcases find_wk W hkey hM.rows hes hM.nodup with ⟨g1,g2,g3,g4⟩|⟨j,e0,m0,g1,g2,g3,g4,g5,g6,g7,g8⟩
 ·rw [g1] at hq
  simp only [lkP,Option.some.injEq] at hq
  subst hq
  refine ⟨_,okP_ok (hz1 w Γ),fun w' hS=>?_⟩
  simp [execOp,ho,Instr.lookup,run_underlying hu,hxv.2,MapKept.run_getObj_map (hb' w' hS),hiv,W.law.check w' _ hl,g4,hz2]
 ·rw [g5] at hq
  simp only [lkP] at hq
  obtain ⟨v,hv,rfl⟩:=Option.map_eq_some_iff.1 hq
  refine ⟨_,okP_ok (rowP_ok hv g7),fun w' hS=>?_⟩
  simp [execOp,ho,Instr.lookup,run_underlying hu,hxv.2,MapKept.run_getObj_map (hb' w' hS),hiv,W.law.check w' _ hl,g8]
theorem pl_lookW {t kt e:TypeId} {n k:Nat} {x ix:Operand} {ok ag:Bool} {ns:List Int} {es:List (MK × List D)} {z q:PV} (W:WKey P kt n) (ho:o.op = .lookup t x ix ok) (hg:gd ops s o.guard=some true) (hd:dstOk N o.dst) (hu:P.underlying t=some (.map kt e))
  (hx:s.ev x=some (.c (.mp k))) (hk:s.o[k]? = some (.map (some (.wide n)) ag es)) (hi:s.ev ix=some (.agg (ns.map fun n=>E.v (.int .i64 n)))) (hkey:GoodK n (.t ns)) (hes:∀ e ∈ es,GoodK n e.1) (hz:zvOf P e=some z) (hq:lkP ag z ok (mget es (.t ns))=some q)
  (hK:PL P N p ops rest (s.put o.dst q) K):PL P N p ops (o :: rest) s K :=
 pl_same hg (fun Γ a w hI=>lookW_ok W ho hu hx hk hi hkey hes hz hq hI) hd hK
theorem pl_mkW {t:TypeId} {n:Nat} (ag:Bool) (ho:o.op = .makeMap t none) (hg:gd ops s o.guard=some true) (hd:dstOk N o.dst)
  (hK:PL P N p ops rest (S.put ⟨s.t,s.o++[.map (some (.wide n)) ag []]⟩ o.dst (.c (.mp s.o.length))) K):PL P N p ops (o :: rest) s K:=by
 refine pl_heap (q:=.c (.mp s.o.length)) (os:=s.o++[.map (some (.wide n)) ag []]) hg (fun Γ a w hA=>?_) (by simp) hd hK
 have hI:=hA.inv
 have hE:Ext No w (w.alloc (.map #[] 0)):=(Ext.refl No w).alloc _
 have hS:=Same.of_ext hE
 have hagr:=push_agree Γ w.heap.size 1
 have hn:=hI.m.n
 have hm:MemOk (Γ.push w.heap.size 1) (s.o++[.map (some (.wide n)) ag []]) (w.alloc (.map #[] 0)):=by
  refine hI.m.push hS _ _ _ ⟨by simp [G.push,upd_same],#[],0,?_,?_⟩ (fun _=>Nat.le_refl _)
  ·simp only [G.push,upd_same];exact (MapKept.heap_alloc w _).1
  ·exact ⟨trivial,by simp,by simp,by simp,by simp⟩
 refine ⟨.map (some w.heap.size),w.alloc (.map #[] 0),Γ.push w.heap.size 1,.inl ?_,⟨by simp [G.push,hn],by simp [G.push,← hn,upd_same]⟩,hI.heap hm (hS.stay Γ.I) hagr,grow_push hI.m hE _ _ (fun _=>Nat.le_refl _) hA.le⟩
 simp [execOp,ho,Instr.makeMap]
theorem updW_ok {t kt e:TypeId} {n k:Nat} {m ix x:Operand} {ag:Bool} {ns:List Int} {es:List (MK × List D)} {row:List D} {Γ:G} {a:Act} {w:World} (W:WKey P kt n) (ho:o.op = .mapUpdate t m ix x) (hu:P.underlying t=some (.map kt e))
  (hx:s.ev m=some (.c (.mp k))) (hk:s.o[k]? = some (.map (some (.wide n)) ag es)) (hi:s.ev ix=some (.agg (ns.map fun n=>E.v (.int .i64 n)))) (hkey:GoodK n (.t ns)) (hes:∀ e ∈ es,GoodK n e.1) (hrow:rowOf ag (s.ev x)=some row) (hI:Inv N Γ s a w) :
  HeapOk P N p Γ s a w o .undef (setO s.o k (.map (some (.wide n)) ag (mput es (.t ns) row))):=by
 obtain ⟨hkn,hxv⟩:=S.ev_ok hx hI
 have hiv:=keyW_ok hi hI
 obtain ⟨l,hl⟩:=hkey.key W
 have hrv:=rowOf_ok hrow (fun q hq=>S.ev_ok hq hI)
 obtain ⟨h0,ms,ck,hb,hM⟩:=hI.m.ob k _ hk
 have fin:∀ (ms':Array MapEntry) (ck':Nat),(∀ w' I',Stay w Γ.I w' I' → RM w' I' (some (.wide n)) ag (mput es (.t ns) row) ms'.toList ck') → (Instr.mapUpdate t (a.eval m) (a.eval ix) (a.eval x)).run P w = .ok () { w with heap:=w.heap.setIfInBounds (Γ.β k) (.map ms' ck') } →
   HeapOk P N p Γ s a w o .undef (setO s.o k (.map (some (.wide n)) ag (mput es (.t ns) row))):=by
  intro ms' ck' hR hrun
  have hE:Ext (· = Γ.β k) w { w with heap:=w.heap.setIfInBounds (Γ.β k) (.map ms' ck') }:=ext_setObj hb
  have hs':Stay w Γ.I { w with heap:=w.heap.setIfInBounds (Γ.β k) (.map ms' ck') } Γ.I:=⟨hE.size,fun b hb' hl=>hE.block b hl fun e=>hI.m.off k hkn h0 (e ▸ hb'),fun _ h=>h⟩
  obtain ⟨hm,hs⟩:=hI.m.set_ hkn h0 hE (.map (some (.wide n)) ag (mput es (.t ns) row)) ⟨h0,ms',ck',(MapKept.heap_set hb).1,hR _ _ hs'⟩
  refine ⟨_,_,Γ,.inr ⟨?_,rfl⟩,rfl,hI.heap hm hs (fun j hj=>⟨hj,rfl,rfl⟩),grow_set hkn h0 hE⟩
  simp only [execOp,ho,Sem.run_bind,hrun,Result.andThen_ok,Sem.run_pure]
 rcases find_wk W hkey hM.rows hes hM.nodup with ⟨g1,g2,g3,g4⟩|⟨j,e0,m0,g1,g2,g3,g3',g5,g6,g7,g8⟩
 ·refine fin (ms.push { key:=(MK.t ns).v,val:=a.eval x,born:=ck }) (ck+1) (fun w' I' hs=>?_) ?_
  ·rw [g2,Array.toList_push]
   refine ⟨(hM.stay hs).rows.append ⟨⟨rfl,hrv.stay fun d _ y hy=>RD.stay hs d y hy⟩,trivial⟩,fun e he=>?_,?_,?_,fun b hb=>?_⟩
   ·rcases List.mem_append.1 he with he|he
    ·exact hM.kind e he
    ·simp at he;subst he;exact hkey.kind
   ·rw [List.map_append,List.nodup_append]
    refine ⟨hM.nodup,by simp,?_⟩
    intro a ha b hb
    simp at hb
    subst hb
    intro hab
    exact g3 (hab ▸ ha)
   ·rw [List.map_append,List.pairwise_append]
    refine ⟨hM.born,by simp,fun a ha b hb=>?_⟩
    simp at hb
    subst hb
    exact hM.clock a ha
   ·rw [List.map_append] at hb
    rcases List.mem_append.1 hb with hb|hb
    ·exact Nat.lt_succ_of_lt (hM.clock b hb)
    ·simp at hb;subst hb;exact Nat.lt_succ_self _
  ·simp [Instr.mapUpdate,run_underlying hu,hxv,MapKept.run_getObj_map hb,hiv,W.law.check w _ hl,g4,MapKept.run_setObj_map _ hb]
 ·have hj:ms[j]? = some m0:=by simpa using g2
  refine fin (ms.modify j fun e=>{ e with key:=(MK.t ns).v,val:=a.eval x }) ck (fun w' I' hs=>?_) ?_
  ·have hml:(ms.modify j fun e=>{ e with key:=(MK.t ns).v,val:=a.eval x }).toList=ms.toList.set j { m0 with key:=(MK.t ns).v,val:=a.eval x }:=by
    rw [Array.toList_modify]
    have hj':j < ms.toList.length:=(List.getElem?_eq_some_iff.1 g2).1
    have:ms.toList[j]=m0:=(List.getElem?_eq_some_iff.1 g2).2
    rw [List.modify_eq_set,g2]
    rfl
   have hbs:(ms.toList.set j { m0 with key:=(MK.t ns).v,val:=a.eval x }).map MapEntry.born=ms.toList.map MapEntry.born:=by
    rw [List.map_set]
    exact list_set_self (by rw [List.getElem?_map,g2];rfl)
   rw [hml,g6]
   refine ⟨(hM.stay hs).rows.set_ j ⟨rfl,hrv.stay fun d _ y hy=>RD.stay hs d y hy⟩,fun e he=>?_,?_,by rw [hbs];exact hM.born,by rw [hbs];exact hM.clock⟩
   ·rcases List.mem_or_eq_of_mem_set he with he|rfl
    ·exact hM.kind e he
    ·exact hkey.kind
   ·rw [List.map_set,list_set_self (by rw [List.getElem?_map,g1,← g3];rfl)]
    exact hM.nodup
  ·simp [Instr.mapUpdate,run_underlying hu,hxv,MapKept.run_getObj_map hb,hiv,W.law.check w _ hl,g8,hj,g3',W.law.stays w hl,MapKept.run_setObj_map _ hb]
theorem pl_updW {t kt e:TypeId} {n k:Nat} {m ix x:Operand} {ag:Bool} {ns:List Int} {es:List (MK × List D)} {row:List D} (W:WKey P kt n) (ho:o.op = .mapUpdate t m ix x) (hg:gd ops s o.guard=some true) (hd:dstOk N o.dst) (hu:P.underlying t=some (.map kt e))
  (hx:s.ev m=some (.c (.mp k))) (hk:s.o[k]? = some (.map (some (.wide n)) ag es)) (hi:s.ev ix=some (.agg (ns.map fun n=>E.v (.int .i64 n)))) (hkey:GoodK n (.t ns)) (hes:∀ e ∈ es,GoodK n e.1) (hrow:rowOf ag (s.ev x)=some row)
  (hK:PL P N p ops rest (S.put ⟨s.t,setO s.o k (.map (some (.wide n)) ag (mput es (.t ns) row))⟩ o.dst .undef) K):PL P N p ops (o :: rest) s K :=
 pl_heap hg (fun Γ a w hA=>updW_ok W ho hu hx hk hi hkey hes hrow hA.inv) (by simp [setO]) hd hK
end
theorem GoodK.mput {n:Nat} {es:List (MK × List D)} {k:MK} {r:List D} (h:∀ e ∈ es,GoodK n e.1) (hk:GoodK n k):∀ e ∈ mput es k r,GoodK n e.1:=by
 induction es with
 | nil=>intro e he;simp only [Go.Proofs.YthhfpcbpiphfiaaGreatDoor.mput,List.mem_singleton] at he;subst he;exact hk
 | cons a es ih =>
  obtain ⟨a1,a2⟩:=a
  intro e he
  rw [Go.Proofs.YthhfpcbpiphfiaaGreatDoor.mput] at he
  split at he
  ·rcases List.mem_cons.1 he with rfl|he
   ·exact h (a1,a2) (by simp)
   ·exact h e (by simp [he])
  ·rcases List.mem_cons.1 he with rfl|he
   ·exact h (a1,a2) (by simp)
   ·exact ih (fun e he=>h e (by simp [he])) e he
end Go.Proofs.YthhfpcbpiphfiaaGreatDoor
