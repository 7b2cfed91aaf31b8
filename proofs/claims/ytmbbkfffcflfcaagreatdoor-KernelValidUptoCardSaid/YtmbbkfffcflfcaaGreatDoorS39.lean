/- What the program computes, and the plain laws of it, part 39. -/
import Derived.WideKeyEntry
import Derived.Lib.ItoaNum
import Derived.Test.YtmbbkfffcflfcaaGreatDoorS38
namespace Go.Proofs.YtmbbkfffcflfcaaGreatDoor
attribute [local irreducible] PL QL PWPr PCalls Weak RetK Kontr PA
open Go.RowKit
open IntWalk renaming iteOmega → O, toNatUp → U
set_option linter.unusedVariables false
set_option linter.unusedSimpArgs false
set_option maxRecDepth 20000
def namesB (l:List ByteArray):Bool:=(l.all validS) && decide (l.length≤16)
theorem rnames_pure (l:List ByteArray) (hl:l.length≤9223372036854775807) (hf:∀ s ∈ l,Fit s):PCalls Tryz.prog 80 [.c (.sl 1 (l.map strD))] [] fun r os=>r = .c (.v (.bool (namesB l)))∧os=[]:=by
 refine pcalls_of Tryz.func80 rfl (by simp [Tryz.ntmps80]) ?_
 rw [Tryz.ntmps80,Tryz.results80]
 push_cast [O,U]
 have cB:CutB 4 []:=trivial
 repeat' ((first|refine pC ?_|refine pQC ?_|refine pU ?_|refine pif ?_ ?_<;>intro h<;>try exact pN h)<;>push_cast [O,U])
 (apply pwp_loop3 (α:=Nat) 4 [] (fun k=>[(3,.c (.v (.int .i64 k)))]) (fun k=>[]) (fun k=>k≤l.length∧(l.take k).all validS=true) (fun k=>l.length - k) (0);(focus ((try push_cast [O,U]);rfl));(focus exact ⟨Nat.zero_le _,rfl⟩);(focus ((refine weak_fg ?_;try push_cast [O,U]);(try (rfl)))))
 rintro k ⟨hk,hpre⟩
 push_cast [O,U]
 by_cases hlt:k < l.length
 ·have hm:l.getD k default ∈ l:=by rw [getD_lt l hlt];exact List.getElem_mem _
  have hc:=rvalid_pure (l.getD k default) (hf _ hm)
  have htk:l.take (k+1)=l.take k++[l.getD k default]:=by rw [List.take_succ_eq_append_getElem hlt,getD_lt l hlt]
  cases hb:validS (l.getD k default) with
  | false =>
   have hn:namesB l=false:=by
    unfold namesB
    have:l.all validS=false:=by rw [List.all_eq_false];exact ⟨_,hm,by rw [hb];decide⟩
    rw [this];rfl
   rw [hb] at hc
   rw [hn]
   repeat' ((first|refine plE [] hc ?_ ?_|refine pC ?_|refine pQC ?_|refine pU ?_|refine pif ?_ ?_<;>intro h<;>try exact pN h)<;>push_cast [O,U])
   (refine retK_of [] ?_;push_cast [O,U])
  | true =>
   rw [hb] at hc
   repeat' ((first|refine plE [] hc ?_ ?_|refine pC ?_|refine pQC ?_|refine pU ?_|refine pif ?_ ?_<;>intro h<;>try exact pN h)<;>push_cast [O,U])
   exact ⟨k+1,⟨by omega,by rw [htk,List.all_append,hpre,List.all_cons,hb];rfl⟩,by (refine weak_fg ?_;push_cast [O,U]),by omega⟩
 ·rw [List.take_of_length_le (by omega)] at hpre
  have hn:namesB l=decide (l.length≤16):=by unfold namesB;rw [hpre];rfl
  rw [hn]
  repeat' ((first|refine pC ?_|refine pQC ?_|refine pU ?_|refine pif ?_ ?_<;>intro h<;>try exact pN h)<;>push_cast [O,U])
  (refine retK_of [] ?_;push_cast [O,U])
  exact decide_eq_decide.2 (by omega)
theorem all_any (l:List ByteArray):(l.any fun s=>!validS s) = !(l.all validS):=by
 induction l with
 | nil=>rfl
 | cons a l ih=>simp only [List.any_cons,List.all_cons,ih];cases validS a<;>simp
theorem modB_names (m:Mod):modB m=(((((validS m.name && namesB m.needs) && namesB m.pre) && namesB m.post) && decide (m.aliases.length≤16)) && !(m.aliases.any fun p=>decide (globM p≠0))):=by
 unfold modB fewB namesB
 rw [List.any_append,List.any_append,all_any,all_any,all_any]
 generalize m.needs.all validS=a
 generalize m.pre.all validS=b
 generalize m.post.all validS=c
 generalize validS m.name=d
 generalize (m.aliases.any fun p=>decide (globM p≠0))=e
 generalize decide (m.aliases.length≤16)=f
 generalize decide (m.needs.length≤16)=g
 generalize decide (m.pre.length≤16)=h
 generalize decide (m.post.length≤16)=i
 cases a<;>cases b<;>cases c<;>cases d<;>cases e<;>cases f<;>cases g<;>cases h<;>cases i<;>rfl
theorem modOf_some {l:List Mod} {n:ByteArray} {m:Mod} (hm:m ∈ l) (h:m.name=n):(modOf l n).isNone=false:=by
 cases hq:modOf l n with
 | some x=>rfl
 | none =>
  unfold modOf at hq
  rw [List.find?_eq_none] at hq
  exact absurd h (by simpa using hq m hm)
theorem modOf_none {l:List Mod} {n:ByteArray} (h:∀ m ∈ l,m.name≠n):(modOf l n).isNone=true:=by
 have:modOf l n=none:=by
  unfold modOf
  rw [List.find?_eq_none]
  intro x hx
  simpa using h x hx
 rw [this];rfl
set_option maxHeartbeats 8000000 in
theorem rmodules_pure (l:List Mod) (hl:l.length≤9223372036854775807) (hm:∀ m ∈ l,ModFit m):PCalls Tryz.prog 47 [.c (.sl 6 (l.map Mod.d))] [] fun r os=>r = .c (.v (.bool (newB l)))∧os=[]:=by
 refine pcalls_of Tryz.func47 rfl (by simp [Tryz.ntmps47]) ?_
 rw [Tryz.ntmps47,Tryz.results47]
 push_cast [O,U]
 have cB:CutB 7 [74]:=trivial
 by_cases hlen:l.length≤128
 case neg =>
  have hb:newB l=false:=by unfold newB;rw [decide_eq_false hlen];rfl
  have hl2:(128:Int) < (l.length:Int):=by omega
  rw [hb]
  repeat' ((first|refine pC ?_|refine pQC ?_|refine pU ?_|refine pif ?_ ?_<;>intro h<;>try exact pN h)<;>push_cast [O,U,hl2])
  (refine retK_of [] ?_;push_cast [O,U])
 repeat' ((first|refine pC ?_|refine pQC ?_|refine pU ?_|refine pif ?_ ?_<;>intro h<;>try exact pN h)<;>push_cast [O,U])
 (apply pwp_loop3 (α:=Nat) 7 [74] (fun i=>[(3,.c (.v (.int .i64 i)))]) (fun i=>[]) (fun i=>i≤l.length∧newOk l i=true) (fun i=>l.length - i) (0);(focus ((try push_cast [O,U]);rfl));(focus exact ⟨Nat.zero_le _,rfl⟩);(focus ((refine weak_fg ?_;try push_cast [O,U]);(try (rfl)))))
 rintro i ⟨hi,hok⟩
 push_cast [O,U]
 by_cases hlt:i < l.length
 case neg =>
  have hi2:i=l.length:=by omega
  subst hi2
  have hb:newB l=true:=by unfold newB;rw [decide_eq_true hlen,hok];rfl
  rw [hb]
  repeat' ((first|refine pC ?_|refine pQC ?_|refine pU ?_|refine pif ?_ ?_<;>intro h<;>try exact pN h)<;>push_cast [O,U])
  (refine retK_of [] ?_;push_cast [O,U])
 have hmem:l.getD i default ∈ l:=by rw [getD_lt l hlt];exact List.getElem_mem _
 have hno:=newOk_no hlt
 have hmf:=hm _ hmem
 have hst:(modOf (l.take i) (l.getD i default).name).isNone=true → modB (l.getD i default)=true → newOk l (i+1)=true:=fun h h2=>by rw [newOk,hok,h,h2];rfl
 obtain ⟨m,hmm⟩:∃ m,l.getD i default=m:=⟨_,rfl⟩
 rw [hmm] at hno hst hmf
 have hno2:modB m=false → newB l=false:=fun h=>hno (by rw [h,Bool.and_false])
 have hno3:(modOf (l.take i) m.name).isNone=false → newB l=false:=fun h=>hno (by rw [h,Bool.false_and])
 rw [modB_names] at hno2 hst
 have c1:=rvalid_pure m.name hmf.name
 have c2:=rnames_pure m.needs hmf.l2 hmf.ne
 have c3:=rnames_pure m.pre hmf.l3 hmf.pr
 have c4:=rnames_pure m.post hmf.l4 hmf.po
 have q1:=hmf.l1
 obtain ⟨A,hA⟩:∃ A,((((validS m.name && namesB m.needs) && namesB m.pre) && namesB m.post) && decide (m.aliases.length≤16))=A:=⟨_,rfl⟩
 rw [hA] at hno2 hst
 cases A with
 | false =>
  have hb:=hno2 rfl
  rw [hb]
  cases h1:validS m.name with
  | false =>
   rw [h1] at c1
   repeat' ((first|refine plE [] c1 ?_ ?_|refine pC ?_|refine pQC ?_|refine pU ?_|refine pif ?_ ?_<;>intro h<;>try exact pN h)<;>push_cast [O,U,hmm])
   (refine retK_of [] ?_;push_cast [O,U])
  | true =>
  cases h2:namesB m.needs with
  | false =>
   rw [h1] at c1
   rw [h2] at c2
   repeat' ((first|refine plE [] c1 ?_ ?_|refine plE [] c2 ?_ ?_|refine pC ?_|refine pQC ?_|refine pU ?_|refine pif ?_ ?_<;>intro h<;>try exact pN h)<;>push_cast [O,U,hmm])
   (refine retK_of [] ?_;push_cast [O,U])
  | true =>
  cases h3:namesB m.pre with
  | false =>
   rw [h1] at c1
   rw [h2] at c2
   rw [h3] at c3
   repeat' ((first|refine plE [] c1 ?_ ?_;focus (push_cast [O,U,hmm];done)|refine plE [] c2 ?_ ?_;focus (push_cast [O,U,hmm];done)|refine plE [] c3 ?_ ?_;focus (push_cast [O,U,hmm];done)|refine pC ?_|refine pQC ?_|refine pU ?_|refine pif ?_ ?_<;>intro h<;>try exact pN h)<;>push_cast [O,U,hmm])
   (refine retK_of [] ?_;push_cast [O,U])
  | true =>
  cases h4:namesB m.post with
  | false =>
   rw [h1] at c1
   rw [h2] at c2
   rw [h3] at c3
   rw [h4] at c4
   repeat' ((first|refine plE [] c1 ?_ ?_;focus (push_cast [O,U,hmm];done)|refine plE [] c2 ?_ ?_;focus (push_cast [O,U,hmm];done)|refine plE [] c3 ?_ ?_;focus (push_cast [O,U,hmm];done)|refine plE [] c4 ?_ ?_;focus (push_cast [O,U,hmm];done)|refine pC ?_|refine pQC ?_|refine pU ?_|refine pif ?_ ?_<;>intro h<;>try exact pN h)<;>push_cast [O,U,hmm])
   (refine retK_of [] ?_;push_cast [O,U])
  | true =>
   rw [h1] at c1
   rw [h2] at c2
   rw [h3] at c3
   rw [h4] at c4
   rw [h1,h2,h3,h4] at hA
   simp only [Bool.true_and,decide_eq_false_iff_not] at hA
   have hA2:(16:Int) < (m.aliases.length:Int):=by omega
   repeat' ((first|refine plE [] c1 ?_ ?_;focus (push_cast [O,U,hmm,hA2];done)|refine plE [] c2 ?_ ?_;focus (push_cast [O,U,hmm,hA2];done)|refine plE [] c3 ?_ ?_;focus (push_cast [O,U,hmm,hA2];done)|refine plE [] c4 ?_ ?_;focus (push_cast [O,U,hmm,hA2];done)|refine pC ?_|refine pQC ?_|refine pU ?_|refine pif ?_ ?_<;>intro h<;>try exact pN h)<;>push_cast [O,U,hmm,hA2])
   (refine retK_of [] ?_;push_cast [O,U])
 | true =>
  simp only [Bool.and_eq_true,decide_eq_true_eq] at hA
  obtain ⟨⟨⟨⟨h1,h2⟩,h3⟩,h4⟩,h5⟩:=hA
  rw [h1] at c1
  rw [h2] at c2
  rw [h3] at c3
  rw [h4] at c4
  repeat' ((first|refine plE [] c1 ?_ ?_;focus (push_cast [O,U,hmm];done)|refine plE [] c2 ?_ ?_;focus (push_cast [O,U,hmm];done)|refine plE [] c3 ?_ ?_;focus (push_cast [O,U,hmm];done)|refine plE [] c4 ?_ ?_;focus (push_cast [O,U,hmm];done)|refine pC ?_|refine pQC ?_|refine pU ?_|refine pif ?_ ?_<;>intro h<;>try exact pN h)<;>push_cast [O,U,hmm])
  (apply pwp_loop3 (α:=Nat) 7 [74] (fun k=>[(5,.c (.v (.int .i64 k)))]) (fun k=>[]) (fun k=>k≤m.aliases.length∧(m.aliases.take k).any (fun p=>decide (globM p≠0))=false) (fun k=>m.aliases.length - k) (0);(focus ((try push_cast [O,U]);rfl));(focus exact ⟨Nat.zero_le _,rfl⟩);(focus ((refine weak_fg ?_;try push_cast [O,U]);(try (rfl)))))
  rintro k ⟨hk,hpre⟩
  push_cast [O,U]
  by_cases hkl:k < m.aliases.length
  ·have hc:=gcheck_pure (m.aliases.getD k default) (hmf.als _ (by rw [getD_lt _ hkl];exact List.getElem_mem _))
   obtain ⟨v,hv⟩:∃ v,globM (m.aliases.getD k default)=v:=⟨_,rfl⟩
   rw [hv] at hc
   by_cases h0:v=0
   ·have h0':(v == 0)=true:=by rw [h0];rfl
    subst h0
    repeat' ((first|refine plE [] hc ?_ ?_|refine pC ?_|refine pQC ?_|refine pU ?_|refine pif ?_ ?_<;>intro h<;>try exact pN h)<;>push_cast [O,U])
    exact ⟨k+1,⟨by omega,anyAt_go hkl hpre (by rw [hv];rfl)⟩,by (refine weak_fg ?_;push_cast [O,U]),by omega⟩
   ·have hany:=anyAt_all (p:=fun p=>decide (globM p≠0)) hkl (by simp only [hv];exact decide_eq_true h0)
    have hb:=hno2 (by rw [hany];rfl)
    rw [hb]
    repeat' ((first|refine plE [] hc ?_ ?_|refine pC ?_|refine pQC ?_|refine pU ?_|refine pif ?_ ?_<;>intro h<;>try exact pN h)<;>push_cast [O,U,h0])
    (refine retK_of [] ?_;push_cast [O,U])
  rw [List.take_of_length_le (by omega)] at hpre
  have hst2:(modOf (l.take i) m.name).isNone=true → newOk l (i+1)=true:=fun h=>hst h (by rw [hpre];rfl)
  repeat' ((first|refine pC ?_|refine pQC ?_|refine pU ?_|refine pif ?_ ?_<;>intro h<;>try exact pN h)<;>push_cast [O,U])
  (apply pwp_loop3 (α:=Nat) 7 [74] (fun j=>[(6,.c (.v (.int .i64 j)))]) (fun j=>[]) (fun j=>j≤i∧∀ x ∈ (l.take j),x.name≠m.name) (fun j=>i - j) (0);(focus ((try push_cast [O,U]);rfl));(focus exact ⟨Nat.zero_le _,fun x hx=>by simp at hx⟩);(focus ((refine weak_fg ?_;try push_cast [O,U]);(try (rfl)))))
  rintro j ⟨hj,hpre2⟩
  push_cast [O,U]
  by_cases hji:j < i
  ·have hjl:j < l.length:=by omega
   have htk:l.take (j+1)=l.take j++[l.getD j default]:=by rw [List.take_succ_eq_append_getElem hjl,getD_lt l hjl]
   have hin:l.getD j default ∈ l.take i:=by
    rw [getD_lt l hjl]
    exact List.mem_take_iff_getElem.2 ⟨j,by omega,rfl⟩
   obtain ⟨x,hx⟩:∃ x,l.getD j default=x:=⟨_,rfl⟩
   rw [hx] at htk hin
   by_cases hn:x.name=m.name
   ·have hb:=hno3 (modOf_some hin hn)
    rw [hb]
    repeat' ((first|(refine pwp_cut 7 [74] ?_;apply pwp_drawn_to;(focus kernel_rfl);(focus (simp only [List.length_cons,List.length_nil,Nat.reduceAdd];(repeat' first|((first|refine pah 0 ?_|refine pah 1 ?_|refine pah 2 ?_|refine pah 3 ?_|refine pah 5 ?_|refine pah 7 ?_);push_cast [O,U,  hx,hn])|(refine pad ?_;first|with_reducible exact weak_cutS 7 [74] _|(refine weak_fg ?_;push_cast [O,U,  hx,hn]))|((first|refine pas [4] ?_|refine pas [6] ?_);push_cast [O,U,  hx,hn])|((first|refine pas [4,6] ?_);push_cast [O,U,  hx,hn];refine ⟨?_,?_⟩));done));push_cast [O,U,  hx,hn])|refine pC ?_|refine pQC ?_|refine pU ?_|refine pif ?_ ?_<;>intro h<;>try exact pN h)<;>push_cast [O,U,hx,hn])
    (refine retK_of [] ?_;push_cast [O,U])
   ·have hn':=eq_false hn
    repeat' ((first|(refine pwp_cut 7 [74] ?_;apply pwp_drawn_to;(focus kernel_rfl);(focus (simp only [List.length_cons,List.length_nil,Nat.reduceAdd];(repeat' first|((first|refine pah 0 ?_|refine pah 1 ?_|refine pah 2 ?_|refine pah 3 ?_|refine pah 5 ?_|refine pah 7 ?_);push_cast [O,U,  hx,hn'])|(refine pad ?_;first|with_reducible exact weak_cutS 7 [74] _|(refine weak_fg ?_;push_cast [O,U,  hx,hn']))|((first|refine pas [4] ?_|refine pas [6] ?_);push_cast [O,U,  hx,hn'])|((first|refine pas [4,6] ?_);push_cast [O,U,  hx,hn'];refine ⟨?_,?_⟩));done));push_cast [O,U,  hx,hn'])|refine pC ?_|refine pQC ?_|refine pU ?_|refine pif ?_ ?_<;>intro h<;>try exact pN h)<;>push_cast [O,U,hx,hn'])
    exact ⟨j+1,⟨by omega,fun y hy=>by
     rw [htk] at hy
     rcases List.mem_append.1 hy with hy|hy
     ·exact hpre2 y hy
     ·rw [List.mem_singleton.1 hy];exact hn⟩,by (refine weak_fg ?_;push_cast [O,U]),by omega⟩
  have hji2:j=i:=by omega
  subst hji2
  have hnx:=hst2 (modOf_none hpre2)
  repeat' ((first|refine pC ?_|refine pQC ?_|refine pU ?_|refine pif ?_ ?_<;>intro h<;>try exact pN h)<;>push_cast [O,U])
  exact ⟨j+1,⟨by omega,hnx⟩,by (refine weak_fg ?_;push_cast [O,U]),by omega⟩
theorem rnew_pure (l:List Mod) (hl:l.length≤9223372036854775807) (hm:∀ m ∈ l,ModFit m):PCalls Tryz.prog 17 [.c (.sl 6 (l.map Mod.d))] [] fun r os=>r = .two (.agg (Ker.re ⟨[],if newB l then l else [],[],[],0⟩)) (.c (.v (.int .i64 (if newB l then 0 else 54))))∧os=[]:=by
 have hc:=rmodules_pure l hl hm
 refine pcalls_of Tryz.func17 rfl (by simp [Tryz.ntmps17]) ?_
 rw [Tryz.ntmps17,Tryz.results17]
 push_cast [O,U]
 cases hb:newB l with
 | true =>
  rw [hb] at hc
  repeat' ((first|refine plE [] hc ?_ ?_|refine pG ?_|refine pQ ?_|refine pU ?_|refine pif ?_ ?_<;>intro h<;>try exact pN h)<;>push_cast [O,U])
  (refine retK_of [] ?_;push_cast [O,U])
  done
 | false =>
  rw [hb] at hc
  repeat' ((first|refine plE [] hc ?_ ?_|refine pG ?_|refine pQ ?_|refine pU ?_|refine pif ?_ ?_<;>intro h<;>try exact pN h)<;>push_cast [O,U])
  (refine retK_of [] ?_;push_cast [O,U])
  done
set_option maxRecDepth 20000
def SetIn (l:List Atr) (n v:ByteArray) (o:List Atr):Prop:=∀ a ∈ o,a ∈ l∨a=⟨n,v⟩
theorem SetIn.nil {l:List Atr} {n v:ByteArray}:SetIn l n v []:=fun a ha=>by simp at ha
theorem SetIn.snoc {l:List Atr} {n v:ByteArray} {o:List Atr} (h:SetIn l n v o) {x:Atr} (hx:x ∈ l∨x=⟨n,v⟩):SetIn l n v (o++[x]):=fun a ha=>by
 rcases List.mem_append.1 ha with ha|ha
 ·exact h a ha
 ·rw [List.mem_singleton] at ha;rw [ha];exact hx
theorem getD_mem {α:Type} [Inhabited α] {l:List α} {k:Nat} (h:k < l.length):l.getD k default ∈ l:=by rw [getD_lt l h];exact List.getElem_mem _
set_option maxHeartbeats 2000000 in
theorem rset_ex (l:List Atr) (n v:ByteArray) (hb:l.length≤1000000) :
  PCalls Tryz.prog 85 [.c (.sl 2 (l.map Atr.d)),.c (.v (.string n)),.c (.v (.string v))] [] fun r os=>∃ o:List Atr,(o.length≤l.length+1∧SetIn l n v o)∧r = .c (.sl 2 (o.map Atr.d))∧os=[]:=by
 refine pcalls_of Tryz.func85 rfl (by simp [Tryz.ntmps85]) ?_
 rw [Tryz.ntmps85,Tryz.results85]
 push_cast [O,U]
 have cB:CutB 10 []:=trivial
 repeat' ((first|refine pC ?_|refine pQC ?_|refine pU ?_|refine pif ?_ ?_<;>intro h<;>try exact pN h)<;>push_cast [O,U])
 refine pwp_weak (weak_adopt 7 97 2 (by omega) (by push_cast [O,U])) ?_
 push_cast [O,U]
 (apply pwp_loop3 (α:=Nat × List Atr × Bool) 10 [] (fun x=>[(9,.c (.v (.int .i64 x.1))),(8,.c (.v (.bool x.2.2))),(7,.c (.own 0 x.2.1.length))]) (fun x=>[(0,.arr 97 2 (x.2.1.map Atr.d))]) (fun x=>x.1≤l.length∧(x.2.2=false → x.2.1.length≤x.1)∧x.2.1.length≤x.1+1∧SetIn l n v x.2.1) (fun x=>l.length - x.1) ((0,[],decide (v=⟨#[]⟩)));(focus ((try push_cast [O,U]);rfl));(focus exact ⟨Nat.zero_le _,fun _=>Nat.le_refl _,Nat.zero_le _,SetIn.nil⟩);(focus ((refine weak_fg ?_;try push_cast [O,U]))))
 rintro ⟨k,o,done⟩ ⟨hk,h1,h2,h3⟩
 simp only at hk h1 h2 h3 ⊢
 push_cast [O,U]
 by_cases hlt:k < l.length
 ·have hm:=getD_mem hlt
  cases done
  ·have h1':=h1 rfl
   have hn1:(o++[(⟨n,v⟩:Atr)]).map Atr.d=o.map Atr.d++[[.v (.string n),.v (.string v)]]:=by simp [Atr.d]
   cases hc:bless (l.getD k default).name n
   ·by_cases hn:(l.getD k default).name=n
    ·rw [hn] at hc
     repeat' ((first|refine pC ?_|refine pQC ?_|refine pU ?_|refine pif ?_ ?_<;>intro h<;>try exact pN h)<;>push_cast [O,U,hc,hn])
     exact ⟨(k+1,o++[⟨n,v⟩],true),⟨by simp only;omega,by simp,by simp only [List.length_append,List.length_singleton];omega,h3.snoc (.inr rfl)⟩,by (refine weak_fg ?_;push_cast [O,U]),by simp only;omega⟩
    ·repeat' ((first|refine pC ?_|refine pQC ?_|refine pU ?_|refine pif ?_ ?_<;>intro h<;>try exact pN h)<;>push_cast [O,U,hc,hn])
     exact ⟨(k+1,o++[⟨n,v⟩]++[l.getD k default],true),⟨by simp only;omega,by simp,by simp only [List.length_append,List.length_singleton];omega,(h3.snoc (.inr rfl)).snoc (.inl hm)⟩,by (refine weak_fg ?_;push_cast [O,U]),by simp only;omega⟩
   ·by_cases hn:(l.getD k default).name=n
    ·rw [hn] at hc
     exact absurd (bless_ne hc) (fun h=>h rfl)
    ·repeat' ((first|refine pC ?_|refine pQC ?_|refine pU ?_|refine pif ?_ ?_<;>intro h<;>try exact pN h)<;>push_cast [O,U,hc,hn])
     exact ⟨(k+1,o++[l.getD k default],false),⟨by simp only;omega,fun _=>by simp only [List.length_append,List.length_singleton];omega,by simp only [List.length_append,List.length_singleton];omega,h3.snoc (.inl hm)⟩,by (refine weak_fg ?_;push_cast [O,U]),by simp only;omega⟩
  ·by_cases hn:(l.getD k default).name=n
   ·repeat' ((first|refine pC ?_|refine pQC ?_|refine pU ?_|refine pif ?_ ?_<;>intro h<;>try exact pN h)<;>push_cast [O,U,hn])
    exact ⟨(k+1,o,true),⟨by simp only;omega,by simp,by simp only;omega,h3⟩,by (refine weak_fg ?_;push_cast [O,U]),by simp only;omega⟩
   ·repeat' ((first|refine pC ?_|refine pQC ?_|refine pU ?_|refine pif ?_ ?_<;>intro h<;>try exact pN h)<;>push_cast [O,U,hn])
    exact ⟨(k+1,o++[l.getD k default],true),⟨by simp only;omega,by simp,by simp only [List.length_append,List.length_singleton];omega,h3.snoc (.inl hm)⟩,by (refine weak_fg ?_;push_cast [O,U]),by simp only;omega⟩
 ·have hk2:k=l.length:=by omega
  cases done
  ·have h1':=h1 rfl
   repeat' ((first|refine pC ?_|refine pQC ?_|refine pU ?_|refine pif ?_ ?_<;>intro h<;>try exact pN h)<;>push_cast [O,U])
   (refine retK_of [] ?_;push_cast [O,U])
   exact ⟨_,_,leP_refl _,leOs_refl _,o++[⟨n,v⟩],⟨by simp only [List.length_append,List.length_singleton];omega,h3.snoc (.inr rfl)⟩,by push_cast [O,U],rfl⟩
  ·repeat' ((first|refine pC ?_|refine pQC ?_|refine pU ?_|refine pif ?_ ?_<;>intro h<;>try exact pN h)<;>push_cast [O,U])
   (refine retK_of [] ?_;push_cast [O,U])
   exact ⟨_,_,leP_refl _,leOs_refl _,o,⟨by omega,h3⟩,by push_cast [O,U],rfl⟩
def ShortA (o:List Atr):Prop:=∀ a ∈ o,a.name.size≤100∧a.value.size≤100
theorem ShortA.nil:ShortA []:=fun a ha=>by simp at ha
theorem ShortA.set {l o:List Atr} {n v:ByteArray} (hl:ShortA l) (ho:SetIn l n v o) (hn:n.size≤100) (hv:v.size≤100):ShortA o:=fun a ha=>by
 rcases ho a ha with h|h
 ·exact hl a h
 ·rw [h];exact ⟨hn,hv⟩
set_option maxHeartbeats 2000000 in
theorem wattrs_ex (L:List Int) (k:Nat) (hk:k < 100000) (hL:∀ x ∈ L,-9223372036854775808≤x∧x≤9223372036854775807) (hLl:L.length≤9223372036854775807) :
  PCalls Tryz.prog 84 [.c (.ptr 0 0)] [tape L k] fun r os=>∃ (o:List Atr) (k':Nat),(o.length≤3∧ShortA o)∧k'≤k+7∧r = .c (.sl 2 (o.map Atr.d))∧os=[tape L k']:=by
 refine pcalls_of Tryz.func84 rfl (by simp [Tryz.ntmps84]) ?_
 rw [Tryz.ntmps84,Tryz.results84]
 push_cast [O,U]
 have cB:CutB 5 []:=trivial
 repeat' ((first|(refine plc [0] (next_ex L k 4 (by omega) (by decide) (by decide) hL hLl) ?_ ?_;push_cast [O,U];rintro r os ⟨v,⟨va,vb⟩,rfl,rfl⟩)|refine pC ?_|refine pQC ?_|refine pU ?_|refine pif ?_ ?_<;>intro h<;>try exact pN h)<;>push_cast [O,U])
 obtain ⟨m,rfl⟩:∃ m:Nat,v=(m:Int):=⟨v.toNat,by omega⟩
 (apply pwp_loop3 (α:=Nat × List Atr × Nat) 5 [] (fun x=>[(4,.c (.v (.int .i64 x.1))),(3,.c (.sl 2 (x.2.1.map Atr.d)))]) (fun x=>[(0,tape L x.2.2)]) (fun x=>x.2.1.length+x.1≤3∧ShortA x.2.1∧x.2.2+2 * x.1≤k+7) (fun x=>x.1) ((m,[],k+1));(focus ((try push_cast [O,U]);rfl));(focus exact ⟨by simp only [List.length_nil];omega,ShortA.nil,by simp only;omega⟩);(focus ((refine weak_fg ?_;try push_cast [O,U]))))
 rintro ⟨j,o,q⟩ ⟨h1,h2,h3⟩
 simp only at h1 h2 h3
 push_cast [O,U]
 by_cases hlt:0 < j
 case neg =>
  have hj:j=0:=by omega
  subst hj
  repeat' ((first|refine pC ?_|refine pQC ?_|refine pU ?_|refine pif ?_ ?_<;>intro h<;>try exact pN h)<;>push_cast [O,U])
  (refine retK_of [0] ?_;push_cast [O,U])
  exact ⟨_,_,leP_refl _,leOs_refl _,o,q,⟨by omega,h2⟩,by omega,rfl,rfl⟩
 have h4:(0:Int) < (j:Int):=by omega
 have h5:(j:Int) - 1=((j - 1:Nat):Int):=by omega
 have o1:=one_ex L q [⟨#[115,105,122,101]⟩,⟨#[118,101,110,100,111,114]⟩,⟨#[97,100,100,114,101,115,115]⟩,⟨#[105,110,100,101,120]⟩,⟨#[115,108,111,116]⟩] (by omega) (by decide) (by decide) hL hLl
 have o2:=one_ex L (q+1) [⟨#[49]⟩,⟨#[50]⟩,⟨#[97,99,109,101]⟩,⟨#[97,97,58,98,98]⟩] (by omega) (by decide) (by decide) hL hLl
 repeat' ((first|(refine plc [0] (o1) ?_ ?_;push_cast [O,U,h4];rintro r os ⟨n,nm,rfl,rfl⟩)|(refine plc [0] (o2) ?_ ?_;push_cast [O,U,h4];rintro r os ⟨v,vm,rfl,rfl⟩)|(refine plc [] (rset_ex o n v (by omega)) ?_ ?_;push_cast [O,U,h4];rintro r os ⟨o',⟨s1,s2⟩,rfl,rfl⟩)|refine pC ?_|refine pQC ?_|refine pU ?_|refine pif ?_ ?_<;>intro h<;>try exact pN h)<;>push_cast [O,U,h4])
 exact ⟨(j - 1,o',q+1+1),⟨by simp only;omega,h2.set s2 (mem_fit (by decide) nm) (mem_fit (by decide) vm),by simp only;omega⟩,by rw [← h5];(refine weak_fg ?_;push_cast [O,U]),by simp only;omega⟩
theorem wcontents_pure:PCalls Tryz.prog 51 [] [] fun r os=>(∃ l:List ByteArray,l.length=9∧(∀ s ∈ l,s.size≤100)∧r = .c (.sl 1 (l.map strD)))∧os=[]:=by
 refine pcalls_of Tryz.func51 rfl (by simp [Tryz.ntmps51]) ?_
 rw [Tryz.ntmps51,Tryz.results51]
 push_cast [O,U]
 repeat' ((first|refine pG ?_|refine pQ ?_|refine pU ?_|refine pif ?_ ?_<;>intro h<;>try exact pN h)<;>push_cast [O,U])
 (refine retK_of [] ?_;push_cast [O,U])
 have e:∀ (a0 a1 a2 a3 a4 a5 a6 a7 a8:ByteArray),([a0,a1,a2,a3,a4,a5,a6,a7,a8].all fun s=>decide (s.size≤100))=true →
   ∃ l:List ByteArray,l.length=9∧(∀ s ∈ l,s.size≤100)∧PV.c (.sl 1 [[D.v (.string a0)],[D.v (.string a1)],[D.v (.string a2)],[D.v (.string a3)],[D.v (.string a4)],[D.v (.string a5)],[D.v (.string a6)],[D.v (.string a7)],[D.v (.string a8)]]) = .c (.sl 1 (l.map strD)) :=
  fun a0 a1 a2 a3 a4 a5 a6 a7 a8 h=>⟨[a0,a1,a2,a3,a4,a5,a6,a7,a8],rfl,fun s hs=>mem_fit h hs,rfl⟩
 exact ⟨_,_,leP_refl _,leOs_refl _,e _ _ _ _ _ _ _ _ _ (by decide),rfl⟩
end Go.Proofs.YtmbbkfffcflfcaaGreatDoor
