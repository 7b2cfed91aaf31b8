/- What the program computes, and the plain laws of it, part 35. -/
import Derived.WideKeyEntry
import Derived.Test.YthhfpcbpiphfiaaGreatDoorR34
namespace Go.Proofs.YthhfpcbpiphfiaaGreatDoor
attribute [local irreducible] PL QL PWPr PCalls Weak RetK Kontr PA
open Go.RowKit
open IntWalk renaming iteOmega → iO, toNatUp → tN
set_option linter.unusedVariables false
set_option linter.unusedSimpArgs false
set_option maxRecDepth 20000
theorem same18_pure (a b:List ByteArray) (ha:a.length≤1000000000) (hb:b.length≤1000000000) :
  PCalls Tryz.prog 11 [.c (.sl 1 (a.map strD)),.c (.sl 1 (b.map strD))] [] fun r os=>r = .c (.v (.bool (decide (a=b))))∧os=[]:=by
 refine pcalls_of Tryz.func11 rfl (by simp [Tryz.ntmps11]) ?_
 rw [Tryz.ntmps11,Tryz.results11]
 push_cast [iO,tN]
 by_cases hl:a.length=b.length
 ·repeat' (first|((first|refine pG ?_|refine pQ ?_|refine pU ?_);push_cast [iO,tN])|(refine pif (fun h=>?_) (fun h=>?_)<;>first|exact pN h|push_cast [iO,tN]))
  refine pwp_loop2 (α:=Nat) (fun k=>k≤a.length∧a.take k=b.take k) (fun k=>⟨[(5,.c (.v (.int .i64 k))),(0,.c (.sl 1 (a.map strD))),(1,.c (.sl 1 (b.map strD)))],[]⟩) (fun k=>a.length - k) 0 ⟨by omega,by simp⟩ (by (refine weak_fg ?_;push_cast [iO,tN])) ?_
  rintro k ⟨hk,hpre⟩
  by_cases hlt:k < a.length
  ·have hlt':k < b.length:=by omega
   have e1:=getD_lt a hlt
   have e2:=getD_lt b hlt'
   repeat' (first|((first|refine pG ?_|refine pQ ?_|refine pU ?_);push_cast [iO,tN])|(refine pif (fun h=>?_) (fun h=>?_)<;>first|exact pN h|push_cast [iO,tN]))
   ·(refine retK_of [] ?_;push_cast [iO,tN])
    rw [e1,e2] at h
    have:¬ a=b:=fun e=>by subst e;simp at h
    simp [this]
   ·refine ⟨k+1,⟨by omega,?_⟩,by (refine weak_fg ?_;push_cast [iO,tN]),by omega⟩
    rw [e1,e2] at h
    have h':a[k]=b[k]:=by simpa using h
    rw [List.take_succ_eq_append_getElem hlt,List.take_succ_eq_append_getElem hlt',hpre,h']
  ·rw [List.take_of_length_le (by omega),List.take_of_length_le (by omega)] at hpre
   repeat' (first|((first|refine pG ?_|refine pQ ?_|refine pU ?_);push_cast [iO,tN])|(refine pif (fun h=>?_) (fun h=>?_)<;>first|exact pN h|push_cast [iO,tN]))
   (refine retK_of [] ?_;push_cast [iO,tN])
   simp [hpre]
 ·have:¬ a=b:=fun e=>hl (by rw [e])
  repeat' (first|((first|refine pG ?_|refine pQ ?_|refine pU ?_);push_cast [iO,tN])|(refine pif (fun h=>?_) (fun h=>?_)<;>first|exact pN h|push_cast [iO,tN]))
  (refine retK_of [] ?_;push_cast [iO,tN])
  simp [this]
theorem findN_A (c:Cfg) (s:ByteArray):findN (entsC c) s=findA c s:=rfl
set_option maxHeartbeats 4000000 in
theorem afind_pure (c:Cfg) (s:ByteArray) (hc:FewA c) (hp:∀ y ∈ entsC c,y.pat.size≤1000000000) (hs:s.size≤9000000000000000000) :
  PCalls Tryz.prog 12 [.agg c.e,.c (.v (.string s))] [] fun r os=>r = .c (.sl 1 ((findA c s).map strD))∧os=[]:=by
 have hN:=new_pure c hc hp
 have hF:=find_pure (entsC c) s (entsC_len hc) hp hs
 rw [findN_A] at hF
 unfold ixOs at hF
 refine pcalls_of Tryz.func12 rfl (by simp [Tryz.ntmps12]) ?_
 rw [Tryz.ntmps12,Tryz.results12]
 push_cast [iO,tN]
 repeat' (first |  ((refine plc [] (hN) ?_ ?_;push_cast [iO,tN];rintro r os ⟨rfl,rfl⟩;push_cast [iO,tN]))|((refine plc [1,2] (hF) ?_ ?_;push_cast [iO,tN];rintro r os ⟨rfl,rfl⟩;push_cast [iO,tN]))  | ((first|refine pG ?_|refine pQ ?_|refine pU ?_);push_cast [iO,tN])|(refine pif (fun h=>?_) (fun h=>?_)<;>first|exact pN h|push_cast [iO,tN]))
 (refine retK_of [] ?_;push_cast [iO,tN])
def aliasesV (M:List Mod) (n:ByteArray):List ByteArray:=match M.find? fun m=>decide (m.name=n) with
 | some m=>m.aliases
 | none=>[]
set_option maxHeartbeats 4000000 in
theorem aliases_pure (c:Cfg) (n:ByteArray) (hc:c.modules.length≤1000000) :
  PCalls Tryz.prog 17 [.agg c.e,.c (.v (.string n))] [] fun r os=>r = .c (.sl 1 ((aliasesV c.modules n).map strD))∧os=[]:=by
 refine pcalls_of Tryz.func17 rfl (by simp [Tryz.ntmps17]) ?_
 rw [Tryz.ntmps17,Tryz.results17]
 push_cast [iO,tN]
 have cB:CutB 7 [8,9,10,11,17]:=trivial
 repeat' (first|((first|refine pC ?_|refine pQC ?_|refine pU ?_);push_cast [iO,tN])|(refine pif (fun h=>?_) (fun h=>?_)<;>first|exact pN h|push_cast [iO,tN]))
 (apply pwp_loop3 (α:=Nat) 7 [8,9,10,11,17] (fun k=>[(10,.c (.v (.int .i64 k)))]) (fun k=>[]) (fun k=>k≤c.modules.length∧aliasesV c.modules n=aliasesV (c.modules.drop k) n) (fun k=>c.modules.length - k) (0);(focus ((try push_cast [iO,tN]);rfl));(focus exact ⟨by omega,rfl⟩);(focus ((refine weak_fg ?_;try push_cast [iO,tN]))))
 rintro k ⟨hk,hpre⟩
 push_cast [iO,tN]
 by_cases hlt:k < c.modules.length
 ·have hd:c.modules.drop k=c.modules.getD k default :: c.modules.drop (k+1):=by rw [getD_lt _ hlt];exact List.drop_eq_getElem_cons hlt
  rw [hd] at hpre
  obtain ⟨m,hm⟩:∃ m,c.modules.getD k default=m:=⟨_,rfl⟩
  rw [hm] at hpre
  by_cases hn:m.name=n
  ·have hR:aliasesV c.modules n=m.aliases:=by
    rw [hpre];unfold aliasesV;rw [List.find?_cons_of_pos (by simpa using hn)]
   repeat' (first|((first|refine pC ?_|refine pQC ?_|refine pU ?_);push_cast [iO,tN,hm,hn])|(refine pif (fun h=>?_) (fun h=>?_)<;>first|exact pN h|push_cast [iO,tN,hm,hn]))
   (refine retK_of [] ?_;push_cast [iO,tN,hR])
  ·have hnx:aliasesV c.modules n=aliasesV (c.modules.drop (k+1)) n:=by
    rw [hpre];unfold aliasesV;rw [List.find?_cons_of_neg (by simpa using hn)]
   repeat' (first|((first|refine pC ?_|refine pQC ?_|refine pU ?_);push_cast [iO,tN,hm,hn])|(refine pif (fun h=>?_) (fun h=>?_)<;>first|exact pN h|push_cast [iO,tN,hm,hn]))
   exact ⟨k+1,⟨by omega,hnx⟩,by (refine weak_fg ?_;push_cast [iO,tN]),by omega⟩
 ·rw [List.drop_eq_nil_of_le (by omega)] at hpre
  have hR:aliasesV c.modules n=[]:=hpre
  repeat' (first|((first|refine pC ?_|refine pQC ?_|refine pU ?_);push_cast [iO,tN])|(refine pif (fun h=>?_) (fun h=>?_)<;>first|exact pN h|push_cast [iO,tN]))
  (refine retK_of [] ?_;push_cast [iO,tN,hR])
def lessA (a b:ByteArray):Bool:=decide (a.size < b.size) || (decide (a.size=b.size) && bless a b)
set_option maxHeartbeats 4000000 in
theorem less_pure (a b:ByteArray) (ha:a.size≤1000000000) (hb:b.size≤1000000000) :
  PCalls Tryz.prog 19 [.c (.v (.string a)),.c (.v (.string b))] [] fun r os=>r = .c (.v (.bool (lessA a b)))∧os=[]:=by
 refine pcalls_of Tryz.func19 rfl (by simp [Tryz.ntmps19]) ?_
 rw [Tryz.ntmps19,Tryz.results19]
 push_cast [iO,tN]
 unfold lessA
 by_cases h1:a.size < b.size
 ·have h1':(a.size:Int) < (b.size:Int):=by omega
  rw [decide_eq_true h1,Bool.true_or]
  repeat' (first|((first|refine pG ?_|refine pQ ?_|refine pU ?_);push_cast [iO,tN,h1'])|(refine pif (fun h=>?_) (fun h=>?_)<;>first|exact pN h|push_cast [iO,tN,h1']))
  (refine retK_of [] ?_;push_cast [iO,tN])
 ·have h1':¬ (a.size:Int) < (b.size:Int):=by omega
  rw [decide_eq_false h1,Bool.false_or]
  by_cases h2:a.size=b.size
  ·have h2':(a.size:Int)=(b.size:Int):=by omega
   rw [decide_eq_true h2,Bool.true_and]
   repeat' (first|((first|refine pG ?_|refine pQ ?_|refine pU ?_);push_cast [iO,tN,h1',h2'])|(refine pif (fun h=>?_) (fun h=>?_)<;>first|exact pN h|push_cast [iO,tN,h1',h2']))
   (refine retK_of [] ?_;push_cast [iO,tN])
  ·have h2':¬ (a.size:Int)=(b.size:Int):=by omega
   rw [decide_eq_false h2,Bool.false_and]
   repeat' (first|((first|refine pG ?_|refine pQ ?_|refine pU ?_);push_cast [iO,tN,h1',h2'])|(refine pif (fun h=>?_) (fun h=>?_)<;>first|exact pN h|push_cast [iO,tN,h1',h2']))
   (refine retK_of [] ?_;push_cast [iO,tN])
def comO (P Q:ByteArray):Option ByteArray:=if globM P=0∧globM Q=0 then (match altsM P,altsM Q with
 | some p,some q=>(commonV p q).map txtB
 | _,_=>none) else none
def comE (P Q:ByteArray):Int:=if globM P=0 then globM Q else globM P
theorem globM_some {P:ByteArray} (h:globM P=0):P.size≤256∧∃ p,altsM P=some p:=by
 unfold globM at h
 split at h
 ·cases h
 ·split at h
  ·cases h
  ·cases he:altsM P with
   | none=>rw [he] at h;cases h
   | some p=>exact ⟨by omega,p,rfl⟩
set_option maxHeartbeats 4000000 in
theorem gcommon_all (P Q:ByteArray) (hP:P.size≤9223372036854775807) (hQ:Q.size≤9223372036854775807) :
  PCalls Tryz.prog 18 [.c (.v (.string P)),.c (.v (.string Q))] [] fun r os=>r = .three (.c (.v (.string ((comO P Q).getD ⟨#[]⟩)))) (.c (.v (.bool ((comO P Q).isSome)))) (.c (.v (.int .i64 (comE P Q))))∧os=[]:=by
 by_cases h1:globM P=0
 case neg =>
  have hR:comO P Q=none:=by unfold comO;rw [if_neg fun h=>h1 h.1]
  have hE:comE P Q=globM P:=by unfold comE;rw [if_neg h1]
  have gP:=parse_pure P hP
  unfold parseR at gP
  rw [if_neg h1] at gP
  rw [hR,hE]
  refine pcalls_of Tryz.func18 rfl (by simp [Tryz.ntmps18]) ?_
  rw [Tryz.ntmps18,Tryz.results18]
  push_cast [iO,tN]
  have cB:CutB 21 [27,35,43,44,45,48,49,50,74,79,82]:=trivial
  repeat' (first|((refine plc [] (gP) ?_ ?_;push_cast [iO,tN,h1];rintro r os ⟨rfl,rfl⟩;push_cast [iO,tN,h1]))|((first|refine pC ?_|refine pQC ?_|refine pU ?_);push_cast [iO,tN,h1])|(refine pif (fun h=>?_) (fun h=>?_)<;>first|exact pN h|push_cast [iO,tN,h1]))
  (refine retK_of [] ?_;push_cast [iO,tN])
  exact ⟨rfl,rfl⟩
 obtain ⟨hs1,p,hp1⟩:=globM_some h1
 have hE:comE P Q=globM Q:=by unfold comE;rw [if_pos h1]
 by_cases h2:globM Q=0
 case neg =>
  have hR:comO P Q=none:=by unfold comO;rw [if_neg fun h=>h2 h.2]
  have gP:=parse_pure P hP
  have gQ:=parse_pure Q hQ
  unfold parseR at gP gQ
  rw [if_pos h1,h1] at gP
  rw [if_neg h2] at gQ
  rw [hR,hE]
  refine pcalls_of Tryz.func18 rfl (by simp [Tryz.ntmps18]) ?_
  rw [Tryz.ntmps18,Tryz.results18]
  push_cast [iO,tN]
  have cB:CutB 21 [27,35,43,44,45,48,49,50,74,79,82]:=trivial
  repeat' (first|((refine plc [] (gP) ?_ ?_;push_cast [iO,tN,h2];rintro r os ⟨rfl,rfl⟩;push_cast [iO,tN,h2]))|((refine plc [] (gQ) ?_ ?_;push_cast [iO,tN,h2];rintro r os ⟨rfl,rfl⟩;push_cast [iO,tN,h2]))|((first|refine pC ?_|refine pQC ?_|refine pU ?_);push_cast [iO,tN,h2])|(refine pif (fun h=>?_) (fun h=>?_)<;>first|exact pN h|push_cast [iO,tN,h2]))
  (refine retK_of [] ?_;push_cast [iO,tN])
  exact ⟨rfl,rfl⟩
 obtain ⟨hs2,q,hq1⟩:=globM_some h2
 refine (gcommon_pure P Q p q h1 h2 hp1 hq1 hs1 hs2).mono ?_
 rintro r os ⟨rfl,rfl⟩
 refine ⟨?_,rfl⟩
 rw [hE,h2]
 unfold comR comO
 rw [if_pos ⟨h1,h2⟩,hp1,hq1]
 simp only
 cases commonV p q<;>rfl
def shStep (P:ByteArray) (st:Option ByteArray) (Q:ByteArray):Option ByteArray:=match comO P Q,st with
 | none,st=>st
 | some s,none=>some s
 | some s,some b=>if lessA s b=true then some s else some b
def shRow (B:List ByteArray) (st:Option ByteArray) (P:ByteArray):Option ByteArray:=B.foldl (shStep P) st
def sharedV (A B:List ByteArray):Option ByteArray:=A.foldl (shRow B) none
theorem textF_len (p q:Alts):∀ (n:Nat) (l:List Pr),(textF p q n l).length=n
 | 0,l=>rfl
 | n+1,l=>by
  unfold textF
  simp only [List.length_cons]
  rw [textF_len p q n]
theorem txtB_size (t:List Nat):(txtB t).size=t.length:=by
 unfold txtB strOfNums
 show (List.toArray _).size=_
 simp
theorem comO_size {P Q s:ByteArray} (h:comO P Q=some s):s.size≤100000:=by
 unfold comO at h
 split at h
 ·rename_i h0
  obtain ⟨hs1,p,hp1⟩:=globM_some h0.1
  obtain ⟨hs2,q,hq1⟩:=globM_some h0.2
  rw [hp1,hq1] at h
  simp only at h
  have hp:=altsM_good hp1 hs1
  have hq:=altsM_good hq1 hs2
  unfold commonV at h
  split at h
  ·cases h
  ·rw [Option.map_some,Option.some.injEq] at h
   subst h
   rw [txtB_size,textF_len]
   have hb:=bstJ_bound hp.sm hq.sm (begJ_ok (p:=p) (q:=q) (i:=p.length) (j:=0) (Nat.le_refl _) (Nat.zero_le _) (.inl rfl))
   rw [bstJ_end] at hb
   omega
 ·cases h
theorem shStep_size {P Q:ByteArray} {st:Option ByteArray} (h:(st.getD ⟨#[]⟩).size≤100000):((shStep P st Q).getD ⟨#[]⟩).size≤100000:=by
 unfold shStep
 cases hc:comO P Q with
 | none=>exact h
 | some s =>
  cases st with
  | none=>exact comO_size hc
  | some b =>
   simp only
   split
   ·exact comO_size hc
   ·exact h
theorem shGo_size {P:ByteArray}:∀ (B:List ByteArray) (st:Option ByteArray),(st.getD ⟨#[]⟩).size≤100000 → ((B.foldl (shStep P) st).getD ⟨#[]⟩).size≤100000
 | [],st,h=>h
 | Q :: B,st,h=>by rw [List.foldl_cons];exact shGo_size B _ (shStep_size h)
theorem shAll_size {B:List ByteArray}:∀ (A:List ByteArray) (st:Option ByteArray),(st.getD ⟨#[]⟩).size≤100000 → ((A.foldl (shRow B) st).getD ⟨#[]⟩).size≤100000
 | [],st,h=>h
 | P :: A,st,h=>by rw [List.foldl_cons];exact shAll_size A _ (shGo_size B _ h)
theorem fold_next {α β:Type} [Inhabited α] (f:β → α → β) (b:β) {l:List α} {k:Nat} (hk:k < l.length):(l.take (k+1)).foldl f b=f ((l.take k).foldl f b) (l.getD k default):=by
 rw [List.take_succ_eq_append_getElem hk,List.foldl_append,getD_lt l hk]
 rfl
set_option maxHeartbeats 8000000 in
theorem shared_pure (c:Cfg) (a b:ByteArray) (hc:FewA c) (hz:∀ m ∈ c.modules,∀ x ∈ m.aliases,x.size≤1000000000) :
  PCalls Tryz.prog 10 [.agg c.e,.c (.v (.string a)),.c (.v (.string b))] [] fun r os=>r = .two (.c (.v (.string ((sharedV (aliasesV c.modules a) (aliasesV c.modules b)).getD ⟨#[]⟩)))) (.c (.v (.bool ((sharedV (aliasesV c.modules a) (aliasesV c.modules b)).isSome))))∧os=[]:=by
 have hA:=aliases_pure c a (by have:=hc.mods;omega)
 have hB:=aliases_pure c b (by have:=hc.mods;omega)
 have hal:∀ n,(aliasesV c.modules n).length≤100∧∀ x ∈ aliasesV c.modules n,x.size≤1000000000:=fun n=>by
  unfold aliasesV
  split
  ·rename_i m hm
   have hmm:=List.mem_of_find?_eq_some hm
   exact ⟨hc.als m hmm,hz m hmm⟩
  ·exact ⟨by simp,by simp⟩
 obtain ⟨hal1,hal2⟩:=hal a
 obtain ⟨hbl1,hbl2⟩:=hal b
 obtain ⟨A,hAA⟩:∃ A,aliasesV c.modules a=A:=⟨_,rfl⟩
 obtain ⟨B,hBB⟩:∃ B,aliasesV c.modules b=B:=⟨_,rfl⟩
 rw [hAA] at hA hal1 hal2 ⊢
 rw [hBB] at hB hbl1 hbl2 ⊢
 refine pcalls_of Tryz.func10 rfl (by simp [Tryz.ntmps10]) ?_
 rw [Tryz.ntmps10,Tryz.results10]
 push_cast [iO,tN]
 unfold sharedV
 have cB:CutB 17 [19,20,21,22,27,28,29,30,49]:=trivial
 repeat' (first |  ((refine plc [] (hA) ?_ ?_;push_cast [iO,tN];rintro r os ⟨rfl,rfl⟩;push_cast [iO,tN]))  | ((first|refine pC ?_|refine pQC ?_|refine pU ?_);push_cast [iO,tN])|(refine pif (fun h=>?_) (fun h=>?_)<;>first|exact pN h|push_cast [iO,tN]))
 (apply pwp_loop3 (α:=Nat) 17 [19,20,21,22,27,28,29,30,49] (fun i=>[(21,.c (.v (.int .i64 i))),(8,.c (.v (.string (((A.take i).foldl (shRow B) none).getD ⟨#[]⟩)))),(9,.c (.v (.bool (((A.take i).foldl (shRow B) none).isSome))))]) (fun i=>[]) (fun i=>i≤A.length) (fun i=>A.length - i) (0);(focus ((try push_cast [iO,tN]);rfl));(focus exact (by omega));(focus ((refine weak_fg ?_;try push_cast [iO,tN]);(try (exact ⟨rfl,rfl⟩)))))
 intro i hi
 push_cast [iO,tN]
 by_cases hlt:i < A.length
 ·have hPz:=hal2 (A.getD i default) (by rw [getD_lt A hlt];exact List.getElem_mem _)
  have hnx:=fold_next (shRow B) none hlt
  have hsz:=shAll_size (B:=B) (A.take i) none (by decide)
  obtain ⟨P,hP⟩:∃ P,A.getD i default=P:=⟨_,rfl⟩
  rw [hP] at hPz hnx
  obtain ⟨s0,hs0⟩:∃ s0,(A.take i).foldl (shRow B) none=s0:=⟨_,rfl⟩
  rw [hs0] at hnx hsz ⊢
  repeat' (first|((refine plc [] (hB) ?_ ?_;push_cast [iO,tN,hP];rintro r os ⟨rfl,rfl⟩;push_cast [iO,tN,hP]))|((first|refine pC ?_|refine pQC ?_|refine pU ?_);push_cast [iO,tN,hP])|(refine pif (fun h=>?_) (fun h=>?_)<;>first|exact pN h|push_cast [iO,tN,hP]))
  (apply pwp_loop3 (α:=Nat) 17 [19,20,21,22,27,28,29,30,49] (fun j=>[(29,.c (.v (.int .i64 j))),(8,.c (.v (.string (((B.take j).foldl (shStep P) s0).getD ⟨#[]⟩)))),(9,.c (.v (.bool (((B.take j).foldl (shStep P) s0).isSome))))]) (fun j=>[]) (fun j=>j≤B.length) (fun j=>B.length - j) (0);(focus ((try push_cast [iO,tN]);rfl));(focus exact (by omega));(focus ((refine weak_fg ?_;try push_cast [iO,tN]);(try (exact ⟨rfl,rfl⟩)))))
  intro j hj
  push_cast [iO,tN]
  by_cases hjt:j < B.length
  ·have hQz:=hbl2 (B.getD j default) (by rw [getD_lt B hjt];exact List.getElem_mem _)
   have hnx2:=fold_next (shStep P) s0 hjt
   have hsz2:=shGo_size (P:=P) (B.take j) s0 hsz
   obtain ⟨Q,hQ⟩:∃ Q,B.getD j default=Q:=⟨_,rfl⟩
   rw [hQ] at hQz hnx2
   obtain ⟨s1,hs1⟩:∃ s1,(B.take j).foldl (shStep P) s0=s1:=⟨_,rfl⟩
   rw [hs1] at hnx2 hsz2 ⊢
   have hC:=gcommon_all P Q (by omega) (by omega)
   cases ho:comO P Q with
   | none =>
    have hst:shStep P s1 Q=s1:=by unfold shStep;rw [ho]
    rw [ho] at hC
    rw [hst] at hnx2
    simp only [Option.getD_none,Option.isSome_none] at hC
    repeat' (first|((refine plc [] (hC) ?_ ?_;push_cast [iO,tN,hQ];rintro r os ⟨rfl,rfl⟩;push_cast [iO,tN,hQ]))|((first|refine pC ?_|refine pQC ?_|refine pU ?_);push_cast [iO,tN,hQ])|(refine pif (fun h=>?_) (fun h=>?_)<;>first|exact pN h|push_cast [iO,tN,hQ]))
    exact ⟨j+1,by omega,by (refine weak_fg ?_;push_cast [iO,tN,hnx2]),by omega⟩
   | some s =>
    have hos:=comO_size ho
    rw [ho] at hC
    simp only [Option.getD_some,Option.isSome_some] at hC
    cases s1 with
    | none =>
     have hst:shStep P none Q=some s:=by unfold shStep;rw [ho]
     rw [hst] at hnx2
     simp only [Option.getD_none,Option.isSome_none]
     repeat' (first|((refine plc [] (hC) ?_ ?_;push_cast [iO,tN,hQ];rintro r os ⟨rfl,rfl⟩;push_cast [iO,tN,hQ]))|((first|refine pC ?_|refine pQC ?_|refine pU ?_);push_cast [iO,tN,hQ])|(refine pif (fun h=>?_) (fun h=>?_)<;>first|exact pN h|push_cast [iO,tN,hQ]))
     exact ⟨j+1,by omega,by (refine weak_fg ?_;push_cast [iO,tN,hnx2,Option.getD_some,Option.isSome_some]),by omega⟩
    | some b0 =>
     simp only [Option.getD_some,Option.isSome_some] at hsz2 ⊢
     have hL:=less_pure s b0 (by omega) (by omega)
     cases hl:lessA s b0 with
     | true =>
      have hst:shStep P (some b0) Q=some s:=by unfold shStep;rw [ho];simp only [hl,if_true]
      rw [hst] at hnx2
      rw [hl] at hL
      repeat' (first|((refine plc [] (hC) ?_ ?_;push_cast [iO,tN,hQ];rintro r os ⟨rfl,rfl⟩;push_cast [iO,tN,hQ]))|((refine plc [] (hL) ?_ ?_;push_cast [iO,tN,hQ];rintro r os ⟨rfl,rfl⟩;push_cast [iO,tN,hQ]))|((first|refine pC ?_|refine pQC ?_|refine pU ?_);push_cast [iO,tN,hQ])|(refine pif (fun h=>?_) (fun h=>?_)<;>first|exact pN h|push_cast [iO,tN,hQ]))
      exact ⟨j+1,by omega,by (refine weak_fg ?_;push_cast [iO,tN,hnx2,Option.getD_some,Option.isSome_some]),by omega⟩
     | false =>
      have hst:shStep P (some b0) Q=some b0:=by unfold shStep;rw [ho];simp only [hl,Bool.false_eq_true,if_false]
      rw [hst] at hnx2
      rw [hl] at hL
      repeat' (first|((refine plc [] (hC) ?_ ?_;push_cast [iO,tN,hQ];rintro r os ⟨rfl,rfl⟩;push_cast [iO,tN,hQ]))|((refine plc [] (hL) ?_ ?_;push_cast [iO,tN,hQ];rintro r os ⟨rfl,rfl⟩;push_cast [iO,tN,hQ]))|((first|refine pC ?_|refine pQC ?_|refine pU ?_);push_cast [iO,tN,hQ])|(refine pif (fun h=>?_) (fun h=>?_)<;>first|exact pN h|push_cast [iO,tN,hQ]))
      exact ⟨j+1,by omega,by (refine weak_fg ?_;push_cast [iO,tN,hnx2,Option.getD_some,Option.isSome_some]),by omega⟩
  ·have hnx3:(A.take (i+1)).foldl (shRow B) none=(B.take j).foldl (shStep P) s0:=by rw [hnx,List.take_of_length_le (by omega)];rfl
   repeat' (first|((first|refine pC ?_|refine pQC ?_|refine pU ?_);push_cast [iO,tN])|(refine pif (fun h=>?_) (fun h=>?_)<;>first|exact pN h|push_cast [iO,tN]))
   exact ⟨i+1,by omega,by (refine weak_fg ?_;push_cast [iO,tN,hnx3]),by omega⟩
 ·rw [List.take_of_length_le (by omega)]
  repeat' (first|((first|refine pC ?_|refine pQC ?_|refine pU ?_);push_cast [iO,tN])|(refine pif (fun h=>?_) (fun h=>?_)<;>first|exact pN h|push_cast [iO,tN]))
  (refine retK_of [] ?_;push_cast [iO,tN])
end Go.Proofs.YthhfpcbpiphfiaaGreatDoor
namespace Go.Proofs.YthhfpcbpiphfiaaGreatDoor
open Go.RowKit
open IntWalk renaming iteOmega → iO, toNatUp → tN
set_option linter.unusedVariables false
set_option linter.unusedSimpArgs false
set_option maxRecDepth 20000
theorem k18_u1:altsM ⟨#[117,115,98,58,118,49,42]⟩=some [[litEl 117,litEl 115,litEl 98,litEl 58,litEl 118,litEl 49,starEl]]:=by
 unfold altsM
 rw [altGo,dif_neg (by decide),if_neg (by decide),if_neg (by decide),if_neg (by decide),if_neg (by decide)]
 rw [altGo,dif_neg (by decide),if_neg (by decide),if_neg (by decide),if_neg (by decide),if_neg (by decide)]
 rw [altGo,dif_neg (by decide),if_neg (by decide),if_neg (by decide),if_neg (by decide),if_neg (by decide)]
 rw [altGo,dif_neg (by decide),if_neg (by decide),if_neg (by decide),if_neg (by decide),if_neg (by decide)]
 rw [altGo,dif_neg (by decide),if_neg (by decide),if_neg (by decide),if_neg (by decide),if_neg (by decide)]
 rw [altGo,dif_neg (by decide),if_neg (by decide),if_neg (by decide),if_neg (by decide),if_neg (by decide)]
 rw [altGo,dif_neg (by decide),if_neg (by decide),if_pos (by decide)]
 rw [altGo,dif_pos (by decide)]
 rfl
theorem k18g_u1:globM ⟨#[117,115,98,58,118,49,42]⟩=0:=by
 unfold globM
 rw [if_neg (by decide),if_neg (by decide +kernel),k18_u1]
theorem k18_u2:altsM ⟨#[117,115,98,58,42]⟩=some [[litEl 117,litEl 115,litEl 98,litEl 58,starEl]]:=by
 unfold altsM
 rw [altGo,dif_neg (by decide),if_neg (by decide),if_neg (by decide),if_neg (by decide),if_neg (by decide)]
 rw [altGo,dif_neg (by decide),if_neg (by decide),if_neg (by decide),if_neg (by decide),if_neg (by decide)]
 rw [altGo,dif_neg (by decide),if_neg (by decide),if_neg (by decide),if_neg (by decide),if_neg (by decide)]
 rw [altGo,dif_neg (by decide),if_neg (by decide),if_neg (by decide),if_neg (by decide),if_neg (by decide)]
 rw [altGo,dif_neg (by decide),if_neg (by decide),if_pos (by decide)]
 rw [altGo,dif_pos (by decide)]
 rfl
theorem k18g_u2:globM ⟨#[117,115,98,58,42]⟩=0:=by
 unfold globM
 rw [if_neg (by decide),if_neg (by decide +kernel),k18_u2]
theorem k18_pc:altsM ⟨#[112,99,105,58,42]⟩=some [[litEl 112,litEl 99,litEl 105,litEl 58,starEl]]:=by
 unfold altsM
 rw [altGo,dif_neg (by decide),if_neg (by decide),if_neg (by decide),if_neg (by decide),if_neg (by decide)]
 rw [altGo,dif_neg (by decide),if_neg (by decide),if_neg (by decide),if_neg (by decide),if_neg (by decide)]
 rw [altGo,dif_neg (by decide),if_neg (by decide),if_neg (by decide),if_neg (by decide),if_neg (by decide)]
 rw [altGo,dif_neg (by decide),if_neg (by decide),if_neg (by decide),if_neg (by decide),if_neg (by decide)]
 rw [altGo,dif_neg (by decide),if_neg (by decide),if_pos (by decide)]
 rw [altGo,dif_pos (by decide)]
 rfl
theorem k18g_pc:globM ⟨#[112,99,105,58,42]⟩=0:=by
 unfold globM
 rw [if_neg (by decide),if_neg (by decide +kernel),k18_pc]
theorem k18m1:matchM ⟨#[117,115,98,58,118,49,42]⟩ ⟨#[117,115,98,58,118,49]⟩=true:=by
 unfold matchM
 rw [k18g_u1,k18_u1]
 simp only
 rw [show ([[litEl 117,litEl 115,litEl 98,litEl 58,litEl 118,litEl 49,starEl]].any fun x=>mat x (⟨#[117,115,98,58,118,49]⟩:ByteArray).data.toList)=true from by decide +kernel,show ((⟨#[117,115,98,58,118,49]⟩:ByteArray).data.toList.all textB)=true from by decide +kernel]
 rfl
theorem k18m2:matchM ⟨#[112,99,105,58,42]⟩ ⟨#[117,115,98,58,118,49]⟩=false:=by
 unfold matchM
 rw [k18g_pc,k18_pc]
 simp only
 rw [show ([[litEl 112,litEl 99,litEl 105,litEl 58,starEl]].any fun x=>mat x (⟨#[117,115,98,58,118,49]⟩:ByteArray).data.toList)=false from by decide +kernel,Bool.and_false]
theorem k18m3:matchM ⟨#[117,115,98,58,118,49,42]⟩ ⟨#[112,99,105,58,120]⟩=false:=by
 unfold matchM
 rw [k18g_u1,k18_u1]
 simp only
 rw [show ([[litEl 117,litEl 115,litEl 98,litEl 58,litEl 118,litEl 49,starEl]].any fun x=>mat x (⟨#[112,99,105,58,120]⟩:ByteArray).data.toList)=false from by decide +kernel,Bool.and_false]
theorem k18m4:matchM ⟨#[112,99,105,58,42]⟩ ⟨#[112,99,105,58,120]⟩=true:=by
 unfold matchM
 rw [k18g_pc,k18_pc]
 simp only
 rw [show ([[litEl 112,litEl 99,litEl 105,litEl 58,starEl]].any fun x=>mat x (⟨#[112,99,105,58,120]⟩:ByteArray).data.toList)=true from by decide +kernel,show ((⟨#[112,99,105,58,120]⟩:ByteArray).data.toList.all textB)=true from by decide +kernel]
 rfl
def k18M:List Mod:=[⟨⟨#[97]⟩,[⟨#[117,115,98,58,118,49,42]⟩],[],[],[],false⟩,⟨⟨#[98]⟩,[⟨#[117,115,98,58,42]⟩],[],[],[],false⟩,⟨⟨#[99]⟩,[],[],[],[],false⟩]
def k18C:Cfg:=⟨k18M,[⟨#[98]⟩],[],[],[⟨⟨#[112,99,105,58,42]⟩,⟨#[99]⟩⟩]⟩
theorem k18_com:commonV [[litEl 117,litEl 115,litEl 98,litEl 58,litEl 118,litEl 49,starEl]] [[litEl 117,litEl 115,litEl 98,litEl 58,starEl]]=some [117,115,98,58,118,49]:=by decide +kernel
theorem k18_comO:comO ⟨#[117,115,98,58,118,49,42]⟩ ⟨#[117,115,98,58,42]⟩=some ⟨#[117,115,98,58,118,49]⟩:=by
 unfold comO
 rw [if_pos ⟨k18g_u1,k18g_u2⟩,k18_u1,k18_u2]
 simp only
 rw [k18_com]
 rfl
theorem k18_ab:sharedV (aliasesV k18M ⟨#[97]⟩) (aliasesV k18M ⟨#[98]⟩)=some ⟨#[117,115,98,58,118,49]⟩:=by
 rw [show aliasesV k18M ⟨#[97]⟩=[⟨#[117,115,98,58,118,49,42]⟩] from by decide +kernel,show aliasesV k18M ⟨#[98]⟩=[⟨#[117,115,98,58,42]⟩] from by decide +kernel]
 unfold sharedV shRow shStep
 simp only [List.foldl_cons,List.foldl_nil,k18_comO]
theorem k18_ac:sharedV (aliasesV k18M ⟨#[97]⟩) (aliasesV k18M ⟨#[99]⟩)=none:=by
 rw [show aliasesV k18M ⟨#[97]⟩=[⟨#[117,115,98,58,118,49,42]⟩] from by decide +kernel,show aliasesV k18M ⟨#[99]⟩=[] from by decide +kernel]
 rfl
theorem k18_f1:findA k18C ⟨#[117,115,98,58,118,49]⟩=[⟨#[97]⟩]:=by
 obtain ⟨h1,h2⟩:=findA_spec k18C ⟨#[117,115,98,58,118,49]⟩
 refine asc_ext h1 (by simp [asc]) fun x=>?_
 rw [h2]
 constructor
 ·rintro ⟨m,hm,hf,rfl⟩
  simp only [k18C,k18M,List.mem_cons,List.not_mem_nil,or_false] at hm
  rcases hm with rfl|rfl|rfl
  ·simp
  ·exfalso
   unfold foundR at hf
   rw [show inM (⟨⟨#[98]⟩,[⟨#[117,115,98,58,42]⟩],[],[],[],false⟩:Mod).name k18C.blocked=true from by decide +kernel] at hf
   simp [k18C,k18m2] at hf
  ·exfalso
   unfold foundR matsA at hf
   simp [k18C,k18m2] at hf
 ·intro hx
  rw [List.mem_singleton] at hx
  subst hx
  refine ⟨⟨⟨#[97]⟩,[⟨#[117,115,98,58,118,49,42]⟩],[],[],[],false⟩,by simp [k18C,k18M],?_,rfl⟩
  unfold foundR matsA
  simp only [List.any_cons,List.any_nil,k18m1,k18C]
  decide +kernel
theorem k18_f2:findA k18C ⟨#[112,99,105,58,120]⟩=[⟨#[99]⟩]:=by
 obtain ⟨h1,h2⟩:=findA_spec k18C ⟨#[112,99,105,58,120]⟩
 refine asc_ext h1 (by simp [asc]) fun x=>?_
 rw [h2]
 constructor
 ·rintro ⟨m,hm,hf,rfl⟩
  simp only [k18C,k18M,List.mem_cons,List.not_mem_nil,or_false] at hm
  rcases hm with rfl|rfl|rfl
  ·exfalso
   unfold foundR matsA at hf
   simp [k18C,k18m3] at hf
  ·exfalso
   unfold foundR at hf
   rw [show inM (⟨⟨#[98]⟩,[⟨#[117,115,98,58,42]⟩],[],[],[],false⟩:Mod).name k18C.blocked=true from by decide +kernel] at hf
   simp [k18C] at hf
  ·simp
 ·intro hx
  rw [List.mem_singleton] at hx
  subst hx
  refine ⟨⟨⟨#[99]⟩,[],[],[],[],false⟩,by simp [k18C,k18M],?_,rfl⟩
  unfold foundR matsA
  simp only [List.any_cons,List.any_nil,k18m4,k18C]
  decide +kernel
theorem k18_f3:findA k18C ⟨#[]⟩=[]:=by unfold findA;rw [if_pos rfl]
theorem k18_few:FewA k18C:=⟨by decide,by decide,by decide,by decide⟩
theorem k18_pat:∀ y ∈ entsC k18C,y.pat.size≤1000000000:=by
 have:∀ y ∈ entsC k18C,y.pat.size≤10:=by decide +kernel
 intro y hy
 have:=this y hy
 omega
theorem k18_als:∀ m ∈ k18M,∀ x ∈ m.aliases,x.size≤1000000000:=by
 have:∀ m ∈ k18M,∀ x ∈ m.aliases,x.size≤10:=by decide +kernel
 intro m hm x hx
 have:=this m hm x hx
 omega
def leC:E → E → Prop
 | .full sz l,.sl sz' l'=>sz=sz'∧leRows l l'
 | .v x,.v y=>x=y
 | _,_=>False
def leCs:List E → List E → Prop
 | [],[]=>True
 | a :: r,b :: r'=>leC a b∧leCs r r'
 | _,_=>False
attribute [push_cast] leC leCs
theorem leC_ok {w:World} {Γ:G} {a b:E} {y:Value} (h:leC a b) (hr:RE w Γ a y):RE w Γ b y:=by
 unfold leC at h
 split at h
 ·obtain ⟨rfl,h⟩:=h
  obtain ⟨h2,_⟩:=hr
  obtain ⟨A,c,xs,h3,h4,h5,h6,h7⟩:=rd_sl.1 h2
  show RD w Γ.I (.sl _ _) _
  rw [rd_sl,h3]
  have hl:=leRows_length h
  exact ⟨A,c,xs,by rw [hl],by omega,by rw [← hl];exact h5,leRows_mem h h6,leRows_ok h h7⟩
 ·subst h;exact hr
 ·exact h.elim
theorem leCs_ok {w:World} {Γ:G}:∀ {a b:List E} {ys:List Value},leCs a b → All2 (RE w Γ) a ys → All2 (RE w Γ) b ys
 | [],[],_,_,h=>h
 | _ :: _,_ :: _,[],_,h=>h.elim
 | _ :: _,_ :: _,_ :: _,h,hr=>⟨leC_ok h.1 hr.1,leCs_ok h.2 hr.2⟩
 | [],_ :: _,_,h,_=>h.elim
 | _ :: _,[],_,h,_=>h.elim
theorem weak_boxrows {N p:Nat} {s:S} (k:Nat) {ty:TypeId} {cs:List E} (cs':List E) (hk:s.o[k]? = some (.box ty cs)) (h:leCs cs cs'):Weak N p s ⟨s.t,setO s.o k (.box ty cs')⟩:=by
 intro Γ a w hA
 have hm:=hA.inv.m
 have hkl:k < s.o.length:=(List.getElem?_eq_some_iff.1 hk).1
 refine ⟨Γ,⟨⟨hA.inv.size,hA.inv.defers,hA.inv.t,⟨by simp [setO,hm.n],fun j o ho=>?_,hm.sep,hm.off,hm.lt,hm.pin⟩⟩,hA.le⟩,Grow.refl _ _ _⟩
 simp only [setO] at ho
 by_cases e:k=j
 ·subst e
  rw [List.getElem?_set_self hkl] at ho
  cases ho
  obtain ⟨g1,xs,g2,g3,g4⟩:=hm.ob k _ hk
  exact ⟨g1,xs,g2,leCs_ok h g3,g4⟩
 ·rw [List.getElem?_set_ne e] at ho
  exact hm.ob j o ho
theorem weak_aggrows {N p:Nat} {s:S} (i:Nat) {cs:List E} (cs':List E) (hi:s.get i=some (.agg cs)) (h:leCs cs cs'):Weak N p s ⟨(i,.agg cs') :: s.t,s.o⟩:=by
 intro Γ a w hA
 refine ⟨Γ,⟨⟨hA.inv.size,hA.inv.defers,fun j q hq=>?_,hA.inv.m⟩,hA.le⟩,Grow.refl _ _ _⟩
 simp only [S.get,look] at hq
 split at hq
 ·rename_i e
  subst e
  cases hq
  obtain ⟨h1,xs,h2,h3⟩:=hA.inv.t j _ hi
  exact ⟨h1,xs,h2,leCs_ok h h3⟩
 ·exact hA.inv.t j q hq
end Go.Proofs.YthhfpcbpiphfiaaGreatDoor
namespace Go.Proofs.YthhfpcbpiphfiaaGreatDoor
attribute [local irreducible] PL QL PWPr PCalls Weak RetK Kontr PA
open Go.RowKit
open IntWalk renaming iteOmega → iO, toNatUp → tN
set_option linter.unusedVariables false
set_option linter.unusedSimpArgs false
set_option maxRecDepth 20000
set_option maxHeartbeats 4000000 in
theorem known18_pure:PCalls Tryz.prog 4 [] [] fun r os=>r = .c (.v (.bool true))∧os=[]:=by
 have g1:=shared_pure k18C ⟨#[97]⟩ ⟨#[98]⟩ k18_few k18_als
 have g2:=shared_pure k18C ⟨#[97]⟩ ⟨#[99]⟩ k18_few k18_als
 rw [show k18C.modules=k18M from rfl,k18_ab] at g1
 rw [show k18C.modules=k18M from rfl,k18_ac] at g2
 simp only [Option.getD_some,Option.isSome_some,Option.getD_none,Option.isSome_none] at g1 g2
 have f1:=afind_pure k18C ⟨#[117,115,98,58,118,49]⟩ k18_few k18_pat (by decide)
 have f2:=afind_pure k18C ⟨#[112,99,105,58,120]⟩ k18_few k18_pat (by decide)
 have f3:=afind_pure k18C ⟨#[]⟩ k18_few k18_pat (by decide)
 rw [k18_f1] at f1
 rw [k18_f2] at f2
 rw [k18_f3] at f3
 have s1:=same18_pure [⟨#[97]⟩] [⟨#[97]⟩] (by decide) (by decide)
 have s2:=same18_pure [⟨#[99]⟩] [⟨#[99]⟩] (by decide) (by decide)
 refine pcalls_of Tryz.func4 rfl (by simp [Tryz.ntmps4]) ?_
 rw [Tryz.ntmps4,Tryz.results4]
 push_cast [iO,tN]
 repeat' (first|((first|refine pG ?_|refine pQ ?_|refine pU ?_);push_cast [iO,tN])|(refine pif (fun h=>?_) (fun h=>?_)<;>first|exact pN h|push_cast [iO,tN]))
 refine pl_weak (weak_boxrows 0 (k18C.e.take 2++[.v (.slice none 0 0),.v (.slice none 0 0)]++k18C.e.drop 4) rfl (by simp [k18C,k18M,Cfg.e,Cfg.d,Mod.d,Ext2.d,D.e,leCs,leC,leRows,leDs,leD,isEmp,strD])) ?_
 refine pl_weak (weak_aggrows 17 (k18C.e.take 2++[.v (.slice none 0 0),.v (.slice none 0 0)]++k18C.e.drop 4) rfl (by simp [k18C,k18M,Cfg.e,Cfg.d,Mod.d,Ext2.d,D.e,leCs,leC,leRows,leDs,leD,isEmp,strD])) ?_
 have hof:k18C.off=[]:=rfl
 have hk:k18C.keep=[]:=rfl
 refine pl_weak (s':=⟨[(17,.agg k18C.e),(1,.c (.ptr 0 0)),(0,.c (.v (.bool false)))],[.box 26 k18C.e]⟩) (by (simp only [Cfg.e,Cfg.d,List.map_cons,List.map_nil,D.e,List.take_succ_cons,List.take_zero,List.drop_succ_cons,List.drop_zero,List.cons_append,List.nil_append,hof,hk]);(refine weak_fg ?_;push_cast [iO,tN])) ?_
 generalize k18C=c at *
 simp only [List.map_cons,List.map_nil,strD,List.length_cons,List.length_nil,decide_true,Nat.reduceAdd] at f1 f2 f3 s1 s2
 repeat' (first |  ((refine plc [] (g1) ?_ ?_;push_cast [iO,tN];rintro r os ⟨rfl,rfl⟩;push_cast [iO,tN]))|((refine plc [] (g2) ?_ ?_;push_cast [iO,tN];rintro r os ⟨rfl,rfl⟩;push_cast [iO,tN]))|((refine plc [] (f1) ?_ ?_;push_cast [iO,tN];rintro r os ⟨rfl,rfl⟩;push_cast [iO,tN]))|((refine plc [] (f2) ?_ ?_;push_cast [iO,tN];rintro r os ⟨rfl,rfl⟩;push_cast [iO,tN]))|((refine plc [] (f3) ?_ ?_;push_cast [iO,tN];rintro r os ⟨rfl,rfl⟩;push_cast [iO,tN]))|((refine plc [] (s1) ?_ ?_;push_cast [iO,tN];rintro r os ⟨rfl,rfl⟩;push_cast [iO,tN]))|((refine plc [] (s2) ?_ ?_;push_cast [iO,tN];rintro r os ⟨rfl,rfl⟩;push_cast [iO,tN]))  | ((first|refine pG ?_|refine pQ ?_|refine pU ?_);push_cast [iO,tN])|(refine pif (fun h=>?_) (fun h=>?_)<;>first|exact pN h|push_cast [iO,tN]))
 (refine retK_of [] ?_;push_cast [iO,tN])
set_option maxRecDepth 20000
end Go.Proofs.YthhfpcbpiphfiaaGreatDoor
namespace Go.Proofs.YthhfpcbpiphfiaaGreatDoor
open Go.RowKit
open IntWalk renaming iteOmega → iO, toNatUp → tN
set_option linter.unusedVariables false
set_option linter.unusedSimpArgs false
structure OkMod (m:Mod):Prop where
 needs:m.needs.length≤10
 pre:m.pre.length≤10
 post:m.post.length≤10
 needsz:∀ x ∈ m.needs,x.size≤10
 prez:∀ x ∈ m.pre,x.size≤10
 postz:∀ x ∈ m.post,x.size≤10
 name:m.name≠⟨#[]⟩
 namez:m.name.size≤10
structure OkCfg (c:Cfg):Prop where
 mods:∀ m ∈ c.modules,OkMod m
 len:c.modules.length≤10
 nodup:(c.modules.map Mod.name).Nodup
 off:c.off.length≤10
theorem pick_size {L:List Int} {k:Nat} {l:List ByteArray} (h0:0 < l.length) (h:∀ x ∈ l,x.size≤10):(pick L k l).size≤10:=by
 have:=fold_bds (tapeAt L k) l.length (by omega)
 unfold pick
 rw [getD_lt _ (by omega)]
 exact h _ (List.getElem_mem _)
end Go.Proofs.YthhfpcbpiphfiaaGreatDoor
namespace Go.Proofs.YthhfpcbpiphfiaaGreatDoor
attribute [local irreducible] PL QL PWPr PCalls Weak RetK Kontr PA
open Go.RowKit
open IntWalk renaming iteOmega → iO, toNatUp → tN
set_option linter.unusedVariables false
set_option linter.unusedSimpArgs false
set_option maxRecDepth 20000
def wl1:List ByteArray:=[⟨#[104,105,100]⟩,⟨#[110,105,99]⟩,⟨#[111,116,104,101,114]⟩,⟨#[103,111,110,101]⟩]
def wl2:List ByteArray:=[⟨#[99,111,114,101]⟩,⟨#[101,120,116,114,97]⟩,⟨#[104,105,100]⟩,⟨#[103,111,110,101]⟩]
def wl3:List ByteArray:=[⟨#[111,116,104,101,114]⟩,⟨#[99,111,114,101]⟩,⟨#[114,105,110,103]⟩,⟨#[98,97,100]⟩,⟨#[103,111,110,101]⟩]
def wl4:List ByteArray:=[⟨#[117,115,98,58,42]⟩,⟨#[112,99,105,58,100,50]⟩,⟨#[120,58,63]⟩,⟨#[91]⟩,⟨#[118,105,114,116,42]⟩]
def wl5:List ByteArray:=[⟨#[104,105,100]⟩,⟨#[101,120,116,114,97]⟩,⟨#[103,111,110,101]⟩,⟨#[98,97,100]⟩]
theorem wm_ok {c:Cfg} (h:c.modules.Sublist wmL) (ho:c.off.length≤10):OkCfg c:=by
 have ha:∀ m ∈ wmL,OkMod m:=by
  intro m hm
  have hd:∀ m ∈ wmL,m.needs.length≤10∧m.pre.length≤10∧m.post.length≤10∧(∀ x ∈ m.needs,x.size≤10)∧(∀ x ∈ m.pre,x.size≤10)∧(∀ x ∈ m.post,x.size≤10)∧m.name≠⟨#[]⟩∧m.name.size≤10:=by decide +kernel
  obtain ⟨h1,h2,h3,h4,h5,h6,h7,h8⟩:=hd m hm
  exact ⟨h1,h2,h3,h4,h5,h6,h7,h8⟩
 refine ⟨fun m hm=>ha m (h.subset hm),?_,(h.map Mod.name).nodup (by decide +kernel),ho⟩
 have:=h.length_le
 have:wmL.length=8:=rfl
 omega
structure WCfg (c:Cfg):Prop where
 sub:c.modules.Sublist wmL
 bl:c.blocked.length≤10
 keep:c.keep.length≤10
 ext:c.extra.length≤10
 pat:∀ y ∈ c.extra,y.name.size≤10
set_option maxRecDepth 20000
theorem pick_le {L:List Int} {k:Nat} {l:List ByteArray} {n:Nat} (h0:0 < l.length) (h:∀ x ∈ l,x.size≤n):(pick L k l).size≤n:=by
 unfold pick
 by_cases hlt:(fold (tapeAt L k) l.length).toNat < l.length
 ·rw [getD_lt l hlt];exact h _ (List.getElem_mem _)
 ·rw [List.getD_eq_getElem?_getD,List.getElem?_eq_none (by omega)];exact Nat.zero_le _
end Go.Proofs.YthhfpcbpiphfiaaGreatDoor
