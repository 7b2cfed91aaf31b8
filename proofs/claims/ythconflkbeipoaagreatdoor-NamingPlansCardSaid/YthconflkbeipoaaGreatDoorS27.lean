/- What the program computes, and the plain laws of it, part 27. -/
import Derived.Test.YthconflkbeipoaaGreatDoorS26
namespace Go.Proofs.YthconflkbeipoaaGreatDoor
attribute [local irreducible] PL QL PWPr PCalls Weak RetK Kontr PA
open Go.RowKit
open IntWalk renaming iteOmega → iO, toNatUp → tN
set_option linter.unusedVariables false
set_option linter.unusedSimpArgs false
set_option maxRecDepth 20000
set_option maxHeartbeats 1000000 in
theorem allF_pure (x:ByteArray) (hx:x.size≤9223372036854775807) :
  PCalls Tryz.prog 147 [.c (.v (.string x)),.c (.ptr 0 0)] [.box 97 [.fn (.func 117) [] []]] fun r os=>r = .c (.v (.bool (!validS x)))∧os=[.box 97 [.fn (.func 117) [] []]]:=by
 refine pcalls_of Tryz.func147 rfl (by simp [Tryz.ntmps147]) ?_
 rw [Tryz.ntmps147,Tryz.results147]
 push_cast [iO,tN]
 repeat' (first |  (refine plc [] (valid_pure x hx) ?_ ?_;push_cast [iO,tN];rintro r os ⟨rfl,rfl⟩;push_cast [iO,tN])  | ((first|refine pG ?_|refine pQ ?_|refine pU ?_);push_cast [iO,tN])|(refine pif (fun h=>?_) (fun h=>?_)<;>first|exact pN h|push_cast [iO,tN]))
 (refine retK_of [0] ?_;push_cast [iO,tN])
set_option maxHeartbeats 1000000 in
theorem all_pure (l:List ByteArray) (hl:l.length≤1000000000) (hz:∀ x ∈ l,x.size≤9223372036854775807) :
  PCalls Tryz.prog 116 [.c (.sl 1 (l.map strD)),.c (.fn (.func 117) [] [])] [] fun r os=>r = .c (.v (.bool (l.all validS)))∧os=[]:=by
 have hc:=containsFuncS_pure l hl 147 [0] [.box 97 [.fn (.func 117) [] []]] (fun x=>!validS x) ⟨by kernel_rfl,fun x hx=>allF_pure x (hz x hx)⟩
 have e:(!(l.any fun x=>!validS x))=l.all validS:=by rw [List.all_eq_not_any_not]
 refine pcalls_of Tryz.func116 rfl (by simp [Tryz.ntmps116]) ?_
 rw [Tryz.ntmps116,Tryz.results116]
 push_cast [iO,tN]
 repeat' (first |  (refine plc [0] (hc) ?_ ?_;push_cast [iO,tN];rintro r os ⟨rfl,rfl⟩;push_cast [iO,tN])  | ((first|refine pG ?_|refine pQ ?_|refine pU ?_);push_cast [iO,tN])|(refine pif (fun h=>?_) (fun h=>?_)<;>first|exact pN h|push_cast [iO,tN]))
 (refine retK_of [] ?_;push_cast [iO,tN,e])
theorem extract_size (s:ByteArray):(s.extract 1 s.size).size=s.size - 1:=by
 have h:=congrArg List.length (Lib.extract_to_end s 1)
 rw [List.length_drop] at h
 exact h
theorem rest_size (s:ByteArray):(restS s).size≤s.size:=by
 unfold restS
 split
 ·rw [extract_size];omega
 ·exact Nat.le_refl _
theorem spl_mem:∀ {l x:List UInt8},x ∈ spl l → x.length≤l.length
 | [],x,h=>by simp [spl] at h;subst h;simp
 | b :: l,x,h=>by
  rw [spl] at h
  split at h
  ·rcases List.mem_cons.1 h with rfl|h
   ·simp
   ·have:=spl_mem h;simp only [List.length_cons];omega
  ·split at h
   ·rename_i e;simp at h;subst h;simp
   ·rename_i y t e
    have hy:y ∈ spl l:=by rw [e];simp
    rcases List.mem_cons.1 h with rfl|h
    ·have:=spl_mem hy;simp only [List.length_cons];omega
    ·have hx:x ∈ spl l:=by rw [e];simp [h]
     have:=spl_mem hx;simp only [List.length_cons];omega
theorem parts_mem {s x:ByteArray} (h:x ∈ parts s):x.size≤s.size:=by
 unfold parts at h
 obtain ⟨y,hy,rfl⟩:=List.mem_map.1 h
 have:=spl_mem hy
 exact this
def splitR:Option (List ByteArray) → PV
 | some l=>.two (.c (.sl 1 (l.map strD))) (.c (.v (.int .i64 0)))
 | none=>.two (.c (.v (.slice none 0 0))) (.c (.v (.int .i64 10)))
attribute [push_cast] splitR
set_option maxHeartbeats 1000000 in
theorem nsplit_pure (s:ByteArray) (hs:s.size≤100000000) :
  PCalls Tryz.prog 65 [.c (.v (.string s))] [] fun r os=>r=splitR (splitP s)∧os=[]:=by
 have hrs:=rest_size s
 have hps:=parts_size (s:=restS s)
 have hsp:=split_pure (restS s) (by omega)
 have hpm:=fun x hx=>parts_mem (s:=restS s) (x:=x) hx
 unfold splitP
 obtain ⟨l,hl⟩:∃ l,parts (restS s)=l:=⟨_,rfl⟩
 rw [hl] at hps hsp ⊢
 simp only [hl] at hpm
 have hal:=all_pure l (by omega) (fun x hx=>by have:=hpm x hx;omega)
 have htk:=List.take_of_length_le (l:=l.map strD) (i:=l.length) (by simp)
 refine pcalls_of Tryz.func65 rfl (by simp [Tryz.ntmps65]) ?_
 rw [Tryz.ntmps65,Tryz.results65]
 have hcp:=cutp_pure s
 obtain ⟨b,hb⟩:∃ b,slashS s=b:=⟨_,rfl⟩
 obtain ⟨c,hc⟩:∃ c,l.all validS=c:=⟨_,rfl⟩
 rw [hb] at hcp ⊢
 rw [hc] at hal ⊢
 cases b<;>cases c
 all_goals push_cast [iO,tN]
 all_goals repeat' (first |  (refine plc [] (hcp) ?_ ?_;push_cast [iO,tN];rintro r os ⟨rfl,rfl⟩;push_cast [iO,tN])|(refine plc [] (hsp) ?_ ?_;push_cast [iO,tN];rintro r os ⟨rfl,rfl⟩;push_cast [iO,tN])|(refine pl_call2 true [] rfl rfl (by kernel_rfl) (hal) ?_ ?_ ?_;push_cast [iO,tN];(intro _ r os;rintro ⟨rfl,rfl⟩;push_cast [iO,tN]);rintro r os ⟨rfl,rfl⟩;refine pl_of_pops ?_;push_cast [iO,tN])  | ((first|refine pG ?_|refine pQ ?_|refine pU ?_);push_cast [iO,tN])|(refine pif (fun h=>?_) (fun h=>?_)<;>first|exact pN h|push_cast [iO,tN]))
 all_goals (refine retK_of [] ?_;push_cast [iO,tN,htk,and_self,and_false,false_and,Bool.false_eq_true])
theorem isnan_pure (s:ByteArray):PCalls Tryz.prog 173 [.c (.v (.string s))] [] fun r os=>r = .c (.v (.bool false))∧os=[]:=by
 refine pcalls_of Tryz.func173 rfl (by simp [Tryz.ntmps173]) ?_
 rw [Tryz.ntmps173,Tryz.results173]
 push_cast [iO,tN]
 repeat' (first|((first|refine pG ?_|refine pQ ?_|refine pU ?_);push_cast [iO,tN,ne_eq,not_true_eq_false])|(refine pif (fun h=>?_) (fun h=>?_)<;>first|exact pN h|push_cast [iO,tN,ne_eq,not_true_eq_false]))
 (refine retK_of [] ?_;push_cast [iO,tN])
theorem ccmp_pure (a b:ByteArray):PCalls Tryz.prog 150 [.c (.v (.string a)),.c (.v (.string b))] [] fun r os=>r = .c (.v (.int .i64 (cmpS a b)))∧os=[]:=by
 refine pcalls_of Tryz.func150 rfl (by simp [Tryz.ntmps150]) ?_
 rw [Tryz.ntmps150,Tryz.results150]
 unfold cmpS
 obtain ⟨x,hx⟩:∃ x,bless a b=x:=⟨_,rfl⟩
 obtain ⟨y,hy⟩:∃ y,bless b a=y:=⟨_,rfl⟩
 rw [hx,hy]
 cases x<;>cases y
 all_goals push_cast [iO,tN]
 all_goals repeat' (first|(refine plc [] (isnan_pure a) ?_ ?_;push_cast [iO,tN,hx,hy];rintro r os ⟨rfl,rfl⟩;push_cast [iO,tN,hx,hy])|(refine plc [] (isnan_pure b) ?_ ?_;push_cast [iO,tN,hx,hy];rintro r os ⟨rfl,rfl⟩;push_cast [iO,tN,hx,hy])|((first|refine pG ?_|refine pQ ?_|refine pU ?_);push_cast [iO,tN,hx,hy])|(refine pif (fun h=>?_) (fun h=>?_)<;>first|exact pN h|push_cast [iO,tN,hx,hy]))
 all_goals (refine retK_of [] ?_;push_cast [iO,tN])
theorem cmpL_atN:∀ {l m:List ByteArray} {k:Nat},k≤l.length → k≤m.length → l.take k=m.take k → cmpL l m=cmpL (l.drop k) (m.drop k)
 | l,m,0,_,_,_=>by simp
 | [],m,k+1,h,_,_=>by simp at h
 | a :: l,[],k+1,_,h,_=>by simp at h
 | a :: l,b :: m,k+1,h1,h2,h3=>by
  simp only [List.take_succ_cons,List.cons.injEq] at h3
  obtain ⟨rfl,h3⟩:=h3
  rw [cmpL,if_pos rfl]
  simp only [List.drop_succ_cons]
  exact cmpL_atN (by simpa using h1) (by simpa using h2) h3
theorem cmpL_stepN {l m:List ByteArray} {k:Nat} (h1:k < l.length) (h2:k < m.length) (h3:l.take k=m.take k):cmpL l m=if l.getD k default=m.getD k default then cmpL (l.drop (k+1)) (m.drop (k+1)) else cmpS (l.getD k default) (m.getD k default):=by
 rw [cmpL_atN (by omega) (by omega) h3,List.drop_eq_getElem_cons h1,List.drop_eq_getElem_cons h2,cmpL,getD_lt l h1,getD_lt m h2]
set_option maxHeartbeats 1000000 in
theorem scompare_pure (l m:List ByteArray) (hl:l.length≤1000000000) (hm:m.length≤1000000000) :
  PCalls Tryz.prog 118 [.c (.sl 1 (l.map strD)),.c (.sl 1 (m.map strD))] [] fun r os=>r = .c (.v (.int .i64 (cmpL l m)))∧os=[]:=by
 refine pcalls_of Tryz.func118 rfl (by simp [Tryz.ntmps118]) ?_
 rw [Tryz.ntmps118,Tryz.results118]
 push_cast [iO,tN]
 have cB:CutB 12 []:=trivial
 repeat' (first|((first|refine pC ?_|refine pQC ?_|refine pU ?_);push_cast [iO,tN])|(refine pif (fun h=>?_) (fun h=>?_)<;>first|exact pN h|push_cast [iO,tN]))
 (apply pwp_loop3 (α:=Nat) 12 [] (fun k=>[(11,.c (.v (.int .i64 k)))]) (fun k=>[]) (fun k=>k≤l.length∧k≤m.length∧l.take k=m.take k) (fun k=>l.length - k) (0);(focus ((try push_cast [iO,tN]);rfl));(focus exact ⟨by omega,by omega,rfl⟩);(focus ((refine weak_fg ?_;try push_cast [iO,tN]))))
 rintro k ⟨hk,hk2,he⟩
 push_cast [iO,tN]
 by_cases h1:k < l.length
 ·by_cases h2:k < m.length
  ·have hst:=cmpL_stepN h1 h2 he
   by_cases e:l.getD k default=m.getD k default
   ·have hc:cmpS (l.getD k default) (m.getD k default)=0:=cmpS_eq.2 e
    repeat' (first|(refine plc [] (ccmp_pure (l.getD k default) (m.getD k default)) ?_ ?_;push_cast [iO,tN,hc];rintro r os ⟨rfl,rfl⟩;push_cast [iO,tN,hc])|((first|refine pC ?_|refine pQC ?_|refine pU ?_);push_cast [iO,tN,hc])|(refine pif (fun h=>?_) (fun h=>?_)<;>first|exact pN h|push_cast [iO,tN,hc]))
    refine ⟨k+1,⟨by omega,by omega,?_⟩,by (refine weak_fg ?_;push_cast [iO,tN]),by omega⟩
    rw [List.take_succ_eq_append_getElem h1,List.take_succ_eq_append_getElem h2,he,← getD_lt l h1,← getD_lt m h2,e]
   ·have hc:¬ cmpS (l.getD k default) (m.getD k default)=0:=fun h=>e (cmpS_eq.1 h)
    rw [if_neg e] at hst
    repeat' (first|(refine plc [] (ccmp_pure (l.getD k default) (m.getD k default)) ?_ ?_;push_cast [iO,tN,hc];rintro r os ⟨rfl,rfl⟩;push_cast [iO,tN,hc])|((first|refine pC ?_|refine pQC ?_|refine pU ?_);push_cast [iO,tN,hc])|(refine pif (fun h=>?_) (fun h=>?_)<;>first|exact pN h|push_cast [iO,tN,hc]))
    (refine retK_of [] ?_;push_cast [iO,tN])
    rw [hst]
  ·have hke:k=m.length:=by omega
   have hcl:cmpL l m=1:=by
    have hz:m.drop k=[]:=List.drop_eq_nil_of_le (by omega)
    rw [cmpL_atN (by omega) (by omega) he,hz,List.drop_eq_getElem_cons h1];rfl
   repeat' (first|((first|refine pC ?_|refine pQC ?_|refine pU ?_);push_cast [iO,tN])|(refine pif (fun h=>?_) (fun h=>?_)<;>first|exact pN h|push_cast [iO,tN]))
   (refine retK_of [] ?_;push_cast [iO,tN])
   rw [hcl]
 ·have hke:k=l.length:=by omega
  by_cases h2:k < m.length
  ·have hcl:cmpL l m = -1:=by
    have hz:l.drop k=[]:=List.drop_eq_nil_of_le (by omega)
    rw [cmpL_atN (by omega) (by omega) he,hz,List.drop_eq_getElem_cons h2];rfl
   repeat' (first|((first|refine pC ?_|refine pQC ?_|refine pU ?_);push_cast [iO,tN])|(refine pif (fun h=>?_) (fun h=>?_)<;>first|exact pN h|push_cast [iO,tN]))
   (refine retK_of [] ?_;push_cast [iO,tN])
   rw [hcl]
  ·have hcl:cmpL l m=0:=by
    rw [cmpL_atN (by omega) (by omega) he,List.drop_eq_nil_of_le (by omega),List.drop_eq_nil_of_le (by omega)];rfl
   repeat' (first|((first|refine pC ?_|refine pQC ?_|refine pU ?_);push_cast [iO,tN])|(refine pif (fun h=>?_) (fun h=>?_)<;>first|exact pN h|push_cast [iO,tN]))
   (refine retK_of [] ?_;push_cast [iO,tN])
   rw [hcl]
def cmpR (a b:ByteArray):PV:=match splitP a,splitP b with
 | some l,some m=>.two (.c (.v (.int .i64 (cmpL l m)))) (.c (.v (.int .i64 0)))
 | _,_=>.two (.c (.v (.int .i64 0))) (.c (.v (.int .i64 10)))
theorem splitP_size {s:ByteArray} {l:List ByteArray} (h:splitP s=some l):l.length≤s.size+1:=by
 unfold splitP at h
 split at h
 ·cases h;have:=rest_size s;have:=parts_size (s:=restS s);omega
 ·cases h
set_option maxHeartbeats 1000000 in
theorem ncompare_pure (a b:ByteArray) (ha:a.size≤100000000) (hb:b.size≤100000000) :
  PCalls Tryz.prog 66 [.c (.v (.string a)),.c (.v (.string b))] [] fun r os=>r=cmpR a b∧os=[]:=by
 have h1:=nsplit_pure a ha
 have h2:=nsplit_pure b hb
 unfold cmpR
 refine pcalls_of Tryz.func66 rfl (by simp [Tryz.ntmps66]) ?_
 rw [Tryz.ntmps66,Tryz.results66]
 cases e1:splitP a with
 | none =>
  rw [e1] at h1
  cases e2:splitP b with
  | none =>
   rw [e2] at h2
   push_cast [iO,tN]
   repeat' (first |  (refine plc [] (h1) ?_ ?_;push_cast [iO,tN];rintro r os ⟨rfl,rfl⟩;push_cast [iO,tN])|(refine plc [] (h2) ?_ ?_;push_cast [iO,tN];rintro r os ⟨rfl,rfl⟩;push_cast [iO,tN])  | ((first|refine pG ?_|refine pQ ?_|refine pU ?_);push_cast [iO,tN])|(refine pif (fun h=>?_) (fun h=>?_)<;>first|exact pN h|push_cast [iO,tN]))
   (refine retK_of [] ?_;push_cast [iO,tN])
  | some m =>
   rw [e2] at h2
   push_cast [iO,tN]
   repeat' (first |  (refine plc [] (h1) ?_ ?_;push_cast [iO,tN];rintro r os ⟨rfl,rfl⟩;push_cast [iO,tN])|(refine plc [] (h2) ?_ ?_;push_cast [iO,tN];rintro r os ⟨rfl,rfl⟩;push_cast [iO,tN])  | ((first|refine pG ?_|refine pQ ?_|refine pU ?_);push_cast [iO,tN])|(refine pif (fun h=>?_) (fun h=>?_)<;>first|exact pN h|push_cast [iO,tN]))
   (refine retK_of [] ?_;push_cast [iO,tN])
 | some l =>
  rw [e1] at h1
  cases e2:splitP b with
  | none =>
   rw [e2] at h2
   push_cast [iO,tN]
   repeat' (first |  (refine plc [] (h1) ?_ ?_;push_cast [iO,tN];rintro r os ⟨rfl,rfl⟩;push_cast [iO,tN])|(refine plc [] (h2) ?_ ?_;push_cast [iO,tN];rintro r os ⟨rfl,rfl⟩;push_cast [iO,tN])  | ((first|refine pG ?_|refine pQ ?_|refine pU ?_);push_cast [iO,tN])|(refine pif (fun h=>?_) (fun h=>?_)<;>first|exact pN h|push_cast [iO,tN]))
   (refine retK_of [] ?_;push_cast [iO,tN])
  | some m =>
   rw [e2] at h2
   have:=splitP_size e1
   have:=splitP_size e2
   push_cast [iO,tN]
   repeat' (first |  (refine plc [] (h1) ?_ ?_;push_cast [iO,tN];rintro r os ⟨rfl,rfl⟩;push_cast [iO,tN])|(refine plc [] (h2) ?_ ?_;push_cast [iO,tN];rintro r os ⟨rfl,rfl⟩;push_cast [iO,tN])|(refine plc [] (scompare_pure l m (by omega) (by omega)) ?_ ?_;push_cast [iO,tN];rintro r os ⟨rfl,rfl⟩;push_cast [iO,tN])  | ((first|refine pG ?_|refine pQ ?_|refine pU ?_);push_cast [iO,tN])|(refine pif (fun h=>?_) (fun h=>?_)<;>first|exact pN h|push_cast [iO,tN]))
   (refine retK_of [] ?_;push_cast [iO,tN])
end Go.Proofs.YthconflkbeipoaaGreatDoor
namespace Go.Proofs.YthconflkbeipoaaGreatDoor
open Go.RowKit
open IntWalk renaming iteOmega → iO, toNatUp → tN
set_option linter.unusedVariables false
set_option linter.unusedSimpArgs false
def bef (q j r k:Nat):Prop:=q < r∨(q=r∧j < k)
def nmAt (l:List Wsh) (i q:Nat):ByteArray:=(l.getD i default).names.getD q default
def LostTo (l:List Wsh) (v:List ByteArray) (i q:Nat):Prop:=∃ j,j≠i∧j < l.length∧(v.getD j default=nmAt l i q∧nmAt l i q≠⟨#[]⟩)∧∃ q',q' < (l.getD j default).names.length∧nmAt l j q'=nmAt l i q∧bef q' j q i
structure AsgI (l:List Wsh) (r k:Nat) (st:AsgS):Prop where
 len:st.1.length=l.length
 tk:∀ s,s ∈ st.2 → s≠⟨#[]⟩∧∃ i,i < l.length∧st.1.getD i default=s
 kt:∀ i,i < l.length → st.1.getD i default≠⟨#[]⟩ → st.1.getD i default ∈ st.2
 inj:∀ i j,i < l.length → j < l.length → st.1.getD i default=st.1.getD j default → st.1.getD i default≠⟨#[]⟩ → i=j
 src:∀ i,i < l.length → st.1.getD i default≠⟨#[]⟩ → ∃ q,bef q i r k∧q < (l.getD i default).names.length∧nmAt l i q=st.1.getD i default∧∀ p,p < q → LostTo l st.1 i p
 lost:∀ i,i < l.length → st.1.getD i default=⟨#[]⟩ → ∀ q,bef q i r k → q < (l.getD i default).names.length → LostTo l st.1 i q
theorem getD_set_eq {α:Type} [Inhabited α] {l:List α} {i:Nat} {x:α} (h:i < l.length):(l.set i x).getD i default=x:=by rw [List.getD_eq_getElem?_getD,List.getElem?_set_self h];rfl
theorem getD_set_ne {α:Type} [Inhabited α] {l:List α} {i j:Nat} {x:α} (h:i≠j):(l.set i x).getD j default=l.getD j default:=by rw [List.getD_eq_getElem?_getD,List.getElem?_set_ne h,← List.getD_eq_getElem?_getD]
theorem AsgI.start (l:List Wsh):AsgI l 0 0 (startA l):=by
 have h0:∀ i,(startA l).1.getD i default=⟨#[]⟩:=fun i=>by
  unfold startA
  rw [List.getD_eq_getElem?_getD,List.getElem?_replicate]
  split<;>rfl
 refine ⟨by unfold startA;simp,fun s hs=>(by unfold startA at hs;cases hs),fun i _ h=>absurd (h0 i) h,fun i j _ _ _ h=>absurd (h0 i) h,fun i _ h=>absurd (h0 i) h,fun i _ _ q hq _=>?_⟩
 rcases hq with h1|⟨_,h1⟩<;>omega
theorem AsgI.skip {l:List Wsh} {r k:Nat} {st:AsgS} (h:AsgI l r k st) (hk:¬ r < (l.getD k default).names.length):AsgI l r (k+1) st:=by
 refine ⟨h.len,h.tk,h.kt,h.inj,fun i hi hv=>?_,fun i hi hv q hq hql=>?_⟩
 ·obtain ⟨q,h1,h2⟩:=h.src i hi hv
  refine ⟨q,?_,h2⟩
  rcases h1 with h1|⟨h1,h3⟩
  ·exact .inl h1
  ·exact .inr ⟨h1,by omega⟩
 ·refine h.lost i hi hv q ?_ hql
  rcases hq with h1|⟨h1,h3⟩
  ·exact .inl h1
  ·by_cases e:i=k
   ·subst e;subst h1;exact absurd hql hk
   ·exact .inr ⟨h1,by omega⟩
theorem AsgI.next {l:List Wsh} {r:Nat} {st:AsgS} (h:AsgI l r l.length st):AsgI l (r+1) 0 st:=by
 refine ⟨h.len,h.tk,h.kt,h.inj,fun i hi hv=>?_,fun i hi hv q hq hql=>?_⟩
 ·obtain ⟨q,h1,h2⟩:=h.src i hi hv
  refine ⟨q,.inl ?_,h2⟩
  rcases h1 with h1|⟨h1,h3⟩<;>omega
 ·refine h.lost i hi hv q ?_ hql
  rcases hq with h1|⟨h1,h3⟩
  ·by_cases e:q=r
   ·exact .inr ⟨e,hi⟩
   ·exact .inl (by omega)
  ·omega
theorem AsgI.step {l:List Wsh} {r k:Nat} {st:AsgS} (h:AsgI l r k st) (hk:k < l.length) (hr:r < (l.getD k default).names.length) (hne:nmAt l k r≠⟨#[]⟩):AsgI l r (k+1) (stepW st (k,nmAt l k r)):=by
 have mono:∀ {q i:Nat},bef q i r k → bef q i r (k+1):=fun hq=>hq.imp id fun ⟨a,b⟩=>⟨a,by omega⟩
 by_cases hc:st.1.getD k default=⟨#[]⟩∧inM (nmAt l k r) st.2=false
 ·have hst:stepW st (k,nmAt l k r)=(st.1.set k (nmAt l k r),addS st.2 (nmAt l k r)):=by unfold stepW;rw [if_pos hc]
  rw [hst]
  obtain ⟨s,hs⟩:∃ s,nmAt l k r=s:=⟨_,rfl⟩
  rw [hs] at hne hc ⊢
  have hkl:k < st.1.length:=by rw [h.len];exact hk
  have hself:(st.1.set k s).getD k default=s:=getD_set_eq hkl
  have hoth:∀ i,i≠k → (st.1.set k s).getD i default=st.1.getD i default:=fun i hi=>getD_set_ne (Ne.symm hi)
  have hnot:∀ i,i < l.length → st.1.getD i default≠s:=fun i hi e=>by
   have:=h.kt i hi (by rw [e];exact hne)
   rw [e] at this
   have h2:=inM_false.1 hc.2
   exact h2 this
  have hlost:∀ i q,LostTo l st.1 i q → LostTo l (st.1.set k s) i q:=fun i q ⟨j,h1,h2,⟨h3,h3n⟩,q',h4,h5,h6⟩=>by
   refine ⟨j,h1,h2,⟨?_,h3n⟩,q',h4,h5,h6⟩
   by_cases e:j=k
   ·subst e
    rw [hc.1] at h3
    exact absurd h3.symm h3n
   ·rw [hoth j e];exact h3
  refine ⟨by rw [List.length_set];exact h.len,fun x hx=>?_,fun i hi hv=>?_,fun i j hi hj e hv=>?_,fun i hi hv=>?_,fun i hi hv q hq hql=>?_⟩
  ·rcases mem_addS.1 hx with hx|rfl
   ·obtain ⟨h1,i,h2,h3⟩:=h.tk x hx
    refine ⟨h1,i,h2,?_⟩
    by_cases e:i=k
    ·subst e;rw [hc.1] at h3;exact absurd h3.symm h1
    ·rw [hoth i e];exact h3
   ·exact ⟨hne,k,hk,hself⟩
  ·by_cases e:i=k
   ·subst e;simp only;rw [hself];exact mem_addS.2 (.inr rfl)
   ·simp only at hv ⊢;rw [hoth i e] at hv ⊢;exact mem_addS.2 (.inl (h.kt i hi hv))
  ·simp only at e hv
   by_cases e1:i=k<;>by_cases e2:j=k
   ·rw [e1,e2]
   ·subst e1;rw [hself,hoth j e2] at e;exact absurd e.symm (hnot j hj)
   ·subst e2;rw [hself,hoth i e1] at e;exact absurd e (hnot i hi)
   ·rw [hoth i e1] at e hv;rw [hoth j e2] at e;exact h.inj i j hi hj e hv
  ·simp only at hv ⊢
   by_cases e:i=k
   ·subst e
    rw [hself]
    exact ⟨r,.inr ⟨rfl,by omega⟩,hr,hs,fun p hp=>hlost _ _ (h.lost i hi hc.1 p (.inl hp) (by omega))⟩
   ·rw [hoth i e] at hv ⊢
    obtain ⟨q,h1,h2,h3,h4⟩:=h.src i hi hv
    exact ⟨q,mono h1,h2,h3,fun p hp=>hlost _ _ (h4 p hp)⟩
  ·simp only at hv ⊢
   by_cases e:i=k
   ·subst e;rw [hself] at hv;exact absurd hv hne
   ·rw [hoth i e] at hv
    refine hlost _ _ (h.lost i hi hv q ?_ hql)
    rcases hq with h1|⟨h1,h3⟩
    ·exact .inl h1
    ·exact .inr ⟨h1,by omega⟩
 ·have hst:stepW st (k,nmAt l k r)=st:=by unfold stepW;rw [if_neg hc]
  rw [hst]
  refine ⟨h.len,h.tk,h.kt,h.inj,fun i hi hv=>?_,fun i hi hv q hq hql=>?_⟩
  ·obtain ⟨q,h1,h2⟩:=h.src i hi hv
   exact ⟨q,mono h1,h2⟩
  ·rcases hq with h1|⟨h1,h3⟩
   ·exact h.lost i hi hv q (.inl h1) hql
   ·by_cases e:i=k
    ·subst e;subst h1
     have hm:nmAt l i q ∈ st.2:=by
      rw [← inM_iff]
      cases hx:inM (nmAt l i q) st.2 with
      | true=>rfl
      | false=>exact absurd ⟨hv,hx⟩ hc
     obtain ⟨h4,j,h5,h6⟩:=h.tk _ hm
     have hji:j≠i:=fun e=>by subst e;rw [hv] at h6;exact h4 h6.symm
     obtain ⟨q',h7,h8,h9,_⟩:=h.src j h5 (by rw [h6];exact h4)
     exact ⟨j,hji,h5,⟨h6,h4⟩,q',h8,by rw [h9,h6],h7⟩
    ·exact h.lost i hi hv q (.inr ⟨h1,by omega⟩) hql
theorem nmAt_ok {l:List Wsh} (h:wshOk l=true) {i q:Nat} (hi:i < l.length) (hq:q < (l.getD i default).names.length):ifaceS (nmAt l i q)=true:=by
 have h1:=wshOk_at h hi
 unfold wshAt at h1
 simp only [Bool.and_eq_true] at h1
 exact (namesOk_at h1.2 hq).1
theorem nmAt_ne {l:List Wsh} (h:wshOk l=true) {i q:Nat} (hi:i < l.length) (hq:q < (l.getD i default).names.length):nmAt l i q≠⟨#[]⟩:=iface_ne (nmAt_ok h hi hq)
theorem run_rank {l:List Wsh} (h:wshOk l=true) (r:Nat) (ps:List (Nat × ByteArray)) (h0:AsgI l r 0 (runA l ps)):∀ k,k≤l.length → AsgI l r k (runA l (ps++rankK l r k))
 | 0,_=>by rw [rankK_zero,List.append_nil];exact h0
 | k+1,hk=>by
  have ih:=run_rank h r ps h0 k (by omega)
  by_cases hr:r < (l.getD k default).names.length
  ·rw [rankK_t hr,← List.append_assoc,runA_snoc]
   exact ih.step (by omega) hr (nmAt_ne h (by omega) hr)
  ·rw [rankK_f hr]
   exact ih.skip hr
theorem run_all {l:List Wsh} (h:wshOk l=true):∀ r,AsgI l r 0 (runA l (prsL l r))
 | 0=>AsgI.start l
 | r+1=>by
  rw [prsL_succ]
  exact (run_rank h r _ (run_all h r) l.length (Nat.le_refl _)).next
theorem prs_mem {l:List Wsh} {n i q:Nat} (hi:i < l.length) (hq:q < (l.getD i default).names.length) (hn:q < n):(i,nmAt l i q) ∈ prsL l n:=by
 unfold prsL
 rw [List.mem_flatMap]
 refine ⟨q,List.mem_range.2 hn,?_⟩
 unfold rankK
 rw [List.mem_map]
 exact ⟨i,List.mem_filter.2 ⟨List.mem_range.2 hi,by simpa using hq⟩,rfl⟩
theorem prs_of {l:List Wsh} {n:Nat} {p:Nat × ByteArray} (h:p ∈ prsL l n):∃ q,p.1 < l.length∧q < (l.getD p.1 default).names.length∧q < n∧p.2=nmAt l p.1 q:=by
 unfold prsL at h
 rw [List.mem_flatMap] at h
 obtain ⟨q,hq,h⟩:=h
 unfold rankK at h
 rw [List.mem_map] at h
 obtain ⟨i,hi,rfl⟩:=h
 obtain ⟨h1,h2⟩:=List.mem_filter.1 hi
 exact ⟨q,List.mem_range.1 h1,by simpa using h2,List.mem_range.1 hq,rfl⟩
def wantA2 (l:List Wsh):List ByteArray:=wantedA (prsL l (maxR l))
theorem wantA2_mem {l:List Wsh} {s:ByteArray}:s ∈ wantA2 l ↔ ∃ i q,i < l.length∧q < (l.getD i default).names.length∧s=nmAt l i q:=by
 unfold wantA2
 rw [mem_wantedA]
 constructor
 ·rintro ⟨p,hp,rfl⟩
  obtain ⟨q,h1,h2,_,h3⟩:=prs_of hp
  exact ⟨p.1,q,h1,h2,h3⟩
 ·rintro ⟨i,q,h1,h2,rfl⟩
  refine ⟨_,prs_mem h1 h2 (n:=maxR l) ?_,rfl⟩
  have:l.getD i default ∈ l:=by rw [getD_lt l h1];exact List.getElem_mem _
  exact Nat.lt_of_lt_of_le h2 (maxR_ge this)
structure FillI (W vals:List ByteArray) (k:Nat) (st:List ByteArray × Nat):Prop where
 len:st.1.length=vals.length
 own:∀ i,i < vals.length → (vals.getD i default≠⟨#[]⟩∨k≤i) → st.1.getD i default=vals.getD i default
 new:∀ i,i < vals.length → i < k → vals.getD i default=⟨#[]⟩ → ∃ m,m < st.2∧st.1.getD i default=ifN m∧inM (ifN m) W=false
 dif:∀ i j,i < j → j < k → j < vals.length → vals.getD i default=⟨#[]⟩ → vals.getD j default=⟨#[]⟩ → st.1.getD i default≠st.1.getD j default
 top:st.2≤k * (W.length+2)
theorem FillI.start (W vals:List ByteArray):FillI W vals 0 (vals,0):=⟨rfl,fun _ _ _=>rfl,fun i _ h=>by omega,fun i j _ h=>by omega,Nat.zero_le _⟩
theorem FillI.step {W vals:List ByteArray} {k:Nat} {st:List ByteArray × Nat} (h:FillI W vals k st) (hk:k < vals.length):FillI W vals (k+1) (fillW W st k):=by
 have hkl:k < st.1.length:=by rw [h.len];exact hk
 have hv:=h.own k hk (.inr (Nat.le_refl _))
 have hmul:(k+1) * (W.length+2)=k * (W.length+2)+(W.length+2):=by rw [Nat.succ_mul]
 by_cases hc:st.1.getD k default=⟨#[]⟩
 ·have hst:fillW W st k=(st.1.set k (ifN (freshN W st.2)),freshN W st.2+1):=by unfold fillW;rw [if_pos hc]
  rw [hst]
  have hge:=fresh_ge W st.2
  have hle:=fresh_le W st.2
  have hself:(st.1.set k (ifN (freshN W st.2))).getD k default=ifN (freshN W st.2):=getD_set_eq hkl
  have hoth:∀ i,i≠k → (st.1.set k (ifN (freshN W st.2))).getD i default=st.1.getD i default:=fun i hi=>getD_set_ne (Ne.symm hi)
  refine ⟨by rw [List.length_set];exact h.len,fun i hi ho=>?_,fun i hi hik h0=>?_,fun i j hij hj hjl h1 h2=>?_,?_⟩
  ·have e:i≠k:=fun e=>by
    subst e
    rcases ho with ho|ho
    ·rw [hv] at hc;exact ho hc
    ·omega
   simp only
   rw [hoth i e]
   exact h.own i hi (ho.imp id fun _=>by omega)
  ·simp only
   by_cases e:i=k
   ·subst e;rw [hself];exact ⟨_,by omega,rfl,fresh_not W _⟩
   ·rw [hoth i e]
    obtain ⟨m,h1,h2,h3⟩:=h.new i hi (by omega) h0
    exact ⟨m,by omega,h2,h3⟩
  ·simp only
   by_cases e:j=k
   ·subst e
    rw [hself,hoth i (by omega)]
    obtain ⟨m,h3,h4,_⟩:=h.new i (by omega) hij h1
    rw [h4]
    intro e2
    have:=ifN_inj e2
    omega
   ·rw [hoth j e,hoth i (by omega)]
    exact h.dif i j hij (by omega) hjl h1 h2
  ·have:=h.top
   simp only
   omega
 ·have hst:fillW W st k=st:=by unfold fillW;rw [if_neg hc]
  rw [hst]
  rw [hv] at hc
  refine ⟨h.len,fun i hi ho=>?_,fun i hi hik h0=>?_,fun i j hij hj hjl h1 h2=>?_,by have:=h.top;omega⟩
  ·by_cases e:i=k
   ·subst e;exact hv
   ·exact h.own i hi (ho.imp id fun _=>by omega)
  ·by_cases e:i=k
   ·subst e;exact absurd h0 hc
   ·exact h.new i hi (by omega) h0
  ·by_cases e:j=k
   ·subst e;exact absurd h2 hc
   ·exact h.dif i j hij (by omega) hjl h1 h2
theorem fill_all (W vals:List ByteArray):∀ k,k≤vals.length → FillI W vals k (fillWK W vals k)
 | 0,_=>FillI.start W vals
 | k+1,hk=>by rw [fillWK_succ];exact (fill_all W vals k (by omega)).step (by omega)
structure NamedI (l:List Wsh) (v:List ByteArray):Prop where
 len:v.length=l.length
 one:∀ i,i < l.length → (∃ q,q < (l.getD i default).names.length∧v.getD i default=nmAt l i q)∨∃ m,m < l.length * ((wantA2 l).length+2)∧v.getD i default=ifN m∧inM (ifN m) (wantA2 l)=false
 inj:∀ i j,i < j → j < l.length → v.getD i default≠v.getD j default
 lost:∀ i,i < l.length → ∀ q,q < (l.getD i default).names.length → (∀ p,p≤q → nmAt l i p≠v.getD i default) → LostTo l v i q
theorem named_spec {l:List Wsh} (h:wshOk l=true):NamedI l (namedA l):=by
 have hA:=run_all h (maxR l)
 have hvl:(valsA l).length=l.length:=hA.len
 have hF:=fill_all (wantA2 l) (valsA l) l.length (by rw [hvl];exact Nat.le_refl _)
 have hfin:namedA l=(fillWK (wantA2 l) (valsA l) l.length).1:=rfl
 obtain ⟨st,hst⟩:∃ st,fillWK (wantA2 l) (valsA l) l.length=st:=⟨_,rfl⟩
 rw [hst] at hF hfin
 rw [hfin]
 have hin:∀ i,i < l.length → (valsA l).getD i default≠⟨#[]⟩ → ∃ q,q < (l.getD i default).names.length∧nmAt l i q=(valsA l).getD i default∧∀ p,p < q → LostTo l (valsA l) i p:=fun i hi hv=>by
  obtain ⟨q,_,h2,h3,h4⟩:=hA.src i hi hv
  exact ⟨q,h2,h3,h4⟩
 have hlost:∀ i q,LostTo l (valsA l) i q → LostTo l st.1 i q:=fun i q ⟨j,h1,h2,⟨h3,h3n⟩,h4⟩=>by
  refine ⟨j,h1,h2,⟨?_,h3n⟩,h4⟩
  rw [hF.own j (by rw [hvl];exact h2) (.inl (by rw [h3];exact h3n))]
  exact h3
 refine ⟨by rw [hF.len,hvl],fun i hi=>?_,fun i j hij hj e=>?_,fun i hi q hq hp=>?_⟩
 ·by_cases hv:(valsA l).getD i default=⟨#[]⟩
  ·obtain ⟨m,h1,h2,h3⟩:=hF.new i (by rw [hvl];exact hi) hi hv
   exact .inr ⟨m,Nat.lt_of_lt_of_le h1 hF.top,h2,h3⟩
  ·obtain ⟨q,h1,h2,_⟩:=hin i hi hv
   exact .inl ⟨q,h1,by rw [hF.own i (by rw [hvl];exact hi) (.inl hv),h2]⟩
 ·by_cases hvi:(valsA l).getD i default=⟨#[]⟩<;>by_cases hvj:(valsA l).getD j default=⟨#[]⟩
  ·exact hF.dif i j hij hj (by rw [hvl];exact hj) hvi hvj e
  ·obtain ⟨m,h1,h2,h3⟩:=hF.new i (by rw [hvl];omega) (by omega) hvi
   obtain ⟨q,h4,h5,_⟩:=hin j hj hvj
   rw [h2,hF.own j (by rw [hvl];exact hj) (.inl hvj),← h5] at e
   rw [inM_false] at h3
   exact h3 (wantA2_mem.2 ⟨j,q,hj,h4,e⟩)
  ·obtain ⟨m,h1,h2,h3⟩:=hF.new j (by rw [hvl];exact hj) hj hvj
   obtain ⟨q,h4,h5,_⟩:=hin i (by omega) hvi
   rw [h2,hF.own i (by rw [hvl];omega) (.inl hvi),← h5] at e
   rw [inM_false] at h3
   exact h3 (wantA2_mem.2 ⟨i,q,by omega,h4,e.symm⟩)
  ·rw [hF.own i (by rw [hvl];omega) (.inl hvi),hF.own j (by rw [hvl];exact hj) (.inl hvj)] at e
   have:=hA.inj i j (by omega) hj e hvi
   omega
 ·by_cases hv:(valsA l).getD i default=⟨#[]⟩
  ·have hm:l.getD i default ∈ l:=by rw [getD_lt l hi];exact List.getElem_mem _
   exact hlost i q (hA.lost i hi hv q (.inl (Nat.lt_of_lt_of_le hq (maxR_ge hm))) hq)
  ·obtain ⟨q0,h1,h2,h3⟩:=hin i hi hv
   have ho:=hF.own i (by rw [hvl];exact hi) (.inl hv)
   have:q < q0:=by
    refine Nat.lt_of_not_le fun hc=>?_
    have:=hp q0 hc
    rw [ho] at this
    exact this h2
   exact hlost i q (h3 q this)
end Go.Proofs.YthconflkbeipoaaGreatDoor
