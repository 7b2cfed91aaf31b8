/- What the program computes, and the plain laws of it, part 24. -/
import Derived.Lib.ItoaNum
import Derived.Test.YthconflkbeipoaaGreatDoorR23
namespace Go.Proofs.YthconflkbeipoaaGreatDoor
attribute [local irreducible] PL QL PWPr PCalls Weak RetK Kontr PA
open Go.RowKit
open IntWalk renaming iteOmega → iO, toNatUp → tN
set_option linter.unusedVariables false
set_option linter.unusedSimpArgs false
set_option maxRecDepth 20000
set_option maxHeartbeats 1000000 in
theorem allF_pure (x:ByteArray) (hx:x.size≤9223372036854775807) :
  PCalls Tryz.prog 147 [.c (.v (.string x)),.c (.ptr 0 0)] [.box 97 [.fn (.func 117) [] []]] fun r os=>r = .c (.v (.bool (!validS x)))∧os=[.box 97 [.fn (.func 117) [] []]]:=by
 refine pcalls_of Tryz.func147 rfl (by simp [Tryz.ntmps147]) ?_
 rw [Tryz.ntmps147,Tryz.results147]
 push_cast [iO,tN]
 repeat' (first |  (refine plc [] (valid_pure x hx) ?_ ?_;push_cast [iO,tN];rintro r os ⟨rfl,rfl⟩;push_cast [iO,tN])  | ((first|refine pG ?_|refine pQ ?_|refine pU ?_);push_cast [iO,tN])|(refine pif (fun h=>?_) (fun h=>?_)<;>first|exact pN h|push_cast [iO,tN]))
 (refine retK_of [0] ?_;push_cast [iO,tN])
set_option maxHeartbeats 1000000 in
theorem all_pure (l:List ByteArray) (hl:l.length≤1000000000) (hz:∀ x ∈ l,x.size≤9223372036854775807) :
  PCalls Tryz.prog 116 [.c (.sl 1 (l.map strD)),.c (.fn (.func 117) [] [])] [] fun r os=>r = .c (.v (.bool (l.all validS)))∧os=[]:=by
 have hc:=containsFuncS_pure l hl 147 [0] [.box 97 [.fn (.func 117) [] []]] (fun x=>!validS x) ⟨by kernel_rfl,fun x hx=>allF_pure x (hz x hx)⟩
 have e:(!(l.any fun x=>!validS x))=l.all validS:=by rw [List.all_eq_not_any_not]
 refine pcalls_of Tryz.func116 rfl (by simp [Tryz.ntmps116]) ?_
 rw [Tryz.ntmps116,Tryz.results116]
 push_cast [iO,tN]
 repeat' (first |  (refine plc [0] (hc) ?_ ?_;push_cast [iO,tN];rintro r os ⟨rfl,rfl⟩;push_cast [iO,tN])  | ((first|refine pG ?_|refine pQ ?_|refine pU ?_);push_cast [iO,tN])|(refine pif (fun h=>?_) (fun h=>?_)<;>first|exact pN h|push_cast [iO,tN]))
 (refine retK_of [] ?_;push_cast [iO,tN,e])
theorem extract_size (s:ByteArray):(s.extract 1 s.size).size=s.size - 1:=by
 have h:=congrArg List.length (Lib.extract_to_end s 1)
 rw [List.length_drop] at h
 exact h
theorem rest_size (s:ByteArray):(restS s).size≤s.size:=by
 unfold restS
 split
 ·rw [extract_size];omega
 ·exact Nat.le_refl _
theorem spl_mem:∀ {l x:List UInt8},x ∈ spl l → x.length≤l.length
 | [],x,h=>by simp [spl] at h;subst h;simp
 | b :: l,x,h=>by
  rw [spl] at h
  split at h
  ·rcases List.mem_cons.1 h with rfl|h
   ·simp
   ·have:=spl_mem h;simp only [List.length_cons];omega
  ·split at h
   ·rename_i e;simp at h;subst h;simp
   ·rename_i y t e
    have hy:y ∈ spl l:=by rw [e];simp
    rcases List.mem_cons.1 h with rfl|h
    ·have:=spl_mem hy;simp only [List.length_cons];omega
    ·have hx:x ∈ spl l:=by rw [e];simp [h]
     have:=spl_mem hx;simp only [List.length_cons];omega
theorem parts_mem {s x:ByteArray} (h:x ∈ parts s):x.size≤s.size:=by
 unfold parts at h
 obtain ⟨y,hy,rfl⟩:=List.mem_map.1 h
 have:=spl_mem hy
 exact this
def splitR:Option (List ByteArray) → PV
 | some l=>.two (.c (.sl 1 (l.map strD))) (.c (.v (.int .i64 0)))
 | none=>.two (.c (.v (.slice none 0 0))) (.c (.v (.int .i64 10)))
attribute [push_cast] splitR
set_option maxHeartbeats 1000000 in
theorem nsplit_pure (s:ByteArray) (hs:s.size≤100000000) :
  PCalls Tryz.prog 65 [.c (.v (.string s))] [] fun r os=>r=splitR (splitP s)∧os=[]:=by
 have hrs:=rest_size s
 have hps:=parts_size (s:=restS s)
 have hsp:=split_pure (restS s) (by omega)
 have hpm:=fun x hx=>parts_mem (s:=restS s) (x:=x) hx
 unfold splitP
 obtain ⟨l,hl⟩:∃ l,parts (restS s)=l:=⟨_,rfl⟩
 rw [hl] at hps hsp ⊢
 simp only [hl] at hpm
 have hal:=all_pure l (by omega) (fun x hx=>by have:=hpm x hx;omega)
 have htk:=List.take_of_length_le (l:=l.map strD) (i:=l.length) (by simp)
 refine pcalls_of Tryz.func65 rfl (by simp [Tryz.ntmps65]) ?_
 rw [Tryz.ntmps65,Tryz.results65]
 have hcp:=cutp_pure s
 obtain ⟨b,hb⟩:∃ b,slashS s=b:=⟨_,rfl⟩
 obtain ⟨c,hc⟩:∃ c,l.all validS=c:=⟨_,rfl⟩
 rw [hb] at hcp ⊢
 rw [hc] at hal ⊢
 cases b<;>cases c
 all_goals push_cast [iO,tN]
 all_goals repeat' (first |  (refine plc [] (hcp) ?_ ?_;push_cast [iO,tN];rintro r os ⟨rfl,rfl⟩;push_cast [iO,tN])|(refine plc [] (hsp) ?_ ?_;push_cast [iO,tN];rintro r os ⟨rfl,rfl⟩;push_cast [iO,tN])|(refine pl_call2 true [] rfl rfl (by kernel_rfl) (hal) ?_ ?_ ?_;push_cast [iO,tN];(intro _ r os;rintro ⟨rfl,rfl⟩;push_cast [iO,tN]);rintro r os ⟨rfl,rfl⟩;refine pl_of_pops ?_;push_cast [iO,tN])  | ((first|refine pG ?_|refine pQ ?_|refine pU ?_);push_cast [iO,tN])|(refine pif (fun h=>?_) (fun h=>?_)<;>first|exact pN h|push_cast [iO,tN]))
 all_goals (refine retK_of [] ?_;push_cast [iO,tN,htk,and_self,and_false,false_and,Bool.false_eq_true])
theorem isnan_pure (s:ByteArray):PCalls Tryz.prog 173 [.c (.v (.string s))] [] fun r os=>r = .c (.v (.bool false))∧os=[]:=by
 refine pcalls_of Tryz.func173 rfl (by simp [Tryz.ntmps173]) ?_
 rw [Tryz.ntmps173,Tryz.results173]
 push_cast [iO,tN]
 repeat' (first|((first|refine pG ?_|refine pQ ?_|refine pU ?_);push_cast [iO,tN,ne_eq,not_true_eq_false])|(refine pif (fun h=>?_) (fun h=>?_)<;>first|exact pN h|push_cast [iO,tN,ne_eq,not_true_eq_false]))
 (refine retK_of [] ?_;push_cast [iO,tN])
theorem ccmp_pure (a b:ByteArray):PCalls Tryz.prog 150 [.c (.v (.string a)),.c (.v (.string b))] [] fun r os=>r = .c (.v (.int .i64 (cmpS a b)))∧os=[]:=by
 refine pcalls_of Tryz.func150 rfl (by simp [Tryz.ntmps150]) ?_
 rw [Tryz.ntmps150,Tryz.results150]
 unfold cmpS
 obtain ⟨x,hx⟩:∃ x,bless a b=x:=⟨_,rfl⟩
 obtain ⟨y,hy⟩:∃ y,bless b a=y:=⟨_,rfl⟩
 rw [hx,hy]
 cases x<;>cases y
 all_goals push_cast [iO,tN]
 all_goals repeat' (first|(refine plc [] (isnan_pure a) ?_ ?_;push_cast [iO,tN,hx,hy];rintro r os ⟨rfl,rfl⟩;push_cast [iO,tN,hx,hy])|(refine plc [] (isnan_pure b) ?_ ?_;push_cast [iO,tN,hx,hy];rintro r os ⟨rfl,rfl⟩;push_cast [iO,tN,hx,hy])|((first|refine pG ?_|refine pQ ?_|refine pU ?_);push_cast [iO,tN,hx,hy])|(refine pif (fun h=>?_) (fun h=>?_)<;>first|exact pN h|push_cast [iO,tN,hx,hy]))
 all_goals (refine retK_of [] ?_;push_cast [iO,tN])
theorem cmpL_atN:∀ {l m:List ByteArray} {k:Nat},k≤l.length → k≤m.length → l.take k=m.take k → cmpL l m=cmpL (l.drop k) (m.drop k)
 | l,m,0,_,_,_=>by simp
 | [],m,k+1,h,_,_=>by simp at h
 | a :: l,[],k+1,_,h,_=>by simp at h
 | a :: l,b :: m,k+1,h1,h2,h3=>by
  simp only [List.take_succ_cons,List.cons.injEq] at h3
  obtain ⟨rfl,h3⟩:=h3
  rw [cmpL,if_pos rfl]
  simp only [List.drop_succ_cons]
  exact cmpL_atN (by simpa using h1) (by simpa using h2) h3
theorem cmpL_stepN {l m:List ByteArray} {k:Nat} (h1:k < l.length) (h2:k < m.length) (h3:l.take k=m.take k):cmpL l m=if l.getD k default=m.getD k default then cmpL (l.drop (k+1)) (m.drop (k+1)) else cmpS (l.getD k default) (m.getD k default):=by
 rw [cmpL_atN (by omega) (by omega) h3,List.drop_eq_getElem_cons h1,List.drop_eq_getElem_cons h2,cmpL,getD_lt l h1,getD_lt m h2]
set_option maxHeartbeats 1000000 in
theorem scompare_pure (l m:List ByteArray) (hl:l.length≤1000000000) (hm:m.length≤1000000000) :
  PCalls Tryz.prog 118 [.c (.sl 1 (l.map strD)),.c (.sl 1 (m.map strD))] [] fun r os=>r = .c (.v (.int .i64 (cmpL l m)))∧os=[]:=by
 refine pcalls_of Tryz.func118 rfl (by simp [Tryz.ntmps118]) ?_
 rw [Tryz.ntmps118,Tryz.results118]
 push_cast [iO,tN]
 have cB:CutB 12 []:=trivial
 repeat' (first|((first|refine pC ?_|refine pQC ?_|refine pU ?_);push_cast [iO,tN])|(refine pif (fun h=>?_) (fun h=>?_)<;>first|exact pN h|push_cast [iO,tN]))
 (apply pwp_loop3 (α:=Nat) 12 [] (fun k=>[(11,.c (.v (.int .i64 k)))]) (fun k=>[]) (fun k=>k≤l.length∧k≤m.length∧l.take k=m.take k) (fun k=>l.length - k) (0);(focus ((try push_cast [iO,tN]);rfl));(focus exact ⟨by omega,by omega,rfl⟩);(focus ((refine weak_fg ?_;try push_cast [iO,tN]))))
 rintro k ⟨hk,hk2,he⟩
 push_cast [iO,tN]
 by_cases h1:k < l.length
 ·by_cases h2:k < m.length
  ·have hst:=cmpL_stepN h1 h2 he
   by_cases e:l.getD k default=m.getD k default
   ·have hc:cmpS (l.getD k default) (m.getD k default)=0:=cmpS_eq.2 e
    repeat' (first|(refine plc [] (ccmp_pure (l.getD k default) (m.getD k default)) ?_ ?_;push_cast [iO,tN,hc];rintro r os ⟨rfl,rfl⟩;push_cast [iO,tN,hc])|((first|refine pC ?_|refine pQC ?_|refine pU ?_);push_cast [iO,tN,hc])|(refine pif (fun h=>?_) (fun h=>?_)<;>first|exact pN h|push_cast [iO,tN,hc]))
    refine ⟨k+1,⟨by omega,by omega,?_⟩,by (refine weak_fg ?_;push_cast [iO,tN]),by omega⟩
    rw [List.take_succ_eq_append_getElem h1,List.take_succ_eq_append_getElem h2,he,← getD_lt l h1,← getD_lt m h2,e]
   ·have hc:¬ cmpS (l.getD k default) (m.getD k default)=0:=fun h=>e (cmpS_eq.1 h)
    rw [if_neg e] at hst
    repeat' (first|(refine plc [] (ccmp_pure (l.getD k default) (m.getD k default)) ?_ ?_;push_cast [iO,tN,hc];rintro r os ⟨rfl,rfl⟩;push_cast [iO,tN,hc])|((first|refine pC ?_|refine pQC ?_|refine pU ?_);push_cast [iO,tN,hc])|(refine pif (fun h=>?_) (fun h=>?_)<;>first|exact pN h|push_cast [iO,tN,hc]))
    (refine retK_of [] ?_;push_cast [iO,tN])
    rw [hst]
  ·have hke:k=m.length:=by omega
   have hcl:cmpL l m=1:=by
    have hz:m.drop k=[]:=List.drop_eq_nil_of_le (by omega)
    rw [cmpL_atN (by omega) (by omega) he,hz,List.drop_eq_getElem_cons h1];rfl
   repeat' (first|((first|refine pC ?_|refine pQC ?_|refine pU ?_);push_cast [iO,tN])|(refine pif (fun h=>?_) (fun h=>?_)<;>first|exact pN h|push_cast [iO,tN]))
   (refine retK_of [] ?_;push_cast [iO,tN])
   rw [hcl]
 ·have hke:k=l.length:=by omega
  by_cases h2:k < m.length
  ·have hcl:cmpL l m = -1:=by
    have hz:l.drop k=[]:=List.drop_eq_nil_of_le (by omega)
    rw [cmpL_atN (by omega) (by omega) he,hz,List.drop_eq_getElem_cons h2];rfl
   repeat' (first|((first|refine pC ?_|refine pQC ?_|refine pU ?_);push_cast [iO,tN])|(refine pif (fun h=>?_) (fun h=>?_)<;>first|exact pN h|push_cast [iO,tN]))
   (refine retK_of [] ?_;push_cast [iO,tN])
   rw [hcl]
  ·have hcl:cmpL l m=0:=by
    rw [cmpL_atN (by omega) (by omega) he,List.drop_eq_nil_of_le (by omega),List.drop_eq_nil_of_le (by omega)];rfl
   repeat' (first|((first|refine pC ?_|refine pQC ?_|refine pU ?_);push_cast [iO,tN])|(refine pif (fun h=>?_) (fun h=>?_)<;>first|exact pN h|push_cast [iO,tN]))
   (refine retK_of [] ?_;push_cast [iO,tN])
   rw [hcl]
def cmpR (a b:ByteArray):PV:=match splitP a,splitP b with
 | some l,some m=>.two (.c (.v (.int .i64 (cmpL l m)))) (.c (.v (.int .i64 0)))
 | _,_=>.two (.c (.v (.int .i64 0))) (.c (.v (.int .i64 10)))
theorem splitP_size {s:ByteArray} {l:List ByteArray} (h:splitP s=some l):l.length≤s.size+1:=by
 unfold splitP at h
 split at h
 ·cases h;have:=rest_size s;have:=parts_size (s:=restS s);omega
 ·cases h
set_option maxHeartbeats 1000000 in
theorem ncompare_pure (a b:ByteArray) (ha:a.size≤100000000) (hb:b.size≤100000000) :
  PCalls Tryz.prog 66 [.c (.v (.string a)),.c (.v (.string b))] [] fun r os=>r=cmpR a b∧os=[]:=by
 have h1:=nsplit_pure a ha
 have h2:=nsplit_pure b hb
 unfold cmpR
 refine pcalls_of Tryz.func66 rfl (by simp [Tryz.ntmps66]) ?_
 rw [Tryz.ntmps66,Tryz.results66]
 cases e1:splitP a with
 | none =>
  rw [e1] at h1
  cases e2:splitP b with
  | none =>
   rw [e2] at h2
   push_cast [iO,tN]
   repeat' (first |  (refine plc [] (h1) ?_ ?_;push_cast [iO,tN];rintro r os ⟨rfl,rfl⟩;push_cast [iO,tN])|(refine plc [] (h2) ?_ ?_;push_cast [iO,tN];rintro r os ⟨rfl,rfl⟩;push_cast [iO,tN])  | ((first|refine pG ?_|refine pQ ?_|refine pU ?_);push_cast [iO,tN])|(refine pif (fun h=>?_) (fun h=>?_)<;>first|exact pN h|push_cast [iO,tN]))
   (refine retK_of [] ?_;push_cast [iO,tN])
  | some m =>
   rw [e2] at h2
   push_cast [iO,tN]
   repeat' (first |  (refine plc [] (h1) ?_ ?_;push_cast [iO,tN];rintro r os ⟨rfl,rfl⟩;push_cast [iO,tN])|(refine plc [] (h2) ?_ ?_;push_cast [iO,tN];rintro r os ⟨rfl,rfl⟩;push_cast [iO,tN])  | ((first|refine pG ?_|refine pQ ?_|refine pU ?_);push_cast [iO,tN])|(refine pif (fun h=>?_) (fun h=>?_)<;>first|exact pN h|push_cast [iO,tN]))
   (refine retK_of [] ?_;push_cast [iO,tN])
 | some l =>
  rw [e1] at h1
  cases e2:splitP b with
  | none =>
   rw [e2] at h2
   push_cast [iO,tN]
   repeat' (first |  (refine plc [] (h1) ?_ ?_;push_cast [iO,tN];rintro r os ⟨rfl,rfl⟩;push_cast [iO,tN])|(refine plc [] (h2) ?_ ?_;push_cast [iO,tN];rintro r os ⟨rfl,rfl⟩;push_cast [iO,tN])  | ((first|refine pG ?_|refine pQ ?_|refine pU ?_);push_cast [iO,tN])|(refine pif (fun h=>?_) (fun h=>?_)<;>first|exact pN h|push_cast [iO,tN]))
   (refine retK_of [] ?_;push_cast [iO,tN])
  | some m =>
   rw [e2] at h2
   have:=splitP_size e1
   have:=splitP_size e2
   push_cast [iO,tN]
   repeat' (first |  (refine plc [] (h1) ?_ ?_;push_cast [iO,tN];rintro r os ⟨rfl,rfl⟩;push_cast [iO,tN])|(refine plc [] (h2) ?_ ?_;push_cast [iO,tN];rintro r os ⟨rfl,rfl⟩;push_cast [iO,tN])|(refine plc [] (scompare_pure l m (by omega) (by omega)) ?_ ?_;push_cast [iO,tN];rintro r os ⟨rfl,rfl⟩;push_cast [iO,tN])  | ((first|refine pG ?_|refine pQ ?_|refine pU ?_);push_cast [iO,tN])|(refine pif (fun h=>?_) (fun h=>?_)<;>first|exact pN h|push_cast [iO,tN]))
   (refine retK_of [] ?_;push_cast [iO,tN])
end Go.Proofs.YthconflkbeipoaaGreatDoor
namespace Go.Proofs.YthconflkbeipoaaGreatDoor
open Go.RowKit
open IntWalk renaming iteOmega → iO, toNatUp → tN
set_option linter.unusedVariables false
set_option linter.unusedSimpArgs false
structure Acc where
 path:ByteArray
 node:ByteArray
 user:ByteArray
 deriving DecidableEq
instance:Inhabited Acc:=⟨⟨⟨#[]⟩,⟨#[]⟩,⟨#[]⟩⟩⟩
def Acc.d (a:Acc):List D:=[.v (.string a.path),.v (.string a.node),.v (.string a.user)]
def Acc.e (a:Acc):List E:=a.d.map D.e
structure Chg where
 kind:Int
 acc:Acc
instance:Inhabited Chg:=⟨⟨0,default⟩⟩
def Chg.d (c:Chg):List D:=.v (.int .i64 c.kind) :: c.acc.d
def Chg.e (c:Chg):List E:=c.d.map D.e
attribute [push_cast] Acc.d Acc.e Chg.d Chg.e
def cmpP (a b:ByteArray):Int:=match splitP a,splitP b with
 | some l,some m=>cmpL l m
 | _,_=>0
def okP1 (a:ByteArray):Prop:=∃ l,splitP a=some l
theorem cmpP_anti (a b:ByteArray):cmpP b a = -cmpP a b:=by
 unfold cmpP
 cases splitP a<;>cases splitP b<;>simp
 exact cmpL_anti _ _
theorem cmpP_trans {a b c:ByteArray} (h1:cmpP a b < 0) (h2:cmpP b c < 0):cmpP a c < 0:=by
 unfold cmpP at *
 cases ha:splitP a<;>cases hb:splitP b<;>cases hc:splitP c<;>simp_all
 exact cmpL_trans h1 h2
theorem cmpP_irr (a:ByteArray):¬ cmpP a a < 0:=by have:=cmpP_anti a a;omega
theorem spl_inj:∀ {l m:List UInt8},spl l=spl m → l=m
 | [],[],_=>rfl
 | [],b :: m,h=>by
  rw [spl,spl] at h
  split at h
  ·injection h with _ h;exact absurd h.symm (spl_ne m)
  ·split at h<;>simp at h
 | b :: l,[],h=>by
  rw [spl,spl] at h
  split at h
  ·injection h with _ h;exact absurd h (spl_ne l)
  ·split at h<;>simp at h
 | b :: l,c :: m,h=>by
  have key:∀ (b:UInt8) (l:List UInt8),b≠47 → ∃ h t,spl l=h :: t∧spl (b :: l)=(b :: h) :: t:=by
   intro b l hb
   cases hs:spl l with
   | nil=>exact absurd hs (spl_ne l)
   | cons h t=>exact ⟨h,t,rfl,by rw [spl,if_neg hb,hs]⟩
  by_cases e1:b=47<;>by_cases e2:c=47
  ·subst e1;subst e2
   rw [spl,spl,if_pos rfl,if_pos rfl] at h
   injection h with _ h
   rw [spl_inj h]
  ·obtain ⟨h1,t1,_,i2⟩:=key c m e2
   subst e1
   rw [i2,spl,if_pos rfl] at h
   injection h with h _;cases h
  ·obtain ⟨h1,t1,_,i2⟩:=key b l e1
   subst e2
   rw [i2,spl,if_pos rfl] at h
   injection h with h _;cases h
  ·obtain ⟨h1,t1,i1,i2⟩:=key b l e1
   obtain ⟨h2,t2,j1,j2⟩:=key c m e2
   rw [i2,j2] at h
   injection h with h h'
   injection h with h h''
   subst h;subst h';subst h''
   rw [spl_inj (i1.trans j1.symm)]
theorem parts_inj {s t:ByteArray} (h:parts s=parts t):s=t:=by
 unfold parts at h
 have h2:spl s.data.toList=spl t.data.toList:=by
  have:∀ {a b:List (List UInt8)},a.map unT=b.map unT → a=b:=by
   intro a
   induction a with
   | nil=>intro b h;cases b<;>simp at h ⊢
   | cons x a ih =>
    intro b h
    cases b with
    | nil=>simp at h
    | cons y b =>
     simp only [List.map_cons,List.cons.injEq] at h
     obtain ⟨h1,h2⟩:=h
     have hx:x=y:=by have:=congrArg (fun z:ByteArray=>z.data.toList) h1;simpa [unT] using this
     rw [hx,ih h2]
  exact this h
 have h3:=spl_inj h2
 cases s;cases t
 simp only at h3
 congr
 exact Array.toList_inj.1 h3
theorem slash_rest {s:ByteArray} (h:slashS s=true):s.data.toList=47 :: (restS s).data.toList:=by
 unfold restS
 rw [if_pos h]
 unfold slashS Lib.hasPrefix at h
 rw [Lib.extract_to_end]
 cases e:s.data.toList with
 | nil=>rw [e] at h;simp [List.isPrefixOf] at h
 | cons b l=>rw [e] at h;simp [List.isPrefixOf] at h;subst h;rfl
theorem splitP_inj {a b:ByteArray} {l:List ByteArray} (ha:splitP a=some l) (hb:splitP b=some l):a=b:=by
 unfold splitP at ha hb
 split at ha
 ·rename_i h1
  split at hb
  ·rename_i h2
   cases ha
   injection hb with hb
   have hr:=parts_inj hb
   have e1:=slash_rest h1.1
   have e2:=slash_rest h2.1
   rw [hr,← e1] at e2
   cases a;cases b
   simp only at e2
   congr
   exact (Array.toList_inj.1 e2).symm
  ·cases hb
 ·cases ha
theorem cmpP_eq {a b:ByteArray} (ha:okP1 a) (hb:okP1 b):cmpP a b=0 ↔ a=b:=by
 obtain ⟨l,hl⟩:=ha
 obtain ⟨m,hm⟩:=hb
 unfold cmpP
 rw [hl,hm]
 simp only
 rw [cmpL_eq]
 exact ⟨fun h=>splitP_inj hl (by rw [hm,h]),fun h=>by subst h;rw [hl] at hm;injection hm⟩
def ltA (a b:Acc):Prop:=cmpP a.path b.path < 0
structure Right (l:List Acc):Prop where
 ok:∀ a ∈ l,okP1 a.path
 asc:l.Pairwise ltA
 nodes:(l.map Acc.node).Nodup
theorem Right.nodup {l:List Acc} (h:Right l):l.Nodup:=h.asc.imp fun {a b} h e=>by subst e;exact cmpP_irr _ h
theorem Right.sublist {l m:List Acc} (h:Right l) (hs:m.Sublist l):Right m:=⟨fun a ha=>h.ok a (hs.subset ha),h.asc.sublist hs,h.nodes.sublist (hs.map _)⟩
instance (a b:Acc):Decidable (ltA a b):=inferInstanceAs (Decidable (cmpP a.path b.path < 0))
def insA (x:Acc) (l:List Acc):List Acc:=(l.takeWhile fun y=>decide (ltA y x))++x :: l.dropWhile fun y=>decide (ltA y x)
theorem tw_pre {l:List Acc} (h:l.Pairwise ltA) (x:Acc):(∀ y ∈ l.takeWhile fun y=>decide (ltA y x),ltA y x)∧∀ y ∈ l.dropWhile fun y=>decide (ltA y x),¬ ltA y x:=by
 induction l with
 | nil=>simp
 | cons a l ih =>
  obtain ⟨h1,h2⟩:=List.pairwise_cons.1 h
  obtain ⟨i1,i2⟩:=ih h2
  by_cases hx:ltA a x
  ·rw [List.takeWhile_cons_of_pos (by simpa using hx),List.dropWhile_cons_of_pos (by simpa using hx)]
   exact ⟨fun y hy=>by rcases List.mem_cons.1 hy with rfl|hy;exact hx;exact i1 y hy,i2⟩
  ·rw [List.takeWhile_cons_of_neg (by simpa using hx),List.dropWhile_cons_of_neg (by simpa using hx)]
   refine ⟨by simp,fun y hy=>?_⟩
   rcases List.mem_cons.1 hy with rfl|hy
   ·exact hx
   ·exact fun hc=>hx (cmpP_trans (h1 y hy) hc)
theorem mem_ins {x:Acc} {l:List Acc} {y:Acc}:y ∈ insA x l ↔ y=x∨y ∈ l:=by
 have e:l=(l.takeWhile fun y=>decide (ltA y x))++l.dropWhile fun y=>decide (ltA y x):=List.takeWhile_append_dropWhile.symm
 constructor
 ·intro h
  rcases List.mem_append.1 h with h|h
  ·right;rw [e];exact List.mem_append.2 (.inl h)
  ·rcases List.mem_cons.1 h with h|h
   ·exact .inl h
   ·right;rw [e];exact List.mem_append.2 (.inr h)
 ·rintro (h|h)
  ·subst h;simp [insA]
  ·rw [e] at h
   rcases List.mem_append.1 h with h|h
   ·exact List.mem_append.2 (.inl h)
   ·exact List.mem_append.2 (.inr (List.mem_cons_of_mem _ h))
theorem Right.ins {l:List Acc} {x:Acc} (h:Right l) (hx:okP1 x.path) (hp:∀ y ∈ l,y.path≠x.path) (hn:∀ y ∈ l,y.node≠x.node):Right (insA x l):=by
 obtain ⟨t1,t2⟩:=tw_pre h.asc x
 have e:l=(l.takeWhile fun y=>decide (ltA y x))++l.dropWhile fun y=>decide (ltA y x):=List.takeWhile_append_dropWhile.symm
 have hasc:=h.asc
 have hnd:=h.nodes
 refine ⟨fun a ha=>?_,?_,?_⟩
 ·rcases mem_ins.1 ha with rfl|ha
  ·exact hx
  ·exact h.ok a ha
 ·have hgt:∀ y ∈ l.dropWhile fun y=>decide (ltA y x),ltA x y:=by
   intro y hy
   have hyl:y ∈ l:=by rw [e];exact List.mem_append.2 (.inr hy)
   have h1:=t2 y hy
   have h2:cmpP y.path x.path≠0:=fun hc=>hp y hyl ((cmpP_eq (h.ok y hyl) hx).1 hc)
   have h3:=cmpP_anti y.path x.path
   unfold ltA at *
   omega
  rw [e] at hasc
  obtain ⟨p1,p2,p3⟩:=List.pairwise_append.1 hasc
  refine List.pairwise_append.2 ⟨p1,List.pairwise_cons.2 ⟨hgt,p2⟩,fun a ha b hb=>?_⟩
  rcases List.mem_cons.1 hb with rfl|hb
  ·exact t1 a ha
  ·exact p3 a ha b hb
 ·have hperm:(insA x l).Perm (x :: l):=by
   conv=>rhs;rw [e]
   exact List.perm_middle
  refine (hperm.map Acc.node).nodup_iff.2 ?_
  rw [List.map_cons,List.nodup_cons]
  refine ⟨fun hc=>?_,h.nodes⟩
  obtain ⟨y,hy,he⟩:=List.mem_map.1 hc
  exact hn y hy he
def applyA (l:List Acc) (c:Chg):Option (List Acc) × Int :=
 if c.kind=1 then (if c.acc ∈ l then (some (l.filter fun x=>decide (x≠c.acc)),0) else (none,381))
 else if c.kind=2 then (if ∃ y ∈ l,y.path=c.acc.path∨y.node=c.acc.node then (none,382) else match splitP c.acc.path with
  | none=>(none,383)
  | some _=>(some (insA c.acc l),0))
 else (none,380)
theorem Right.apply {l m:List Acc} {c:Chg} {n:Int} (h:Right l) (ha:applyA l c=(some m,n)):Right m:=by
 unfold applyA at ha
 split at ha
 ·split at ha
  ·cases ha;exact h.sublist List.filter_sublist
  ·cases ha
 ·split at ha
  ·split at ha
   ·cases ha
   ·rename_i hno
    split at ha
    ·cases ha
    ·rename_i l0 hs
     cases ha
     exact h.ins ⟨_,hs⟩ (fun y hy e=>hno ⟨y,hy,.inl e⟩) (fun y hy e=>hno ⟨y,hy,.inr e⟩)
  ·cases ha
structure Wsh where
 path:ByteArray
 names:List ByteArray
 deriving DecidableEq,Inhabited
def Wsh.d (w:Wsh):List D:=[.v (.string w.path),.sl 1 (w.names.map strD)]
attribute [push_cast] Wsh.d
def Wsh.e (w:Wsh):List E:=[.v (.string w.path),.sl 1 (w.names.map strD)]
attribute [push_cast] Wsh.e
def digN (n:Nat):ByteArray:=⟨(Lib.decDigits n).toArray⟩
def readGo:List UInt8 → Nat → Nat
 | [],a=>a
 | b :: l,a=>readGo l (a * 10+(b.toNat - 48))
theorem readGo_app:∀ (l m:List UInt8) (a:Nat),readGo (l++m) a=readGo m (readGo l a)
 | [],m,a=>rfl
 | b :: l,m,a=>readGo_app l m _
theorem dec_read (n:Nat):readGo (Lib.decDigits n) 0=n:=by
 induction n using Nat.strongRecOn with
 | ind n ih =>
  rw [Lib.decDigits]
  split
  ·rename_i h
   have:(UInt8.ofNat (48+n)).toNat=48+n:=by rw [UInt8.toNat_ofNat'];omega
   simp only [readGo]
   rw [this];omega
  ·rename_i h
   rw [readGo_app,ih (n / 10) (by omega)]
   have:(UInt8.ofNat (48+n % 10)).toNat=48+n % 10:=by rw [UInt8.toNat_ofNat'];omega
   simp only [readGo]
   rw [this];omega
theorem digN_inj {m n:Nat} (h:digN m=digN n):m=n:=by
 have h2:Lib.decDigits m=Lib.decDigits n:=by
  unfold digN at h
  injection h with h
  simpa using congrArg Array.toList h
 rw [← dec_read m,h2,dec_read]
def ifN (n:Nat):ByteArray:=⟨#[105,102]⟩++digN n
theorem app_inj {a b c:ByteArray} (h:a++b=a++c):b=c:=by
 have h2:=congrArg (fun s:ByteArray=>s.data.toList) h
 simp only [ByteArray.data_append,Array.toList_append] at h2
 have h3:=List.append_cancel_left h2
 cases b;cases c
 simp only at h3
 congr
 exact Array.toList_inj.1 h3
theorem ifN_inj {m n:Nat} (h:ifN m=ifN n):m=n:=digN_inj (app_inj h)
def freshGo (W:List ByteArray):Nat → Nat → Nat
 | 0,n=>n
 | k+1,n=>if inM (ifN n) W=true then freshGo W k (n+1) else n
theorem freshGo_ge (W:List ByteArray):∀ k n,n≤freshGo W k n
 | 0,n=>Nat.le_refl _
 | k+1,n=>by
  rw [freshGo]
  split
  ·have:=freshGo_ge W k (n+1);omega
  ·exact Nat.le_refl _
theorem freshGo_le (W:List ByteArray):∀ k n,freshGo W k n≤n+k
 | 0,n=>Nat.le_refl _
 | k+1,n=>by
  rw [freshGo]
  split
  ·have:=freshGo_le W k (n+1);omega
  ·omega
theorem freshGo_mid (W:List ByteArray):∀ k n m,n≤m → m < freshGo W k n → inM (ifN m) W=true
 | 0,n,m,h1,h2=>by rw [freshGo] at h2;omega
 | k+1,n,m,h1,h2=>by
  rw [freshGo] at h2
  split at h2
  ·rename_i h
   by_cases e:m=n
   ·rw [e];exact h
   ·exact freshGo_mid W k (n+1) m (by omega) h2
  ·omega
theorem nodup_sub_len {α:Type} [DecidableEq α]:∀ {l m:List α},l.Nodup → (∀ x ∈ l,x ∈ m) → l.length≤m.length
 | [],m,_,_=>Nat.zero_le _
 | a :: l,m,h,hs=>by
  obtain ⟨h1,h2⟩:=List.nodup_cons.1 h
  have ha:=hs a (by simp)
  have:=nodup_sub_len (l:=l) (m:=m.erase a) h2 fun x hx=>by
   have hx2:=hs x (by simp [hx])
   exact (List.mem_erase_of_ne (fun e=>h1 (by rw [← e];exact hx))).2 hx2
  rw [List.length_erase_of_mem ha] at this
  have hp:0 < m.length:=List.length_pos_of_mem ha
  rw [List.length_cons]
  omega
theorem freshGo_end (W:List ByteArray) {k n:Nat} (hk:W.length < k):inM (ifN (freshGo W k n)) W=false:=by
 have key:∀ k n,inM (ifN (freshGo W k n)) W=true → freshGo W k n=n+k:=by
  intro k
  induction k with
  | zero=>intro n _;rfl
  | succ k ih =>
   intro n h
   rw [freshGo] at h ⊢
   split
   ·rename_i hc
    rw [if_pos hc] at h
    rw [ih (n+1) h];omega
   ·rename_i hc
    rw [if_neg hc] at h
    exact absurd h hc
 cases hc:inM (ifN (freshGo W k n)) W with
 | false=>rfl
 | true =>
  exfalso
  have h1:=key k n hc
  have h2:((List.range k).map fun j=>ifN (n+j)).Nodup:=by
   rw [List.Nodup,List.pairwise_map]
   refine List.nodup_range.imp fun hne e=>hne ?_
   have:=ifN_inj e
   omega
  have h3:=nodup_sub_len h2 (m:=W) fun x hx=>by
   obtain ⟨j,hj,rfl⟩:=List.mem_map.1 hx
   rw [List.mem_range] at hj
   exact inM_iff.1 (freshGo_mid W k n (n+j) (by omega) (by omega))
  rw [List.length_map,List.length_range] at h3
  omega
def freshN (W:List ByteArray) (n:Nat):Nat:=freshGo W (W.length+1) n
theorem fresh_ge (W:List ByteArray) (n:Nat):n≤freshN W n:=freshGo_ge W _ n
theorem fresh_le (W:List ByteArray) (n:Nat):freshN W n≤n+W.length+1:=freshGo_le W _ n
theorem fresh_not (W:List ByteArray) (n:Nat):inM (ifN (freshN W n)) W=false:=freshGo_end W (by omega)
theorem fresh_mid (W:List ByteArray) {n m:Nat} (h1:n≤m) (h2:m < freshN W n):inM (ifN m) W=true:=freshGo_mid W _ n m h1 h2
def namesOk (ns:List ByteArray):Bool:=(List.range ns.length).all fun k=>ifaceS (ns.getD k default) && !inM (ns.getD k default) (ns.take k)
def wshAt (l:List Wsh) (i:Nat):Bool:=((splitP (l.getD i default).path).isSome && (decide (i=0) || decide (cmpP (l.getD (i - 1) default).path (l.getD i default).path < 0))) && namesOk (l.getD i default).names
def wshOk (l:List Wsh):Bool:=(List.range l.length).all (wshAt l)
theorem wshOk_at {l:List Wsh} (h:wshOk l=true) {i:Nat} (hi:i < l.length):wshAt l i=true:=List.all_eq_true.1 h i (List.mem_range.2 hi)
theorem namesOk_at {ns:List ByteArray} (h:namesOk ns=true) {k:Nat} (hk:k < ns.length):ifaceS (ns.getD k default)=true∧inM (ns.getD k default) (ns.take k)=false:=by
 have:=List.all_eq_true.1 h k (List.mem_range.2 hk)
 simpa using this
theorem iface_ne {s:ByteArray} (h:ifaceS s=true):s≠⟨#[]⟩:=fun e=>by
 subst e
 revert h
 decide +kernel
theorem iface_size {s:ByteArray} (h:ifaceS s=true):s.size≤15:=by
 unfold ifaceS at h
 simp only [Bool.and_eq_true,decide_eq_true_eq] at h
 exact h.1.2
def rankK (l:List Wsh) (r k:Nat):List (Nat × ByteArray):=((List.range k).filter fun i=>decide (r < (l.getD i default).names.length)).map fun i=>(i,(l.getD i default).names.getD r default)
theorem rankK_zero (l:List Wsh) (r:Nat):rankK l r 0=[]:=rfl
theorem rankK_t {l:List Wsh} {r k:Nat} (h:r < (l.getD k default).names.length):rankK l r (k+1)=rankK l r k++[(k,(l.getD k default).names.getD r default)]:=by
 unfold rankK
 rw [List.range_succ,List.filter_append,List.map_append,List.filter_cons_of_pos (by simpa using h),List.filter_nil,List.map_singleton]
theorem rankK_f {l:List Wsh} {r k:Nat} (h:¬ r < (l.getD k default).names.length):rankK l r (k+1)=rankK l r k:=by
 unfold rankK
 rw [List.range_succ,List.filter_append,List.map_append,List.filter_cons_of_neg (by simpa using h),List.filter_nil,List.map_nil,List.append_nil]
def prsL (l:List Wsh) (n:Nat):List (Nat × ByteArray):=(List.range n).flatMap fun r=>rankK l r l.length
theorem prsL_succ (l:List Wsh) (n:Nat):prsL l (n+1)=prsL l n++rankK l n l.length:=by
 unfold prsL
 rw [List.range_succ,List.flatMap_append,List.flatMap_singleton]
def maxR (l:List Wsh):Nat:=l.foldl (fun a w=>max a w.names.length) 0
theorem foldl_max_ge (l:List Wsh):∀ a,a≤l.foldl (fun a w=>max a w.names.length) a∧∀ w ∈ l,w.names.length≤l.foldl (fun a w=>max a w.names.length) a:=by
 induction l with
 | nil=>intro a;exact ⟨Nat.le_refl _,fun w hw=>by cases hw⟩
 | cons x l ih =>
  intro a
  obtain ⟨h1,h2⟩:=ih (max a x.names.length)
  refine ⟨Nat.le_trans (Nat.le_max_left _ _) h1,fun w hw=>?_⟩
  rcases List.mem_cons.1 hw with rfl|hw
  ·exact Nat.le_trans (Nat.le_max_right _ _) h1
  ·exact h2 w hw
theorem maxR_ge {l:List Wsh} {w:Wsh} (h:w ∈ l):w.names.length≤maxR l:=(foldl_max_ge l 0).2 w h
abbrev AsgS:=List ByteArray × List ByteArray
def stepW (st:AsgS) (p:Nat × ByteArray):AsgS:=if st.1.getD p.1 default=⟨#[]⟩∧inM p.2 st.2=false then (st.1.set p.1 p.2,addS st.2 p.2) else st
def startA (l:List Wsh):AsgS:=(List.replicate l.length ⟨#[]⟩,[])
def runA (l:List Wsh) (ps:List (Nat × ByteArray)):AsgS:=ps.foldl stepW (startA l)
theorem runA_snoc (l:List Wsh) (ps:List (Nat × ByteArray)) (p:Nat × ByteArray):runA l (ps++[p])=stepW (runA l ps) p:=by unfold runA;rw [List.foldl_append];rfl
def wantedA (ps:List (Nat × ByteArray)):List ByteArray:=ps.foldl (fun W p=>addS W p.2) []
theorem wantedA_snoc (ps:List (Nat × ByteArray)) (p:Nat × ByteArray):wantedA (ps++[p])=addS (wantedA ps) p.2:=by unfold wantedA;rw [List.foldl_append];rfl
theorem mem_wantedA (ps:List (Nat × ByteArray)) (s:ByteArray):s ∈ wantedA ps ↔ ∃ p ∈ ps,p.2=s:=by
 have key:∀ (ps:List (Nat × ByteArray)) (W:List ByteArray),s ∈ ps.foldl (fun W p=>addS W p.2) W ↔ s ∈ W∨∃ p ∈ ps,p.2=s:=by
  intro ps
  induction ps with
  | nil=>intro W;simp
  | cons p ps ih =>
   intro W
   rw [List.foldl_cons,ih,mem_addS]
   simp only [List.mem_cons,exists_eq_or_imp]
   constructor
   ·rintro ((h|h)|h)
    ·exact .inl h
    ·exact .inr (.inl h.symm)
    ·exact .inr (.inr h)
   ·rintro (h|h|h)
    ·exact .inl (.inl h)
    ·exact .inl (.inr h.symm)
    ·exact .inr h
 unfold wantedA
 rw [key]
 simp
def fillW (W:List ByteArray) (st:List ByteArray × Nat) (i:Nat):List ByteArray × Nat:=if st.1.getD i default=⟨#[]⟩ then (st.1.set i (ifN (freshN W st.2)),freshN W st.2+1) else st
def fillWK (W:List ByteArray) (vals:List ByteArray) (k:Nat):List ByteArray × Nat:=(List.range k).foldl (fillW W) (vals,0)
theorem fillWK_succ (W vals:List ByteArray) (k:Nat):fillWK W vals (k+1)=fillW W (fillWK W vals k) k:=by unfold fillWK;rw [List.range_succ,List.foldl_append];rfl
def valsA (l:List Wsh):List ByteArray:=(runA l (prsL l (maxR l))).1
def namedA (l:List Wsh):List ByteArray:=(fillWK (wantedA (prsL l (maxR l))) (valsA l) l.length).1
def assignA (l:List Wsh):List Atr:=(List.range l.length).map fun i=>⟨(l.getD i default).path,(namedA l).getD i default⟩
end Go.Proofs.YthconflkbeipoaaGreatDoor
namespace Go.Proofs.YthconflkbeipoaaGreatDoor
attribute [local irreducible] PL QL PWPr PCalls Weak RetK Kontr PA
open Go.RowKit
open IntWalk renaming iteOmega → iO, toNatUp → tN
set_option linter.unusedVariables false
set_option linter.unusedSimpArgs false
set_option maxRecDepth 20000
theorem sindex_pure (l:List ByteArray) (s:ByteArray) (hl:l.length≤1000000000) :
  PCalls Tryz.prog 120 [.c (.sl 1 (l.map strD)),.c (.v (.string s))] [] fun r os=>∃ k:Int,((k = -1∧s ∉ l)∨∃ i:Nat,k=i∧s ∈ l)∧r = .c (.v (.int .i64 k))∧os=[]:=by
 refine pcalls_of Tryz.func120 rfl (by simp [Tryz.ntmps120]) ?_
 rw [Tryz.ntmps120,Tryz.results120]
 push_cast [iO,tN]
 have cB:CutB 6 [7,8]:=trivial
 repeat' (first|((first|refine pC ?_|refine pQC ?_|refine pU ?_);push_cast [iO,tN])|(refine pif (fun h=>?_) (fun h=>?_)<;>first|exact pN h|push_cast [iO,tN]))
 (apply pwp_loop3 (α:=Nat) 6 [7,8] (fun k=>[(8,.c (.v (.int .i64 k)))]) (fun k=>[]) (fun k=>k≤l.length∧s ∉ l.take k) (fun k=>l.length - k) (0);(focus ((try push_cast [iO,tN]);rfl));(focus exact ⟨Nat.zero_le _,by simp⟩);(focus ((refine weak_fg ?_;try push_cast [iO,tN]))))
 rintro k ⟨hk,hpre⟩
 push_cast [iO,tN]
 by_cases hlt:k < l.length
 ·by_cases hq:s=l.getD k default
  ·repeat' (first|((first|refine pC ?_|refine pQC ?_|refine pU ?_);push_cast [iO,tN,hq])|(refine pif (fun h=>?_) (fun h=>?_)<;>first|exact pN h|push_cast [iO,tN,hq]))
   (refine retK_of [] ?_;push_cast [iO,tN])
   exact ⟨_,_,leP_refl _,leOs_refl _,_,.inr ⟨k,rfl,by first|(rw [getD_lt l hlt];exact List.getElem_mem _)|(rw [hq,getD_lt l hlt];exact List.getElem_mem _)⟩,rfl,rfl⟩
  ·repeat' (first|((first|refine pC ?_|refine pQC ?_|refine pU ?_);push_cast [iO,tN,hq])|(refine pif (fun h=>?_) (fun h=>?_)<;>first|exact pN h|push_cast [iO,tN,hq]))
   refine ⟨k+1,⟨by omega,?_⟩,by (refine weak_fg ?_;push_cast [iO,tN]),by omega⟩
   rw [List.take_succ_eq_append_getElem hlt,List.mem_append,List.mem_singleton]
   rintro (h|h)
   ·exact hpre h
   ·exact hq (by rw [getD_lt l hlt];exact h)
 ·rw [List.take_of_length_le (by omega)] at hpre
  repeat' (first|((first|refine pC ?_|refine pQC ?_|refine pU ?_);push_cast [iO,tN])|(refine pif (fun h=>?_) (fun h=>?_)<;>first|exact pN h|push_cast [iO,tN]))
  (refine retK_of [] ?_;push_cast [iO,tN])
  exact ⟨_,_,leP_refl _,leOs_refl _,_,.inl ⟨rfl,hpre⟩,rfl,rfl⟩
theorem scontains_pure (l:List ByteArray) (s:ByteArray) (hl:l.length≤1000000000) :
  PCalls Tryz.prog 68 [.c (.sl 1 (l.map strD)),.c (.v (.string s))] [] fun r os=>r = .c (.v (.bool (inM s l)))∧os=[]:=by
 have hi:=sindex_pure l s hl
 refine pcalls_of Tryz.func68 rfl (by simp [Tryz.ntmps68]) ?_
 rw [Tryz.ntmps68,Tryz.results68]
 push_cast [iO,tN]
 repeat' (first|((first|refine pG ?_|refine pQ ?_|refine pU ?_);push_cast [iO,tN])|(refine pif (fun h=>?_) (fun h=>?_)<;>first|exact pN h|push_cast [iO,tN]))
 (refine plc [] (hi) ?_ ?_;push_cast [iO,tN];rintro r os ⟨k,hk,rfl,rfl⟩;push_cast [iO,tN])
 rcases hk with ⟨rfl,h⟩|⟨i,rfl,h⟩
 ·have h:=inM_false.2 h
  repeat' (first|((first|refine pG ?_|refine pQ ?_|refine pU ?_);push_cast [iO,tN])|(refine pif (fun h=>?_) (fun h=>?_)<;>first|exact pN h|push_cast [iO,tN]))
  (refine retK_of [] ?_;push_cast [iO,tN,h])
 ·have h:=inM_iff.2 h
  repeat' (first|((first|refine pG ?_|refine pQ ?_|refine pU ?_);push_cast [iO,tN])|(refine pif (fun h=>?_) (fun h=>?_)<;>first|exact pN h|push_cast [iO,tN]))
  (refine retK_of [] ?_;push_cast [iO,tN,h])
  all_goals exact decide_eq_true (Int.natCast_nonneg _)
theorem rin5_pure (l:List ByteArray) (s:ByteArray) (hl:l.length≤9223372036854775807) :
  PCalls Tryz.prog 38 [.c (.sl 1 (l.map strD)),.c (.v (.string s))] [] fun r os=>r = .c (.v (.bool (inM s l)))∧os=[]:=by
 refine pcalls_of Tryz.func38 rfl (by simp [Tryz.ntmps38]) ?_
 rw [Tryz.ntmps38,Tryz.results38]
 push_cast [iO,tN]
 have cB:CutB 6 []:=trivial
 repeat' (first|((first|refine pC ?_|refine pQC ?_|refine pU ?_);push_cast [iO,tN])|(refine pif (fun h=>?_) (fun h=>?_)<;>first|exact pN h|push_cast [iO,tN]))
 (apply pwp_loop3 (α:=Nat) 6 [] (fun k=>[(5,.c (.v (.int .i64 k)))]) (fun k=>[]) (fun k=>k≤l.length∧s ∉ l.take k) (fun k=>l.length - k) (0);(focus ((try push_cast [iO,tN]);rfl));(focus exact ⟨Nat.zero_le _,by simp⟩);(focus ((refine weak_fg ?_;try push_cast [iO,tN]))))
 rintro k ⟨hk,hpre⟩
 push_cast [iO,tN]
 by_cases hlt:k < l.length
 ·by_cases hq:l.getD k default=s
  ·have hm:inM s l=true:=inM_iff.2 (by rw [← hq,getD_lt l hlt];exact List.getElem_mem _)
   repeat' (first|((first|refine pC ?_|refine pQC ?_|refine pU ?_);push_cast [iO,tN,hq])|(refine pif (fun h=>?_) (fun h=>?_)<;>first|exact pN h|push_cast [iO,tN,hq]))
   (refine retK_of [] ?_;push_cast [iO,tN,hm])
  ·repeat' (first|((first|refine pC ?_|refine pQC ?_|refine pU ?_);push_cast [iO,tN,hq])|(refine pif (fun h=>?_) (fun h=>?_)<;>first|exact pN h|push_cast [iO,tN,hq]))
   refine ⟨k+1,⟨by omega,?_⟩,by (refine weak_fg ?_;push_cast [iO,tN]),by omega⟩
   rw [List.take_succ_eq_append_getElem hlt,List.mem_append,List.mem_singleton]
   rintro (h|h)
   ·exact hpre h
   ·exact hq (by rw [getD_lt l hlt];exact h.symm)
 ·rw [List.take_of_length_le (by omega)] at hpre
  have hpre:=inM_false.2 hpre
  repeat' (first|((first|refine pC ?_|refine pQC ?_|refine pU ?_);push_cast [iO,tN])|(refine pif (fun h=>?_) (fun h=>?_)<;>first|exact pN h|push_cast [iO,tN]))
  (refine retK_of [] ?_;push_cast [iO,tN,hpre])
theorem itoaN_pure (i:Nat) (hi:i < 100):PCalls Tryz.prog 35 [.c (.v (.int .i64 i))] [] fun r os=>r = .c (.v (.string (digN i)))∧os=[] :=
 pcalls_plain [.int .i64 i] _ rfl fun w _=>(strconv_Itoa_small i hi w).mono fun e w' ⟨he,hw⟩=>by rw [he,hw];exact ⟨rfl,Below.refl _ _⟩
end Go.Proofs.YthconflkbeipoaaGreatDoor
