/- What the program computes, and the plain laws of it, part 29. -/
import Derived.Test.YthconflkbeipoaaGreatDoorS28
namespace Go.Proofs.YthconflkbeipoaaGreatDoor
attribute [local irreducible] PL QL PWPr PCalls Weak RetK Kontr PA
open Go.RowKit
open IntWalk renaming iteOmega → iO, toNatUp → tN
set_option linter.unusedVariables false
set_option linter.unusedSimpArgs false
set_option maxRecDepth 20000
theorem order_pure (a b:ByteArray) (ha:a.size≤100000000) (hb:b.size≤100000000) :
  PCalls Tryz.prog 90 [.c (.v (.string a)),.c (.v (.string b))] [] fun r os=>r = .c (.v (.int .i64 (cmpP a b)))∧os=[]:=by
 have hc:=ncompare_pure a b ha hb
 obtain ⟨e,he⟩:=cmpR_ex a b
 rw [he] at hc
 refine pcalls_of Tryz.func90 rfl (by simp [Tryz.ntmps90]) ?_
 rw [Tryz.ntmps90,Tryz.results90]
 push_cast [iO,tN]
 repeat' (first |  ((refine plc [] (hc) ?_ ?_;push_cast [iO,tN];rintro r os ⟨rfl,rfl⟩;push_cast [iO,tN]))  | ((first|refine pG ?_|refine pQ ?_|refine pU ?_);push_cast [iO,tN])|(refine pif (fun h=>?_) (fun h=>?_)<;>first|exact pN h|push_cast [iO,tN]))
 (refine retK_of [] ?_;push_cast [iO,tN])
def depthM (s:ByteArray):Nat:=match splitP s with
 | some l=>l.length
 | none=>0
theorem depth_pure (s:ByteArray) (hs:s.size≤100000000) :
  PCalls Tryz.prog 91 [.c (.v (.string s))] [] fun r os=>r = .c (.v (.int .i64 (depthM s)))∧os=[]:=by
 have hc:=nsplit_pure s hs
 unfold depthM
 cases hS:splitP s with
 | none =>
  rw [hS] at hc
  refine pcalls_of Tryz.func91 rfl (by simp [Tryz.ntmps91]) ?_
  rw [Tryz.ntmps91,Tryz.results91]
  push_cast [iO,tN]
  repeat' (first |  ((refine plc [] (hc) ?_ ?_;push_cast [iO,tN];rintro r os ⟨rfl,rfl⟩;push_cast [iO,tN]))  | ((first|refine pG ?_|refine pQ ?_|refine pU ?_);push_cast [iO,tN])|(refine pif (fun h=>?_) (fun h=>?_)<;>first|exact pN h|push_cast [iO,tN]))
  (refine retK_of [] ?_;push_cast [iO,tN])
 | some l =>
  rw [hS] at hc
  refine pcalls_of Tryz.func91 rfl (by simp [Tryz.ntmps91]) ?_
  rw [Tryz.ntmps91,Tryz.results91]
  push_cast [iO,tN]
  repeat' (first |  ((refine plc [] (hc) ?_ ?_;push_cast [iO,tN];rintro r os ⟨rfl,rfl⟩;push_cast [iO,tN]))  | ((first|refine pG ?_|refine pQ ?_|refine pU ?_);push_cast [iO,tN])|(refine pif (fun h=>?_) (fun h=>?_)<;>first|exact pN h|push_cast [iO,tN]))
  (refine retK_of [] ?_;push_cast [iO,tN])
theorem beneathP_walk (a b:ByteArray) (ha:a.size≤1000000) (w:World) :
  Calls Tryz.prog 143 #[.string a,.string b] w fun e w'=>e = .returned (.bool (beneath a b))∧w'=w:=by
 have h:=strings_HasPrefix b (a++⟨#[47]⟩) w
 unfold beneath
 go_enter Tryz.func143,Tryz.ntmps143
 go_wp2_with (go_at_call 167;refine h.mono ?_;rintro e w' ⟨rfl,rfl⟩)
 go_ret
 exact ⟨rfl,rfl⟩
theorem beneath_pure (a b:ByteArray) (ha:a.size≤1000000):PCalls Tryz.prog 143 [.c (.v (.string a)),.c (.v (.string b))] [] fun r os=>r = .c (.v (.bool (beneath a b)))∧os=[] :=
 pcalls_plain [.string a,.string b] _ rfl fun w _=>(beneathP_walk a b ha w).mono fun e w' ⟨he,hw⟩=>by rw [he,hw];exact ⟨rfl,Below.refl _ _⟩
set_option maxHeartbeats 4000000 in
theorem clash_pure (a b:Dev) (ha:a.original.size≤100000) (hb:b.original.size≤100000) :
  PCalls Tryz.prog 112 [.agg a.e,.agg b.e] [] fun r os=>r = .c (.v (.bool (clashM a b)))∧os=[]:=by
 have n1:=node_pure a (by omega)
 have n2:=node_pure b (by omega)
 have ns:∀ d:Dev,d.original.size≤100000 → (nodeM d).size≤1000000:=fun d hd=>by
  unfold nodeM
  split
  ·rw [nodeS_fit];omega
  ·decide
 have b1:=beneath_pure (nodeM a) (nodeM b) (ns a ha)
 have b2:=beneath_pure (nodeM b) (nodeM a) (ns b hb)
 unfold clashM
 obtain ⟨c1,h1⟩:∃ c,hasN a=c:=⟨_,rfl⟩
 obtain ⟨c2,h2⟩:∃ c,hasN b=c:=⟨_,rfl⟩
 obtain ⟨c3,h3⟩:∃ c,beneath (nodeM a) (nodeM b)=c:=⟨_,rfl⟩
 obtain ⟨c4,h4⟩:∃ c,beneath (nodeM b) (nodeM a)=c:=⟨_,rfl⟩
 rw [h1] at n1 ⊢
 rw [h2] at n2 ⊢
 rw [h3] at b1
 rw [h4] at b2
 refine pcalls_of Tryz.func112 rfl (by simp [Tryz.ntmps112]) ?_
 rw [Tryz.ntmps112,Tryz.results112]
 push_cast [iO,tN]
 have cB:CutB 9 []:=trivial
 by_cases k1:a.kind=4
 case neg =>
  have e0:((decide (a.kind=4) && decide (b.kind=4)) && decide (a.name=b.name))=false:=by rw [decide_eq_false k1];rfl
  repeat' (first|((first|refine pC ?_|refine pQC ?_|refine pU ?_);push_cast [iO,tN,k1])|(refine pif (fun h=>?_) (fun h=>?_)<;>first|exact pN h|push_cast [iO,tN,k1]))
  cases c1
  case false =>
   repeat' (first |  (refine plc [] (n1) ?_ ?_;push_cast [iO,tN];rintro r os ⟨rfl,rfl⟩;push_cast [iO,tN])|(refine plc [] (n2) ?_ ?_;push_cast [iO,tN];rintro r os ⟨rfl,rfl⟩;push_cast [iO,tN])  | ((first|refine pC ?_|refine pQC ?_|refine pU ?_);push_cast [iO,tN])|(refine pif (fun h=>?_) (fun h=>?_)<;>first|exact pN h|push_cast [iO,tN]))
   (refine retK_of [] ?_;push_cast [iO,tN])
   all_goals simp [e0]
  cases c2
  case false =>
   repeat' (first |  (refine plc [] (n1) ?_ ?_;push_cast [iO,tN];rintro r os ⟨rfl,rfl⟩;push_cast [iO,tN])|(refine plc [] (n2) ?_ ?_;push_cast [iO,tN];rintro r os ⟨rfl,rfl⟩;push_cast [iO,tN])  | ((first|refine pC ?_|refine pQC ?_|refine pU ?_);push_cast [iO,tN])|(refine pif (fun h=>?_) (fun h=>?_)<;>first|exact pN h|push_cast [iO,tN]))
   (refine retK_of [] ?_;push_cast [iO,tN])
   all_goals simp [e0]
  by_cases q1:a.kind=b.kind
  case pos =>
   have q1':=eq_true q1
   by_cases q2:a.number=b.number
   case pos =>
    have q2':=eq_true q2
    repeat' (first|(refine plc [] (n1) ?_ ?_;push_cast [iO,tN,q1',q2'];rintro r os ⟨rfl,rfl⟩;push_cast [iO,tN,q1',q2'])|(refine plc [] (n2) ?_ ?_;push_cast [iO,tN,q1',q2'];rintro r os ⟨rfl,rfl⟩;push_cast [iO,tN,q1',q2'])|((first|refine pC ?_|refine pQC ?_|refine pU ?_);push_cast [iO,tN,q1',q2'])|(refine pif (fun h=>?_) (fun h=>?_)<;>first|exact pN h|push_cast [iO,tN,q1',q2']))
    (refine retK_of [] ?_;push_cast [iO,tN])
    all_goals simp [q1,q2]
   by_cases q3:nodeM a=nodeM b
   case pos =>
    have q3':=eq_true q3
    repeat' (first|(refine plc [] (n1) ?_ ?_;push_cast [iO,tN,q1',q2,q3'];rintro r os ⟨rfl,rfl⟩;push_cast [iO,tN,q1',q2,q3'])|(refine plc [] (n2) ?_ ?_;push_cast [iO,tN,q1',q2,q3'];rintro r os ⟨rfl,rfl⟩;push_cast [iO,tN,q1',q2,q3'])|((first|refine pC ?_|refine pQC ?_|refine pU ?_);push_cast [iO,tN,q1',q2,q3'])|(refine pif (fun h=>?_) (fun h=>?_)<;>first|exact pN h|push_cast [iO,tN,q1',q2,q3']))
    (refine retK_of [] ?_;push_cast [iO,tN])
    all_goals simp [q3]
   cases c3
   case true =>
    repeat' (first|(refine plc [] (n1) ?_ ?_;push_cast [iO,tN,q1',q2,q3];rintro r os ⟨rfl,rfl⟩;push_cast [iO,tN,q1',q2,q3])|(refine plc [] (n2) ?_ ?_;push_cast [iO,tN,q1',q2,q3];rintro r os ⟨rfl,rfl⟩;push_cast [iO,tN,q1',q2,q3])|(refine plc [] (b1) ?_ ?_;push_cast [iO,tN,q1',q2,q3];rintro r os ⟨rfl,rfl⟩;push_cast [iO,tN,q1',q2,q3])|((first|refine pC ?_|refine pQC ?_|refine pU ?_);push_cast [iO,tN,q1',q2,q3])|(refine pif (fun h=>?_) (fun h=>?_)<;>first|exact pN h|push_cast [iO,tN,q1',q2,q3]))
    (refine retK_of [] ?_;push_cast [iO,tN])
    all_goals simp [h3]
   repeat' (first|(refine plc [] (n1) ?_ ?_;push_cast [iO,tN,q1',q2,q3];rintro r os ⟨rfl,rfl⟩;push_cast [iO,tN,q1',q2,q3])|(refine plc [] (n2) ?_ ?_;push_cast [iO,tN,q1',q2,q3];rintro r os ⟨rfl,rfl⟩;push_cast [iO,tN,q1',q2,q3])|(refine plc [] (b1) ?_ ?_;push_cast [iO,tN,q1',q2,q3];rintro r os ⟨rfl,rfl⟩;push_cast [iO,tN,q1',q2,q3])|(refine plc [] (b2) ?_ ?_;push_cast [iO,tN,q1',q2,q3];rintro r os ⟨rfl,rfl⟩;push_cast [iO,tN,q1',q2,q3])|((first|refine pC ?_|refine pQC ?_|refine pU ?_);push_cast [iO,tN,q1',q2,q3])|(refine pif (fun h=>?_) (fun h=>?_)<;>first|exact pN h|push_cast [iO,tN,q1',q2,q3]))
   (refine retK_of [] ?_;push_cast [iO,tN])
   all_goals simp [e0,h3,h4,q2,q3]
  by_cases q3:nodeM a=nodeM b
  case pos =>
   have q3':=eq_true q3
   repeat' (first|(refine plc [] (n1) ?_ ?_;push_cast [iO,tN,q1,q3'];rintro r os ⟨rfl,rfl⟩;push_cast [iO,tN,q1,q3'])|(refine plc [] (n2) ?_ ?_;push_cast [iO,tN,q1,q3'];rintro r os ⟨rfl,rfl⟩;push_cast [iO,tN,q1,q3'])|((first|refine pC ?_|refine pQC ?_|refine pU ?_);push_cast [iO,tN,q1,q3'])|(refine pif (fun h=>?_) (fun h=>?_)<;>first|exact pN h|push_cast [iO,tN,q1,q3']))
   (refine retK_of [] ?_;push_cast [iO,tN])
   all_goals simp [q3]
  cases c3
  case true =>
   repeat' (first|(refine plc [] (n1) ?_ ?_;push_cast [iO,tN,q1,q3];rintro r os ⟨rfl,rfl⟩;push_cast [iO,tN,q1,q3])|(refine plc [] (n2) ?_ ?_;push_cast [iO,tN,q1,q3];rintro r os ⟨rfl,rfl⟩;push_cast [iO,tN,q1,q3])|(refine plc [] (b1) ?_ ?_;push_cast [iO,tN,q1,q3];rintro r os ⟨rfl,rfl⟩;push_cast [iO,tN,q1,q3])|((first|refine pC ?_|refine pQC ?_|refine pU ?_);push_cast [iO,tN,q1,q3])|(refine pif (fun h=>?_) (fun h=>?_)<;>first|exact pN h|push_cast [iO,tN,q1,q3]))
   (refine retK_of [] ?_;push_cast [iO,tN])
   all_goals simp [h3]
  repeat' (first|(refine plc [] (n1) ?_ ?_;push_cast [iO,tN,q1,q3];rintro r os ⟨rfl,rfl⟩;push_cast [iO,tN,q1,q3])|(refine plc [] (n2) ?_ ?_;push_cast [iO,tN,q1,q3];rintro r os ⟨rfl,rfl⟩;push_cast [iO,tN,q1,q3])|(refine plc [] (b1) ?_ ?_;push_cast [iO,tN,q1,q3];rintro r os ⟨rfl,rfl⟩;push_cast [iO,tN,q1,q3])|(refine plc [] (b2) ?_ ?_;push_cast [iO,tN,q1,q3];rintro r os ⟨rfl,rfl⟩;push_cast [iO,tN,q1,q3])|((first|refine pC ?_|refine pQC ?_|refine pU ?_);push_cast [iO,tN,q1,q3])|(refine pif (fun h=>?_) (fun h=>?_)<;>first|exact pN h|push_cast [iO,tN,q1,q3]))
  (refine retK_of [] ?_;push_cast [iO,tN])
  all_goals simp [e0,h3,h4,q1,q3]
 have k1':=eq_true k1
 by_cases k2:b.kind=4
 case neg =>
  have e0:((decide (a.kind=4) && decide (b.kind=4)) && decide (a.name=b.name))=false:=by rw [decide_eq_false k2,Bool.and_false];rfl
  repeat' (first|((first|refine pC ?_|refine pQC ?_|refine pU ?_);push_cast [iO,tN,k1',k2])|(refine pif (fun h=>?_) (fun h=>?_)<;>first|exact pN h|push_cast [iO,tN,k1',k2]))
  cases c1
  case false =>
   repeat' (first |  (refine plc [] (n1) ?_ ?_;push_cast [iO,tN];rintro r os ⟨rfl,rfl⟩;push_cast [iO,tN])|(refine plc [] (n2) ?_ ?_;push_cast [iO,tN];rintro r os ⟨rfl,rfl⟩;push_cast [iO,tN])  | ((first|refine pC ?_|refine pQC ?_|refine pU ?_);push_cast [iO,tN])|(refine pif (fun h=>?_) (fun h=>?_)<;>first|exact pN h|push_cast [iO,tN]))
   (refine retK_of [] ?_;push_cast [iO,tN])
   all_goals simp [e0]
  cases c2
  case false =>
   repeat' (first |  (refine plc [] (n1) ?_ ?_;push_cast [iO,tN];rintro r os ⟨rfl,rfl⟩;push_cast [iO,tN])|(refine plc [] (n2) ?_ ?_;push_cast [iO,tN];rintro r os ⟨rfl,rfl⟩;push_cast [iO,tN])  | ((first|refine pC ?_|refine pQC ?_|refine pU ?_);push_cast [iO,tN])|(refine pif (fun h=>?_) (fun h=>?_)<;>first|exact pN h|push_cast [iO,tN]))
   (refine retK_of [] ?_;push_cast [iO,tN])
   all_goals simp [e0]
  by_cases q1:a.kind=b.kind
  case pos =>
   have q1':=eq_true q1
   by_cases q2:a.number=b.number
   case pos =>
    have q2':=eq_true q2
    repeat' (first|(refine plc [] (n1) ?_ ?_;push_cast [iO,tN,q1',q2'];rintro r os ⟨rfl,rfl⟩;push_cast [iO,tN,q1',q2'])|(refine plc [] (n2) ?_ ?_;push_cast [iO,tN,q1',q2'];rintro r os ⟨rfl,rfl⟩;push_cast [iO,tN,q1',q2'])|((first|refine pC ?_|refine pQC ?_|refine pU ?_);push_cast [iO,tN,q1',q2'])|(refine pif (fun h=>?_) (fun h=>?_)<;>first|exact pN h|push_cast [iO,tN,q1',q2']))
    (refine retK_of [] ?_;push_cast [iO,tN])
    all_goals simp [q1,q2]
   by_cases q3:nodeM a=nodeM b
   case pos =>
    have q3':=eq_true q3
    repeat' (first|(refine plc [] (n1) ?_ ?_;push_cast [iO,tN,q1',q2,q3'];rintro r os ⟨rfl,rfl⟩;push_cast [iO,tN,q1',q2,q3'])|(refine plc [] (n2) ?_ ?_;push_cast [iO,tN,q1',q2,q3'];rintro r os ⟨rfl,rfl⟩;push_cast [iO,tN,q1',q2,q3'])|((first|refine pC ?_|refine pQC ?_|refine pU ?_);push_cast [iO,tN,q1',q2,q3'])|(refine pif (fun h=>?_) (fun h=>?_)<;>first|exact pN h|push_cast [iO,tN,q1',q2,q3']))
    (refine retK_of [] ?_;push_cast [iO,tN])
    all_goals simp [q3]
   cases c3
   case true =>
    repeat' (first|(refine plc [] (n1) ?_ ?_;push_cast [iO,tN,q1',q2,q3];rintro r os ⟨rfl,rfl⟩;push_cast [iO,tN,q1',q2,q3])|(refine plc [] (n2) ?_ ?_;push_cast [iO,tN,q1',q2,q3];rintro r os ⟨rfl,rfl⟩;push_cast [iO,tN,q1',q2,q3])|(refine plc [] (b1) ?_ ?_;push_cast [iO,tN,q1',q2,q3];rintro r os ⟨rfl,rfl⟩;push_cast [iO,tN,q1',q2,q3])|((first|refine pC ?_|refine pQC ?_|refine pU ?_);push_cast [iO,tN,q1',q2,q3])|(refine pif (fun h=>?_) (fun h=>?_)<;>first|exact pN h|push_cast [iO,tN,q1',q2,q3]))
    (refine retK_of [] ?_;push_cast [iO,tN])
    all_goals simp [h3]
   repeat' (first|(refine plc [] (n1) ?_ ?_;push_cast [iO,tN,q1',q2,q3];rintro r os ⟨rfl,rfl⟩;push_cast [iO,tN,q1',q2,q3])|(refine plc [] (n2) ?_ ?_;push_cast [iO,tN,q1',q2,q3];rintro r os ⟨rfl,rfl⟩;push_cast [iO,tN,q1',q2,q3])|(refine plc [] (b1) ?_ ?_;push_cast [iO,tN,q1',q2,q3];rintro r os ⟨rfl,rfl⟩;push_cast [iO,tN,q1',q2,q3])|(refine plc [] (b2) ?_ ?_;push_cast [iO,tN,q1',q2,q3];rintro r os ⟨rfl,rfl⟩;push_cast [iO,tN,q1',q2,q3])|((first|refine pC ?_|refine pQC ?_|refine pU ?_);push_cast [iO,tN,q1',q2,q3])|(refine pif (fun h=>?_) (fun h=>?_)<;>first|exact pN h|push_cast [iO,tN,q1',q2,q3]))
   (refine retK_of [] ?_;push_cast [iO,tN])
   all_goals simp [e0,h3,h4,q2,q3]
  by_cases q3:nodeM a=nodeM b
  case pos =>
   have q3':=eq_true q3
   repeat' (first|(refine plc [] (n1) ?_ ?_;push_cast [iO,tN,q1,q3'];rintro r os ⟨rfl,rfl⟩;push_cast [iO,tN,q1,q3'])|(refine plc [] (n2) ?_ ?_;push_cast [iO,tN,q1,q3'];rintro r os ⟨rfl,rfl⟩;push_cast [iO,tN,q1,q3'])|((first|refine pC ?_|refine pQC ?_|refine pU ?_);push_cast [iO,tN,q1,q3'])|(refine pif (fun h=>?_) (fun h=>?_)<;>first|exact pN h|push_cast [iO,tN,q1,q3']))
   (refine retK_of [] ?_;push_cast [iO,tN])
   all_goals simp [q3]
  cases c3
  case true =>
   repeat' (first|(refine plc [] (n1) ?_ ?_;push_cast [iO,tN,q1,q3];rintro r os ⟨rfl,rfl⟩;push_cast [iO,tN,q1,q3])|(refine plc [] (n2) ?_ ?_;push_cast [iO,tN,q1,q3];rintro r os ⟨rfl,rfl⟩;push_cast [iO,tN,q1,q3])|(refine plc [] (b1) ?_ ?_;push_cast [iO,tN,q1,q3];rintro r os ⟨rfl,rfl⟩;push_cast [iO,tN,q1,q3])|((first|refine pC ?_|refine pQC ?_|refine pU ?_);push_cast [iO,tN,q1,q3])|(refine pif (fun h=>?_) (fun h=>?_)<;>first|exact pN h|push_cast [iO,tN,q1,q3]))
   (refine retK_of [] ?_;push_cast [iO,tN])
   all_goals simp [h3]
  repeat' (first|(refine plc [] (n1) ?_ ?_;push_cast [iO,tN,q1,q3];rintro r os ⟨rfl,rfl⟩;push_cast [iO,tN,q1,q3])|(refine plc [] (n2) ?_ ?_;push_cast [iO,tN,q1,q3];rintro r os ⟨rfl,rfl⟩;push_cast [iO,tN,q1,q3])|(refine plc [] (b1) ?_ ?_;push_cast [iO,tN,q1,q3];rintro r os ⟨rfl,rfl⟩;push_cast [iO,tN,q1,q3])|(refine plc [] (b2) ?_ ?_;push_cast [iO,tN,q1,q3];rintro r os ⟨rfl,rfl⟩;push_cast [iO,tN,q1,q3])|((first|refine pC ?_|refine pQC ?_|refine pU ?_);push_cast [iO,tN,q1,q3])|(refine pif (fun h=>?_) (fun h=>?_)<;>first|exact pN h|push_cast [iO,tN,q1,q3]))
  (refine retK_of [] ?_;push_cast [iO,tN])
  all_goals simp [e0,h3,h4,q1,q3]
 have k2':=eq_true k2
 by_cases k3:a.name=b.name
 case neg =>
  have e0:((decide (a.kind=4) && decide (b.kind=4)) && decide (a.name=b.name))=false:=by rw [decide_eq_false k3,Bool.and_false]
  repeat' (first|((first|refine pC ?_|refine pQC ?_|refine pU ?_);push_cast [iO,tN,k1',k2',k3])|(refine pif (fun h=>?_) (fun h=>?_)<;>first|exact pN h|push_cast [iO,tN,k1',k2',k3]))
  cases c1
  case false =>
   repeat' (first |  (refine plc [] (n1) ?_ ?_;push_cast [iO,tN];rintro r os ⟨rfl,rfl⟩;push_cast [iO,tN])|(refine plc [] (n2) ?_ ?_;push_cast [iO,tN];rintro r os ⟨rfl,rfl⟩;push_cast [iO,tN])  | ((first|refine pC ?_|refine pQC ?_|refine pU ?_);push_cast [iO,tN])|(refine pif (fun h=>?_) (fun h=>?_)<;>first|exact pN h|push_cast [iO,tN]))
   (refine retK_of [] ?_;push_cast [iO,tN])
   all_goals simp [e0]
  cases c2
  case false =>
   repeat' (first |  (refine plc [] (n1) ?_ ?_;push_cast [iO,tN];rintro r os ⟨rfl,rfl⟩;push_cast [iO,tN])|(refine plc [] (n2) ?_ ?_;push_cast [iO,tN];rintro r os ⟨rfl,rfl⟩;push_cast [iO,tN])  | ((first|refine pC ?_|refine pQC ?_|refine pU ?_);push_cast [iO,tN])|(refine pif (fun h=>?_) (fun h=>?_)<;>first|exact pN h|push_cast [iO,tN]))
   (refine retK_of [] ?_;push_cast [iO,tN])
   all_goals simp [e0]
  by_cases q1:a.kind=b.kind
  case pos =>
   have q1':=eq_true q1
   by_cases q2:a.number=b.number
   case pos =>
    have q2':=eq_true q2
    repeat' (first|(refine plc [] (n1) ?_ ?_;push_cast [iO,tN,q1',q2'];rintro r os ⟨rfl,rfl⟩;push_cast [iO,tN,q1',q2'])|(refine plc [] (n2) ?_ ?_;push_cast [iO,tN,q1',q2'];rintro r os ⟨rfl,rfl⟩;push_cast [iO,tN,q1',q2'])|((first|refine pC ?_|refine pQC ?_|refine pU ?_);push_cast [iO,tN,q1',q2'])|(refine pif (fun h=>?_) (fun h=>?_)<;>first|exact pN h|push_cast [iO,tN,q1',q2']))
    (refine retK_of [] ?_;push_cast [iO,tN])
    all_goals simp [q1,q2]
   by_cases q3:nodeM a=nodeM b
   case pos =>
    have q3':=eq_true q3
    repeat' (first|(refine plc [] (n1) ?_ ?_;push_cast [iO,tN,q1',q2,q3'];rintro r os ⟨rfl,rfl⟩;push_cast [iO,tN,q1',q2,q3'])|(refine plc [] (n2) ?_ ?_;push_cast [iO,tN,q1',q2,q3'];rintro r os ⟨rfl,rfl⟩;push_cast [iO,tN,q1',q2,q3'])|((first|refine pC ?_|refine pQC ?_|refine pU ?_);push_cast [iO,tN,q1',q2,q3'])|(refine pif (fun h=>?_) (fun h=>?_)<;>first|exact pN h|push_cast [iO,tN,q1',q2,q3']))
    (refine retK_of [] ?_;push_cast [iO,tN])
    all_goals simp [q3]
   cases c3
   case true =>
    repeat' (first|(refine plc [] (n1) ?_ ?_;push_cast [iO,tN,q1',q2,q3];rintro r os ⟨rfl,rfl⟩;push_cast [iO,tN,q1',q2,q3])|(refine plc [] (n2) ?_ ?_;push_cast [iO,tN,q1',q2,q3];rintro r os ⟨rfl,rfl⟩;push_cast [iO,tN,q1',q2,q3])|(refine plc [] (b1) ?_ ?_;push_cast [iO,tN,q1',q2,q3];rintro r os ⟨rfl,rfl⟩;push_cast [iO,tN,q1',q2,q3])|((first|refine pC ?_|refine pQC ?_|refine pU ?_);push_cast [iO,tN,q1',q2,q3])|(refine pif (fun h=>?_) (fun h=>?_)<;>first|exact pN h|push_cast [iO,tN,q1',q2,q3]))
    (refine retK_of [] ?_;push_cast [iO,tN])
    all_goals simp [h3]
   repeat' (first|(refine plc [] (n1) ?_ ?_;push_cast [iO,tN,q1',q2,q3];rintro r os ⟨rfl,rfl⟩;push_cast [iO,tN,q1',q2,q3])|(refine plc [] (n2) ?_ ?_;push_cast [iO,tN,q1',q2,q3];rintro r os ⟨rfl,rfl⟩;push_cast [iO,tN,q1',q2,q3])|(refine plc [] (b1) ?_ ?_;push_cast [iO,tN,q1',q2,q3];rintro r os ⟨rfl,rfl⟩;push_cast [iO,tN,q1',q2,q3])|(refine plc [] (b2) ?_ ?_;push_cast [iO,tN,q1',q2,q3];rintro r os ⟨rfl,rfl⟩;push_cast [iO,tN,q1',q2,q3])|((first|refine pC ?_|refine pQC ?_|refine pU ?_);push_cast [iO,tN,q1',q2,q3])|(refine pif (fun h=>?_) (fun h=>?_)<;>first|exact pN h|push_cast [iO,tN,q1',q2,q3]))
   (refine retK_of [] ?_;push_cast [iO,tN])
   all_goals simp [e0,h3,h4,q2,q3]
  by_cases q3:nodeM a=nodeM b
  case pos =>
   have q3':=eq_true q3
   repeat' (first|(refine plc [] (n1) ?_ ?_;push_cast [iO,tN,q1,q3'];rintro r os ⟨rfl,rfl⟩;push_cast [iO,tN,q1,q3'])|(refine plc [] (n2) ?_ ?_;push_cast [iO,tN,q1,q3'];rintro r os ⟨rfl,rfl⟩;push_cast [iO,tN,q1,q3'])|((first|refine pC ?_|refine pQC ?_|refine pU ?_);push_cast [iO,tN,q1,q3'])|(refine pif (fun h=>?_) (fun h=>?_)<;>first|exact pN h|push_cast [iO,tN,q1,q3']))
   (refine retK_of [] ?_;push_cast [iO,tN])
   all_goals simp [q3]
  cases c3
  case true =>
   repeat' (first|(refine plc [] (n1) ?_ ?_;push_cast [iO,tN,q1,q3];rintro r os ⟨rfl,rfl⟩;push_cast [iO,tN,q1,q3])|(refine plc [] (n2) ?_ ?_;push_cast [iO,tN,q1,q3];rintro r os ⟨rfl,rfl⟩;push_cast [iO,tN,q1,q3])|(refine plc [] (b1) ?_ ?_;push_cast [iO,tN,q1,q3];rintro r os ⟨rfl,rfl⟩;push_cast [iO,tN,q1,q3])|((first|refine pC ?_|refine pQC ?_|refine pU ?_);push_cast [iO,tN,q1,q3])|(refine pif (fun h=>?_) (fun h=>?_)<;>first|exact pN h|push_cast [iO,tN,q1,q3]))
   (refine retK_of [] ?_;push_cast [iO,tN])
   all_goals simp [h3]
  repeat' (first|(refine plc [] (n1) ?_ ?_;push_cast [iO,tN,q1,q3];rintro r os ⟨rfl,rfl⟩;push_cast [iO,tN,q1,q3])|(refine plc [] (n2) ?_ ?_;push_cast [iO,tN,q1,q3];rintro r os ⟨rfl,rfl⟩;push_cast [iO,tN,q1,q3])|(refine plc [] (b1) ?_ ?_;push_cast [iO,tN,q1,q3];rintro r os ⟨rfl,rfl⟩;push_cast [iO,tN,q1,q3])|(refine plc [] (b2) ?_ ?_;push_cast [iO,tN,q1,q3];rintro r os ⟨rfl,rfl⟩;push_cast [iO,tN,q1,q3])|((first|refine pC ?_|refine pQC ?_|refine pU ?_);push_cast [iO,tN,q1,q3])|(refine pif (fun h=>?_) (fun h=>?_)<;>first|exact pN h|push_cast [iO,tN,q1,q3]))
  (refine retK_of [] ?_;push_cast [iO,tN])
  all_goals simp [e0,h3,h4,q1,q3]
 have k3':=eq_true k3
 repeat' (first|((first|refine pC ?_|refine pQC ?_|refine pU ?_);push_cast [iO,tN,k1',k2',k3'])|(refine pif (fun h=>?_) (fun h=>?_)<;>first|exact pN h|push_cast [iO,tN,k1',k2',k3']))
 (refine retK_of [] ?_;push_cast [iO,tN])
 all_goals simp [k1,k2,k3]
theorem containsFuncD_pure (l:List Dev) (hl:l.length≤1000000000) (g:FuncId) (ks:List Nat) (os:List Ob) (q:Dev → Bool) (hp:PredD Tryz.prog g ks os l q) :
  PCalls Tryz.prog 110 [.c (.sl 10 (l.map Dev.d)),.c (.fn (.func g) [] ks)] os fun r os'=>r = .c (.v (.bool (l.any q)))∧os'=os:=by
 refine pcalls_of_all Tryz.func110 rfl (by simp [Tryz.ntmps110]) ?_
 rw [Tryz.ntmps110,Tryz.results110]
 push_cast [iO,tN]
 repeat' (first |  (refine pl_call_all rfl (by push_cast [iO,tN]) rfl (by kernel_rfl) (by push_cast [iO,tN]) ?_ (indexFuncD_pure l hl g ks os q hp) ?_;(focus (unfold callArgs;push_cast [iO,tN]));rintro r os ⟨k,hk,rfl,rfl⟩;refine pl_of_pops ?_;push_cast [iO,tN])  | ((first|refine pG ?_|refine pQ ?_|refine pU ?_);push_cast [iO,tN])|(refine pif (fun h=>?_) (fun h=>?_)<;>first|exact pN h|push_cast [iO,tN]))
 refine ⟨_,rfl,by push_cast [iO,tN],?_,rfl⟩
 rcases hk with ⟨rfl,h⟩|⟨i,rfl,hi,hq,_⟩
 ·have:l.any q=false:=by rw [Bool.eq_false_iff];intro hc;obtain ⟨x,hx,hx2⟩:=List.any_eq_true.1 hc;rw [h x hx] at hx2;cases hx2
  rw [this];rfl
 ·have:l.any q=true:=List.any_eq_true.2 ⟨_,by rw [getD_lt l hi];exact List.getElem_mem _,hq⟩
  rw [this]
  have:decide ((0:Int)≤(i:Int))=true:=decide_eq_true (by omega)
  simp
abbrev cshO (d:Dev):List Ob:=[.box 49 d.e]
theorem clashes1_pure (d x:Dev) (hx:x.original.size≤100000) (hd:d.original.size≤100000):PCalls Tryz.prog 111 [.agg x.e,.c (.ptr 0 0)] (cshO d) fun r os=>r = .c (.v (.bool (!decide (x.index=d.index) && clashM x d)))∧os=cshO d:=by
 have hc:=clash_pure x d hx hd
 by_cases h:x.index=d.index
 ·have hn:(!decide (x.index=d.index) && clashM x d)=false:=by rw [decide_eq_true h];rfl
  refine pcalls_of Tryz.func111 rfl (by simp [Tryz.ntmps111]) ?_
  rw [Tryz.ntmps111,Tryz.results111]
  push_cast [iO,tN]
  have h':(d.index≠d.index)=False:=by simp
  repeat' (first|((first|refine pG ?_|refine pQ ?_|refine pU ?_);push_cast [iO,tN,h,h'])|(refine pif (fun h=>?_) (fun h=>?_)<;>first|exact pN h|push_cast [iO,tN,h,h']))
  (refine retK_of [0] ?_;push_cast [iO,tN,hn])
 ·have hn:(!decide (x.index=d.index) && clashM x d)=clashM x d:=by rw [decide_eq_false h];rfl
  refine pcalls_of Tryz.func111 rfl (by simp [Tryz.ntmps111]) ?_
  rw [Tryz.ntmps111,Tryz.results111]
  push_cast [iO,tN]
  repeat' (first|((refine plc [] (hc) ?_ ?_;push_cast [iO,tN,h];rintro r os ⟨rfl,rfl⟩;push_cast [iO,tN,h]))|((first|refine pG ?_|refine pQ ?_|refine pU ?_);push_cast [iO,tN,h])|(refine pif (fun h=>?_) (fun h=>?_)<;>first|exact pN h|push_cast [iO,tN,h]))
  (refine retK_of [0] ?_;push_cast [iO,tN,hn])
def clashesM (l:List Dev) (d:Dev):Bool:=l.any fun x=>!decide (x.index=d.index) && clashM x d
theorem clashes_pure (l:List Dev) (d:Dev) (hl:l.length≤1000000) (hz:∀ x ∈ l,x.original.size≤100000) (hd:d.original.size≤100000) :
  PCalls Tryz.prog 62 [.c (.sl 10 (l.map Dev.d)),.agg d.e] [] fun r os=>r = .c (.v (.bool (clashesM l d)))∧os=[]:=by
 have hc:=containsFuncD_pure l (by omega) 111 [0] (cshO d) (fun x=>!decide (x.index=d.index) && clashM x d) ⟨by kernel_rfl,fun x hx=>clashes1_pure d x (hz x hx) hd⟩
 refine pcalls_of Tryz.func62 rfl (by simp [Tryz.ntmps62]) ?_
 rw [Tryz.ntmps62,Tryz.results62]
 push_cast [iO,tN]
 have hcm:(l.any fun x=>!decide (x.index=d.index) && clashM x d)=clashesM l d:=rfl
 rw [hcm] at hc
 repeat' (first |  ((refine plc [0] (hc) ?_ ?_;push_cast [iO,tN];rintro r os ⟨rfl,rfl⟩;push_cast [iO,tN]))  | ((first|refine pG ?_|refine pQ ?_|refine pU ?_);push_cast [iO,tN])|(refine pif (fun h=>?_) (fun h=>?_)<;>first|exact pN h|push_cast [iO,tN]))
 (refine retK_of [] ?_;push_cast [iO,tN])
end Go.Proofs.YthconflkbeipoaaGreatDoor
namespace Go.Proofs.YthconflkbeipoaaGreatDoor
open Go.RowKit
open IntWalk renaming iteOmega → iO, toNatUp → tN
set_option linter.unusedVariables false
set_option linter.unusedSimpArgs false
structure Rec where
 path:ByteArray
 index:Int
 props:List Atr
 tags:List ByteArray
 owner:ByteArray
 group:ByteArray
 mode:Int
 deriving DecidableEq,Inhabited
def Rec.d (r:Rec):List D:=[.v (.string r.path),.v (.int .i64 r.index),.sl 2 (r.props.map Atr.d),.sl 1 (r.tags.map strD),.sl 1 [],.sl 1 [],.sl 1 [],.v (.string ⟨#[]⟩),.v (.int .i64 0),.v (.string r.owner),.v (.string r.group),.v (.int .i64 r.mode)]
attribute [push_cast] Rec.d
def Rec.e (r:Rec):List E:=[.v (.string r.path),.v (.int .i64 r.index),.sl 2 (r.props.map Atr.d),.sl 1 (r.tags.map strD),.sl 1 [],.sl 1 [],.sl 1 [],.v (.string ⟨#[]⟩),.v (.int .i64 0),.v (.string r.owner),.v (.string r.group),.v (.int .i64 r.mode)]
attribute [push_cast] Rec.e
structure Ses where
 id:Int
 user:ByteArray
 seat:ByteArray
 active:Bool
 deriving DecidableEq,Inhabited
def Ses.d (x:Ses):List D:=[.v (.int .i64 x.id),.v (.string x.user),.v (.string x.seat),.v (.bool x.active)]
attribute [push_cast] Ses.d
def OrdT (l:List Dev):Prop:=l.Pairwise fun a b=>cmpL (origM l a.index) (origM l b.index) < 0
def NodT (l:List Dev):Prop:=∀ a ∈ l,∀ b ∈ l,hasN a=true → hasN b=true → nodeM a=nodeM b → a=b
theorem OrdT.nil:OrdT []:=List.Pairwise.nil
theorem NodT.nil:NodT []:=fun a ha=>by cases ha
theorem atM_last (l:List Dev) (own:List ByteArray):∀ n,atM l own n=0∨cmpL (origM l (l.getD (atM l own n - 1) default).index) own < 0
 | 0=>by simp [atM]
 | n+1=>by
  rw [atM_succ]
  split
  ·rename_i h;exact .inr h
  ·exact atM_last l own n
theorem ins_hi {l:List Dev} {d:Dev} (h:insErr l d=0):∀ x ∈ l.drop (atM l (ownM l d) l.length),cmpL (ownM l d) (origM l x.index) < 0:=fun x hx=>by
 obtain ⟨_,_,_,_,_,h6⟩:=ins_split h
 obtain ⟨i,hi,rfl⟩:=List.getElem_of_mem hx
 rw [List.length_drop] at hi
 have hb:=h6 _ (List.mem_of_mem_drop hx)
 rw [List.getElem_drop] at hb ⊢
 unfold bad1 at hb
 rw [Bool.or_eq_false_iff] at hb
 have h0:¬ cmpL (origM l (l[atM l (ownM l d) l.length+i]'(by omega)).index) (ownM l d)=0:=by simpa using hb.1
 have h1:¬ cmpL (origM l (l[atM l (ownM l d) l.length+i]'(by omega)).index) (ownM l d) < 0:=fun hc=>by
  have hj:atM l (ownM l d) l.length+i < l.length:=by omega
  rw [← getD_lt l hj] at hc
  have:=atM_ge l (ownM l d) hc l.length hj
  omega
 rw [cmpL_anti]
 omega
theorem ins_lo {l:List Dev} {d:Dev} (ho:OrdT l):∀ x ∈ l.take (atM l (ownM l d) l.length),cmpL (origM l x.index) (ownM l d) < 0:=fun x hx=>by
 have hle:=atM_le l (ownM l d) l.length
 obtain ⟨i,hi,rfl⟩:=List.getElem_of_mem hx
 rw [List.length_take] at hi
 rw [List.getElem_take]
 rcases atM_last l (ownM l d) l.length with h0|h0
 ·omega
 ·obtain ⟨k,hk⟩:∃ k,atM l (ownM l d) l.length=k:=⟨_,rfl⟩
  rw [hk] at hi h0 hle
  have hk1:k - 1 < l.length:=by omega
  rw [getD_lt l hk1] at h0
  by_cases e:i=k - 1
  ·subst e;exact h0
  ·exact cmpL_trans (List.pairwise_iff_getElem.1 ho i (k - 1) (by omega) hk1 (by omega)) h0
theorem own_orig {l:List Dev} (h:Okt l) {d:Dev} (hi:insErr l d=0):origM (insT l d) d.index=ownM l d:=by
 obtain ⟨hok,hsame⟩:=h.ins hi
 obtain ⟨_,_,h3,_,_,_⟩:=ins_split hi
 have hmem:∀ x,x ∈ insT l d ↔ x=d∨x ∈ l:=fun x=>put_mem
 rw [orig_step hok.p ((hmem d).2 (.inl rfl)),ownM]
 congr 1
 rcases h3 with h3|h3
 ·rw [h3,orig_none (find0 hok.pos (by omega)),orig_none (find0 h.pos (by omega))]
 ·obtain ⟨j,e,hj,he⟩:=find_of_any h3
  rw [← he]
  exact hsame e (List.mem_of_getElem? hj)
theorem OrdT.ins {l:List Dev} (ho:OrdT l) (h:Okt l) {d:Dev} (hi:insErr l d=0):OrdT (insT l d):=by
 obtain ⟨hok,hsame⟩:=h.ins hi
 have hown:=own_orig h hi
 have hlo:=ins_lo (d:=d) ho
 have hhi:=ins_hi hi
 have ht:∀ x ∈ l.take (atM l (ownM l d) l.length),x ∈ l:=fun x hx=>List.mem_of_mem_take hx
 have hd:∀ x ∈ l.drop (atM l (ownM l d) l.length),x ∈ l:=fun x hx=>List.mem_of_mem_drop hx
 have key:(l.take (atM l (ownM l d) l.length)++([d]++l.drop (atM l (ownM l d) l.length))).Pairwise fun a b=>cmpL (origM (insT l d) a.index) (origM (insT l d) b.index) < 0:=by
  rw [List.pairwise_append]
  refine ⟨(List.Pairwise.sublist (List.take_sublist _ _) ho).imp_of_mem fun ha hb hab=>by rw [hsame _ (ht _ ha),hsame _ (ht _ hb)];exact hab,?_,?_⟩
  ·rw [List.singleton_append,List.pairwise_cons]
   refine ⟨fun y hy=>by rw [hown,hsame _ (hd _ hy)];exact hhi y hy,(List.Pairwise.sublist (List.drop_sublist _ _) ho).imp_of_mem fun ha hb hab=>by rw [hsame _ (hd _ ha),hsame _ (hd _ hb)];exact hab⟩
  ·intro x hx y hy
   rw [hsame _ (ht _ hx)]
   rcases List.mem_append.1 hy with hy|hy
   ·rw [List.mem_singleton] at hy
    subst hy
    rw [hown]
    exact hlo x hx
   ·rw [hsame _ (hd _ hy)]
    exact cmpL_trans (hlo x hx) (hhi y hy)
 unfold OrdT
 rw [← List.append_assoc] at key
 exact key
theorem NodT.ins {l:List Dev} (hn:NodT l) {d:Dev} (hi:insErr l d=0):NodT (insT l d):=by
 obtain ⟨_,_,_,_,_,h6⟩:=ins_split hi
 have hmem:∀ x,x ∈ insT l d → x=d∨x ∈ l:=fun x hx=>put_mem.1 hx
 have hno:∀ x ∈ l,hasN x=true → hasN d=true → nodeM x≠nodeM d:=fun x hx h1 h2 e=>by
  have:=h6 x hx
  unfold bad1 clashM at this
  rw [h1,h2,e] at this
  simp at this
 intro a ha b hb h1 h2 e
 rcases hmem a ha with ea|ha'<;>rcases hmem b hb with eb|hb'
 ·rw [ea,eb]
 ·subst ea;exact absurd e.symm (hno b hb' h2 h1)
 ·subst eb;exact absurd e (hno a ha' h1 h2)
 ·exact hn a ha' b hb' h1 h2 e
def NetT (l:List Dev):Prop:=∀ a ∈ l,∀ b ∈ l,a.kind=4 → b.kind=4 → a.name=b.name → a=b
theorem NetT.nil:NetT []:=fun a ha=>by cases ha
theorem NetT.ins {l:List Dev} (hn:NetT l) {d:Dev} (hi:insErr l d=0):NetT (insT l d):=by
 obtain ⟨_,_,_,_,_,h6⟩:=ins_split hi
 have hmem:∀ x,x ∈ insT l d → x=d∨x ∈ l:=fun x hx=>put_mem.1 hx
 have hno:∀ x ∈ l,x.kind=4 → d.kind=4 → x.name≠d.name:=fun x hx h1 h2 e=>by
  have:=h6 x hx
  unfold bad1 clashM at this
  rw [h1,h2,e] at this
  simp at this
 intro a ha b hb h1 h2 e
 rcases hmem a ha with ea|ha'<;>rcases hmem b hb with eb|hb'
 ·rw [ea,eb]
 ·subst ea;exact absurd e.symm (hno b hb' h2 h1)
 ·subst eb;exact absurd e (hno a ha' h1 h2)
 ·exact hn a ha' b hb' h1 h2 e
theorem spl_joinL:∀ (ps:List (List UInt8)) (p:List UInt8),(47:UInt8) ∉ p → (∀ q ∈ ps,(47:UInt8) ∉ q) → spl (p++joinL ps)=p :: ps
 | [],p,hp,_=>by rw [show joinL []=[] from rfl,List.append_nil,spl_none hp]
 | q :: ps,p,hp,h=>by
  rw [joinL_cons,spl_app _ hp,spl_joinL ps q (h q (by simp)) fun x hx=>h x (by simp [hx])]
theorem splitP_join {ps:List ByteArray} (h0:ps≠[]) (hv:∀ p ∈ ps,validS p=true):splitP (joinP ps)=some ps:=by
 obtain ⟨p,qs,rfl⟩:∃ p qs,ps=p :: qs:=by cases ps with|nil=>exact absurd rfl h0|cons p qs=>exact ⟨p,qs,rfl⟩
 have hd:(joinP (p :: qs)).data.toList=47 :: (p.data.toList++joinL (qs.map fun q=>q.data.toList)):=by rw [joinP_list,List.map_cons,joinL_cons]
 have hs:slashS (joinP (p :: qs))=true:=by unfold slashS Lib.hasPrefix;rw [hd];simp [List.isPrefixOf]
 have hr:(restS (joinP (p :: qs))).data.toList=p.data.toList++joinL (qs.map fun q=>q.data.toList):=by
  have:=slash_rest hs
  rw [hd] at this
  injection this with _ this
  exact this.symm
 have hp:parts (restS (joinP (p :: qs)))=p :: qs:=by
  unfold parts
  rw [hr,spl_joinL _ _ (valid_slash (hv p (by simp))) fun q hq=>by
   obtain ⟨x,hx,rfl⟩:=List.mem_map.1 hq
   exact valid_slash (hv x (by simp [hx]))]
  rw [List.map_cons,List.map_map,unT_data]
  congr 1
  conv=>rhs;rw [← List.map_id qs]
  exact List.map_congr_left fun x _=>rfl
 unfold splitP
 rw [hp,if_pos ⟨hs,List.all_eq_true.2 hv⟩]
theorem place_split {l:List Dev} (h:Okt l) {d:Dev} (hd:d ∈ l):splitP (placeM l d.index)=some (origM l d.index):=splitP_join (orig_ne h.p hd) (orig_val h.val _)
end Go.Proofs.YthconflkbeipoaaGreatDoor
