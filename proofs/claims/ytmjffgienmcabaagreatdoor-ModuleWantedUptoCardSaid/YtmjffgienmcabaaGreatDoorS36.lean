/- What the program computes, and the plain laws of it, part 36. -/
import Derived.Test.YtmjffgienmcabaaGreatDoorS35
namespace Go.Proofs.YtmjffgienmcabaaGreatDoor
attribute [local irreducible] PL QL PWPr PCalls Weak RetK Kontr PA
open Go.RowKit
open IntWalk renaming iteOmega → iO, toNatUp → tN
set_option linter.unusedVariables false
set_option linter.unusedSimpArgs false
set_option maxRecDepth 20000
set_option maxHeartbeats 4000000 in
theorem rclash_pure (a b:Dev) (ha:a.original.size≤100000) (hb:b.original.size≤100000) :
  PCalls Tryz.prog 42 [.agg a.e,.agg b.e] [] fun r os=>r = .c (.v (.bool (clashM a b)))∧os=[]:=by
 have n1:=rnode_pure a (by omega)
 have n2:=rnode_pure b (by omega)
 have ns:∀ d:Dev,d.original.size≤100000 → (nodeM d).size≤1000000:=fun d hd=>by
  unfold nodeM
  split
  ·rw [nodeS_fit];omega
  ·decide
 have b1:=rbeneath_pure (nodeM a) (nodeM b) (ns a ha)
 have b2:=rbeneath_pure (nodeM b) (nodeM a) (ns b hb)
 unfold clashM
 obtain ⟨c1,h1⟩:∃ c,hasN a=c:=⟨_,rfl⟩
 obtain ⟨c2,h2⟩:∃ c,hasN b=c:=⟨_,rfl⟩
 obtain ⟨c3,h3⟩:∃ c,beneath (nodeM a) (nodeM b)=c:=⟨_,rfl⟩
 obtain ⟨c4,h4⟩:∃ c,beneath (nodeM b) (nodeM a)=c:=⟨_,rfl⟩
 rw [h1] at n1 ⊢
 rw [h2] at n2 ⊢
 rw [h3] at b1
 rw [h4] at b2
 refine pcalls_of Tryz.func42 rfl (by simp [Tryz.ntmps42]) ?_
 rw [Tryz.ntmps42,Tryz.results42]
 push_cast [iO,tN]
 have cB:CutB 9 []:=trivial
 by_cases k1:a.kind=4
 case neg =>
  have e0:((decide (a.kind=4) && decide (b.kind=4)) && decide (a.name=b.name))=false:=by rw [decide_eq_false k1];rfl
  repeat' (first|((first|refine pC ?_|refine pQC ?_|refine pU ?_);push_cast [iO,tN,k1])|(refine pif (fun h=>?_) (fun h=>?_)<;>first|exact pN h|push_cast [iO,tN,k1]))
  cases c1
  case false =>
   repeat' (first |  (refine plc [] (n1) ?_ ?_;push_cast [iO,tN];rintro r os ⟨rfl,rfl⟩;push_cast [iO,tN])|(refine plc [] (n2) ?_ ?_;push_cast [iO,tN];rintro r os ⟨rfl,rfl⟩;push_cast [iO,tN])  | ((first|refine pC ?_|refine pQC ?_|refine pU ?_);push_cast [iO,tN])|(refine pif (fun h=>?_) (fun h=>?_)<;>first|exact pN h|push_cast [iO,tN]))
   (refine retK_of [] ?_;push_cast [iO,tN])
   all_goals simp [e0]
  cases c2
  case false =>
   repeat' (first |  (refine plc [] (n1) ?_ ?_;push_cast [iO,tN];rintro r os ⟨rfl,rfl⟩;push_cast [iO,tN])|(refine plc [] (n2) ?_ ?_;push_cast [iO,tN];rintro r os ⟨rfl,rfl⟩;push_cast [iO,tN])  | ((first|refine pC ?_|refine pQC ?_|refine pU ?_);push_cast [iO,tN])|(refine pif (fun h=>?_) (fun h=>?_)<;>first|exact pN h|push_cast [iO,tN]))
   (refine retK_of [] ?_;push_cast [iO,tN])
   all_goals simp [e0]
  by_cases q1:a.kind=b.kind
  case pos =>
   have q1':=eq_true q1
   by_cases q2:a.number=b.number
   case pos =>
    have q2':=eq_true q2
    repeat' (first|(refine plc [] (n1) ?_ ?_;push_cast [iO,tN,q1',q2'];rintro r os ⟨rfl,rfl⟩;push_cast [iO,tN,q1',q2'])|(refine plc [] (n2) ?_ ?_;push_cast [iO,tN,q1',q2'];rintro r os ⟨rfl,rfl⟩;push_cast [iO,tN,q1',q2'])|((first|refine pC ?_|refine pQC ?_|refine pU ?_);push_cast [iO,tN,q1',q2'])|(refine pif (fun h=>?_) (fun h=>?_)<;>first|exact pN h|push_cast [iO,tN,q1',q2']))
    (refine retK_of [] ?_;push_cast [iO,tN])
    all_goals simp [q1,q2]
   by_cases q3:nodeM a=nodeM b
   case pos =>
    have q3':=eq_true q3
    repeat' (first|(refine plc [] (n1) ?_ ?_;push_cast [iO,tN,q1',q2,q3'];rintro r os ⟨rfl,rfl⟩;push_cast [iO,tN,q1',q2,q3'])|(refine plc [] (n2) ?_ ?_;push_cast [iO,tN,q1',q2,q3'];rintro r os ⟨rfl,rfl⟩;push_cast [iO,tN,q1',q2,q3'])|((first|refine pC ?_|refine pQC ?_|refine pU ?_);push_cast [iO,tN,q1',q2,q3'])|(refine pif (fun h=>?_) (fun h=>?_)<;>first|exact pN h|push_cast [iO,tN,q1',q2,q3']))
    (refine retK_of [] ?_;push_cast [iO,tN])
    all_goals simp [q3]
   cases c3
   case true =>
    repeat' (first|(refine plc [] (n1) ?_ ?_;push_cast [iO,tN,q1',q2,q3];rintro r os ⟨rfl,rfl⟩;push_cast [iO,tN,q1',q2,q3])|(refine plc [] (n2) ?_ ?_;push_cast [iO,tN,q1',q2,q3];rintro r os ⟨rfl,rfl⟩;push_cast [iO,tN,q1',q2,q3])|(refine plc [] (b1) ?_ ?_;push_cast [iO,tN,q1',q2,q3];rintro r os ⟨rfl,rfl⟩;push_cast [iO,tN,q1',q2,q3])|((first|refine pC ?_|refine pQC ?_|refine pU ?_);push_cast [iO,tN,q1',q2,q3])|(refine pif (fun h=>?_) (fun h=>?_)<;>first|exact pN h|push_cast [iO,tN,q1',q2,q3]))
    (refine retK_of [] ?_;push_cast [iO,tN])
    all_goals simp [h3]
   repeat' (first|(refine plc [] (n1) ?_ ?_;push_cast [iO,tN,q1',q2,q3];rintro r os ⟨rfl,rfl⟩;push_cast [iO,tN,q1',q2,q3])|(refine plc [] (n2) ?_ ?_;push_cast [iO,tN,q1',q2,q3];rintro r os ⟨rfl,rfl⟩;push_cast [iO,tN,q1',q2,q3])|(refine plc [] (b1) ?_ ?_;push_cast [iO,tN,q1',q2,q3];rintro r os ⟨rfl,rfl⟩;push_cast [iO,tN,q1',q2,q3])|(refine plc [] (b2) ?_ ?_;push_cast [iO,tN,q1',q2,q3];rintro r os ⟨rfl,rfl⟩;push_cast [iO,tN,q1',q2,q3])|((first|refine pC ?_|refine pQC ?_|refine pU ?_);push_cast [iO,tN,q1',q2,q3])|(refine pif (fun h=>?_) (fun h=>?_)<;>first|exact pN h|push_cast [iO,tN,q1',q2,q3]))
   (refine retK_of [] ?_;push_cast [iO,tN])
   all_goals simp [e0,h3,h4,q2,q3]
  by_cases q3:nodeM a=nodeM b
  case pos =>
   have q3':=eq_true q3
   repeat' (first|(refine plc [] (n1) ?_ ?_;push_cast [iO,tN,q1,q3'];rintro r os ⟨rfl,rfl⟩;push_cast [iO,tN,q1,q3'])|(refine plc [] (n2) ?_ ?_;push_cast [iO,tN,q1,q3'];rintro r os ⟨rfl,rfl⟩;push_cast [iO,tN,q1,q3'])|((first|refine pC ?_|refine pQC ?_|refine pU ?_);push_cast [iO,tN,q1,q3'])|(refine pif (fun h=>?_) (fun h=>?_)<;>first|exact pN h|push_cast [iO,tN,q1,q3']))
   (refine retK_of [] ?_;push_cast [iO,tN])
   all_goals simp [q3]
  cases c3
  case true =>
   repeat' (first|(refine plc [] (n1) ?_ ?_;push_cast [iO,tN,q1,q3];rintro r os ⟨rfl,rfl⟩;push_cast [iO,tN,q1,q3])|(refine plc [] (n2) ?_ ?_;push_cast [iO,tN,q1,q3];rintro r os ⟨rfl,rfl⟩;push_cast [iO,tN,q1,q3])|(refine plc [] (b1) ?_ ?_;push_cast [iO,tN,q1,q3];rintro r os ⟨rfl,rfl⟩;push_cast [iO,tN,q1,q3])|((first|refine pC ?_|refine pQC ?_|refine pU ?_);push_cast [iO,tN,q1,q3])|(refine pif (fun h=>?_) (fun h=>?_)<;>first|exact pN h|push_cast [iO,tN,q1,q3]))
   (refine retK_of [] ?_;push_cast [iO,tN])
   all_goals simp [h3]
  repeat' (first|(refine plc [] (n1) ?_ ?_;push_cast [iO,tN,q1,q3];rintro r os ⟨rfl,rfl⟩;push_cast [iO,tN,q1,q3])|(refine plc [] (n2) ?_ ?_;push_cast [iO,tN,q1,q3];rintro r os ⟨rfl,rfl⟩;push_cast [iO,tN,q1,q3])|(refine plc [] (b1) ?_ ?_;push_cast [iO,tN,q1,q3];rintro r os ⟨rfl,rfl⟩;push_cast [iO,tN,q1,q3])|(refine plc [] (b2) ?_ ?_;push_cast [iO,tN,q1,q3];rintro r os ⟨rfl,rfl⟩;push_cast [iO,tN,q1,q3])|((first|refine pC ?_|refine pQC ?_|refine pU ?_);push_cast [iO,tN,q1,q3])|(refine pif (fun h=>?_) (fun h=>?_)<;>first|exact pN h|push_cast [iO,tN,q1,q3]))
  (refine retK_of [] ?_;push_cast [iO,tN])
  all_goals simp [e0,h3,h4,q1,q3]
 have k1':=eq_true k1
 by_cases k2:b.kind=4
 case neg =>
  have e0:((decide (a.kind=4) && decide (b.kind=4)) && decide (a.name=b.name))=false:=by rw [decide_eq_false k2,Bool.and_false];rfl
  repeat' (first|((first|refine pC ?_|refine pQC ?_|refine pU ?_);push_cast [iO,tN,k1',k2])|(refine pif (fun h=>?_) (fun h=>?_)<;>first|exact pN h|push_cast [iO,tN,k1',k2]))
  cases c1
  case false =>
   repeat' (first |  (refine plc [] (n1) ?_ ?_;push_cast [iO,tN];rintro r os ⟨rfl,rfl⟩;push_cast [iO,tN])|(refine plc [] (n2) ?_ ?_;push_cast [iO,tN];rintro r os ⟨rfl,rfl⟩;push_cast [iO,tN])  | ((first|refine pC ?_|refine pQC ?_|refine pU ?_);push_cast [iO,tN])|(refine pif (fun h=>?_) (fun h=>?_)<;>first|exact pN h|push_cast [iO,tN]))
   (refine retK_of [] ?_;push_cast [iO,tN])
   all_goals simp [e0]
  cases c2
  case false =>
   repeat' (first |  (refine plc [] (n1) ?_ ?_;push_cast [iO,tN];rintro r os ⟨rfl,rfl⟩;push_cast [iO,tN])|(refine plc [] (n2) ?_ ?_;push_cast [iO,tN];rintro r os ⟨rfl,rfl⟩;push_cast [iO,tN])  | ((first|refine pC ?_|refine pQC ?_|refine pU ?_);push_cast [iO,tN])|(refine pif (fun h=>?_) (fun h=>?_)<;>first|exact pN h|push_cast [iO,tN]))
   (refine retK_of [] ?_;push_cast [iO,tN])
   all_goals simp [e0]
  by_cases q1:a.kind=b.kind
  case pos =>
   have q1':=eq_true q1
   by_cases q2:a.number=b.number
   case pos =>
    have q2':=eq_true q2
    repeat' (first|(refine plc [] (n1) ?_ ?_;push_cast [iO,tN,q1',q2'];rintro r os ⟨rfl,rfl⟩;push_cast [iO,tN,q1',q2'])|(refine plc [] (n2) ?_ ?_;push_cast [iO,tN,q1',q2'];rintro r os ⟨rfl,rfl⟩;push_cast [iO,tN,q1',q2'])|((first|refine pC ?_|refine pQC ?_|refine pU ?_);push_cast [iO,tN,q1',q2'])|(refine pif (fun h=>?_) (fun h=>?_)<;>first|exact pN h|push_cast [iO,tN,q1',q2']))
    (refine retK_of [] ?_;push_cast [iO,tN])
    all_goals simp [q1,q2]
   by_cases q3:nodeM a=nodeM b
   case pos =>
    have q3':=eq_true q3
    repeat' (first|(refine plc [] (n1) ?_ ?_;push_cast [iO,tN,q1',q2,q3'];rintro r os ⟨rfl,rfl⟩;push_cast [iO,tN,q1',q2,q3'])|(refine plc [] (n2) ?_ ?_;push_cast [iO,tN,q1',q2,q3'];rintro r os ⟨rfl,rfl⟩;push_cast [iO,tN,q1',q2,q3'])|((first|refine pC ?_|refine pQC ?_|refine pU ?_);push_cast [iO,tN,q1',q2,q3'])|(refine pif (fun h=>?_) (fun h=>?_)<;>first|exact pN h|push_cast [iO,tN,q1',q2,q3']))
    (refine retK_of [] ?_;push_cast [iO,tN])
    all_goals simp [q3]
   cases c3
   case true =>
    repeat' (first|(refine plc [] (n1) ?_ ?_;push_cast [iO,tN,q1',q2,q3];rintro r os ⟨rfl,rfl⟩;push_cast [iO,tN,q1',q2,q3])|(refine plc [] (n2) ?_ ?_;push_cast [iO,tN,q1',q2,q3];rintro r os ⟨rfl,rfl⟩;push_cast [iO,tN,q1',q2,q3])|(refine plc [] (b1) ?_ ?_;push_cast [iO,tN,q1',q2,q3];rintro r os ⟨rfl,rfl⟩;push_cast [iO,tN,q1',q2,q3])|((first|refine pC ?_|refine pQC ?_|refine pU ?_);push_cast [iO,tN,q1',q2,q3])|(refine pif (fun h=>?_) (fun h=>?_)<;>first|exact pN h|push_cast [iO,tN,q1',q2,q3]))
    (refine retK_of [] ?_;push_cast [iO,tN])
    all_goals simp [h3]
   repeat' (first|(refine plc [] (n1) ?_ ?_;push_cast [iO,tN,q1',q2,q3];rintro r os ⟨rfl,rfl⟩;push_cast [iO,tN,q1',q2,q3])|(refine plc [] (n2) ?_ ?_;push_cast [iO,tN,q1',q2,q3];rintro r os ⟨rfl,rfl⟩;push_cast [iO,tN,q1',q2,q3])|(refine plc [] (b1) ?_ ?_;push_cast [iO,tN,q1',q2,q3];rintro r os ⟨rfl,rfl⟩;push_cast [iO,tN,q1',q2,q3])|(refine plc [] (b2) ?_ ?_;push_cast [iO,tN,q1',q2,q3];rintro r os ⟨rfl,rfl⟩;push_cast [iO,tN,q1',q2,q3])|((first|refine pC ?_|refine pQC ?_|refine pU ?_);push_cast [iO,tN,q1',q2,q3])|(refine pif (fun h=>?_) (fun h=>?_)<;>first|exact pN h|push_cast [iO,tN,q1',q2,q3]))
   (refine retK_of [] ?_;push_cast [iO,tN])
   all_goals simp [e0,h3,h4,q2,q3]
  by_cases q3:nodeM a=nodeM b
  case pos =>
   have q3':=eq_true q3
   repeat' (first|(refine plc [] (n1) ?_ ?_;push_cast [iO,tN,q1,q3'];rintro r os ⟨rfl,rfl⟩;push_cast [iO,tN,q1,q3'])|(refine plc [] (n2) ?_ ?_;push_cast [iO,tN,q1,q3'];rintro r os ⟨rfl,rfl⟩;push_cast [iO,tN,q1,q3'])|((first|refine pC ?_|refine pQC ?_|refine pU ?_);push_cast [iO,tN,q1,q3'])|(refine pif (fun h=>?_) (fun h=>?_)<;>first|exact pN h|push_cast [iO,tN,q1,q3']))
   (refine retK_of [] ?_;push_cast [iO,tN])
   all_goals simp [q3]
  cases c3
  case true =>
   repeat' (first|(refine plc [] (n1) ?_ ?_;push_cast [iO,tN,q1,q3];rintro r os ⟨rfl,rfl⟩;push_cast [iO,tN,q1,q3])|(refine plc [] (n2) ?_ ?_;push_cast [iO,tN,q1,q3];rintro r os ⟨rfl,rfl⟩;push_cast [iO,tN,q1,q3])|(refine plc [] (b1) ?_ ?_;push_cast [iO,tN,q1,q3];rintro r os ⟨rfl,rfl⟩;push_cast [iO,tN,q1,q3])|((first|refine pC ?_|refine pQC ?_|refine pU ?_);push_cast [iO,tN,q1,q3])|(refine pif (fun h=>?_) (fun h=>?_)<;>first|exact pN h|push_cast [iO,tN,q1,q3]))
   (refine retK_of [] ?_;push_cast [iO,tN])
   all_goals simp [h3]
  repeat' (first|(refine plc [] (n1) ?_ ?_;push_cast [iO,tN,q1,q3];rintro r os ⟨rfl,rfl⟩;push_cast [iO,tN,q1,q3])|(refine plc [] (n2) ?_ ?_;push_cast [iO,tN,q1,q3];rintro r os ⟨rfl,rfl⟩;push_cast [iO,tN,q1,q3])|(refine plc [] (b1) ?_ ?_;push_cast [iO,tN,q1,q3];rintro r os ⟨rfl,rfl⟩;push_cast [iO,tN,q1,q3])|(refine plc [] (b2) ?_ ?_;push_cast [iO,tN,q1,q3];rintro r os ⟨rfl,rfl⟩;push_cast [iO,tN,q1,q3])|((first|refine pC ?_|refine pQC ?_|refine pU ?_);push_cast [iO,tN,q1,q3])|(refine pif (fun h=>?_) (fun h=>?_)<;>first|exact pN h|push_cast [iO,tN,q1,q3]))
  (refine retK_of [] ?_;push_cast [iO,tN])
  all_goals simp [e0,h3,h4,q1,q3]
 have k2':=eq_true k2
 by_cases k3:a.name=b.name
 case neg =>
  have e0:((decide (a.kind=4) && decide (b.kind=4)) && decide (a.name=b.name))=false:=by rw [decide_eq_false k3,Bool.and_false]
  repeat' (first|((first|refine pC ?_|refine pQC ?_|refine pU ?_);push_cast [iO,tN,k1',k2',k3])|(refine pif (fun h=>?_) (fun h=>?_)<;>first|exact pN h|push_cast [iO,tN,k1',k2',k3]))
  cases c1
  case false =>
   repeat' (first |  (refine plc [] (n1) ?_ ?_;push_cast [iO,tN];rintro r os ⟨rfl,rfl⟩;push_cast [iO,tN])|(refine plc [] (n2) ?_ ?_;push_cast [iO,tN];rintro r os ⟨rfl,rfl⟩;push_cast [iO,tN])  | ((first|refine pC ?_|refine pQC ?_|refine pU ?_);push_cast [iO,tN])|(refine pif (fun h=>?_) (fun h=>?_)<;>first|exact pN h|push_cast [iO,tN]))
   (refine retK_of [] ?_;push_cast [iO,tN])
   all_goals simp [e0]
  cases c2
  case false =>
   repeat' (first |  (refine plc [] (n1) ?_ ?_;push_cast [iO,tN];rintro r os ⟨rfl,rfl⟩;push_cast [iO,tN])|(refine plc [] (n2) ?_ ?_;push_cast [iO,tN];rintro r os ⟨rfl,rfl⟩;push_cast [iO,tN])  | ((first|refine pC ?_|refine pQC ?_|refine pU ?_);push_cast [iO,tN])|(refine pif (fun h=>?_) (fun h=>?_)<;>first|exact pN h|push_cast [iO,tN]))
   (refine retK_of [] ?_;push_cast [iO,tN])
   all_goals simp [e0]
  by_cases q1:a.kind=b.kind
  case pos =>
   have q1':=eq_true q1
   by_cases q2:a.number=b.number
   case pos =>
    have q2':=eq_true q2
    repeat' (first|(refine plc [] (n1) ?_ ?_;push_cast [iO,tN,q1',q2'];rintro r os ⟨rfl,rfl⟩;push_cast [iO,tN,q1',q2'])|(refine plc [] (n2) ?_ ?_;push_cast [iO,tN,q1',q2'];rintro r os ⟨rfl,rfl⟩;push_cast [iO,tN,q1',q2'])|((first|refine pC ?_|refine pQC ?_|refine pU ?_);push_cast [iO,tN,q1',q2'])|(refine pif (fun h=>?_) (fun h=>?_)<;>first|exact pN h|push_cast [iO,tN,q1',q2']))
    (refine retK_of [] ?_;push_cast [iO,tN])
    all_goals simp [q1,q2]
   by_cases q3:nodeM a=nodeM b
   case pos =>
    have q3':=eq_true q3
    repeat' (first|(refine plc [] (n1) ?_ ?_;push_cast [iO,tN,q1',q2,q3'];rintro r os ⟨rfl,rfl⟩;push_cast [iO,tN,q1',q2,q3'])|(refine plc [] (n2) ?_ ?_;push_cast [iO,tN,q1',q2,q3'];rintro r os ⟨rfl,rfl⟩;push_cast [iO,tN,q1',q2,q3'])|((first|refine pC ?_|refine pQC ?_|refine pU ?_);push_cast [iO,tN,q1',q2,q3'])|(refine pif (fun h=>?_) (fun h=>?_)<;>first|exact pN h|push_cast [iO,tN,q1',q2,q3']))
    (refine retK_of [] ?_;push_cast [iO,tN])
    all_goals simp [q3]
   cases c3
   case true =>
    repeat' (first|(refine plc [] (n1) ?_ ?_;push_cast [iO,tN,q1',q2,q3];rintro r os ⟨rfl,rfl⟩;push_cast [iO,tN,q1',q2,q3])|(refine plc [] (n2) ?_ ?_;push_cast [iO,tN,q1',q2,q3];rintro r os ⟨rfl,rfl⟩;push_cast [iO,tN,q1',q2,q3])|(refine plc [] (b1) ?_ ?_;push_cast [iO,tN,q1',q2,q3];rintro r os ⟨rfl,rfl⟩;push_cast [iO,tN,q1',q2,q3])|((first|refine pC ?_|refine pQC ?_|refine pU ?_);push_cast [iO,tN,q1',q2,q3])|(refine pif (fun h=>?_) (fun h=>?_)<;>first|exact pN h|push_cast [iO,tN,q1',q2,q3]))
    (refine retK_of [] ?_;push_cast [iO,tN])
    all_goals simp [h3]
   repeat' (first|(refine plc [] (n1) ?_ ?_;push_cast [iO,tN,q1',q2,q3];rintro r os ⟨rfl,rfl⟩;push_cast [iO,tN,q1',q2,q3])|(refine plc [] (n2) ?_ ?_;push_cast [iO,tN,q1',q2,q3];rintro r os ⟨rfl,rfl⟩;push_cast [iO,tN,q1',q2,q3])|(refine plc [] (b1) ?_ ?_;push_cast [iO,tN,q1',q2,q3];rintro r os ⟨rfl,rfl⟩;push_cast [iO,tN,q1',q2,q3])|(refine plc [] (b2) ?_ ?_;push_cast [iO,tN,q1',q2,q3];rintro r os ⟨rfl,rfl⟩;push_cast [iO,tN,q1',q2,q3])|((first|refine pC ?_|refine pQC ?_|refine pU ?_);push_cast [iO,tN,q1',q2,q3])|(refine pif (fun h=>?_) (fun h=>?_)<;>first|exact pN h|push_cast [iO,tN,q1',q2,q3]))
   (refine retK_of [] ?_;push_cast [iO,tN])
   all_goals simp [e0,h3,h4,q2,q3]
  by_cases q3:nodeM a=nodeM b
  case pos =>
   have q3':=eq_true q3
   repeat' (first|(refine plc [] (n1) ?_ ?_;push_cast [iO,tN,q1,q3'];rintro r os ⟨rfl,rfl⟩;push_cast [iO,tN,q1,q3'])|(refine plc [] (n2) ?_ ?_;push_cast [iO,tN,q1,q3'];rintro r os ⟨rfl,rfl⟩;push_cast [iO,tN,q1,q3'])|((first|refine pC ?_|refine pQC ?_|refine pU ?_);push_cast [iO,tN,q1,q3'])|(refine pif (fun h=>?_) (fun h=>?_)<;>first|exact pN h|push_cast [iO,tN,q1,q3']))
   (refine retK_of [] ?_;push_cast [iO,tN])
   all_goals simp [q3]
  cases c3
  case true =>
   repeat' (first|(refine plc [] (n1) ?_ ?_;push_cast [iO,tN,q1,q3];rintro r os ⟨rfl,rfl⟩;push_cast [iO,tN,q1,q3])|(refine plc [] (n2) ?_ ?_;push_cast [iO,tN,q1,q3];rintro r os ⟨rfl,rfl⟩;push_cast [iO,tN,q1,q3])|(refine plc [] (b1) ?_ ?_;push_cast [iO,tN,q1,q3];rintro r os ⟨rfl,rfl⟩;push_cast [iO,tN,q1,q3])|((first|refine pC ?_|refine pQC ?_|refine pU ?_);push_cast [iO,tN,q1,q3])|(refine pif (fun h=>?_) (fun h=>?_)<;>first|exact pN h|push_cast [iO,tN,q1,q3]))
   (refine retK_of [] ?_;push_cast [iO,tN])
   all_goals simp [h3]
  repeat' (first|(refine plc [] (n1) ?_ ?_;push_cast [iO,tN,q1,q3];rintro r os ⟨rfl,rfl⟩;push_cast [iO,tN,q1,q3])|(refine plc [] (n2) ?_ ?_;push_cast [iO,tN,q1,q3];rintro r os ⟨rfl,rfl⟩;push_cast [iO,tN,q1,q3])|(refine plc [] (b1) ?_ ?_;push_cast [iO,tN,q1,q3];rintro r os ⟨rfl,rfl⟩;push_cast [iO,tN,q1,q3])|(refine plc [] (b2) ?_ ?_;push_cast [iO,tN,q1,q3];rintro r os ⟨rfl,rfl⟩;push_cast [iO,tN,q1,q3])|((first|refine pC ?_|refine pQC ?_|refine pU ?_);push_cast [iO,tN,q1,q3])|(refine pif (fun h=>?_) (fun h=>?_)<;>first|exact pN h|push_cast [iO,tN,q1,q3]))
  (refine retK_of [] ?_;push_cast [iO,tN])
  all_goals simp [e0,h3,h4,q1,q3]
 have k3':=eq_true k3
 repeat' (first|((first|refine pC ?_|refine pQC ?_|refine pU ?_);push_cast [iO,tN,k1',k2',k3'])|(refine pif (fun h=>?_) (fun h=>?_)<;>first|exact pN h|push_cast [iO,tN,k1',k2',k3']))
 (refine retK_of [] ?_;push_cast [iO,tN])
 all_goals simp [k1,k2,k3]
set_option maxRecDepth 20000
theorem cmpL_at:∀ {l m:List ByteArray} {k:Nat},k≤l.length → k≤m.length → l.take k=m.take k → cmpL l m=cmpL (l.drop k) (m.drop k)
 | l,m,0,_,_,_=>by simp
 | [],m,k+1,h,_,_=>by simp at h
 | a :: l,[],k+1,_,h,_=>by simp at h
 | a :: l,b :: m,k+1,h1,h2,h3=>by
  simp only [List.take_succ_cons,List.cons.injEq] at h3
  obtain ⟨rfl,h3⟩:=h3
  rw [cmpL,if_pos rfl]
  simp only [List.drop_succ_cons]
  exact cmpL_at (by simpa using h1) (by simpa using h2) h3
theorem cmpL_step {l m:List ByteArray} {k:Nat} (h1:k < l.length) (h2:k < m.length) (h3:l.take k=m.take k):cmpL l m=if l.getD k default=m.getD k default then cmpL (l.drop (k+1)) (m.drop (k+1)) else cmpS (l.getD k default) (m.getD k default):=by
 rw [cmpL_at (by omega) (by omega) h3,List.drop_eq_getElem_cons h1,List.drop_eq_getElem_cons h2,cmpL,getD_lt l h1,getD_lt m h2]
set_option maxHeartbeats 1000000 in
theorem rcompare_pure (l m:List ByteArray) (hl:l.length≤1000000000) (hm:m.length≤1000000000) :
  PCalls Tryz.prog 41 [.c (.sl 1 (l.map strD)),.c (.sl 1 (m.map strD))] [] fun r os=>r = .c (.v (.int .i64 (cmpL l m)))∧os=[]:=by
 refine pcalls_of Tryz.func41 rfl (by simp [Tryz.ntmps41]) ?_
 rw [Tryz.ntmps41,Tryz.results41]
 push_cast [iO,tN]
 have cB:CutB 6 []:=trivial
 repeat' (first|((first|refine pC ?_|refine pQC ?_|refine pU ?_);push_cast [iO,tN])|(refine pif (fun h=>?_) (fun h=>?_)<;>first|exact pN h|push_cast [iO,tN]))
 (apply pwp_loop3 (α:=Nat) 6 [] (fun k=>[(5,.c (.v (.int .i64 k)))]) (fun k=>[]) (fun k=>k≤l.length∧k≤m.length∧l.take k=m.take k) (fun k=>l.length - k) (0);(focus ((try push_cast [iO,tN]);rfl));(focus exact ⟨by omega,by omega,rfl⟩);(focus ((refine weak_fg ?_;try push_cast [iO,tN]))))
 rintro k ⟨hk,hk2,he⟩
 push_cast [iO,tN]
 by_cases h1:k < l.length
 ·by_cases h2:k < m.length
  ·have hst:=cmpL_step h1 h2 he
   by_cases e:l.getD k default=m.getD k default
   ·have e2:=eq_true e
    repeat' (first|((first|refine pC ?_|refine pQC ?_|refine pU ?_);push_cast [iO,tN,e2,ne_eq,not_true_eq_false])|(refine pif (fun h=>?_) (fun h=>?_)<;>first|exact pN h|push_cast [iO,tN,e2,ne_eq,not_true_eq_false]))
    refine ⟨k+1,⟨by omega,by omega,?_⟩,by (refine weak_fg ?_;push_cast [iO,tN]),by omega⟩
    rw [List.take_succ_eq_append_getElem h1,List.take_succ_eq_append_getElem h2,he,← getD_lt l h1,← getD_lt m h2,e]
   ·rw [if_neg e] at hst
    repeat' (first|((refine ql_call2 false rfl rfl (by kernel_rfl) (scmp_pure (l.getD k default) (m.getD k default)) (fun r os h=>h.1) rfl ?_ ?_;push_cast [iO,tN,e,ne_eq,not_false_eq_true];refine ql_of_qops ?_;push_cast [iO,tN,e,ne_eq,not_false_eq_true]))|((first|refine pC ?_|refine pQC ?_|refine pU ?_);push_cast [iO,tN,e,ne_eq,not_false_eq_true])|(refine pif (fun h=>?_) (fun h=>?_)<;>first|exact pN h|push_cast [iO,tN,e,ne_eq,not_false_eq_true]))
    (refine retK_of [] ?_;push_cast [iO,tN])
    rw [hst]
  ·have hke:k=m.length:=by omega
   have hcl:cmpL l m=1:=by
    have hz:m.drop k=[]:=List.drop_eq_nil_of_le (by omega)
    rw [cmpL_at (by omega) (by omega) he,hz,List.drop_eq_getElem_cons h1];rfl
   repeat' (first|((first|refine pC ?_|refine pQC ?_|refine pU ?_);push_cast [iO,tN])|(refine pif (fun h=>?_) (fun h=>?_)<;>first|exact pN h|push_cast [iO,tN]))
   (refine retK_of [] ?_;push_cast [iO,tN])
   rw [hcl]
 ·have hke:k=l.length:=by omega
  by_cases h2:k < m.length
  ·have hcl:cmpL l m = -1:=by
    have hz:l.drop k=[]:=List.drop_eq_nil_of_le (by omega)
    rw [cmpL_at (by omega) (by omega) he,hz,List.drop_eq_getElem_cons h2];rfl
   repeat' (first|((first|refine pC ?_|refine pQC ?_|refine pU ?_);push_cast [iO,tN])|(refine pif (fun h=>?_) (fun h=>?_)<;>first|exact pN h|push_cast [iO,tN]))
   (refine retK_of [] ?_;push_cast [iO,tN])
   rw [hcl]
  ·have hcl:cmpL l m=0:=by
    rw [cmpL_at (by omega) (by omega) he,List.drop_eq_nil_of_le (by omega),List.drop_eq_nil_of_le (by omega)];rfl
   repeat' (first|((first|refine pC ?_|refine pQC ?_|refine pU ?_);push_cast [iO,tN])|(refine pif (fun h=>?_) (fun h=>?_)<;>first|exact pN h|push_cast [iO,tN]))
   (refine retK_of [] ?_;push_cast [iO,tN])
   rw [hcl]
end Go.Proofs.YtmjffgienmcabaaGreatDoor
