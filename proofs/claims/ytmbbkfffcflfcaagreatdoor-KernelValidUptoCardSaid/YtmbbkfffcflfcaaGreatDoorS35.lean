/- What the program computes, and the plain laws of it, part 35. -/
import Derived.Lib.ItoaNum
import Derived.WideKeyEntry
import Derived.Test.YtmbbkfffcflfcaaGreatDoorS34
namespace Go.Proofs.YtmbbkfffcflfcaaGreatDoor
attribute [local irreducible] PL QL PWPr PCalls Weak RetK Kontr PA
open Go.RowKit
open IntWalk renaming iteOmega → O, toNatUp → U
set_option linter.unusedVariables false
set_option linter.unusedSimpArgs false
set_option maxRecDepth 20000
theorem order_pure (a b:ByteArray) (ha:a.size≤100000000) (hb:b.size≤100000000) :
  PCalls Tryz.prog 67 [.c (.v (.string a)),.c (.v (.string b))] [] fun r os=>r = .c (.v (.int .i64 (cmpP a b)))∧os=[]:=by
 have hc:=ncompare_pure a b ha hb
 obtain ⟨e,he⟩:=cmpR_ex a b
 rw [he] at hc
 refine pcalls_of Tryz.func67 rfl (by simp [Tryz.ntmps67]) ?_
 rw [Tryz.ntmps67,Tryz.results67]
 push_cast [O,U]
 repeat' ((first|refine plE [] hc ?_ ?_|refine pG ?_|refine pQ ?_|refine pU ?_|refine pif ?_ ?_<;>intro h<;>try exact pN h)<;>push_cast [O,U])
 (refine retK_of [] ?_;push_cast [O,U])
def depthM (s:ByteArray):Nat:=match splitP s with
 | some l=>l.length
 | none=>0
theorem depth_pure (s:ByteArray) (hs:s.size≤100000000) :
  PCalls Tryz.prog 66 [.c (.v (.string s))] [] fun r os=>r = .c (.v (.int .i64 (depthM s)))∧os=[]:=by
 have hc:=nsplit_pure s hs
 unfold depthM
 cases hS:splitP s with
 | none =>
  rw [hS] at hc
  refine pcalls_of Tryz.func66 rfl (by simp [Tryz.ntmps66]) ?_
  rw [Tryz.ntmps66,Tryz.results66]
  push_cast [O,U]
  repeat' ((first|refine plE [] hc ?_ ?_|refine pG ?_|refine pQ ?_|refine pU ?_|refine pif ?_ ?_<;>intro h<;>try exact pN h)<;>push_cast [O,U])
  (refine retK_of [] ?_;push_cast [O,U])
 | some l =>
  rw [hS] at hc
  refine pcalls_of Tryz.func66 rfl (by simp [Tryz.ntmps66]) ?_
  rw [Tryz.ntmps66,Tryz.results66]
  push_cast [O,U]
  repeat' ((first|refine plE [] hc ?_ ?_|refine pG ?_|refine pQ ?_|refine pU ?_|refine pif ?_ ?_<;>intro h<;>try exact pN h)<;>push_cast [O,U])
  (refine retK_of [] ?_;push_cast [O,U])
theorem beneathP_walk (a b:ByteArray) (ha:a.size≤1000000) (w:World) :
  Calls Tryz.prog 165 #[.string a,.string b] w fun e w'=>e = .returned (.bool (beneath a b))∧w'=w:=by
 have h:=strings_HasPrefix b (a++⟨#[47]⟩) w
 unfold beneath
 go_enter Tryz.func165,Tryz.ntmps165
 go_wp2_with (go_at_call 185;refine h.mono ?_;rintro e w' ⟨rfl,rfl⟩)
 go_ret
 exact ⟨rfl,rfl⟩
theorem beneath_pure (a b:ByteArray) (ha:a.size≤1000000):PCalls Tryz.prog 165 [.c (.v (.string a)),.c (.v (.string b))] [] fun r os=>r = .c (.v (.bool (beneath a b)))∧os=[] :=
 pcalls_plain [.string a,.string b] _ rfl fun w _=>(beneathP_walk a b ha w).mono fun e w' ⟨he,hw⟩=>by rw [he,hw];exact ⟨rfl,Below.refl _ _⟩
set_option maxHeartbeats 4000000 in
theorem clash_pure (a b:Dev) (ha:a.original.size≤100000) (hb:b.original.size≤100000) :
  PCalls Tryz.prog 121 [.agg a.e,.agg b.e] [] fun r os=>r = .c (.v (.bool (clashM a b)))∧os=[]:=by
 have n1:=node_pure a (by omega)
 have n2:=node_pure b (by omega)
 have ns:∀ d:Dev,d.original.size≤100000 → (nodeM d).size≤1000000:=fun d hd=>by
  unfold nodeM
  split
  ·rw [nodeS_fit];omega
  ·decide
 have b1:=beneath_pure (nodeM a) (nodeM b) (ns a ha)
 have b2:=beneath_pure (nodeM b) (nodeM a) (ns b hb)
 unfold clashM
 obtain ⟨c1,h1⟩:∃ c,hasN a=c:=⟨_,rfl⟩
 obtain ⟨c2,h2⟩:∃ c,hasN b=c:=⟨_,rfl⟩
 obtain ⟨c3,h3⟩:∃ c,beneath (nodeM a) (nodeM b)=c:=⟨_,rfl⟩
 obtain ⟨c4,h4⟩:∃ c,beneath (nodeM b) (nodeM a)=c:=⟨_,rfl⟩
 rw [h1] at n1 ⊢
 rw [h2] at n2 ⊢
 rw [h3] at b1
 rw [h4] at b2
 refine pcalls_of Tryz.func121 rfl (by simp [Tryz.ntmps121]) ?_
 rw [Tryz.ntmps121,Tryz.results121]
 push_cast [O,U]
 have cB:CutB 9 []:=trivial
 by_cases k1:a.kind=4
 case neg =>
  have e0:((decide (a.kind=4) && decide (b.kind=4)) && decide (a.name=b.name))=false:=by rw [decide_eq_false k1];rfl
  repeat' ((first|refine pC ?_|refine pQC ?_|refine pU ?_|refine pif ?_ ?_<;>intro h<;>try exact pN h)<;>push_cast [O,U,k1])
  cases c1
  case false =>
   repeat' ((first|refine plE [] n1 ?_ ?_;focus (push_cast [O,U];done)|refine plE [] n2 ?_ ?_;focus (push_cast [O,U];done)|refine pC ?_|refine pQC ?_|refine pU ?_|refine pif ?_ ?_<;>intro h<;>try exact pN h)<;>push_cast [O,U])
   (refine retK_of [] ?_;push_cast [O,U])
   all_goals simp [e0]
  cases c2
  case false =>
   repeat' ((first|refine plE [] n1 ?_ ?_;focus (push_cast [O,U];done)|refine plE [] n2 ?_ ?_;focus (push_cast [O,U];done)|refine pC ?_|refine pQC ?_|refine pU ?_|refine pif ?_ ?_<;>intro h<;>try exact pN h)<;>push_cast [O,U])
   (refine retK_of [] ?_;push_cast [O,U])
   all_goals simp [e0]
  by_cases q1:a.kind=b.kind
  case pos =>
   have q1':=eq_true q1
   by_cases q2:a.number=b.number
   case pos =>
    have q2':=eq_true q2
    repeat' ((first|refine plE [] n1 ?_ ?_;focus (push_cast [O,U,q1',q2'];done)|refine plE [] n2 ?_ ?_;focus (push_cast [O,U,q1',q2'];done)|refine pC ?_|refine pQC ?_|refine pU ?_|refine pif ?_ ?_<;>intro h<;>try exact pN h)<;>push_cast [O,U,q1',q2'])
    (refine retK_of [] ?_;push_cast [O,U])
    all_goals simp [q1,q2]
   by_cases q3:nodeM a=nodeM b
   case pos =>
    have q3':=eq_true q3
    repeat' ((first|refine plE [] n1 ?_ ?_;focus (push_cast [O,U,q1',q2,q3'];done)|refine plE [] n2 ?_ ?_;focus (push_cast [O,U,q1',q2,q3'];done)|refine pC ?_|refine pQC ?_|refine pU ?_|refine pif ?_ ?_<;>intro h<;>try exact pN h)<;>push_cast [O,U,q1',q2,q3'])
    (refine retK_of [] ?_;push_cast [O,U])
    all_goals simp [q3]
   cases c3
   case true =>
    repeat' ((first|refine plE [] n1 ?_ ?_;focus (push_cast [O,U,q1',q2,q3];done)|refine plE [] n2 ?_ ?_;focus (push_cast [O,U,q1',q2,q3];done)|refine plE [] b1 ?_ ?_;focus (push_cast [O,U,q1',q2,q3];done)|refine pC ?_|refine pQC ?_|refine pU ?_|refine pif ?_ ?_<;>intro h<;>try exact pN h)<;>push_cast [O,U,q1',q2,q3])
    (refine retK_of [] ?_;push_cast [O,U])
    all_goals simp [h3]
   repeat' ((first|refine plE [] n1 ?_ ?_;focus (push_cast [O,U,q1',q2,q3];done)|refine plE [] n2 ?_ ?_;focus (push_cast [O,U,q1',q2,q3];done)|refine plE [] b1 ?_ ?_;focus (push_cast [O,U,q1',q2,q3];done)|refine plE [] b2 ?_ ?_;focus (push_cast [O,U,q1',q2,q3];done)|refine pC ?_|refine pQC ?_|refine pU ?_|refine pif ?_ ?_<;>intro h<;>try exact pN h)<;>push_cast [O,U,q1',q2,q3])
   (refine retK_of [] ?_;push_cast [O,U])
   all_goals simp [e0,h3,h4,q2,q3]
  by_cases q3:nodeM a=nodeM b
  case pos =>
   have q3':=eq_true q3
   repeat' ((first|refine plE [] n1 ?_ ?_;focus (push_cast [O,U,q1,q3'];done)|refine plE [] n2 ?_ ?_;focus (push_cast [O,U,q1,q3'];done)|refine pC ?_|refine pQC ?_|refine pU ?_|refine pif ?_ ?_<;>intro h<;>try exact pN h)<;>push_cast [O,U,q1,q3'])
   (refine retK_of [] ?_;push_cast [O,U])
   all_goals simp [q3]
  cases c3
  case true =>
   repeat' ((first|refine plE [] n1 ?_ ?_;focus (push_cast [O,U,q1,q3];done)|refine plE [] n2 ?_ ?_;focus (push_cast [O,U,q1,q3];done)|refine plE [] b1 ?_ ?_;focus (push_cast [O,U,q1,q3];done)|refine pC ?_|refine pQC ?_|refine pU ?_|refine pif ?_ ?_<;>intro h<;>try exact pN h)<;>push_cast [O,U,q1,q3])
   (refine retK_of [] ?_;push_cast [O,U])
   all_goals simp [h3]
  repeat' ((first|refine plE [] n1 ?_ ?_;focus (push_cast [O,U,q1,q3];done)|refine plE [] n2 ?_ ?_;focus (push_cast [O,U,q1,q3];done)|refine plE [] b1 ?_ ?_;focus (push_cast [O,U,q1,q3];done)|refine plE [] b2 ?_ ?_;focus (push_cast [O,U,q1,q3];done)|refine pC ?_|refine pQC ?_|refine pU ?_|refine pif ?_ ?_<;>intro h<;>try exact pN h)<;>push_cast [O,U,q1,q3])
  (refine retK_of [] ?_;push_cast [O,U])
  all_goals simp [e0,h3,h4,q1,q3]
 have k1':=eq_true k1
 by_cases k2:b.kind=4
 case neg =>
  have e0:((decide (a.kind=4) && decide (b.kind=4)) && decide (a.name=b.name))=false:=by rw [decide_eq_false k2,Bool.and_false];rfl
  repeat' ((first|refine pC ?_|refine pQC ?_|refine pU ?_|refine pif ?_ ?_<;>intro h<;>try exact pN h)<;>push_cast [O,U,k1',k2])
  cases c1
  case false =>
   repeat' ((first|refine plE [] n1 ?_ ?_;focus (push_cast [O,U];done)|refine plE [] n2 ?_ ?_;focus (push_cast [O,U];done)|refine pC ?_|refine pQC ?_|refine pU ?_|refine pif ?_ ?_<;>intro h<;>try exact pN h)<;>push_cast [O,U])
   (refine retK_of [] ?_;push_cast [O,U])
   all_goals simp [e0]
  cases c2
  case false =>
   repeat' ((first|refine plE [] n1 ?_ ?_;focus (push_cast [O,U];done)|refine plE [] n2 ?_ ?_;focus (push_cast [O,U];done)|refine pC ?_|refine pQC ?_|refine pU ?_|refine pif ?_ ?_<;>intro h<;>try exact pN h)<;>push_cast [O,U])
   (refine retK_of [] ?_;push_cast [O,U])
   all_goals simp [e0]
  by_cases q1:a.kind=b.kind
  case pos =>
   have q1':=eq_true q1
   by_cases q2:a.number=b.number
   case pos =>
    have q2':=eq_true q2
    repeat' ((first|refine plE [] n1 ?_ ?_;focus (push_cast [O,U,q1',q2'];done)|refine plE [] n2 ?_ ?_;focus (push_cast [O,U,q1',q2'];done)|refine pC ?_|refine pQC ?_|refine pU ?_|refine pif ?_ ?_<;>intro h<;>try exact pN h)<;>push_cast [O,U,q1',q2'])
    (refine retK_of [] ?_;push_cast [O,U])
    all_goals simp [q1,q2]
   by_cases q3:nodeM a=nodeM b
   case pos =>
    have q3':=eq_true q3
    repeat' ((first|refine plE [] n1 ?_ ?_;focus (push_cast [O,U,q1',q2,q3'];done)|refine plE [] n2 ?_ ?_;focus (push_cast [O,U,q1',q2,q3'];done)|refine pC ?_|refine pQC ?_|refine pU ?_|refine pif ?_ ?_<;>intro h<;>try exact pN h)<;>push_cast [O,U,q1',q2,q3'])
    (refine retK_of [] ?_;push_cast [O,U])
    all_goals simp [q3]
   cases c3
   case true =>
    repeat' ((first|refine plE [] n1 ?_ ?_;focus (push_cast [O,U,q1',q2,q3];done)|refine plE [] n2 ?_ ?_;focus (push_cast [O,U,q1',q2,q3];done)|refine plE [] b1 ?_ ?_;focus (push_cast [O,U,q1',q2,q3];done)|refine pC ?_|refine pQC ?_|refine pU ?_|refine pif ?_ ?_<;>intro h<;>try exact pN h)<;>push_cast [O,U,q1',q2,q3])
    (refine retK_of [] ?_;push_cast [O,U])
    all_goals simp [h3]
   repeat' ((first|refine plE [] n1 ?_ ?_;focus (push_cast [O,U,q1',q2,q3];done)|refine plE [] n2 ?_ ?_;focus (push_cast [O,U,q1',q2,q3];done)|refine plE [] b1 ?_ ?_;focus (push_cast [O,U,q1',q2,q3];done)|refine plE [] b2 ?_ ?_;focus (push_cast [O,U,q1',q2,q3];done)|refine pC ?_|refine pQC ?_|refine pU ?_|refine pif ?_ ?_<;>intro h<;>try exact pN h)<;>push_cast [O,U,q1',q2,q3])
   (refine retK_of [] ?_;push_cast [O,U])
   all_goals simp [e0,h3,h4,q2,q3]
  by_cases q3:nodeM a=nodeM b
  case pos =>
   have q3':=eq_true q3
   repeat' ((first|refine plE [] n1 ?_ ?_;focus (push_cast [O,U,q1,q3'];done)|refine plE [] n2 ?_ ?_;focus (push_cast [O,U,q1,q3'];done)|refine pC ?_|refine pQC ?_|refine pU ?_|refine pif ?_ ?_<;>intro h<;>try exact pN h)<;>push_cast [O,U,q1,q3'])
   (refine retK_of [] ?_;push_cast [O,U])
   all_goals simp [q3]
  cases c3
  case true =>
   repeat' ((first|refine plE [] n1 ?_ ?_;focus (push_cast [O,U,q1,q3];done)|refine plE [] n2 ?_ ?_;focus (push_cast [O,U,q1,q3];done)|refine plE [] b1 ?_ ?_;focus (push_cast [O,U,q1,q3];done)|refine pC ?_|refine pQC ?_|refine pU ?_|refine pif ?_ ?_<;>intro h<;>try exact pN h)<;>push_cast [O,U,q1,q3])
   (refine retK_of [] ?_;push_cast [O,U])
   all_goals simp [h3]
  repeat' ((first|refine plE [] n1 ?_ ?_;focus (push_cast [O,U,q1,q3];done)|refine plE [] n2 ?_ ?_;focus (push_cast [O,U,q1,q3];done)|refine plE [] b1 ?_ ?_;focus (push_cast [O,U,q1,q3];done)|refine plE [] b2 ?_ ?_;focus (push_cast [O,U,q1,q3];done)|refine pC ?_|refine pQC ?_|refine pU ?_|refine pif ?_ ?_<;>intro h<;>try exact pN h)<;>push_cast [O,U,q1,q3])
  (refine retK_of [] ?_;push_cast [O,U])
  all_goals simp [e0,h3,h4,q1,q3]
 have k2':=eq_true k2
 by_cases k3:a.name=b.name
 case neg =>
  have e0:((decide (a.kind=4) && decide (b.kind=4)) && decide (a.name=b.name))=false:=by rw [decide_eq_false k3,Bool.and_false]
  repeat' ((first|refine pC ?_|refine pQC ?_|refine pU ?_|refine pif ?_ ?_<;>intro h<;>try exact pN h)<;>push_cast [O,U,k1',k2',k3])
  cases c1
  case false =>
   repeat' ((first|refine plE [] n1 ?_ ?_;focus (push_cast [O,U];done)|refine plE [] n2 ?_ ?_;focus (push_cast [O,U];done)|refine pC ?_|refine pQC ?_|refine pU ?_|refine pif ?_ ?_<;>intro h<;>try exact pN h)<;>push_cast [O,U])
   (refine retK_of [] ?_;push_cast [O,U])
   all_goals simp [e0]
  cases c2
  case false =>
   repeat' ((first|refine plE [] n1 ?_ ?_;focus (push_cast [O,U];done)|refine plE [] n2 ?_ ?_;focus (push_cast [O,U];done)|refine pC ?_|refine pQC ?_|refine pU ?_|refine pif ?_ ?_<;>intro h<;>try exact pN h)<;>push_cast [O,U])
   (refine retK_of [] ?_;push_cast [O,U])
   all_goals simp [e0]
  by_cases q1:a.kind=b.kind
  case pos =>
   have q1':=eq_true q1
   by_cases q2:a.number=b.number
   case pos =>
    have q2':=eq_true q2
    repeat' ((first|refine plE [] n1 ?_ ?_;focus (push_cast [O,U,q1',q2'];done)|refine plE [] n2 ?_ ?_;focus (push_cast [O,U,q1',q2'];done)|refine pC ?_|refine pQC ?_|refine pU ?_|refine pif ?_ ?_<;>intro h<;>try exact pN h)<;>push_cast [O,U,q1',q2'])
    (refine retK_of [] ?_;push_cast [O,U])
    all_goals simp [q1,q2]
   by_cases q3:nodeM a=nodeM b
   case pos =>
    have q3':=eq_true q3
    repeat' ((first|refine plE [] n1 ?_ ?_;focus (push_cast [O,U,q1',q2,q3'];done)|refine plE [] n2 ?_ ?_;focus (push_cast [O,U,q1',q2,q3'];done)|refine pC ?_|refine pQC ?_|refine pU ?_|refine pif ?_ ?_<;>intro h<;>try exact pN h)<;>push_cast [O,U,q1',q2,q3'])
    (refine retK_of [] ?_;push_cast [O,U])
    all_goals simp [q3]
   cases c3
   case true =>
    repeat' ((first|refine plE [] n1 ?_ ?_;focus (push_cast [O,U,q1',q2,q3];done)|refine plE [] n2 ?_ ?_;focus (push_cast [O,U,q1',q2,q3];done)|refine plE [] b1 ?_ ?_;focus (push_cast [O,U,q1',q2,q3];done)|refine pC ?_|refine pQC ?_|refine pU ?_|refine pif ?_ ?_<;>intro h<;>try exact pN h)<;>push_cast [O,U,q1',q2,q3])
    (refine retK_of [] ?_;push_cast [O,U])
    all_goals simp [h3]
   repeat' ((first|refine plE [] n1 ?_ ?_;focus (push_cast [O,U,q1',q2,q3];done)|refine plE [] n2 ?_ ?_;focus (push_cast [O,U,q1',q2,q3];done)|refine plE [] b1 ?_ ?_;focus (push_cast [O,U,q1',q2,q3];done)|refine plE [] b2 ?_ ?_;focus (push_cast [O,U,q1',q2,q3];done)|refine pC ?_|refine pQC ?_|refine pU ?_|refine pif ?_ ?_<;>intro h<;>try exact pN h)<;>push_cast [O,U,q1',q2,q3])
   (refine retK_of [] ?_;push_cast [O,U])
   all_goals simp [e0,h3,h4,q2,q3]
  by_cases q3:nodeM a=nodeM b
  case pos =>
   have q3':=eq_true q3
   repeat' ((first|refine plE [] n1 ?_ ?_;focus (push_cast [O,U,q1,q3'];done)|refine plE [] n2 ?_ ?_;focus (push_cast [O,U,q1,q3'];done)|refine pC ?_|refine pQC ?_|refine pU ?_|refine pif ?_ ?_<;>intro h<;>try exact pN h)<;>push_cast [O,U,q1,q3'])
   (refine retK_of [] ?_;push_cast [O,U])
   all_goals simp [q3]
  cases c3
  case true =>
   repeat' ((first|refine plE [] n1 ?_ ?_;focus (push_cast [O,U,q1,q3];done)|refine plE [] n2 ?_ ?_;focus (push_cast [O,U,q1,q3];done)|refine plE [] b1 ?_ ?_;focus (push_cast [O,U,q1,q3];done)|refine pC ?_|refine pQC ?_|refine pU ?_|refine pif ?_ ?_<;>intro h<;>try exact pN h)<;>push_cast [O,U,q1,q3])
   (refine retK_of [] ?_;push_cast [O,U])
   all_goals simp [h3]
  repeat' ((first|refine plE [] n1 ?_ ?_;focus (push_cast [O,U,q1,q3];done)|refine plE [] n2 ?_ ?_;focus (push_cast [O,U,q1,q3];done)|refine plE [] b1 ?_ ?_;focus (push_cast [O,U,q1,q3];done)|refine plE [] b2 ?_ ?_;focus (push_cast [O,U,q1,q3];done)|refine pC ?_|refine pQC ?_|refine pU ?_|refine pif ?_ ?_<;>intro h<;>try exact pN h)<;>push_cast [O,U,q1,q3])
  (refine retK_of [] ?_;push_cast [O,U])
  all_goals simp [e0,h3,h4,q1,q3]
 have k3':=eq_true k3
 repeat' ((first|refine pC ?_|refine pQC ?_|refine pU ?_|refine pif ?_ ?_<;>intro h<;>try exact pN h)<;>push_cast [O,U,k1',k2',k3'])
 (refine retK_of [] ?_;push_cast [O,U])
 all_goals simp [k1,k2,k3]
theorem containsFuncD_pure (l:List Dev) (hl:l.length≤1000000000) (g:FuncId) (ks:List Nat) (os:List Ob) (q:Dev → Bool) (hp:PredD Tryz.prog g ks os l q) :
  PCalls Tryz.prog 119 [.c (.sl 10 (l.map Dev.d)),.c (.fn (.func g) [] ks)] os fun r os'=>r = .c (.v (.bool (l.any q)))∧os'=os:=by
 refine pcalls_of_all Tryz.func119 rfl (by simp [Tryz.ntmps119]) ?_
 rw [Tryz.ntmps119,Tryz.results119]
 push_cast [O,U]
 repeat' ((first|(refine pl_call_all rfl (by push_cast [O,U]) rfl (by kernel_rfl) (by push_cast [O,U]) ?_ (indexFuncD_pure l hl g ks os q hp) ?_;(focus (unfold callArgs;push_cast [O,U]));rintro r os ⟨k,hk,rfl,rfl⟩;refine pl_of_pops ?_)|refine pG ?_|refine pQ ?_|refine pU ?_|refine pif ?_ ?_<;>intro h<;>try exact pN h)<;>push_cast [O,U])
 refine ⟨_,rfl,by push_cast [O,U],?_,rfl⟩
 rcases hk with ⟨rfl,h⟩|⟨i,rfl,hi,hq,_⟩
 ·have:l.any q=false:=by rw [Bool.eq_false_iff];intro hc;obtain ⟨x,hx,hx2⟩:=List.any_eq_true.1 hc;rw [h x hx] at hx2;cases hx2
  rw [this];rfl
 ·have:l.any q=true:=List.any_eq_true.2 ⟨_,by rw [getD_lt l hi];exact List.getElem_mem _,hq⟩
  rw [this]
  have:decide ((0:Int)≤(i:Int))=true:=decide_eq_true (by omega)
  simp
abbrev cshO (d:Dev):List Ob:=[.box 53 d.e]
theorem clashes1_pure (d x:Dev) (hx:x.original.size≤100000) (hd:d.original.size≤100000):PCalls Tryz.prog 120 [.agg x.e,.c (.ptr 0 0)] (cshO d) fun r os=>r = .c (.v (.bool (!decide (x.index=d.index) && clashM x d)))∧os=cshO d:=by
 have hc:=clash_pure x d hx hd
 by_cases h:x.index=d.index
 ·have hn:(!decide (x.index=d.index) && clashM x d)=false:=by rw [decide_eq_true h];rfl
  refine pcalls_of Tryz.func120 rfl (by simp [Tryz.ntmps120]) ?_
  rw [Tryz.ntmps120,Tryz.results120]
  push_cast [O,U]
  have h':(d.index≠d.index)=False:=by simp
  repeat' ((first|refine pG ?_|refine pQ ?_|refine pU ?_|refine pif ?_ ?_<;>intro h<;>try exact pN h)<;>push_cast [O,U,h,h'])
  (refine retK_of [0] ?_;push_cast [O,U,hn])
 ·have hn:(!decide (x.index=d.index) && clashM x d)=clashM x d:=by rw [decide_eq_false h];rfl
  refine pcalls_of Tryz.func120 rfl (by simp [Tryz.ntmps120]) ?_
  rw [Tryz.ntmps120,Tryz.results120]
  push_cast [O,U]
  repeat' ((first|refine plE [] hc ?_ ?_|refine pG ?_|refine pQ ?_|refine pU ?_|refine pif ?_ ?_<;>intro h<;>try exact pN h)<;>push_cast [O,U,h])
  (refine retK_of [0] ?_;push_cast [O,U,hn])
theorem clashes_pure (l:List Dev) (d:Dev) (hl:l.length≤1000000) (hz:∀ x ∈ l,x.original.size≤100000) (hd:d.original.size≤100000) :
  PCalls Tryz.prog 68 [.c (.sl 10 (l.map Dev.d)),.agg d.e] [] fun r os=>r = .c (.v (.bool (clashesM l d)))∧os=[]:=by
 have hc:=containsFuncD_pure l (by omega) 120 [0] (cshO d) (fun x=>!decide (x.index=d.index) && clashM x d) ⟨by kernel_rfl,fun x hx=>clashes1_pure d x (hz x hx) hd⟩
 refine pcalls_of Tryz.func68 rfl (by simp [Tryz.ntmps68]) ?_
 rw [Tryz.ntmps68,Tryz.results68]
 push_cast [O,U]
 have hcm:(l.any fun x=>!decide (x.index=d.index) && clashM x d)=clashesM l d:=rfl
 rw [hcm] at hc
 repeat' ((first|refine plE [0] hc ?_ ?_|refine pG ?_|refine pQ ?_|refine pU ?_|refine pif ?_ ?_<;>intro h<;>try exact pN h)<;>push_cast [O,U])
 (refine retK_of [] ?_;push_cast [O,U])
set_option maxRecDepth 20000
def PredB (P:Program) (g:FuncId) (ks:List Nat) (os:List Ob) (l:List Atr) (q:Atr → Bool):Prop:=bodyOk P g=true∧∀ x ∈ l,PCalls P g (.agg (x.d.map D.e) :: ks.map fun k=>.c (.ptr k 0)) os fun r os'=>r = .c (.v (.bool (q x)))∧os'=os
def idxB (q:Atr → Bool) (l:List Atr) (k:Int):Prop:=(k = -1∧∀ x ∈ l,q x=false)∨∃ i:Nat,k=i∧i < l.length∧q (l.getD i default)=true∧∀ x ∈ l.take i,q x=false
theorem allSomeB:∀ ks:List Nat,allSome (ks.map fun k=>some (PV.c (.ptr k 0))) (ks.map fun k=>PV.c (.ptr k 0))
 | []=>trivial
 | k :: ks=>⟨leP_refl _,allSomeB ks⟩
theorem indexFuncB_pure (l:List Atr) (hl:l.length≤1000000000) (g:FuncId) (ks:List Nat) (os:List Ob) (q:Atr → Bool) (hp:PredB Tryz.prog g ks os l q) :
  PCalls Tryz.prog 198 [.c (.sl 2 (l.map Atr.d)),.c (.fn (.func g) [] ks)] os fun r os'=>∃ k,idxB q l k∧r = .c (.v (.int .i64 k))∧os'=os:=by
 refine pcalls_of_all Tryz.func198 rfl (by simp [Tryz.ntmps198]) ?_
 rw [Tryz.ntmps198,Tryz.results198]
 push_cast [O,U]
 repeat' ((first|refine pG ?_|refine pQ ?_|refine pU ?_|refine pif ?_ ?_<;>intro h<;>try exact pN h)<;>push_cast [O,U])
 refine pwp_loop2 (α:=Nat) (fun k=>k≤l.length∧∀ x ∈ l.take k,q x=false) (fun k=>⟨[(8,.c (.v (.int .i64 k))),(7,.c (.v (.int .i64 l.length))),(6,.c (.sl 2 (l.map Atr.d))),(0,.c (.sl 2 (l.map Atr.d))),(1,.c (.fn (.func g) [] ks))],os⟩) (fun k=>l.length - k) 0 ⟨by omega,by simp⟩ (weak_slots (by push_cast [O,U]) rfl) ?_
 rintro k ⟨hk,hpre⟩
 by_cases hlt:k < l.length
 ·have hm:l.getD k default ∈ l:=by rw [getD_lt l hlt];exact List.getElem_mem _
  have hc:=hp.2 _ hm
  have hpre2:q (l.getD k default)=false → ∀ x ∈ l.take (k+1),q x=false:=fun h x hx=>by
   rw [List.take_succ_eq_append_getElem hlt] at hx
   rcases List.mem_append.1 hx with hx|hx
   ·exact hpre x hx
   ·simp at hx;subst hx;rw [← getD_lt l hlt];exact h
  cases hq:q (l.getD k default)
  all_goals rw [hq] at hc
  all_goals repeat' ((first|(refine pl_call_all rfl (by push_cast [O,U]) rfl hp.1 (by push_cast [O,U]) ?_ hc ?_;(focus (unfold callArgs;push_cast [O,U];exact allSomeB ks));rintro r os ⟨rfl,rfl⟩;refine pl_of_pops ?_)|refine pG ?_|refine pQ ?_|refine pU ?_|refine pif ?_ ?_<;>intro h<;>try exact pN h)<;>push_cast [O,U])
  ·exact ⟨k+1,⟨by omega,hpre2 hq⟩,weak_slots (by push_cast [O,U]) rfl,by omega⟩
  ·exact ⟨_,rfl,by push_cast [O,U],k,.inr ⟨k,rfl,hlt,hq,hpre⟩,rfl,rfl⟩
 ·rw [List.take_of_length_le (by omega)] at hpre
  repeat' ((first|refine pG ?_|refine pQ ?_|refine pU ?_|refine pif ?_ ?_<;>intro h<;>try exact pN h)<;>push_cast [O,U])
  exact ⟨_,rfl,by push_cast [O,U],-1,.inl ⟨rfl,hpre⟩,rfl,rfl⟩
theorem containsFuncB_pure (l:List Atr) (hl:l.length≤1000000000) (g:FuncId) (ks:List Nat) (os:List Ob) (q:Atr → Bool) (hp:PredB Tryz.prog g ks os l q) :
  PCalls Tryz.prog 156 [.c (.sl 2 (l.map Atr.d)),.c (.fn (.func g) [] ks)] os fun r os'=>r = .c (.v (.bool (l.any q)))∧os'=os:=by
 refine pcalls_of_all Tryz.func156 rfl (by simp [Tryz.ntmps156]) ?_
 rw [Tryz.ntmps156,Tryz.results156]
 push_cast [O,U]
 repeat' ((first|(refine pl_call_all rfl (by push_cast [O,U]) rfl (by kernel_rfl) (by push_cast [O,U]) ?_ (indexFuncB_pure l hl g ks os q hp) ?_;(focus (unfold callArgs;push_cast [O,U]));rintro r os ⟨k,hk,rfl,rfl⟩;refine pl_of_pops ?_)|refine pG ?_|refine pQ ?_|refine pU ?_|refine pif ?_ ?_<;>intro h<;>try exact pN h)<;>push_cast [O,U])
 refine ⟨_,rfl,by push_cast [O,U],?_,rfl⟩
 rcases hk with ⟨rfl,h⟩|⟨i,rfl,hi,hq,_⟩
 ·have:l.any q=false:=by rw [List.any_eq_false];intro x hx;simp [h x hx]
  rw [this];rfl
 ·have:l.any q=true:=List.any_eq_true.2 ⟨l.getD i default,by rw [getD_lt l hi];exact List.getElem_mem _,hq⟩
  rw [this];simp
end Go.Proofs.YtmbbkfffcflfcaaGreatDoor
