/- What the program computes, and the plain laws of it, part 27. -/
import Derived.Test.YtmbbkfffcflfcaaGreatDoorT25
namespace Go.Proofs.YtmbbkfffcflfcaaGreatDoor
open Go.Proofs.Tryz
set_option linter.unusedSimpArgs false
set_option linter.unusedVariables false
attribute [local irreducible] PL QL aL ah bg La aV PA
open Go.RowKit
open IntWalk renaming iteOmega → O, toNatUp → U
set_option maxRecDepth 20000
set_option maxHeartbeats 4000000 in
theorem pI (a b:Dev) (ha:a.original.size≤100000) (hb:b.original.size≤100000) :
  ah prog 220 [.agg a.e,.agg b.e] [] fun r os=>r = .c (.v (.bool (cx a b)))∧os=[]:=by
 have n1:=mt a ac;have n2:=mt b ac;have ns:∀ d:Dev,d.original.size≤100000 → (bq d).size≤1000000:=fun d hd=>by
  unfold bq;split
  ·rw [ov];omega
  ·decide
 have b1:=lU (bq a) (bq b) (ns a ha);have b2:=lU (bq b) (bq a) (ns b hb);unfold cx;obtain ⟨c1,h1⟩:∃ c,hasN a=c:=⟨_,rfl⟩
 obtain ⟨c2,h2⟩:∃ c,hasN b=c:=⟨_,rfl⟩
 obtain ⟨c3,h3⟩:∃ c,eF (bq a) (bq b)=c:=⟨_,rfl⟩
 obtain ⟨c4,h4⟩:∃ c,eF (bq b) (bq a)=c:=⟨_,rfl⟩
 rw [h1] at n1 ⊢;rw [h2] at n2 ⊢;rw [h3] at b1;rw [h4] at b2;refine aw func220 ntmps220 results220 ?_;push_cast [O,U];have cB:aH 9 []:=trivial;by_cases k1:a.kind=4
 case neg =>
  have e0:((decide (a.kind=4) && decide (b.kind=4)) && decide (a.name=b.name))=false:=by rw [decide_eq_false k1];rfl
  repeat' ((first|refine ae ?_|refine pif ?_ ?_<;>intro h<;>try exact pN h)<;>push_cast [O,U,k1])
  cases c1
  case false =>
   repeat' ((first|refine aK [] n1 ?_|refine aK [] n2 ?_|refine ae ?_|refine pif ?_ ?_<;>intro h<;>try exact pN h)<;>push_cast [O,U])
   (refine K9 [] ?_;push_cast [O,U]);all_goals simp [e0]
  cases c2
  case false =>
   repeat' ((first|refine aK [] n1 ?_|refine aK [] n2 ?_|refine ae ?_|refine pif ?_ ?_<;>intro h<;>try exact pN h)<;>push_cast [O,U])
   (refine K9 [] ?_;push_cast [O,U]);all_goals simp [e0]
  by_cases q1:a.kind=b.kind
  case pos =>
   have q1':=eq_true q1;by_cases q2:a.number=b.number
   case pos =>
    have q2':=eq_true q2;repeat' ((first|refine plE [] n1 ?_ ?_;focus (push_cast [O,U,q1',q2'];done)|refine plE [] n2 ?_ ?_;focus (push_cast [O,U,q1',q2'];done)|refine ae ?_|refine pif ?_ ?_<;>intro h<;>try exact pN h)<;>push_cast [O,U,q1',q2'])
    (refine K9 [] ?_;push_cast [O,U]);all_goals simp [q1,q2]
   by_cases q3:bq a=bq b
   case pos =>
    have q3':=eq_true q3;repeat' ((first|refine plE [] n1 ?_ ?_;focus (push_cast [O,U,q1',q2,q3'];done)|refine plE [] n2 ?_ ?_;focus (push_cast [O,U,q1',q2,q3'];done)|refine ae ?_|refine pif ?_ ?_<;>intro h<;>try exact pN h)<;>push_cast [O,U,q1',q2,q3'])
    (refine K9 [] ?_;push_cast [O,U]);all_goals simp [q3]
   cases c3
   case true =>
    repeat' ((first|refine plE [] n1 ?_ ?_;focus (push_cast [O,U,q1',q2,q3];done)|refine plE [] n2 ?_ ?_;focus (push_cast [O,U,q1',q2,q3];done)|refine plE [] b1 ?_ ?_;focus (push_cast [O,U,q1',q2,q3];done)|refine ae ?_|refine pif ?_ ?_<;>intro h<;>try exact pN h)<;>push_cast [O,U,q1',q2,q3])
    (refine K9 [] ?_;push_cast [O,U]);all_goals simp [h3]
   repeat' ((first|refine plE [] n1 ?_ ?_;focus (push_cast [O,U,q1',q2,q3];done)|refine plE [] n2 ?_ ?_;focus (push_cast [O,U,q1',q2,q3];done)|refine plE [] b1 ?_ ?_;focus (push_cast [O,U,q1',q2,q3];done)|refine plE [] b2 ?_ ?_;focus (push_cast [O,U,q1',q2,q3];done)|refine ae ?_|refine pif ?_ ?_<;>intro h<;>try exact pN h)<;>push_cast [O,U,q1',q2,q3])
   (refine K9 [] ?_;push_cast [O,U]);all_goals simp [e0,h3,h4,q2,q3]
  by_cases q3:bq a=bq b
  case pos =>
   have q3':=eq_true q3;repeat' ((first|refine plE [] n1 ?_ ?_;focus (push_cast [O,U,q1,q3'];done)|refine plE [] n2 ?_ ?_;focus (push_cast [O,U,q1,q3'];done)|refine ae ?_|refine pif ?_ ?_<;>intro h<;>try exact pN h)<;>push_cast [O,U,q1,q3'])
   (refine K9 [] ?_;push_cast [O,U]);all_goals simp [q3]
  cases c3
  case true =>
   repeat' ((first|refine plE [] n1 ?_ ?_;focus (push_cast [O,U,q1,q3];done)|refine plE [] n2 ?_ ?_;focus (push_cast [O,U,q1,q3];done)|refine plE [] b1 ?_ ?_;focus (push_cast [O,U,q1,q3];done)|refine ae ?_|refine pif ?_ ?_<;>intro h<;>try exact pN h)<;>push_cast [O,U,q1,q3])
   (refine K9 [] ?_;push_cast [O,U]);all_goals simp [h3]
  repeat' ((first|refine plE [] n1 ?_ ?_;focus (push_cast [O,U,q1,q3];done)|refine plE [] n2 ?_ ?_;focus (push_cast [O,U,q1,q3];done)|refine plE [] b1 ?_ ?_;focus (push_cast [O,U,q1,q3];done)|refine plE [] b2 ?_ ?_;focus (push_cast [O,U,q1,q3];done)|refine ae ?_|refine pif ?_ ?_<;>intro h<;>try exact pN h)<;>push_cast [O,U,q1,q3])
  (refine K9 [] ?_;push_cast [O,U]);all_goals simp [e0,h3,h4,q1,q3]
 have k1':=eq_true k1;by_cases k2:b.kind=4
 case neg =>
  have e0:((decide (a.kind=4) && decide (b.kind=4)) && decide (a.name=b.name))=false:=by rw [decide_eq_false k2,Bool.and_false];rfl
  repeat' ((first|refine ae ?_|refine pif ?_ ?_<;>intro h<;>try exact pN h)<;>push_cast [O,U,k1',k2])
  cases c1
  case false =>
   repeat' ((first|refine aK [] n1 ?_|refine aK [] n2 ?_|refine ae ?_|refine pif ?_ ?_<;>intro h<;>try exact pN h)<;>push_cast [O,U])
   (refine K9 [] ?_;push_cast [O,U]);all_goals simp [e0]
  cases c2
  case false =>
   repeat' ((first|refine aK [] n1 ?_|refine aK [] n2 ?_|refine ae ?_|refine pif ?_ ?_<;>intro h<;>try exact pN h)<;>push_cast [O,U])
   (refine K9 [] ?_;push_cast [O,U]);all_goals simp [e0]
  by_cases q1:a.kind=b.kind
  case pos =>
   have q1':=eq_true q1;by_cases q2:a.number=b.number
   case pos =>
    have q2':=eq_true q2;repeat' ((first|refine plE [] n1 ?_ ?_;focus (push_cast [O,U,q1',q2'];done)|refine plE [] n2 ?_ ?_;focus (push_cast [O,U,q1',q2'];done)|refine ae ?_|refine pif ?_ ?_<;>intro h<;>try exact pN h)<;>push_cast [O,U,q1',q2'])
    (refine K9 [] ?_;push_cast [O,U]);all_goals simp [q1,q2]
   by_cases q3:bq a=bq b
   case pos =>
    have q3':=eq_true q3;repeat' ((first|refine plE [] n1 ?_ ?_;focus (push_cast [O,U,q1',q2,q3'];done)|refine plE [] n2 ?_ ?_;focus (push_cast [O,U,q1',q2,q3'];done)|refine ae ?_|refine pif ?_ ?_<;>intro h<;>try exact pN h)<;>push_cast [O,U,q1',q2,q3'])
    (refine K9 [] ?_;push_cast [O,U]);all_goals simp [q3]
   cases c3
   case true =>
    repeat' ((first|refine plE [] n1 ?_ ?_;focus (push_cast [O,U,q1',q2,q3];done)|refine plE [] n2 ?_ ?_;focus (push_cast [O,U,q1',q2,q3];done)|refine plE [] b1 ?_ ?_;focus (push_cast [O,U,q1',q2,q3];done)|refine ae ?_|refine pif ?_ ?_<;>intro h<;>try exact pN h)<;>push_cast [O,U,q1',q2,q3])
    (refine K9 [] ?_;push_cast [O,U]);all_goals simp [h3]
   repeat' ((first|refine plE [] n1 ?_ ?_;focus (push_cast [O,U,q1',q2,q3];done)|refine plE [] n2 ?_ ?_;focus (push_cast [O,U,q1',q2,q3];done)|refine plE [] b1 ?_ ?_;focus (push_cast [O,U,q1',q2,q3];done)|refine plE [] b2 ?_ ?_;focus (push_cast [O,U,q1',q2,q3];done)|refine ae ?_|refine pif ?_ ?_<;>intro h<;>try exact pN h)<;>push_cast [O,U,q1',q2,q3])
   (refine K9 [] ?_;push_cast [O,U]);all_goals simp [e0,h3,h4,q2,q3]
  by_cases q3:bq a=bq b
  case pos =>
   have q3':=eq_true q3;repeat' ((first|refine plE [] n1 ?_ ?_;focus (push_cast [O,U,q1,q3'];done)|refine plE [] n2 ?_ ?_;focus (push_cast [O,U,q1,q3'];done)|refine ae ?_|refine pif ?_ ?_<;>intro h<;>try exact pN h)<;>push_cast [O,U,q1,q3'])
   (refine K9 [] ?_;push_cast [O,U]);all_goals simp [q3]
  cases c3
  case true =>
   repeat' ((first|refine plE [] n1 ?_ ?_;focus (push_cast [O,U,q1,q3];done)|refine plE [] n2 ?_ ?_;focus (push_cast [O,U,q1,q3];done)|refine plE [] b1 ?_ ?_;focus (push_cast [O,U,q1,q3];done)|refine ae ?_|refine pif ?_ ?_<;>intro h<;>try exact pN h)<;>push_cast [O,U,q1,q3])
   (refine K9 [] ?_;push_cast [O,U]);all_goals simp [h3]
  repeat' ((first|refine plE [] n1 ?_ ?_;focus (push_cast [O,U,q1,q3];done)|refine plE [] n2 ?_ ?_;focus (push_cast [O,U,q1,q3];done)|refine plE [] b1 ?_ ?_;focus (push_cast [O,U,q1,q3];done)|refine plE [] b2 ?_ ?_;focus (push_cast [O,U,q1,q3];done)|refine ae ?_|refine pif ?_ ?_<;>intro h<;>try exact pN h)<;>push_cast [O,U,q1,q3])
  (refine K9 [] ?_;push_cast [O,U]);all_goals simp [e0,h3,h4,q1,q3]
 have k2':=eq_true k2;by_cases k3:a.name=b.name
 case neg =>
  have e0:((decide (a.kind=4) && decide (b.kind=4)) && decide (a.name=b.name))=false:=by rw [decide_eq_false k3,Bool.and_false]
  repeat' ((first|refine ae ?_|refine pif ?_ ?_<;>intro h<;>try exact pN h)<;>push_cast [O,U,k1',k2',k3])
  cases c1
  case false =>
   repeat' ((first|refine aK [] n1 ?_|refine aK [] n2 ?_|refine ae ?_|refine pif ?_ ?_<;>intro h<;>try exact pN h)<;>push_cast [O,U])
   (refine K9 [] ?_;push_cast [O,U]);all_goals simp [e0]
  cases c2
  case false =>
   repeat' ((first|refine aK [] n1 ?_|refine aK [] n2 ?_|refine ae ?_|refine pif ?_ ?_<;>intro h<;>try exact pN h)<;>push_cast [O,U])
   (refine K9 [] ?_;push_cast [O,U]);all_goals simp [e0]
  by_cases q1:a.kind=b.kind
  case pos =>
   have q1':=eq_true q1;by_cases q2:a.number=b.number
   case pos =>
    have q2':=eq_true q2;repeat' ((first|refine plE [] n1 ?_ ?_;focus (push_cast [O,U,q1',q2'];done)|refine plE [] n2 ?_ ?_;focus (push_cast [O,U,q1',q2'];done)|refine ae ?_|refine pif ?_ ?_<;>intro h<;>try exact pN h)<;>push_cast [O,U,q1',q2'])
    (refine K9 [] ?_;push_cast [O,U]);all_goals simp [q1,q2]
   by_cases q3:bq a=bq b
   case pos =>
    have q3':=eq_true q3;repeat' ((first|refine plE [] n1 ?_ ?_;focus (push_cast [O,U,q1',q2,q3'];done)|refine plE [] n2 ?_ ?_;focus (push_cast [O,U,q1',q2,q3'];done)|refine ae ?_|refine pif ?_ ?_<;>intro h<;>try exact pN h)<;>push_cast [O,U,q1',q2,q3'])
    (refine K9 [] ?_;push_cast [O,U]);all_goals simp [q3]
   cases c3
   case true =>
    repeat' ((first|refine plE [] n1 ?_ ?_;focus (push_cast [O,U,q1',q2,q3];done)|refine plE [] n2 ?_ ?_;focus (push_cast [O,U,q1',q2,q3];done)|refine plE [] b1 ?_ ?_;focus (push_cast [O,U,q1',q2,q3];done)|refine ae ?_|refine pif ?_ ?_<;>intro h<;>try exact pN h)<;>push_cast [O,U,q1',q2,q3])
    (refine K9 [] ?_;push_cast [O,U]);all_goals simp [h3]
   repeat' ((first|refine plE [] n1 ?_ ?_;focus (push_cast [O,U,q1',q2,q3];done)|refine plE [] n2 ?_ ?_;focus (push_cast [O,U,q1',q2,q3];done)|refine plE [] b1 ?_ ?_;focus (push_cast [O,U,q1',q2,q3];done)|refine plE [] b2 ?_ ?_;focus (push_cast [O,U,q1',q2,q3];done)|refine ae ?_|refine pif ?_ ?_<;>intro h<;>try exact pN h)<;>push_cast [O,U,q1',q2,q3])
   (refine K9 [] ?_;push_cast [O,U]);all_goals simp [e0,h3,h4,q2,q3]
  by_cases q3:bq a=bq b
  case pos =>
   have q3':=eq_true q3;repeat' ((first|refine plE [] n1 ?_ ?_;focus (push_cast [O,U,q1,q3'];done)|refine plE [] n2 ?_ ?_;focus (push_cast [O,U,q1,q3'];done)|refine ae ?_|refine pif ?_ ?_<;>intro h<;>try exact pN h)<;>push_cast [O,U,q1,q3'])
   (refine K9 [] ?_;push_cast [O,U]);all_goals simp [q3]
  cases c3
  case true =>
   repeat' ((first|refine plE [] n1 ?_ ?_;focus (push_cast [O,U,q1,q3];done)|refine plE [] n2 ?_ ?_;focus (push_cast [O,U,q1,q3];done)|refine plE [] b1 ?_ ?_;focus (push_cast [O,U,q1,q3];done)|refine ae ?_|refine pif ?_ ?_<;>intro h<;>try exact pN h)<;>push_cast [O,U,q1,q3])
   (refine K9 [] ?_;push_cast [O,U]);all_goals simp [h3]
  repeat' ((first|refine plE [] n1 ?_ ?_;focus (push_cast [O,U,q1,q3];done)|refine plE [] n2 ?_ ?_;focus (push_cast [O,U,q1,q3];done)|refine plE [] b1 ?_ ?_;focus (push_cast [O,U,q1,q3];done)|refine plE [] b2 ?_ ?_;focus (push_cast [O,U,q1,q3];done)|refine ae ?_|refine pif ?_ ?_<;>intro h<;>try exact pN h)<;>push_cast [O,U,q1,q3])
  (refine K9 [] ?_;push_cast [O,U]);all_goals simp [e0,h3,h4,q1,q3]
 have k3':=eq_true k3;repeat' ((first|refine ae ?_|refine pif ?_ ?_<;>intro h<;>try exact pN h)<;>push_cast [O,U,k1',k2',k3'])
 (refine K9 [] ?_;push_cast [O,U]);all_goals simp [k1,k2,k3]
def rL (l:List Dev) (n:Int) (k:Nat):List Dev:=(l.take k).filter fun d=>!bO l d.index n
theorem Jx {l:List Dev} {n:Int} {k:Nat} (hk:k < l.length) (h:bO l (l.getD k default).index n=false):rL l n (k+1)=rL l n k++[l.getD k default]:=by
 rw [ai l hk] at *;unfold rL;rw [List.take_succ_eq_append_getElem hk,List.filter_append,List.filter_cons_of_pos (by simp [h])];rfl
theorem Jy {l:List Dev} {n:Int} {k:Nat} (hk:k < l.length) (h:bO l (l.getD k default).index n=true):rL l n (k+1)=rL l n k:=by
 rw [ai l hk] at h;unfold rL;rw [List.take_succ_eq_append_getElem hk,List.filter_append,List.filter_cons_of_neg (by simp [h]),List.filter_nil,List.append_nil]
theorem Fg (l:List Dev) (n:Int) (k:Nat):(rL l n k).length≤k:=Nat.le_trans (List.length_filter_le _ _) (List.length_take_le _ _)
set_option maxRecDepth 20000
theorem nJ:∀ {l m:List ByteArray} {k:Nat},k≤l.length → k≤m.length → l.take k=m.take k → cu l m=cu (l.drop k) (m.drop k)
 | l,m,0,_,_,_=>by simp
 | [],m,k+1,h,_,_=>by simp at h
 | a :: l,[],k+1,_,h,_=>by simp at h
 | a :: l,b :: m,k+1,h1,h2,h3=>by
  simp only [List.take_succ_cons,List.cons.injEq] at h3;obtain ⟨rfl,h3⟩:=h3;rw [cu,if_pos rfl];simp only [List.drop_succ_cons];exact nJ (by simpa using h1) (by simpa using h2) h3
theorem BV {l m:List ByteArray} {k:Nat} (h1:k < l.length) (h2:k < m.length) (h3:l.take k=m.take k):cu l m=if l.getD k default=m.getD k default then cu (l.drop (k+1)) (m.drop (k+1)) else iZ (l.getD k default) (m.getD k default):=by
 rw [nJ ac ac h3,List.drop_eq_getElem_cons h1,List.drop_eq_getElem_cons h2,cu,ai l h1,ai m h2]
set_option maxHeartbeats 1000000 in
theorem sH (l m:List ByteArray) (hl:l.length≤1000000000) (hm:m.length≤1000000000) :
  ah prog 219 [.c (.sl 1 (l.map aU)),.c (.sl 1 (m.map aU))] [] fun r os=>r = .c (.v (.int .i64 (cu l m)))∧os=[]:=by
 refine aw func219 ntmps219 results219 ?_;push_cast [O,U];have cB:aH 6 []:=trivial;repeat' ((first|refine ae ?_|refine pif ?_ ?_<;>intro h<;>try exact pN h)<;>push_cast [O,U])
 (apply ap (α:=Nat) 6 [] (fun k=>[(5,.c (.v (.int .i64 k)))]) (fun k=>[]) (fun k=>k≤l.length∧k≤m.length∧l.take k=m.take k) (fun k=>l.length - k) (0);(focus ((try push_cast [O,U]);rfl));(focus exact ⟨ac,ac,rfl⟩);(focus ((refine weak_fg ?_;try push_cast [O,U]))));rintro k ⟨hk,hk2,he⟩;push_cast [O,U];by_cases h1:k < l.length
 ·by_cases h2:k < m.length
  ·have hst:=BV h1 h2 he;by_cases e:l.getD k default=m.getD k default
   ·have e2:=eq_true e;repeat' ((first|refine ae ?_|refine pif ?_ ?_<;>intro h<;>try exact pN h)<;>push_cast [O,U,e2,ne_eq,not_true_eq_false])
    refine ⟨k+1,⟨ac,ac,?_⟩,aA,ac⟩;rw [List.take_succ_eq_append_getElem h1,List.take_succ_eq_append_getElem h2,he,← ai l h1,← ai m h2,e]
   ·rw [if_neg e] at hst;repeat' ((first|(refine aQ false rfl rfl aj (tI (l.getD k default) (m.getD k default)) (fun r os h=>h.1) rfl ?_ ?_;push_cast [O,U,e,ne_eq,not_false_eq_true];refine aD ?_;push_cast [O,U,e,ne_eq,not_false_eq_true])|refine ae ?_|refine pif ?_ ?_<;>intro h<;>try exact pN h)<;>push_cast [O,U,e,ne_eq,not_false_eq_true])
    (refine K9 [] ?_;push_cast [O,U]);rw [hst]
  ·have hke:k=m.length:=ac;have hcl:cu l m=1:=by
    have hz:m.drop k=[]:=List.drop_eq_nil_of_le ac;rw [nJ ac ac he,hz,List.drop_eq_getElem_cons h1];rfl
   repeat' ((first|refine ae ?_|refine pif ?_ ?_<;>intro h<;>try exact pN h)<;>push_cast [O,U])
   (refine K9 [] ?_;push_cast [O,U]);rw [hcl]
 ·have hke:k=l.length:=ac;by_cases h2:k < m.length
  ·have hcl:cu l m = -1:=by
    have hz:l.drop k=[]:=List.drop_eq_nil_of_le ac;rw [nJ ac ac he,hz,List.drop_eq_getElem_cons h2];rfl
   repeat' ((first|refine ae ?_|refine pif ?_ ?_<;>intro h<;>try exact pN h)<;>push_cast [O,U])
   (refine K9 [] ?_;push_cast [O,U]);rw [hcl]
  ·have hcl:cu l m=0:=by
    rw [nJ ac ac he,List.drop_eq_nil_of_le ac,List.drop_eq_nil_of_le ac];rfl
   repeat' ((first|refine ae ?_|refine pif ?_ ?_<;>intro h<;>try exact pN h)<;>push_cast [O,U])
   (refine K9 [] ?_;push_cast [O,U]);rw [hcl]
end Go.Proofs.YtmbbkfffcflfcaaGreatDoor
