/- What the program computes, and the plain laws of it, part 31. -/
import Derived.Lib.ItoaNum
import Derived.WideKeyEntry
import Derived.Test.YtmbbkfffcflfcaaGreatDoorT30
namespace Go.Proofs.YtmbbkfffcflfcaaGreatDoor
open Go.Proofs.Tryz
set_option linter.unusedSimpArgs false
set_option linter.unusedVariables false
attribute [local irreducible] PL QL aL ah bg La aV PA
open Go.RowKit
open IntWalk renaming iteOmega → O, toNatUp → U
set_option maxRecDepth 20000
theorem zc (a b:ByteArray) (ha:a.size≤100000000) (hb:b.size≤100000000) :
  ah prog 67 [.c (.v (.string a)),.c (.v (.string b))] [] fun r os=>r = .c (.v (.int .i64 (sJ a b)))∧os=[]:=by
 have hc:=sL a b ha hb;obtain ⟨e,he⟩:=H3 a b;rw [he] at hc;refine aw func67 ntmps67 results67 ?_;push_cast [O,U];repeat' ((first|refine aK [] hc ?_|refine au ?_|refine pif ?_ ?_<;>intro h<;>try exact pN h)<;>push_cast [O,U])
 exact am []
def vi (s:ByteArray):Nat:=match dP s with
 | some l=>l.length
 | none=>0
theorem zd (s:ByteArray) (hs:s.size≤100000000) :
  ah prog 66 [.c (.v (.string s))] [] fun r os=>r = .c (.v (.int .i64 (vi s)))∧os=[]:=by
 have hc:=kY s hs;unfold vi;cases hS:dP s with
 | none =>
  rw [hS] at hc;refine aw func66 ntmps66 results66 ?_;push_cast [O,U];repeat' ((first|refine aK [] hc ?_|refine au ?_|refine pif ?_ ?_<;>intro h<;>try exact pN h)<;>push_cast [O,U])
  exact am []
 | some l =>
  rw [hS] at hc;refine aw func66 ntmps66 results66 ?_;push_cast [O,U];repeat' ((first|refine aK [] hc ?_|refine au ?_|refine pif ?_ ?_<;>intro h<;>try exact pN h)<;>push_cast [O,U])
  exact am []
theorem sM (a b:ByteArray) (ha:a.size≤1000000) (w:World) :
  Calls prog 165 #[.string a,.string b] w fun e w'=>e = .returned (.bool (eF a b))∧w'=w:=by
 have h:=strings_HasPrefix b (a++⟨#[47]⟩) w;unfold eF
 go_enter func165,ntmps165
 go_wp2_with (go_at_call 185;refine h.mono ?_;rintro e w' ⟨rfl,rfl⟩)
 go_ret
 exact ⟨rfl,rfl⟩
theorem nK (a b:ByteArray) (ha:a.size≤1000000):ah prog 165 [.c (.v (.string a)),.c (.v (.string b))] [] fun r os=>r = .c (.v (.bool (eF a b)))∧os=[] :=
 da [.string a,.string b] _ rfl fun w _=>(sM a b ha w).mono fun e w' ⟨he,hw⟩=>by rw [he,hw];exact ⟨rfl,Below.refl _ _⟩
set_option maxHeartbeats 4000000 in
theorem ze (a b:Dev) (ha:a.original.size≤100000) (hb:b.original.size≤100000) :
  ah prog 121 [.agg a.e,.agg b.e] [] fun r os=>r = .c (.v (.bool (cx a b)))∧os=[]:=by
 have n1:=oN a ac;have n2:=oN b ac;have ns:∀ d:Dev,d.original.size≤100000 → (bq d).size≤1000000:=fun d hd=>by
  unfold bq;split
  ·rw [ov];omega
  ·decide
 have b1:=nK (bq a) (bq b) (ns a ha);have b2:=nK (bq b) (bq a) (ns b hb);unfold cx;obtain ⟨c1,h1⟩:∃ c,hasN a=c:=⟨_,rfl⟩
 obtain ⟨c2,h2⟩:∃ c,hasN b=c:=⟨_,rfl⟩
 obtain ⟨c3,h3⟩:∃ c,eF (bq a) (bq b)=c:=⟨_,rfl⟩
 obtain ⟨c4,h4⟩:∃ c,eF (bq b) (bq a)=c:=⟨_,rfl⟩
 rw [h1] at n1 ⊢;rw [h2] at n2 ⊢;rw [h3] at b1;rw [h4] at b2;refine aw func121 ntmps121 results121 ?_;push_cast [O,U];have cB:aH 9 []:=trivial;by_cases k1:a.kind=4
 case neg =>
  have e0:((decide (a.kind=4) && decide (b.kind=4)) && decide (a.name=b.name))=false:=by rw [decide_eq_false k1];rfl
  repeat' ((first|refine ae ?_|refine pif ?_ ?_<;>intro h<;>try exact pN h)<;>push_cast [O,U,k1])
  cases c1
  case false =>
   repeat' ((first|refine aK [] n1 ?_|refine aK [] n2 ?_|refine ae ?_|refine pif ?_ ?_<;>intro h<;>try exact pN h)<;>push_cast [O,U])
   (refine K9 [] ?_;push_cast [O,U]);all_goals simp [e0]
  cases c2
  case false =>
   repeat' ((first|refine aK [] n1 ?_|refine aK [] n2 ?_|refine ae ?_|refine pif ?_ ?_<;>intro h<;>try exact pN h)<;>push_cast [O,U])
   (refine K9 [] ?_;push_cast [O,U]);all_goals simp [e0]
  by_cases q1:a.kind=b.kind
  case pos =>
   have q1':=eq_true q1;by_cases q2:a.number=b.number
   case pos =>
    have q2':=eq_true q2;repeat' ((first|refine plE [] n1 ?_ ?_;focus (push_cast [O,U,q1',q2'];done)|refine plE [] n2 ?_ ?_;focus (push_cast [O,U,q1',q2'];done)|refine ae ?_|refine pif ?_ ?_<;>intro h<;>try exact pN h)<;>push_cast [O,U,q1',q2'])
    (refine K9 [] ?_;push_cast [O,U]);all_goals simp [q1,q2]
   by_cases q3:bq a=bq b
   case pos =>
    have q3':=eq_true q3;repeat' ((first|refine plE [] n1 ?_ ?_;focus (push_cast [O,U,q1',q2,q3'];done)|refine plE [] n2 ?_ ?_;focus (push_cast [O,U,q1',q2,q3'];done)|refine ae ?_|refine pif ?_ ?_<;>intro h<;>try exact pN h)<;>push_cast [O,U,q1',q2,q3'])
    (refine K9 [] ?_;push_cast [O,U]);all_goals simp [q3]
   cases c3
   case true =>
    repeat' ((first|refine plE [] n1 ?_ ?_;focus (push_cast [O,U,q1',q2,q3];done)|refine plE [] n2 ?_ ?_;focus (push_cast [O,U,q1',q2,q3];done)|refine plE [] b1 ?_ ?_;focus (push_cast [O,U,q1',q2,q3];done)|refine ae ?_|refine pif ?_ ?_<;>intro h<;>try exact pN h)<;>push_cast [O,U,q1',q2,q3])
    (refine K9 [] ?_;push_cast [O,U]);all_goals simp [h3]
   repeat' ((first|refine plE [] n1 ?_ ?_;focus (push_cast [O,U,q1',q2,q3];done)|refine plE [] n2 ?_ ?_;focus (push_cast [O,U,q1',q2,q3];done)|refine plE [] b1 ?_ ?_;focus (push_cast [O,U,q1',q2,q3];done)|refine plE [] b2 ?_ ?_;focus (push_cast [O,U,q1',q2,q3];done)|refine ae ?_|refine pif ?_ ?_<;>intro h<;>try exact pN h)<;>push_cast [O,U,q1',q2,q3])
   (refine K9 [] ?_;push_cast [O,U]);all_goals simp [e0,h3,h4,q2,q3]
  by_cases q3:bq a=bq b
  case pos =>
   have q3':=eq_true q3;repeat' ((first|refine plE [] n1 ?_ ?_;focus (push_cast [O,U,q1,q3'];done)|refine plE [] n2 ?_ ?_;focus (push_cast [O,U,q1,q3'];done)|refine ae ?_|refine pif ?_ ?_<;>intro h<;>try exact pN h)<;>push_cast [O,U,q1,q3'])
   (refine K9 [] ?_;push_cast [O,U]);all_goals simp [q3]
  cases c3
  case true =>
   repeat' ((first|refine plE [] n1 ?_ ?_;focus (push_cast [O,U,q1,q3];done)|refine plE [] n2 ?_ ?_;focus (push_cast [O,U,q1,q3];done)|refine plE [] b1 ?_ ?_;focus (push_cast [O,U,q1,q3];done)|refine ae ?_|refine pif ?_ ?_<;>intro h<;>try exact pN h)<;>push_cast [O,U,q1,q3])
   (refine K9 [] ?_;push_cast [O,U]);all_goals simp [h3]
  repeat' ((first|refine plE [] n1 ?_ ?_;focus (push_cast [O,U,q1,q3];done)|refine plE [] n2 ?_ ?_;focus (push_cast [O,U,q1,q3];done)|refine plE [] b1 ?_ ?_;focus (push_cast [O,U,q1,q3];done)|refine plE [] b2 ?_ ?_;focus (push_cast [O,U,q1,q3];done)|refine ae ?_|refine pif ?_ ?_<;>intro h<;>try exact pN h)<;>push_cast [O,U,q1,q3])
  (refine K9 [] ?_;push_cast [O,U]);all_goals simp [e0,h3,h4,q1,q3]
 have k1':=eq_true k1;by_cases k2:b.kind=4
 case neg =>
  have e0:((decide (a.kind=4) && decide (b.kind=4)) && decide (a.name=b.name))=false:=by rw [decide_eq_false k2,Bool.and_false];rfl
  repeat' ((first|refine ae ?_|refine pif ?_ ?_<;>intro h<;>try exact pN h)<;>push_cast [O,U,k1',k2])
  cases c1
  case false =>
   repeat' ((first|refine aK [] n1 ?_|refine aK [] n2 ?_|refine ae ?_|refine pif ?_ ?_<;>intro h<;>try exact pN h)<;>push_cast [O,U])
   (refine K9 [] ?_;push_cast [O,U]);all_goals simp [e0]
  cases c2
  case false =>
   repeat' ((first|refine aK [] n1 ?_|refine aK [] n2 ?_|refine ae ?_|refine pif ?_ ?_<;>intro h<;>try exact pN h)<;>push_cast [O,U])
   (refine K9 [] ?_;push_cast [O,U]);all_goals simp [e0]
  by_cases q1:a.kind=b.kind
  case pos =>
   have q1':=eq_true q1;by_cases q2:a.number=b.number
   case pos =>
    have q2':=eq_true q2;repeat' ((first|refine plE [] n1 ?_ ?_;focus (push_cast [O,U,q1',q2'];done)|refine plE [] n2 ?_ ?_;focus (push_cast [O,U,q1',q2'];done)|refine ae ?_|refine pif ?_ ?_<;>intro h<;>try exact pN h)<;>push_cast [O,U,q1',q2'])
    (refine K9 [] ?_;push_cast [O,U]);all_goals simp [q1,q2]
   by_cases q3:bq a=bq b
   case pos =>
    have q3':=eq_true q3;repeat' ((first|refine plE [] n1 ?_ ?_;focus (push_cast [O,U,q1',q2,q3'];done)|refine plE [] n2 ?_ ?_;focus (push_cast [O,U,q1',q2,q3'];done)|refine ae ?_|refine pif ?_ ?_<;>intro h<;>try exact pN h)<;>push_cast [O,U,q1',q2,q3'])
    (refine K9 [] ?_;push_cast [O,U]);all_goals simp [q3]
   cases c3
   case true =>
    repeat' ((first|refine plE [] n1 ?_ ?_;focus (push_cast [O,U,q1',q2,q3];done)|refine plE [] n2 ?_ ?_;focus (push_cast [O,U,q1',q2,q3];done)|refine plE [] b1 ?_ ?_;focus (push_cast [O,U,q1',q2,q3];done)|refine ae ?_|refine pif ?_ ?_<;>intro h<;>try exact pN h)<;>push_cast [O,U,q1',q2,q3])
    (refine K9 [] ?_;push_cast [O,U]);all_goals simp [h3]
   repeat' ((first|refine plE [] n1 ?_ ?_;focus (push_cast [O,U,q1',q2,q3];done)|refine plE [] n2 ?_ ?_;focus (push_cast [O,U,q1',q2,q3];done)|refine plE [] b1 ?_ ?_;focus (push_cast [O,U,q1',q2,q3];done)|refine plE [] b2 ?_ ?_;focus (push_cast [O,U,q1',q2,q3];done)|refine ae ?_|refine pif ?_ ?_<;>intro h<;>try exact pN h)<;>push_cast [O,U,q1',q2,q3])
   (refine K9 [] ?_;push_cast [O,U]);all_goals simp [e0,h3,h4,q2,q3]
  by_cases q3:bq a=bq b
  case pos =>
   have q3':=eq_true q3;repeat' ((first|refine plE [] n1 ?_ ?_;focus (push_cast [O,U,q1,q3'];done)|refine plE [] n2 ?_ ?_;focus (push_cast [O,U,q1,q3'];done)|refine ae ?_|refine pif ?_ ?_<;>intro h<;>try exact pN h)<;>push_cast [O,U,q1,q3'])
   (refine K9 [] ?_;push_cast [O,U]);all_goals simp [q3]
  cases c3
  case true =>
   repeat' ((first|refine plE [] n1 ?_ ?_;focus (push_cast [O,U,q1,q3];done)|refine plE [] n2 ?_ ?_;focus (push_cast [O,U,q1,q3];done)|refine plE [] b1 ?_ ?_;focus (push_cast [O,U,q1,q3];done)|refine ae ?_|refine pif ?_ ?_<;>intro h<;>try exact pN h)<;>push_cast [O,U,q1,q3])
   (refine K9 [] ?_;push_cast [O,U]);all_goals simp [h3]
  repeat' ((first|refine plE [] n1 ?_ ?_;focus (push_cast [O,U,q1,q3];done)|refine plE [] n2 ?_ ?_;focus (push_cast [O,U,q1,q3];done)|refine plE [] b1 ?_ ?_;focus (push_cast [O,U,q1,q3];done)|refine plE [] b2 ?_ ?_;focus (push_cast [O,U,q1,q3];done)|refine ae ?_|refine pif ?_ ?_<;>intro h<;>try exact pN h)<;>push_cast [O,U,q1,q3])
  (refine K9 [] ?_;push_cast [O,U]);all_goals simp [e0,h3,h4,q1,q3]
 have k2':=eq_true k2;by_cases k3:a.name=b.name
 case neg =>
  have e0:((decide (a.kind=4) && decide (b.kind=4)) && decide (a.name=b.name))=false:=by rw [decide_eq_false k3,Bool.and_false]
  repeat' ((first|refine ae ?_|refine pif ?_ ?_<;>intro h<;>try exact pN h)<;>push_cast [O,U,k1',k2',k3])
  cases c1
  case false =>
   repeat' ((first|refine aK [] n1 ?_|refine aK [] n2 ?_|refine ae ?_|refine pif ?_ ?_<;>intro h<;>try exact pN h)<;>push_cast [O,U])
   (refine K9 [] ?_;push_cast [O,U]);all_goals simp [e0]
  cases c2
  case false =>
   repeat' ((first|refine aK [] n1 ?_|refine aK [] n2 ?_|refine ae ?_|refine pif ?_ ?_<;>intro h<;>try exact pN h)<;>push_cast [O,U])
   (refine K9 [] ?_;push_cast [O,U]);all_goals simp [e0]
  by_cases q1:a.kind=b.kind
  case pos =>
   have q1':=eq_true q1;by_cases q2:a.number=b.number
   case pos =>
    have q2':=eq_true q2;repeat' ((first|refine plE [] n1 ?_ ?_;focus (push_cast [O,U,q1',q2'];done)|refine plE [] n2 ?_ ?_;focus (push_cast [O,U,q1',q2'];done)|refine ae ?_|refine pif ?_ ?_<;>intro h<;>try exact pN h)<;>push_cast [O,U,q1',q2'])
    (refine K9 [] ?_;push_cast [O,U]);all_goals simp [q1,q2]
   by_cases q3:bq a=bq b
   case pos =>
    have q3':=eq_true q3;repeat' ((first|refine plE [] n1 ?_ ?_;focus (push_cast [O,U,q1',q2,q3'];done)|refine plE [] n2 ?_ ?_;focus (push_cast [O,U,q1',q2,q3'];done)|refine ae ?_|refine pif ?_ ?_<;>intro h<;>try exact pN h)<;>push_cast [O,U,q1',q2,q3'])
    (refine K9 [] ?_;push_cast [O,U]);all_goals simp [q3]
   cases c3
   case true =>
    repeat' ((first|refine plE [] n1 ?_ ?_;focus (push_cast [O,U,q1',q2,q3];done)|refine plE [] n2 ?_ ?_;focus (push_cast [O,U,q1',q2,q3];done)|refine plE [] b1 ?_ ?_;focus (push_cast [O,U,q1',q2,q3];done)|refine ae ?_|refine pif ?_ ?_<;>intro h<;>try exact pN h)<;>push_cast [O,U,q1',q2,q3])
    (refine K9 [] ?_;push_cast [O,U]);all_goals simp [h3]
   repeat' ((first|refine plE [] n1 ?_ ?_;focus (push_cast [O,U,q1',q2,q3];done)|refine plE [] n2 ?_ ?_;focus (push_cast [O,U,q1',q2,q3];done)|refine plE [] b1 ?_ ?_;focus (push_cast [O,U,q1',q2,q3];done)|refine plE [] b2 ?_ ?_;focus (push_cast [O,U,q1',q2,q3];done)|refine ae ?_|refine pif ?_ ?_<;>intro h<;>try exact pN h)<;>push_cast [O,U,q1',q2,q3])
   (refine K9 [] ?_;push_cast [O,U]);all_goals simp [e0,h3,h4,q2,q3]
  by_cases q3:bq a=bq b
  case pos =>
   have q3':=eq_true q3;repeat' ((first|refine plE [] n1 ?_ ?_;focus (push_cast [O,U,q1,q3'];done)|refine plE [] n2 ?_ ?_;focus (push_cast [O,U,q1,q3'];done)|refine ae ?_|refine pif ?_ ?_<;>intro h<;>try exact pN h)<;>push_cast [O,U,q1,q3'])
   (refine K9 [] ?_;push_cast [O,U]);all_goals simp [q3]
  cases c3
  case true =>
   repeat' ((first|refine plE [] n1 ?_ ?_;focus (push_cast [O,U,q1,q3];done)|refine plE [] n2 ?_ ?_;focus (push_cast [O,U,q1,q3];done)|refine plE [] b1 ?_ ?_;focus (push_cast [O,U,q1,q3];done)|refine ae ?_|refine pif ?_ ?_<;>intro h<;>try exact pN h)<;>push_cast [O,U,q1,q3])
   (refine K9 [] ?_;push_cast [O,U]);all_goals simp [h3]
  repeat' ((first|refine plE [] n1 ?_ ?_;focus (push_cast [O,U,q1,q3];done)|refine plE [] n2 ?_ ?_;focus (push_cast [O,U,q1,q3];done)|refine plE [] b1 ?_ ?_;focus (push_cast [O,U,q1,q3];done)|refine plE [] b2 ?_ ?_;focus (push_cast [O,U,q1,q3];done)|refine ae ?_|refine pif ?_ ?_<;>intro h<;>try exact pN h)<;>push_cast [O,U,q1,q3])
  (refine K9 [] ?_;push_cast [O,U]);all_goals simp [e0,h3,h4,q1,q3]
 have k3':=eq_true k3;repeat' ((first|refine ae ?_|refine pif ?_ ?_<;>intro h<;>try exact pN h)<;>push_cast [O,U,k1',k2',k3'])
 (refine K9 [] ?_;push_cast [O,U]);all_goals simp [k1,k2,k3]
theorem my (l:List Dev) (hl:l.length≤1000000000) (g:FuncId) (ks:List Nat) (os:List Ob) (q:Dev → Bool) (hp:Az prog g ks os l q) :
  ah prog 119 [.c (.sl 10 (l.map Dev.d)),.c (.fn (.func g) [] ks)] os fun r os'=>r = .c (.v (.bool (l.any q)))∧os'=os:=by
 refine bA func119 rfl (by simp [ntmps119]) ?_;rw [ntmps119,results119];push_cast [O,U];repeat' ((first|(refine dc rfl (by push_cast [O,U]) rfl aj (by push_cast [O,U]) ?_ (dX l hl g ks os q hp) ?_;(focus (unfold bC;push_cast [O,U]));rintro r os ⟨k,hk,rfl,rfl⟩;refine an ?_)|refine au ?_|refine pif ?_ ?_<;>intro h<;>try exact pN h)<;>push_cast [O,U])
 refine ⟨_,rfl,by push_cast [O,U],?_,rfl⟩;rcases hk with ⟨rfl,h⟩|⟨i,rfl,hi,hq,_⟩
 ·have:l.any q=false:=by rw [Bool.eq_false_iff];intro hc;obtain ⟨x,hx,hx2⟩:=List.any_eq_true.1 hc;rw [h x hx] at hx2;cases hx2
  rw [this];rfl
 ·have:l.any q=true:=List.any_eq_true.2 ⟨_,by rw [ai l hi];exact List.getElem_mem _,hq⟩;rw [this];have:decide ((0:Int)≤(i:Int))=true:=decide_eq_true ac;simp
abbrev Cb (d:Dev):List Ob:=[.box 53 d.e]
theorem sN (d x:Dev) (hx:x.original.size≤100000) (hd:d.original.size≤100000):ah prog 120 [.agg x.e,.c (.ptr 0 0)] (Cb d) fun r os=>r = .c (.v (.bool (!decide (x.index=d.index) && cx x d)))∧os=Cb d:=by
 have hc:=ze x d hx hd;by_cases h:x.index=d.index
 ·have hn:(!decide (x.index=d.index) && cx x d)=false:=by rw [decide_eq_true h];rfl
  refine aw func120 ntmps120 results120 ?_;push_cast [O,U];have h':(d.index≠d.index)=False:=by simp
  repeat' ((first|refine au ?_|refine pif ?_ ?_<;>intro h<;>try exact pN h)<;>push_cast [O,U,h,h'])
  (refine K9 [0] ?_;push_cast [O,U,hn])
 ·have hn:(!decide (x.index=d.index) && cx x d)=cx x d:=by rw [decide_eq_false h];rfl
  refine aw func120 ntmps120 results120 ?_;push_cast [O,U];repeat' ((first|(refine plE [] hc ?_ ?_;focus (push_cast [O,U,h];done))|refine au ?_|refine pif ?_ ?_<;>intro h<;>try exact pN h)<;>push_cast [O,U,h])
  (refine K9 [0] ?_;push_cast [O,U,hn])
theorem nL (l:List Dev) (d:Dev) (hl:l.length≤1000000) (hz:∀ x ∈ l,x.original.size≤100000) (hd:d.original.size≤100000) :
  ah prog 68 [.c (.sl 10 (l.map Dev.d)),.agg d.e] [] fun r os=>r = .c (.v (.bool (ci l d)))∧os=[]:=by
 have hc:=my l ac 120 [0] (Cb d) (fun x=>!decide (x.index=d.index) && cx x d) ⟨aj,fun x hx=>sN d x (hz x hx) hd⟩;refine aw func68 ntmps68 results68 ?_;push_cast [O,U];have hcm:(l.any fun x=>!decide (x.index=d.index) && cx x d)=ci l d:=rfl;rw [hcm] at hc;repeat' ((first|refine aK [0] hc ?_|refine au ?_|refine pif ?_ ?_<;>intro h<;>try exact pN h)<;>push_cast [O,U])
 exact am []
set_option maxRecDepth 20000
def IB (P:Program) (g:FuncId) (ks:List Nat) (os:List Ob) (l:List Atr) (q:Atr → Bool):Prop:=dK P g=true∧∀ x ∈ l,ah P g (.agg (x.d.map D.e) :: ks.map fun k=>.c (.ptr k 0)) os fun r os'=>r = .c (.v (.bool (q x)))∧os'=os
def K7 (q:Atr → Bool) (l:List Atr) (k:Int):Prop:=(k = -1∧∀ x ∈ l,q x=false)∨∃ i:Nat,k=i∧i < l.length∧q (l.getD i default)=true∧∀ x ∈ l.take i,q x=false
theorem xp:∀ ks:List Nat,fS (ks.map fun k=>some (PV.c (.ptr k 0))) (ks.map fun k=>PV.c (.ptr k 0))
 | []=>trivial
 | k :: ks=>⟨aE _,xp ks⟩
theorem pW (l:List Atr) (hl:l.length≤1000000000) (g:FuncId) (ks:List Nat) (os:List Ob) (q:Atr → Bool) (hp:IB prog g ks os l q) :
  ah prog 198 [.c (.sl 2 (l.map Atr.d)),.c (.fn (.func g) [] ks)] os fun r os'=>∃ k,K7 q l k∧r = .c (.v (.int .i64 k))∧os'=os:=by
 refine bA func198 rfl (by simp [ntmps198]) ?_;rw [ntmps198,results198];push_cast [O,U];repeat' ((first|refine au ?_|refine pif ?_ ?_<;>intro h<;>try exact pN h)<;>push_cast [O,U])
 refine dh (α:=Nat) (fun k=>k≤l.length∧∀ x ∈ l.take k,q x=false) (fun k=>⟨[(8,.c (.v (.int .i64 k))),(7,.c (.v (.int .i64 l.length))),(6,.c (.sl 2 (l.map Atr.d))),(0,.c (.sl 2 (l.map Atr.d))),(1,.c (.fn (.func g) [] ks))],os⟩) (fun k=>l.length - k) 0 ⟨ac,by simp⟩ (cV (by push_cast [O,U]) rfl) ?_;rintro k ⟨hk,hpre⟩;by_cases hlt:k < l.length
 ·have hm:l.getD k default ∈ l:=by rw [ai l hlt];exact List.getElem_mem _
  have hc:=hp.2 _ hm;have hpre2:q (l.getD k default)=false → ∀ x ∈ l.take (k+1),q x=false:=fun h x hx=>by
   rw [List.take_succ_eq_append_getElem hlt] at hx;rcases List.mem_append.1 hx with hx|hx
   ·exact hpre x hx
   ·simp at hx;subst hx;rw [← ai l hlt];exact h
  cases hq:q (l.getD k default);all_goals rw [hq] at hc
  all_goals repeat' ((first|(refine dc rfl (by push_cast [O,U]) rfl hp.1 (by push_cast [O,U]) ?_ hc ?_;(focus (unfold bC;push_cast [O,U];exact xp ks));rintro r os ⟨rfl,rfl⟩;refine an ?_)|refine au ?_|refine pif ?_ ?_<;>intro h<;>try exact pN h)<;>push_cast [O,U])
  ·exact ⟨k+1,⟨ac,hpre2 hq⟩,cV (by push_cast [O,U]) rfl,ac⟩
  ·exact ⟨_,rfl,by push_cast [O,U],k,.inr ⟨k,rfl,hlt,hq,hpre⟩,rfl,rfl⟩
 ·rw [List.take_of_length_le ac] at hpre;repeat' ((first|refine au ?_|refine pif ?_ ?_<;>intro h<;>try exact pN h)<;>push_cast [O,U])
  exact ⟨_,rfl,by push_cast [O,U],-1,.inl ⟨rfl,hpre⟩,rfl,rfl⟩
theorem mA (l:List Atr) (hl:l.length≤1000000000) (g:FuncId) (ks:List Nat) (os:List Ob) (q:Atr → Bool) (hp:IB prog g ks os l q) :
  ah prog 156 [.c (.sl 2 (l.map Atr.d)),.c (.fn (.func g) [] ks)] os fun r os'=>r = .c (.v (.bool (l.any q)))∧os'=os:=by
 refine bA func156 rfl (by simp [ntmps156]) ?_;rw [ntmps156,results156];push_cast [O,U];repeat' ((first|(refine dc rfl (by push_cast [O,U]) rfl aj (by push_cast [O,U]) ?_ (pW l hl g ks os q hp) ?_;(focus (unfold bC;push_cast [O,U]));rintro r os ⟨k,hk,rfl,rfl⟩;refine an ?_)|refine au ?_|refine pif ?_ ?_<;>intro h<;>try exact pN h)<;>push_cast [O,U])
 refine ⟨_,rfl,by push_cast [O,U],?_,rfl⟩;rcases hk with ⟨rfl,h⟩|⟨i,rfl,hi,hq,_⟩
 ·have:l.any q=false:=by rw [List.any_eq_false];intro x hx;simp [h x hx]
  rw [this];rfl
 ·have:l.any q=true:=List.any_eq_true.2 ⟨l.getD i default,by rw [ai l hi];exact List.getElem_mem _,hq⟩;rw [this];simp
end Go.Proofs.YtmbbkfffcflfcaaGreatDoor
