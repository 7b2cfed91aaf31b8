/- What the program computes, and the plain laws of it, part 25. -/
import Derived.WideKeyEntry
import Derived.Test.YtmbbkfffcflfcaaGreatDoorT24
namespace Go.Proofs.YtmbbkfffcflfcaaGreatDoor
open Go.Proofs.Tryz
set_option linter.unusedSimpArgs false
set_option linter.unusedVariables false
attribute [local irreducible] PL QL aL ah bg La aV PA
open Go.RowKit
open IntWalk renaming iteOmega → O, toNatUp → U
set_option maxRecDepth 20000
theorem mt (d:Dev) (hd:d.original.size≤1048576):ah prog 241 [.agg d.e] [] fun r os=>r = .two (.c (.v (.string (bq d)))) (.c (.v (.bool (hasN d))))∧os=[]:=by
 have hr:=tJ d.original ac;unfold bq hasN;refine aw func241 ntmps241 results241 ?_;by_cases h2:d.kind=2
 ·have h2':=eq_true h2;push_cast [O,U];repeat' ((first|(refine plE [] hr ?_ ?_;focus (push_cast [O,U,h2',ne_eq,not_true_eq_false,not_false_eq_true];done))|refine au ?_|refine pif ?_ ?_<;>intro h<;>try exact pN h)<;>push_cast [O,U,h2',ne_eq,not_true_eq_false,not_false_eq_true])
  (refine K9 [] ?_;push_cast [O,U]);all_goals simp [h2]
 ·by_cases h3:d.kind=3
  ·have h3':=eq_true h3;push_cast [O,U];repeat' ((first|(refine plE [] hr ?_ ?_;focus (push_cast [O,U,h2,h3',ne_eq,not_true_eq_false,not_false_eq_true];done))|refine au ?_|refine pif ?_ ?_<;>intro h<;>try exact pN h)<;>push_cast [O,U,h2,h3',ne_eq,not_true_eq_false,not_false_eq_true])
   (refine K9 [] ?_;push_cast [O,U]);all_goals simp [h3]
  ·push_cast [O,U];repeat' ((first|(refine plE [] hr ?_ ?_;focus (push_cast [O,U,h2,h3,ne_eq,not_true_eq_false,not_false_eq_true];done))|refine au ?_|refine pif ?_ ?_<;>intro h<;>try exact pN h)<;>push_cast [O,U,h2,h3,ne_eq,not_true_eq_false,not_false_eq_true])
   (refine K9 [] ?_;push_cast [O,U]);all_goals simp [h2,h3]
set_option maxHeartbeats 1000000 in
theorem u6 (l:List Atr) (hl:l.length≤9223372036854775807):ah prog 242 [.c (.sl 2 (l.map Atr.d))] [] fun r os=>r = .c (.v (.bool (iC l)))∧os=[]:=by
 refine aw func242 ntmps242 results242 ?_;push_cast [O,U];have cB:aH 4 []:=trivial;repeat' ((first|refine ae ?_|refine pif ?_ ?_<;>intro h<;>try exact pN h)<;>push_cast [O,U])
 (apply ap (α:=Nat) 4 [] (fun k=>[(3,.c (.v (.int .i64 ((k:Int)+1))))]) (fun k=>[]) (fun k=>(l.length=0∨k+1≤l.length)∧k≤l.length∧∀ j,j < k → bh (l.getD j default).name (l.getD (j+1) default).name=true) (fun k=>l.length - k) (0);(focus ((try push_cast [O,U]);rfl));(focus exact ⟨ac,ac,ac⟩);(focus ((refine weak_fg ?_;try push_cast [O,U]))));rintro k ⟨hk0,hk,ha⟩;push_cast [O,U];by_cases hlt:k+1 < l.length
 ·cases hv:bh (l.getD k default).name (l.getD (k+1) default).name
  ·have e:=wV hlt hv;repeat' ((first|refine ae ?_|refine pif ?_ ?_<;>intro h<;>try exact pN h)<;>push_cast [O,U,hv])
   (refine K9 [] ?_;push_cast [O,U]);all_goals rw [e]
  ·have e:=pz ha hv;repeat' ((first|refine ae ?_|refine pif ?_ ?_<;>intro h<;>try exact pN h)<;>push_cast [O,U,hv])
   exact ⟨k+1,⟨ac,ac,e⟩,aA,ac⟩
 ·have e:=wU (k:=k) ac ha;repeat' ((first|refine ae ?_|refine pif ?_ ?_<;>intro h<;>try exact pN h)<;>push_cast [O,U])
  (refine K9 [] ?_;push_cast [O,U]);all_goals rw [e]
theorem nD {d:Dev} (h:dI d=false):aS d=32:=by simp [aS,h]
theorem kW {d:Dev} (h:dI d=true) (h2:namedM d=false):aS d=30:=by simp [aS,h,h2]
theorem nE {d:Dev} (h:dI d=true) (h2:namedM d=true) (h3:kindM d=false):aS d=31:=by simp [aS,h,h2,h3]
theorem oD {d:Dev} (h:dI d=true) (h2:namedM d=true) (h3:kindM d=true) (h4:numberM d=false):aS d=32:=by simp [aS,h,h2,h3,h4]
theorem E7 {d:Dev} (h:dI d=true) (h2:namedM d=true) (h3:kindM d=true) (h4:numberM d=true) (h5:24 < d.attrs.length):aS d=34:=by simp [aS,h,h2,h3,h4,h5]
theorem xg {d:Dev} (h:dI d=true) (h2:namedM d=true) (h3:kindM d=true) (h4:numberM d=true) (h5:¬ 24 < d.attrs.length) (h6:attrsB d.attrs=false):aS d=33:=by simp [aS,h,h2,h3,h4,h5,h6]
theorem HJ {d:Dev} (h:dI d=true) (h2:namedM d=true) (h3:kindM d=true) (h4:numberM d=true) (h5:¬ 24 < d.attrs.length) (h6:attrsB d.attrs=true):aS d=if hasN d && !linkS (m9 d.original) then 30 else 0:=by simp [aS,h,h2,h3,h4,h5,h6]
set_option maxHeartbeats 8000000 in
theorem pE (d:Dev) (hk:d.ok):ah prog 218 [.agg d.e] [] fun r os=>r = .c (.v (.int .i64 (aS d)))∧os=[]:=by
 have v1:=de d.name hk.name;have v2:=de d.original hk.original;have v3:=de d.subsystem hk.subsystem;have v4:=de d.driver hk.driver;have v5:=ri d.alias_ hk.alias_;have f1:=pq d.name hk.name;have f2:=pq d.original hk.original;have nd:=mt d hk.orig;have ho:=hk.orig;have hnm:hasN d=true → bq d=m9 d.original:=fun h=>by unfold bq;rw [if_pos h]
 obtain ⟨b1,hb1⟩:∃ b,validS d.name=b:=⟨_,rfl⟩
 obtain ⟨b2,hb2⟩:∃ b,validS d.original=b:=⟨_,rfl⟩
 obtain ⟨b3,hb3⟩:∃ b,validS d.subsystem=b:=⟨_,rfl⟩
 obtain ⟨b4,hb4⟩:∃ b,validS d.driver=b:=⟨_,rfl⟩
 obtain ⟨b5,hb5⟩:∃ b,fJ d.alias_=b:=⟨_,rfl⟩
 obtain ⟨c1,hc1⟩:∃ b,gV d.name=b:=⟨_,rfl⟩
 obtain ⟨c2,hc2⟩:∃ b,gV d.original=b:=⟨_,rfl⟩
 obtain ⟨c7,hc7⟩:∃ b,hasN d=b:=⟨_,rfl⟩
 rw [hc7] at nd;rw [hb1] at v1;rw [hb2] at v2;rw [hb3] at v3;rw [hb4] at v4;rw [hb5] at v5;rw [hc1] at f1;rw [hc2] at f2;refine aw func218 ntmps218 results218 ?_;push_cast [O,U];have cB:aH 6 []:=trivial;by_cases i1:d.index < 1
 ·have e:=nD (d:=d) (by unfold dI;rw [decide_eq_false (p:=1≤d.index) ac];rfl);repeat' ((first|refine ae ?_|refine pif ?_ ?_<;>intro h<;>try exact pN h)<;>push_cast [O,U,i1])
  (refine K9 [] ?_;push_cast [O,U]);all_goals rw [e]
 by_cases i2:1073741824 < d.index
 ·have e:=nD (d:=d) (by unfold dI;rw [decide_eq_false (p:=d.index≤1073741824) ac,Bool.and_false];rfl);repeat' ((first|refine ae ?_|refine pif ?_ ?_<;>intro h<;>try exact pN h)<;>push_cast [O,U,i1,i2])
  (refine K9 [] ?_;push_cast [O,U]);all_goals rw [e]
 by_cases i3:d.parent < 0
 ·have e:=nD (d:=d) (by unfold dI;rw [decide_eq_false (p:=0≤d.parent) ac,Bool.false_and,Bool.and_false];rfl);repeat' ((first|refine ae ?_|refine pif ?_ ?_<;>intro h<;>try exact pN h)<;>push_cast [O,U,i1,i2,i3])
  (refine K9 [] ?_;push_cast [O,U]);all_goals rw [e]
 by_cases i4:1073741824 < d.parent
 ·have e:=nD (d:=d) (by unfold dI;rw [decide_eq_false (p:=d.parent≤1073741824) ac,Bool.and_false,Bool.and_false];rfl);repeat' ((first|refine ae ?_|refine pif ?_ ?_<;>intro h<;>try exact pN h)<;>push_cast [O,U,i1,i2,i3,i4])
  (refine K9 [] ?_;push_cast [O,U]);all_goals rw [e]
 by_cases i5:d.parent=d.index
 ·have e:=nD (d:=d) (by unfold dI;rw [decide_eq_true i5,Bool.not_true,Bool.and_false]);have i5':=eq_true i5;repeat' ((first|refine ae ?_|refine pif ?_ ?_<;>intro h<;>try exact pN h)<;>push_cast [O,U,i1,i2,i3,i4,i5'])
  (refine K9 [] ?_;push_cast [O,U]);all_goals rw [e]
 have n0:dI d=true:=by unfold dI;rw [decide_eq_true (p:=1≤d.index) ac,decide_eq_true (p:=d.index≤1073741824) ac,decide_eq_true (p:=0≤d.parent) ac,decide_eq_true (p:=d.parent≤1073741824) ac,decide_eq_false i5];rfl
 repeat' ((first|refine ae ?_|refine pif ?_ ?_<;>intro h<;>try exact pN h)<;>push_cast [O,U,i1,i2,i3,i4,i5])
 cases b1
 case false =>
  have e:=kW n0 (by unfold namedM;rw [hb1];rfl);repeat' ((first|refine aK [] v1 ?_|refine ae ?_|refine pif ?_ ?_<;>intro h<;>try exact pN h)<;>push_cast [O,U])
  (refine K9 [] ?_;push_cast [O,U]);all_goals rw [e]
 repeat' ((first|refine aK [] v1 ?_|refine ae ?_|refine pif ?_ ?_<;>intro h<;>try exact pN h)<;>push_cast [O,U])
 cases b2
 case false =>
  have e:=kW n0 (by unfold namedM;rw [hb1,hb2];rfl);repeat' ((first|refine aK [] v2 ?_|refine ae ?_|refine pif ?_ ?_<;>intro h<;>try exact pN h)<;>push_cast [O,U])
  (refine K9 [] ?_;push_cast [O,U]);all_goals rw [e]
 repeat' ((first|refine aK [] v2 ?_|refine ae ?_|refine pif ?_ ?_<;>intro h<;>try exact pN h)<;>push_cast [O,U])
 cases b3
 case false =>
  have e:=kW n0 (by unfold namedM;rw [hb1,hb2,hb3];rfl);repeat' ((first|refine aK [] v3 ?_|refine ae ?_|refine pif ?_ ?_<;>intro h<;>try exact pN h)<;>push_cast [O,U])
  (refine K9 [] ?_;push_cast [O,U]);all_goals rw [e]
 repeat' ((first|refine aK [] v3 ?_|refine ae ?_|refine pif ?_ ?_<;>intro h<;>try exact pN h)<;>push_cast [O,U])
 have key:∀ s1:Bool,(decide (d.driver=⟨#[]⟩) || validS d.driver)=s1 → namedM d=(s1 && fJ d.alias_):=fun s1 h=>by unfold namedM;rw [hb1,hb2,hb3,h];rfl
 by_cases e:d.driver=⟨#[]⟩
 case' pos =>
  have e':=eq_true e;have kk:=key true (by rw [decide_eq_true e];rfl);push_cast [O,U,e',ne_eq,not_true_eq_false]
 case' neg =>
  push_cast [O,U,e,ne_eq,not_false_eq_true];cases b4
  case false =>
   have e9:=kW n0 (by rw [key false (by rw [decide_eq_false e,hb4];rfl)];rfl);repeat' ((first|refine aK [] v4 ?_|refine ae ?_|refine pif ?_ ?_<;>intro h<;>try exact pN h)<;>push_cast [O,U])
   (refine K9 [] ?_;push_cast [O,U]);all_goals rw [e9]
  have kk:=key true (by rw [hb4,Bool.or_true]);repeat' ((first|refine aK [] v4 ?_|refine ae ?_|refine pif ?_ ?_<;>intro h<;>try exact pN h)<;>push_cast [O,U])
 all_goals
  cases b5
  case false =>
   have e9:=kW n0 (by rw [kk,hb5];rfl);repeat' ((first|refine aK [] v5 ?_|refine ae ?_|refine pif ?_ ?_<;>intro h<;>try exact pN h)<;>push_cast [O,U])
   (refine K9 [] ?_;push_cast [O,U]);all_goals rw [e9]
  have n1:namedM d=true:=by rw [kk,hb5];rfl
  repeat' ((first|refine aK [] v5 ?_|refine ae ?_|refine pif ?_ ?_<;>intro h<;>try exact pN h)<;>push_cast [O,U])
  by_cases k1:d.kind < 1
  case pos =>
   have e9:=nE n0 n1 (by unfold kindM;rw [if_neg ac,decide_eq_false (p:=1≤d.kind) ac];rfl);push_cast [O,U,k1];repeat' ((first|refine ae ?_|refine pif ?_ ?_<;>intro h<;>try exact pN h)<;>push_cast [O,U,k1])
   (refine K9 [] ?_;push_cast [O,U]);all_goals rw [e9]
  push_cast [O,U,k1];by_cases k2:4 < d.kind
  case pos =>
   have e9:=nE n0 n1 (by unfold kindM;rw [if_neg ac,decide_eq_false (p:=d.kind≤3) ac,Bool.and_false];rfl);repeat' ((first|refine ae ?_|refine pif ?_ ?_<;>intro h<;>try exact pN h)<;>push_cast [O,U,k1,k2])
   (refine K9 [] ?_;push_cast [O,U]);all_goals rw [e9]
  repeat' ((first|refine ae ?_|refine pif ?_ ?_<;>intro h<;>try exact pN h)<;>push_cast [O,U,k1,k2])
  by_cases k4:d.kind=4
  case' pos =>
   have k4':=eq_true k4;have kq:kindM d=(gV d.name && gV d.original):=by unfold kindM;rw [if_pos k4]
   push_cast [O,U,k4'];cases c1
   case false =>
    have e9:=nE n0 n1 (by rw [kq,hc1];rfl);repeat' ((first|(refine plE [] f1 ?_ ?_;focus (push_cast [O,U,k4'];done))|refine ae ?_|refine pif ?_ ?_<;>intro h<;>try exact pN h)<;>push_cast [O,U,k4'])
    (refine K9 [] ?_;push_cast [O,U]);all_goals rw [e9]
   repeat' ((first|(refine plE [] f1 ?_ ?_;focus (push_cast [O,U,k4'];done))|refine ae ?_|refine pif ?_ ?_<;>intro h<;>try exact pN h)<;>push_cast [O,U,k4'])
   cases c2
   case false =>
    have e9:=nE n0 n1 (by rw [kq,hc1,hc2];rfl);repeat' ((first|(refine plE [] f2 ?_ ?_;focus (push_cast [O,U,k4'];done))|refine ae ?_|refine pif ?_ ?_<;>intro h<;>try exact pN h)<;>push_cast [O,U,k4'])
    (refine K9 [] ?_;push_cast [O,U]);all_goals rw [e9]
   have n2:kindM d=true:=by rw [kq,hc1,hc2];rfl
   repeat' ((first|(refine plE [] f2 ?_ ?_;focus (push_cast [O,U,k4',ne_eq,not_true_eq_false];done))|refine ae ?_|refine pif ?_ ?_<;>intro h<;>try exact pN h)<;>push_cast [O,U,k4',ne_eq,not_true_eq_false])
  case' neg =>
   have kq:kindM d=decide (d.name=d.original):=by unfold kindM;rw [if_neg k4,decide_eq_true (p:=1≤d.kind) ac,decide_eq_true (p:=d.kind≤3) ac];rfl
   push_cast [O,U,k4,ne_eq,not_false_eq_true];by_cases ne:d.name=d.original
   case neg =>
    have e9:=nE n0 n1 (by rw [kq,decide_eq_false ne]);repeat' ((first|refine ae ?_|refine pif ?_ ?_<;>intro h<;>try exact pN h)<;>push_cast [O,U,k4,ne,ne_eq,not_false_eq_true])
    (refine K9 [] ?_;push_cast [O,U]);all_goals rw [e9]
   have n2:kindM d=true:=by rw [kq,decide_eq_true ne]
   have ne':=eq_true ne;repeat' ((first|refine ae ?_|refine pif ?_ ?_<;>intro h<;>try exact pN h)<;>push_cast [O,U,k4,ne',ne_eq,not_true_eq_false,not_false_eq_true])
  all_goals
   cases c7
   case' false =>
    have nq:numberM d=decide (d.number=0):=by unfold numberM;rw [hc7];rfl
    by_cases z:d.number=0
    case neg =>
     have e9:=oD n0 n1 n2 (by rw [nq,decide_eq_false z]);repeat' ((first|(refine plE [] nd ?_ ?_;focus (push_cast [O,U,z,ne_eq,not_false_eq_true];done))|refine ae ?_|refine pif ?_ ?_<;>intro h<;>try exact pN h)<;>push_cast [O,U,z,ne_eq,not_false_eq_true])
     (refine K9 [] ?_;push_cast [O,U]);all_goals rw [e9]
    have n3:numberM d=true:=by rw [nq,decide_eq_true z]
    have z':=eq_true z;by_cases h24:(24:Int) < (d.attrs.length:Int)
    case pos =>
     have e9:=E7 n0 n1 n2 n3 ac;repeat' ((first|(refine plE [] nd ?_ ?_;focus (push_cast [O,U,z',h24,ne_eq,not_true_eq_false];done))|refine ae ?_|refine pif ?_ ?_<;>intro h<;>try exact pN h)<;>push_cast [O,U,z',h24,ne_eq,not_true_eq_false])
     (refine K9 [] ?_;push_cast [O,U]);all_goals rw [e9]
    repeat' ((first|(refine plE [] nd ?_ ?_;focus (push_cast [O,U,z',h24,ne_eq,not_true_eq_false];done))|refine ae ?_|refine pif ?_ ?_<;>intro h<;>try exact pN h)<;>push_cast [O,U,z',h24,ne_eq,not_true_eq_false])
   case' true =>
    have nq:numberM d=(decide (1≤d.number) && decide (d.number≤1073741824)):=by unfold numberM;rw [hc7];rfl
    repeat' ((first|refine aK [] nd ?_|refine ae ?_|refine pif ?_ ?_<;>intro h<;>try exact pN h)<;>push_cast [O,U])
    by_cases z1:d.number < 1
    case pos =>
     have e9:=oD n0 n1 n2 (by rw [nq,decide_eq_false (p:=1≤d.number) ac];rfl);push_cast [O,U,z1];repeat' ((first|refine ae ?_|refine pif ?_ ?_<;>intro h<;>try exact pN h)<;>push_cast [O,U,z1])
     (refine K9 [] ?_;push_cast [O,U]);all_goals rw [e9]
    push_cast [O,U,z1];by_cases z2:1073741824 < d.number
    case pos =>
     have e9:=oD n0 n1 n2 (by rw [nq,decide_eq_false (p:=d.number≤1073741824) ac,Bool.and_false]);push_cast [O,U,z1,z2];repeat' ((first|refine ae ?_|refine pif ?_ ?_<;>intro h<;>try exact pN h)<;>push_cast [O,U,z1,z2])
     (refine K9 [] ?_;push_cast [O,U]);all_goals rw [e9]
    have n3:numberM d=true:=by rw [nq,decide_eq_true (p:=1≤d.number) ac,decide_eq_true (p:=d.number≤1073741824) ac];rfl
    push_cast [O,U,z1,z2];by_cases h24:(24:Int) < (d.attrs.length:Int)
    case pos =>
     have e9:=E7 n0 n1 n2 n3 ac;repeat' ((first|refine ae ?_|refine pif ?_ ?_<;>intro h<;>try exact pN h)<;>push_cast [O,U,z1,z2,h24])
     (refine K9 [] ?_;push_cast [O,U]);all_goals rw [e9]
    repeat' ((first|refine ae ?_|refine pif ?_ ?_<;>intro h<;>try exact pN h)<;>push_cast [O,U,z1,z2,h24])
   all_goals
    (apply ap (α:=Nat) 6 [] (fun k=>[(5,.c (.v (.int .i64 k)))]) (fun k=>[]) (fun k=>k≤d.attrs.length∧(d.attrs.take k).all iz=true) (fun k=>d.attrs.length - k) (0);(focus ((try push_cast [O,U]);rfl));(focus exact ⟨ac,rfl⟩);(focus ((refine weak_fg ?_;try push_cast [O,U]))));rintro k ⟨hk1,ha⟩;push_cast [O,U];by_cases hlt:k < d.attrs.length
    case pos =>
     have hm:d.attrs.getD k default ∈ d.attrs:=by rw [ai _ hlt];exact List.getElem_mem _
     have a1:=de (d.attrs.getD k default).name (hk.attrs _ hm).1;have a2:=ri (d.attrs.getD k default).value (hk.attrs _ hm).2;have hno:iz (d.attrs.getD k default)=false → aS d=33:=fun h=>xg n0 n1 n2 n3 ac (by unfold attrsB;rw [List.all_eq_false.2 ⟨_,hm,by rw [h];decide⟩,Bool.and_false])
     have hyes:iz (d.attrs.getD k default)=true → (d.attrs.take (k+1)).all iz=true:=fun h=>by
      rw [List.take_succ_eq_append_getElem hlt,List.all_append,ha,← ai _ hlt,List.all_cons,h];rfl
     unfold iz at hno hyes;obtain ⟨y1,hy1⟩:∃ b,validS (d.attrs.getD k default).name=b:=⟨_,rfl⟩
     obtain ⟨y2,hy2⟩:∃ b,fJ (d.attrs.getD k default).value=b:=⟨_,rfl⟩
     rw [hy1] at a1 hno hyes;rw [hy2] at a2 hno hyes;cases y1
     case false =>
      have e9:=hno rfl;repeat' ((first|refine aK [] a1 ?_|refine ae ?_|refine pif ?_ ?_<;>intro h<;>try exact pN h)<;>push_cast [O,U])
      (refine K9 [] ?_;push_cast [O,U]);all_goals rw [e9]
     cases y2
     case false =>
      have e9:=hno (by rw [Bool.and_false]);repeat' ((first|refine aK [] a1 ?_|refine aK [] a2 ?_|refine ae ?_|refine pif ?_ ?_<;>intro h<;>try exact pN h)<;>push_cast [O,U])
      (refine K9 [] ?_;push_cast [O,U]);all_goals rw [e9]
     by_cases ev:(d.attrs.getD k default).value=⟨#[]⟩
     case pos =>
      have e9:=hno (by rw [decide_eq_false (p:=(d.attrs.getD k default).value≠⟨#[]⟩) (fun h=>h ev)];rfl);have ev':=eq_true ev;repeat' ((first|(refine plE [] a1 ?_ ?_;focus (push_cast [O,U,ev'];done))|(refine plE [] a2 ?_ ?_;focus (push_cast [O,U,ev'];done))|refine ae ?_|refine pif ?_ ?_<;>intro h<;>try exact pN h)<;>push_cast [O,U,ev'])
      (refine K9 [] ?_;push_cast [O,U]);all_goals rw [e9]
     have e9:=hyes (by rw [decide_eq_true (p:=(d.attrs.getD k default).value≠⟨#[]⟩) ev];rfl);repeat' ((first|(refine plE [] a1 ?_ ?_;focus (push_cast [O,U,ev];done))|(refine plE [] a2 ?_ ?_;focus (push_cast [O,U,ev];done))|refine ae ?_|refine pif ?_ ?_<;>intro h<;>try exact pN h)<;>push_cast [O,U,ev])
     exact ⟨k+1,⟨ac,e9⟩,aA,ac⟩
    rw [List.take_of_length_le ac] at ha;have so:=u6 d.attrs ac;cases hso:iC d.attrs
    case false =>
     rw [hso] at so;have e9:=xg n0 n1 n2 n3 ac (by unfold attrsB;rw [hso];rfl);repeat' ((first|refine aK [] so ?_|refine ae ?_|refine pif ?_ ?_<;>intro h<;>try exact pN h)<;>push_cast [O,U])
     (refine K9 [] ?_;push_cast [O,U]);all_goals rw [e9]
    rw [hso] at so;have e8:=HJ n0 n1 n2 n3 ac (by unfold attrsB;rw [hso,ha];rfl);repeat' ((first|refine aK [] so ?_|refine ae ?_|refine pif ?_ ?_<;>intro h<;>try exact pN h)<;>push_cast [O,U])
   ·have e2:=hnm hc7;have lk:=yA (bq d) (by rw [e2,ov];omega);rw [e2] at lk;cases hlk:linkS (m9 d.original)
    case false =>
     rw [hlk] at lk;have e9:aS d=30:=by rw [e8,hc7,hlk];rfl
     repeat' ((first|(refine plE [] lk ?_ ?_;focus (push_cast [O,U,e2];done))|refine ae ?_|refine pif ?_ ?_<;>intro h<;>try exact pN h)<;>push_cast [O,U,e2])
     (refine K9 [] ?_;push_cast [O,U]);all_goals rw [e9]
    case true =>
     rw [hlk] at lk;have e9:aS d=0:=by rw [e8,hc7,hlk];rfl
     repeat' ((first|(refine plE [] lk ?_ ?_;focus (push_cast [O,U,e2];done))|refine ae ?_|refine pif ?_ ?_<;>intro h<;>try exact pN h)<;>push_cast [O,U,e2])
     (refine K9 [] ?_;push_cast [O,U]);all_goals rw [e9]
   ·have e9:aS d=0:=by rw [e8,hc7];rfl
    repeat' ((first|refine ae ?_|refine pif ?_ ?_<;>intro h<;>try exact pN h)<;>push_cast [O,U])
    (refine K9 [] ?_;push_cast [O,U]);all_goals rw [e9]
set_option maxRecDepth 20000
theorem oG {n:Nat} (h:n≤100000000):((⟨#[47]⟩:ByteArray).size:Int)+(n:Int)≤9223372036854775807:=by
 have:(⟨#[47]⟩:ByteArray).size=1:=rfl;omega
theorem yR {n:Nat} (h:n≤100000000):(n:Int)+((⟨#[47]⟩:ByteArray).size:Int)≤9223372036854775807:=by
 have:(⟨#[47]⟩:ByteArray).size=1:=rfl;omega
theorem rG {w:World} {I:Nat → Prop}:∀ (l:List ByteArray) (vs:List Value),ay (RD w I) (l.map aU).flatten vs → vs=l.map Value.string
 | [],vs,h=>by simpa [ay.nil_l] using h
 | a :: l,vs,h=>by
  simp only [List.map_cons,List.flatten_cons,aU,List.cons_append,List.nil_append] at h;obtain ⟨y,vs',rfl,h5,h6⟩:=ay.cons_l.1 h;rw [RD] at h5;rw [h5.1,rG l vs' h6];rfl
theorem yS (ps:List ByteArray) (h0:0 < ps.length) (hN:ps.length≤1000000) (hlen:(Lib.join (ps.map (·.data.toList)) [47]).length≤140737488355328) :
  ah prog 132 [.c (.sl 1 (ps.map aU)),.c (.v (.string (⟨#[47]⟩)))] [] fun r os=>r = .c (.v (.string ⟨(Lib.join (ps.map (·.data.toList)) [47]).toArray⟩))∧os=[]:=by
 unfold ah;intro Γ w xs hm hx;obtain ⟨y,m',rfl,h1,h2⟩:=ay.cons_l.1 hx;obtain ⟨z,m2,rfl,h3,h4⟩:=ay.cons_l.1 h2;rw [ay.nil_l] at h4;subst h4;obtain ⟨A,c,cs,rfl,hc,hr,_,ha⟩:=dB.1 h1;have hcs:=rG ps cs ha;subst hcs;rw [List.length_map] at hc hr;obtain ⟨b,o,rfl,_,hb,hcell⟩:=hr.2 h0;have hz:z = .string ⟨#[47]⟩:=h3.1;subst hz;have hl:(ps.map aU).length=ps.length:=List.length_map _;rw [hl];refine (strings_Join b o c ps ⟨#[47]⟩ w (fun j x hj=>hcell j _ (by rw [List.getElem?_map,hj];rfl)) hb ac hc hlen).mono ?_;rintro e w' ⟨rfl,hB⟩;have hE:=gq hB;exact ⟨_,[],Γ,_,rfl,⟨rfl,rfl⟩,⟨rfl,rfl⟩,Nat.le_refl _,hm.same (bS.of_ext hE),ep hE⟩
theorem yT:∀ ps:List (List UInt8),ps≠[] → 47 :: Lib.join ps [47]=gn ps
 | [],h=>absurd rfl h
 | p :: ps,_=>by
  rw [Lib.join_cons,jF];rfl
theorem oH {B:Nat}:∀ {ps:List (List UInt8)},(∀ p ∈ ps,p.length≤B) → (gn ps).length≤ps.length * (B+1)
 | [],_=>by simp [gn]
 | p :: ps,h=>by
  have h1:=oH fun q hq=>h q (List.mem_cons_of_mem _ hq)
  have h2:=h p List.mem_cons_self;rw [jF,List.length_cons,List.length_append,List.length_cons,Nat.add_mul];omega
theorem u7 {a b:ByteArray} (h:a.data.toList=b.data.toList):a=b:=by cases a;cases b;simp only at h;congr;exact Array.toList_inj.1 h
theorem yU (ps:List ByteArray) (h0:0 < ps.length) (hN:ps.length≤1000) (hz:∀ p ∈ ps,p.size≤1000) :
  ah prog 83 [.c (.sl 1 (ps.map aU))] [] fun r os=>r = .c (.v (.string (fC ps)))∧os=[]:=by
 have hL:(gn (ps.map (·.data.toList))).length≤ps.length * 1001:=by
  have:=oH (B:=1000) (ps:=ps.map (·.data.toList)) fun q hq=>by obtain ⟨x,hx,rfl⟩:=List.mem_map.1 hq;exact hz x hx
  rwa [List.length_map] at this
 have hne:ps.map (·.data.toList)≠[]:=fun h=>by rw [List.map_eq_nil_iff] at h;subst h;simp at h0
 have hjj:=yT _ hne;have hlen:(Lib.join (ps.map (·.data.toList)) [47]).length≤140737488355328:=by
  have:=congrArg List.length hjj;rw [List.length_cons] at this;omega
 have hc:=yS ps h0 ac hlen;obtain ⟨t,ht⟩:∃ t:ByteArray,(⟨(Lib.join (ps.map (·.data.toList)) [47]).toArray⟩:ByteArray)=t:=⟨_,rfl⟩
 have he:⟨#[47]⟩++t=fC ps:=by
  apply u7;rw [mh,← hjj,← ht];simp
 rw [ht] at hc;have htz:t.size≤1001000:=by
  rw [← ht];have:=congrArg List.length hjj;rw [List.length_cons] at this;show (Lib.join (ps.map (·.data.toList)) [47]).toArray.size≤_;rw [List.size_toArray];omega
 refine aw func83 ntmps83 results83 ?_;push_cast [O,U];have hf:=oG (n:=t.size) ac;repeat' ((first|(refine plE [] hc ?_ ?_;focus (push_cast [O,U,hf];done))|refine au ?_|refine pif ?_ ?_<;>intro h<;>try exact pN h)<;>push_cast [O,U,hf])
 (refine K9 [] ?_;push_cast [O,U,he])
theorem t7 {l:List Dev} {B:Nat} (hz:∀ d ∈ l,d.original.size≤B) (n:Int):∀ p ∈ bj l n,p.size≤B:=fun p hp=>by
 unfold bj at hp;rw [List.mem_reverse] at hp;obtain ⟨d,hd,rfl⟩:=List.mem_map.1 hp;exact hz d (iE _ _ d hd)
set_option maxHeartbeats 1000000 in
theorem pF (l:List Dev) (n:Int) (hl:l.length≤1000) (hz:∀ d ∈ l,d.original.size≤1000) :
  ah prog 48 [.agg (trE l),.c (.v (.int .i64 n))] [] fun r os=>r = .c (.v (.string (aZ l n)))∧os=[]:=by
 have hc:=jJ l n ac;have hol:=nt l n;have hos:=t7 hz n;unfold aZ;obtain ⟨ps,hps⟩:∃ ps,bj l n=ps:=⟨_,rfl⟩
 rw [hps] at hc hol hos ⊢;have htk:=List.take_of_length_le (l:=ps.map aU) (i:=ps.length) (by simp);refine aw func48 ntmps48 results48 ?_;push_cast [O,U];by_cases h0:0 < ps.length
 ·have hj:=yU ps h0 ac hos;have h0':(0:Int) < (ps.length:Int):=ac;repeat' ((first|refine plE [] hc ?_ ?_;focus (push_cast [O,U,h0',htk];done)|(refine aW true [] rfl rfl aj (hj) ?_ ?_ ?_;push_cast [O,U,h0',htk];(intro _ r os;rintro ⟨rfl,rfl⟩;push_cast [O,U,h0',htk]);rintro r os ⟨rfl,rfl⟩;refine an ?_)|refine au ?_|refine pif ?_ ?_<;>intro h<;>try exact pN h)<;>push_cast [O,U,h0',htk])
  exact am []
 ·have he:ps=[]:=List.eq_nil_of_length_eq_zero ac;subst he;repeat' ((first|refine aK [] hc ?_|refine au ?_|refine pif ?_ ?_<;>intro h<;>try exact pN h)<;>push_cast [O,U])
  (refine K9 [] ?_;push_cast [O,U]);all_goals rfl
theorem Jv {l:List Dev} {p:ByteArray} {k:Nat} (hk:k < l.length) (h0:∀ d ∈ l.take k,aZ l d.index≠p) (h:aZ l (l.getD k default).index=p):atD l p=some (l.getD k default):=by
 rw [ai l hk] at *;unfold atD;have e:l=l.take k++l[k] :: l.drop (k+1):=by rw [← List.drop_eq_getElem_cons hk,List.take_append_drop]
 conv=>lhs;arg 2;rw [e]
 rw [List.find?_append,List.find?_eq_none.2 (by simpa using h0),Option.none_or,List.find?_cons_of_pos (by simpa using h)]
theorem E8 {l:List Dev} {p:ByteArray} (h:∀ d ∈ l,aZ l d.index≠p):atD l p=none:=by
 unfold atD;rw [List.find?_eq_none];simpa using h
set_option maxHeartbeats 1000000 in
theorem E9 (l:List Dev) (p:ByteArray) (hl:l.length≤1000) (hz:∀ d ∈ l,d.original.size≤1000) :
  ah prog 149 [.agg (trE l),.c (.v (.string p))] [] fun r os=>r = .two (.agg ((atD l p).getD default).e) (.c (.v (.bool ((atD l p).isSome))))∧os=[]:=by
 refine aw func149 ntmps149 results149 ?_;push_cast [O,U];have cB:aH 7 []:=trivial;repeat' ((first|refine ae ?_|refine pif ?_ ?_<;>intro h<;>try exact pN h)<;>push_cast [O,U])
 (apply ap (α:=Nat) 7 [] (fun k=>[(6,.c (.v (.int .i64 k)))]) (fun k=>[]) (fun k=>k≤l.length∧∀ d ∈ l.take k,aZ l d.index≠p) (fun k=>l.length - k) (0);(focus ((try push_cast [O,U]);rfl));(focus exact ⟨ac,by simp⟩);(focus ((refine weak_fg ?_;try push_cast [O,U]))));rintro k ⟨hk,h0⟩;push_cast [O,U];by_cases hlt:k < l.length
 ·have hp:=pF l (l.getD k default).index hl hz;by_cases hn:aZ l (l.getD k default).index=p
  ·have hg:=Jv hlt h0 hn;have hn':=eq_true hn;repeat' ((first|(refine aQ false rfl rfl aj (hp) (fun r os h=>h.1) rfl ?_ ?_;push_cast [O,U,hn'];refine aD ?_;push_cast [O,U,hn'])|refine ae ?_|refine pif ?_ ?_<;>intro h<;>try exact pN h)<;>push_cast [O,U,hn'])
   (refine K9 [] ?_;push_cast [O,U]);all_goals rw [hg]
   all_goals exact ⟨⟨rfl,rfl,rfl,rfl,rfl,rfl,rfl,rfl,rfl,rfl⟩,rfl⟩
  ·repeat' ((first|(refine aQ false rfl rfl aj (hp) (fun r os h=>h.1) rfl ?_ ?_;push_cast [O,U,hn];refine aD ?_;push_cast [O,U,hn])|refine ae ?_|refine pif ?_ ?_<;>intro h<;>try exact pN h)<;>push_cast [O,U,hn])
   refine ⟨k+1,⟨ac,fun d hd=>?_⟩,aA,ac⟩;rw [List.take_succ_eq_append_getElem hlt,List.mem_append,List.mem_singleton] at hd;rcases hd with hd|hd
   ·exact h0 d hd
   ·rw [hd,← ai l hlt];exact hn
 ·rw [List.take_of_length_le ac] at h0;have hg:=E8 h0;repeat' ((first|refine ae ?_|refine pif ?_ ?_<;>intro h<;>try exact pN h)<;>push_cast [O,U])
  (refine K9 [] ?_;push_cast [O,U]);all_goals rw [hg]
  all_goals exact ⟨⟨rfl,rfl,rfl,rfl,rfl,rfl,rfl,rfl,rfl,rfl⟩,rfl⟩
theorem HK {c:List Dev} {n:Int}:decide (0≤mr c n)=c.any fun d=>decide (d.index=n):=by
 rcases dY n c with ⟨h1,h2⟩|⟨i,h1,h2,h3⟩
 ·rw [h1,decide_eq_false ac,eq_comm,List.any_eq_false];have:=dQ.1 h2;simpa using this
 ·rw [h1,decide_eq_true ac,eq_comm,List.any_eq_true];obtain ⟨h4,h5⟩:=eu h3;exact ⟨_,h4,by simpa using h5⟩
theorem u9 (a b:ByteArray) (ha:a.size≤1000000) (w:World) :
  Calls prog 244 #[.string a,.string b] w fun e w'=>e = .returned (.bool (eF a b))∧w'=w:=by
 have h:=strings_HasPrefix b (a++⟨#[47]⟩) w;unfold eF
 go_enter func244,ntmps244
 go_wp2_with (go_at_call 185;refine h.mono ?_;rintro e w' ⟨rfl,rfl⟩)
 go_ret
 exact ⟨rfl,rfl⟩
theorem lU (a b:ByteArray) (ha:a.size≤1000000):ah prog 244 [.c (.v (.string a)),.c (.v (.string b))] [] fun r os=>r = .c (.v (.bool (eF a b)))∧os=[] :=
 da [.string a,.string b] _ rfl fun w _=>(u9 a b ha w).mono fun e w' ⟨he,hw⟩=>by rw [he,hw];exact ⟨rfl,Below.refl _ _⟩
set_option maxRecDepth 20000
def ee (l:List Dev) (i:Nat):List (MK × List D):=(List.range i).map fun j=>(.i .i64 (l.getD j default).index,[.v (.int .i64 (j:Int))])
def jf (l:List Dev) (i:Nat):List (MK × List D):=(l.take i).map fun d=>(.i .i64 d.index,[.v (.string (aZ l d.index))])
theorem t8 (l:List Dev) (n:Int):∀ m:List Dev,eC (m.map fun d=>(.i .i64 d.index,[.v (.string (aZ l d.index))])) (.i .i64 n)=(aG m n).map fun _=>[D.v (.string (aZ l n))]
 | []=>rfl
 | d :: m=>by
  rw [List.map_cons,eC];unfold aG;by_cases h:d.index=n
  ·rw [List.find?_cons_of_pos (by simpa using h)];subst h;simp
  ·rw [List.find?_cons_of_neg (by simpa using h),if_neg (by simp [h])];exact t8 l n m
theorem nF:∀ (es:List (MK × List D)) (k:MK) (r:List D),eC es k=none → lZ es k r=es++[(k,r)]
 | [],k,r,_=>rfl
 | e :: es,k,r,h=>by
  obtain ⟨k',r'⟩:=e;rw [eC] at h;split at h
  ·cases h
  ·rename_i hk;rw [lZ,if_neg hk,nF es k r h];rfl
theorem yV (l:List Dev) (n:Int):∀ i,i≤l.length → (∀ j,j < i → (l.getD j default).index≠n) → eC (ee l i) (.i .i64 n)=none:=by
 intro i hi h;unfold ee;have key:∀ js:List Nat,(∀ j ∈ js,j < i) → eC (js.map fun j=>((MK.i .i64 (l.getD j default).index:MK),[D.v (.int .i64 (j:Int))])) (.i .i64 n)=none:=by
  intro js;induction js with
  | nil=>intro _;rfl
  | cons j js ih =>
   intro hj;rw [List.map_cons,eC,if_neg (fun e=>h j (hj j (by simp)) (by injection e))];exact ih fun x hx=>hj x (by simp [hx])
 exact key _ fun j hj=>List.mem_range.1 hj
theorem jK (l:List Dev) (i:Nat) (n:Int):eC (jf l i) (.i .i64 n)=(aG (l.take i) n).map fun _=>[D.v (.string (aZ l n))]:=t8 l n _
theorem Fa {l:List Dev} (h:Okp l) {i:Nat} (hi:i < l.length):(aG (l.take i) (l.getD i default).parent=none → aZ l (l.getD i default).parent=⟨#[]⟩):=fun hn=>by
 rcases h.par i hi with h0|⟨j,hj,hp⟩
 ·rw [ai l hi,h0];unfold aZ;rw [gG (iD h.pos ac)];rfl
 ·exfalso;have hm:l[j] ∈ l.take i:=by rw [List.mem_take_iff_getElem];exact ⟨j,ac,rfl⟩
  exact dQ.1 hn _ hm (by rw [ai l hi];exact hp)
theorem Fb {l:List Dev} (h:Okp l) {i:Nat} (hi:i < l.length):lkP false (.c (.v (.string ⟨#[]⟩))) false (eC (jf l i) (.i .i64 (l.getD i default).parent))=some (.c (.v (.string (aZ l (l.getD i default).parent)))):=by
 rw [jK];cases hf:aG (l.take i) (l.getD i default).parent with
 | none=>rw [Fa h hi hf];rfl
 | some d=>rfl
theorem yW {l:List Dev} (h:Okp l) {i:Nat} (hi:i < l.length):aZ l (l.getD i default).index=aZ l (l.getD i default).parent++⟨#[47]⟩++(l.getD i default).original:=by
 have hm:l.getD i default ∈ l:=by rw [ai l hi];exact List.getElem_mem _
 unfold aZ;rw [lC h hm,gZ]
theorem oI {l:List Dev} (h:Okp l) {i:Nat} (hi:i < l.length):∀ j,j < i → (l.getD j default).index≠(l.getD i default).index:=fun j hj e=>by
 have hp:=List.pairwise_iff_getElem.1 h.nodup j i (by simp;omega) (by simp;omega) hj;simp only [List.getElem_map] at hp;rw [ai l ac,ai l hi] at e;exact hp e
theorem BS {l:List Dev} (h:Okp l) {i:Nat} (hi:i < l.length):lZ (ee l i) (.i .i64 (l.getD i default).index) [.v (.int .i64 (i:Int))]=ee l (i+1):=by
 rw [nF _ _ _ (yV l _ i ac (oI h hi))];unfold ee;rw [List.range_succ,List.map_append];rfl
theorem Fe {l:List Dev} (h:Okp l) {i:Nat} (hi:i < l.length):lZ (jf l i) (.i .i64 (l.getD i default).index) [.v (.string (aZ l (l.getD i default).index))]=jf l (i+1):=by
 rw [nF]
 ·unfold jf;rw [List.take_succ_eq_append_getElem hi,List.map_append,← ai l hi];rfl
 ·rw [jK,dQ.2 fun d hd e=>?_]
  ·rfl
  ·obtain ⟨j,hj,rfl⟩:=List.mem_take_iff_getElem.1 hd;exact oI h hi j ac (by rw [ai l ac];exact e)
theorem jL {l:List Dev} (hl:l.length≤1000) (hz:∀ d ∈ l,d.original.size≤1000) (n:Int):(aZ l n).size≤1001000:=by
 have h1:=nt l n;have h2:=t7 hz n;have h3:=oH (B:=1000) (ps:=(bj l n).map (·.data.toList)) fun q hq=>by obtain ⟨x,hx,rfl⟩:=List.mem_map.1 hq;exact h2 x hx
 have h4:(aZ l n).size=(gn ((bj l n).map (·.data.toList))).length:=by unfold aZ;rw [← mh];rfl
 rw [h4];rw [List.length_map] at h3;have h5:(bj l n).length * 1001≤1000 * 1001:=Nat.mul_le_mul_right _ ac;omega
theorem Ax {n:Nat} (h:n≤100000000):(n:Int)+((⟨#[47]⟩:ByteArray).size:Int)≤9223372036854775807:=yR h
set_option maxHeartbeats 4000000 in
theorem oJ (l:List Dev) (h:Okp l) (hl:l.length≤1000) (hz:∀ d ∈ l,d.original.size≤1000) :
  ah prog 62 [.agg (trE l)] [] fun r os=>r = .agg [.sl 10 (l.map Dev.d),.mp 0,.mp 1]∧os=[.map (some .i64) false (ee l l.length),.map (some .i64) false (jf l l.length)]:=by
 refine aw func62 ntmps62 results62 ?_;push_cast [O,U];have cB:aH 7 [13,14,15]:=trivial;repeat' ((first|refine ae ?_|refine pif ?_ ?_<;>intro h<;>try exact pN h)<;>push_cast [O,U])
 (apply ap (α:=Nat) 7 [13,14,15] (fun i=>[(15,.c (.v (.int .i64 i)))]) (fun i=>[(2,.map (some .i64) false (ee l i)),(3,.map (some .i64) false (jf l i))]) (fun i=>i≤l.length) (fun i=>l.length - i) (0);(focus ((try push_cast [O,U]);rfl));(focus exact (Nat.zero_le _));(focus ((refine weak_fg ?_;try push_cast [O,U]);(try (exact ⟨rfl,rfl⟩)))));intro i hi;push_cast [O,U];by_cases hlt:i < l.length
 case neg =>
  have hi2:i=l.length:=ac;subst hi2;repeat' ((first|refine ae ?_|refine pif ?_ ?_<;>intro h<;>try exact pN h)<;>push_cast [O,U])
  exact am [2,3]
 refine bf fun K1 hK1=>?_
 refine bi ?_;push_cast [O,U];refine ej.use (by assumption) ?_;refine bf fun K2 hK2=>?_
 refine cg ?_;push_cast [O,U];refine ⟨fun _=>?_,fun h'=>absurd (show (i:Int) < (l.length:Int) by omega) (of_decide_eq_false h')⟩;refine cr ?_;push_cast [O,U];refine ej.use (by assumption) ?_;refine bf fun K3 hK3=>?_
 refine cf ?_;refine bf fun K4 hK4=>?_
 refine bi ?_;push_cast [O,U];refine ej.use (by assumption) ?_;refine av 7 [13,14,15] ?_;push_cast [O,U];refine bf fun K5 hK5=>?_
 refine iv ?_;have hlk:=Fb h hlt;have hps:=jL hl hz (l.getD i default).parent;have hoz:(l.getD i default).original.size≤1000:=hz _ (by rw [ai l hlt];exact List.getElem_mem _);refine fU (q:=.c (.ptr 4 2)) rfl (by push_cast [O,U]) (by push_cast [O,U]) ?_;push_cast [O,U];refine fU (q:=.c (.mp 3)) rfl (by push_cast [O,U]) (by push_cast [O,U]) ?_;push_cast [O,U];refine fU (q:=.c (.ptr 5 1)) rfl (by push_cast [O,U]) (by push_cast [O,U]) ?_;push_cast [O,U];refine fU (q:=.c (.v (.int .i64 (l.getD i default).parent))) rfl (by push_cast [O,U]) (by push_cast [O,U]) ?_;push_cast [O,U];refine fU (q:=.c (.v (.string (aZ l (l.getD i default).parent)))) rfl (by push_cast [O,U,hlk]) (by push_cast [O,U]) ?_;push_cast [O,U];refine uP rfl rfl rfl rfl (Ax ac) (by push_cast [O,U]) ?_;push_cast [O,U];refine fU (q:=.c (.ptr 5 3)) rfl (by push_cast [O,U]) (by push_cast [O,U]) ?_;push_cast [O,U];refine fU (q:=.c (.v (.string (l.getD i default).original))) rfl (by push_cast [O,U]) (by push_cast [O,U]) ?_;push_cast [O,U];refine uP rfl rfl rfl rfl ?_ (by push_cast [O,U]) ?_
 ·rw [ByteArray.size_append,show (⟨#[47]⟩:ByteArray).size=1 from rfl];omega
 push_cast [O,U];refine an ?_;push_cast [O,U];refine ej.use (by assumption) ?_;rw [← yW h hlt];have hpp:=BS h hlt;have hpo:=Fe h hlt;refine av 7 [13,14,15] ?_;push_cast [O,U];repeat' ((first|(refine av 7 [13,14,15] ?_;apply ak;(focus kernel_rfl);(focus (simp only [aP,Nat.reduceAdd];(repeat' first|((first|refine pah 0 ?_|refine pah 2 ?_|refine pah 4 ?_|refine pah 6 ?_|refine pah 8 ?_|refine pah 9 ?_);push_cast [O,U,hpp,hpo])|(refine pad ?_;first|with_reducible exact ao 7 [13,14,15] _|(refine weak_fg ?_;push_cast [O,U,hpp,hpo]))|((first|refine pas [1] ?_|refine pas [3] ?_|refine pas [5] ?_|refine pas [7] ?_|refine pas [10] ?_|refine pas [11] ?_);push_cast [O,U,hpp,hpo])|((first|refine pas [1,3] ?_|refine pas [1,5] ?_|refine pas [1,7] ?_|refine pas [3,5] ?_|refine pas [3,7] ?_|refine pas [5,7] ?_|refine pas [5,10] ?_|refine pas [7,10] ?_);push_cast [O,U,hpp,hpo];refine ⟨?_,?_⟩)|((first|refine pas [1,3,5] ?_|refine pas [1,3,7] ?_|refine pas [1,5,7] ?_|refine pas [3,5,7] ?_|refine pas [5,7,10] ?_);push_cast [O,U,hpp,hpo];refine ⟨?_,?_,?_⟩)|((first|refine pas [1,3,5,7] ?_);push_cast [O,U,hpp,hpo];refine ⟨?_,?_,?_,?_⟩));done));push_cast [O,U,hpp,hpo])|refine ae ?_|refine pif ?_ ?_<;>intro h<;>try exact pN h)<;>push_cast [O,U,hpp,hpo])
 exact ⟨i+1,ac,aA,ac⟩
end Go.Proofs.YtmbbkfffcflfcaaGreatDoor
