/- What the program computes, and the plain laws of it, part 35. -/
import Derived.Test.YtmjffgienmcabaaGreatDoorS34
namespace Go.Proofs.YtmjffgienmcabaaGreatDoor
attribute [local irreducible] PL QL PWPr PCalls Weak RetK Kontr PA
open Go.RowKit
open IntWalk renaming iteOmega → iO, toNatUp → tN
set_option linter.unusedVariables false
set_option linter.unusedSimpArgs false
set_option maxRecDepth 20000
theorem rnode_pure (d:Dev) (hd:d.original.size≤1048576):PCalls Tryz.prog 74 [.agg d.e] [] fun r os=>r = .two (.c (.v (.string (nodeM d)))) (.c (.v (.bool (hasN d))))∧os=[]:=by
 have hr:=repl_pure d.original (by omega)
 unfold nodeM hasN
 refine pcalls_of Tryz.func74 rfl (by simp [Tryz.ntmps74]) ?_
 rw [Tryz.ntmps74,Tryz.results74]
 by_cases h2:d.kind=2
 ·have h2':=eq_true h2
  push_cast [iO,tN]
  repeat' (first|(refine plc [] (hr) ?_ ?_;push_cast [iO,tN,h2',ne_eq,not_true_eq_false,not_false_eq_true];rintro r os ⟨rfl,rfl⟩;push_cast [iO,tN,h2',ne_eq,not_true_eq_false,not_false_eq_true])|((first|refine pG ?_|refine pQ ?_|refine pU ?_);push_cast [iO,tN,h2',ne_eq,not_true_eq_false,not_false_eq_true])|(refine pif (fun h=>?_) (fun h=>?_)<;>first|exact pN h|push_cast [iO,tN,h2',ne_eq,not_true_eq_false,not_false_eq_true]))
  (refine retK_of [] ?_;push_cast [iO,tN])
  all_goals simp [h2]
 ·by_cases h3:d.kind=3
  ·have h3':=eq_true h3
   push_cast [iO,tN]
   repeat' (first|(refine plc [] (hr) ?_ ?_;push_cast [iO,tN,h2,h3',ne_eq,not_true_eq_false,not_false_eq_true];rintro r os ⟨rfl,rfl⟩;push_cast [iO,tN,h2,h3',ne_eq,not_true_eq_false,not_false_eq_true])|((first|refine pG ?_|refine pQ ?_|refine pU ?_);push_cast [iO,tN,h2,h3',ne_eq,not_true_eq_false,not_false_eq_true])|(refine pif (fun h=>?_) (fun h=>?_)<;>first|exact pN h|push_cast [iO,tN,h2,h3',ne_eq,not_true_eq_false,not_false_eq_true]))
   (refine retK_of [] ?_;push_cast [iO,tN])
   all_goals simp [h3]
  ·push_cast [iO,tN]
   repeat' (first|(refine plc [] (hr) ?_ ?_;push_cast [iO,tN,h2,h3,ne_eq,not_true_eq_false,not_false_eq_true];rintro r os ⟨rfl,rfl⟩;push_cast [iO,tN,h2,h3,ne_eq,not_true_eq_false,not_false_eq_true])|((first|refine pG ?_|refine pQ ?_|refine pU ?_);push_cast [iO,tN,h2,h3,ne_eq,not_true_eq_false,not_false_eq_true])|(refine pif (fun h=>?_) (fun h=>?_)<;>first|exact pN h|push_cast [iO,tN,h2,h3,ne_eq,not_true_eq_false,not_false_eq_true]))
   (refine retK_of [] ?_;push_cast [iO,tN])
   all_goals simp [h2,h3]
set_option maxHeartbeats 1000000 in
theorem rsorted_pure (l:List Atr) (hl:l.length≤9223372036854775807):PCalls Tryz.prog 75 [.c (.sl 2 (l.map Atr.d))] [] fun r os=>r = .c (.v (.bool (sortedM l)))∧os=[]:=by
 refine pcalls_of Tryz.func75 rfl (by simp [Tryz.ntmps75]) ?_
 rw [Tryz.ntmps75,Tryz.results75]
 push_cast [iO,tN]
 have cB:CutB 4 []:=trivial
 repeat' (first|((first|refine pC ?_|refine pQC ?_|refine pU ?_);push_cast [iO,tN])|(refine pif (fun h=>?_) (fun h=>?_)<;>first|exact pN h|push_cast [iO,tN]))
 (apply pwp_loop3 (α:=Nat) 4 [] (fun k=>[(3,.c (.v (.int .i64 ((k:Int)+1))))]) (fun k=>[]) (fun k=>(l.length=0∨k+1≤l.length)∧k≤l.length∧∀ j,j < k → bless (l.getD j default).name (l.getD (j+1) default).name=true) (fun k=>l.length - k) (0);(focus ((try push_cast [iO,tN]);rfl));(focus exact ⟨by omega,by omega,by omega⟩);(focus ((refine weak_fg ?_;try push_cast [iO,tN]))))
 rintro k ⟨hk0,hk,ha⟩
 push_cast [iO,tN]
 by_cases hlt:k+1 < l.length
 ·cases hv:bless (l.getD k default).name (l.getD (k+1) default).name
  ·have e:=sorted_f hlt hv
   repeat' (first|((first|refine pC ?_|refine pQC ?_|refine pU ?_);push_cast [iO,tN,hv])|(refine pif (fun h=>?_) (fun h=>?_)<;>first|exact pN h|push_cast [iO,tN,hv]))
   (refine retK_of [] ?_;push_cast [iO,tN])
   all_goals rw [e]
  ·have e:=sorted_next ha hv
   repeat' (first|((first|refine pC ?_|refine pQC ?_|refine pU ?_);push_cast [iO,tN,hv])|(refine pif (fun h=>?_) (fun h=>?_)<;>first|exact pN h|push_cast [iO,tN,hv]))
   exact ⟨k+1,⟨by omega,by omega,e⟩,by (refine weak_fg ?_;push_cast [iO,tN]),by omega⟩
 ·have e:=sorted_t (k:=k) (by omega) ha
  repeat' (first|((first|refine pC ?_|refine pQC ?_|refine pU ?_);push_cast [iO,tN])|(refine pif (fun h=>?_) (fun h=>?_)<;>first|exact pN h|push_cast [iO,tN]))
  (refine retK_of [] ?_;push_cast [iO,tN])
  all_goals rw [e]
theorem ck_nums {d:Dev} (h:numsM d=false):checkM d=32:=by simp [checkM,h]
theorem ck_named {d:Dev} (h:numsM d=true) (h2:namedM d=false):checkM d=30:=by simp [checkM,h,h2]
theorem ck_kind {d:Dev} (h:numsM d=true) (h2:namedM d=true) (h3:kindM d=false):checkM d=31:=by simp [checkM,h,h2,h3]
theorem ck_number {d:Dev} (h:numsM d=true) (h2:namedM d=true) (h3:kindM d=true) (h4:numberM d=false):checkM d=32:=by simp [checkM,h,h2,h3,h4]
theorem ck_len {d:Dev} (h:numsM d=true) (h2:namedM d=true) (h3:kindM d=true) (h4:numberM d=true) (h5:24 < d.attrs.length):checkM d=34:=by simp [checkM,h,h2,h3,h4,h5]
theorem ck_attrs {d:Dev} (h:numsM d=true) (h2:namedM d=true) (h3:kindM d=true) (h4:numberM d=true) (h5:¬ 24 < d.attrs.length) (h6:attrsB d.attrs=false):checkM d=33:=by simp [checkM,h,h2,h3,h4,h5,h6]
theorem ck_link {d:Dev} (h:numsM d=true) (h2:namedM d=true) (h3:kindM d=true) (h4:numberM d=true) (h5:¬ 24 < d.attrs.length) (h6:attrsB d.attrs=true):checkM d=if hasN d && !linkS (nodeS d.original) then 30 else 0:=by simp [checkM,h,h2,h3,h4,h5,h6]
set_option maxHeartbeats 8000000 in
theorem rcheck_pure (d:Dev) (hk:d.ok):PCalls Tryz.prog 38 [.agg d.e] [] fun r os=>r = .c (.v (.int .i64 (checkM d)))∧os=[]:=by
 have v1:=rvalid_pure d.name hk.name
 have v2:=rvalid_pure d.original hk.original
 have v3:=rvalid_pure d.subsystem hk.subsystem
 have v4:=rvalid_pure d.driver hk.driver
 have v5:=rtext_pure d.alias_ hk.alias_
 have f1:=riface_pure d.name hk.name
 have f2:=riface_pure d.original hk.original
 have nd:=rnode_pure d hk.orig
 have ho:=hk.orig
 have hnm:hasN d=true → nodeM d=nodeS d.original:=fun h=>by unfold nodeM;rw [if_pos h]
 obtain ⟨b1,hb1⟩:∃ b,validS d.name=b:=⟨_,rfl⟩
 obtain ⟨b2,hb2⟩:∃ b,validS d.original=b:=⟨_,rfl⟩
 obtain ⟨b3,hb3⟩:∃ b,validS d.subsystem=b:=⟨_,rfl⟩
 obtain ⟨b4,hb4⟩:∃ b,validS d.driver=b:=⟨_,rfl⟩
 obtain ⟨b5,hb5⟩:∃ b,textS d.alias_=b:=⟨_,rfl⟩
 obtain ⟨c1,hc1⟩:∃ b,ifaceS d.name=b:=⟨_,rfl⟩
 obtain ⟨c2,hc2⟩:∃ b,ifaceS d.original=b:=⟨_,rfl⟩
 obtain ⟨c7,hc7⟩:∃ b,hasN d=b:=⟨_,rfl⟩
 rw [hc7] at nd
 rw [hb1] at v1
 rw [hb2] at v2
 rw [hb3] at v3
 rw [hb4] at v4
 rw [hb5] at v5
 rw [hc1] at f1
 rw [hc2] at f2
 refine pcalls_of Tryz.func38 rfl (by simp [Tryz.ntmps38]) ?_
 rw [Tryz.ntmps38,Tryz.results38]
 push_cast [iO,tN]
 have cB:CutB 6 []:=trivial
 by_cases i1:d.index < 1
 ·have e:=ck_nums (d:=d) (by unfold numsM;rw [decide_eq_false (p:=1≤d.index) (by omega)];rfl)
  repeat' (first|((first|refine pC ?_|refine pQC ?_|refine pU ?_);push_cast [iO,tN,i1])|(refine pif (fun h=>?_) (fun h=>?_)<;>first|exact pN h|push_cast [iO,tN,i1]))
  (refine retK_of [] ?_;push_cast [iO,tN])
  all_goals rw [e]
 by_cases i2:1073741824 < d.index
 ·have e:=ck_nums (d:=d) (by unfold numsM;rw [decide_eq_false (p:=d.index≤1073741824) (by omega),Bool.and_false];rfl)
  repeat' (first|((first|refine pC ?_|refine pQC ?_|refine pU ?_);push_cast [iO,tN,i1,i2])|(refine pif (fun h=>?_) (fun h=>?_)<;>first|exact pN h|push_cast [iO,tN,i1,i2]))
  (refine retK_of [] ?_;push_cast [iO,tN])
  all_goals rw [e]
 by_cases i3:d.parent < 0
 ·have e:=ck_nums (d:=d) (by unfold numsM;rw [decide_eq_false (p:=0≤d.parent) (by omega),Bool.false_and,Bool.and_false];rfl)
  repeat' (first|((first|refine pC ?_|refine pQC ?_|refine pU ?_);push_cast [iO,tN,i1,i2,i3])|(refine pif (fun h=>?_) (fun h=>?_)<;>first|exact pN h|push_cast [iO,tN,i1,i2,i3]))
  (refine retK_of [] ?_;push_cast [iO,tN])
  all_goals rw [e]
 by_cases i4:1073741824 < d.parent
 ·have e:=ck_nums (d:=d) (by unfold numsM;rw [decide_eq_false (p:=d.parent≤1073741824) (by omega),Bool.and_false,Bool.and_false];rfl)
  repeat' (first|((first|refine pC ?_|refine pQC ?_|refine pU ?_);push_cast [iO,tN,i1,i2,i3,i4])|(refine pif (fun h=>?_) (fun h=>?_)<;>first|exact pN h|push_cast [iO,tN,i1,i2,i3,i4]))
  (refine retK_of [] ?_;push_cast [iO,tN])
  all_goals rw [e]
 by_cases i5:d.parent=d.index
 ·have e:=ck_nums (d:=d) (by unfold numsM;rw [decide_eq_true i5,Bool.not_true,Bool.and_false])
  have i5':=eq_true i5
  repeat' (first|((first|refine pC ?_|refine pQC ?_|refine pU ?_);push_cast [iO,tN,i1,i2,i3,i4,i5'])|(refine pif (fun h=>?_) (fun h=>?_)<;>first|exact pN h|push_cast [iO,tN,i1,i2,i3,i4,i5']))
  (refine retK_of [] ?_;push_cast [iO,tN])
  all_goals rw [e]
 have n0:numsM d=true:=by unfold numsM;rw [decide_eq_true (p:=1≤d.index) (by omega),decide_eq_true (p:=d.index≤1073741824) (by omega),decide_eq_true (p:=0≤d.parent) (by omega),decide_eq_true (p:=d.parent≤1073741824) (by omega),decide_eq_false i5];rfl
 repeat' (first|((first|refine pC ?_|refine pQC ?_|refine pU ?_);push_cast [iO,tN,i1,i2,i3,i4,i5])|(refine pif (fun h=>?_) (fun h=>?_)<;>first|exact pN h|push_cast [iO,tN,i1,i2,i3,i4,i5]))
 cases b1
 case false =>
  have e:=ck_named n0 (by unfold namedM;rw [hb1];rfl)
  repeat' (first |  (refine plc [] (v1) ?_ ?_;push_cast [iO,tN];rintro r os ⟨rfl,rfl⟩;push_cast [iO,tN])  | ((first|refine pC ?_|refine pQC ?_|refine pU ?_);push_cast [iO,tN])|(refine pif (fun h=>?_) (fun h=>?_)<;>first|exact pN h|push_cast [iO,tN]))
  (refine retK_of [] ?_;push_cast [iO,tN])
  all_goals rw [e]
 repeat' (first |  (refine plc [] (v1) ?_ ?_;push_cast [iO,tN];rintro r os ⟨rfl,rfl⟩;push_cast [iO,tN])  | ((first|refine pC ?_|refine pQC ?_|refine pU ?_);push_cast [iO,tN])|(refine pif (fun h=>?_) (fun h=>?_)<;>first|exact pN h|push_cast [iO,tN]))
 cases b2
 case false =>
  have e:=ck_named n0 (by unfold namedM;rw [hb1,hb2];rfl)
  repeat' (first |  (refine plc [] (v2) ?_ ?_;push_cast [iO,tN];rintro r os ⟨rfl,rfl⟩;push_cast [iO,tN])  | ((first|refine pC ?_|refine pQC ?_|refine pU ?_);push_cast [iO,tN])|(refine pif (fun h=>?_) (fun h=>?_)<;>first|exact pN h|push_cast [iO,tN]))
  (refine retK_of [] ?_;push_cast [iO,tN])
  all_goals rw [e]
 repeat' (first |  (refine plc [] (v2) ?_ ?_;push_cast [iO,tN];rintro r os ⟨rfl,rfl⟩;push_cast [iO,tN])  | ((first|refine pC ?_|refine pQC ?_|refine pU ?_);push_cast [iO,tN])|(refine pif (fun h=>?_) (fun h=>?_)<;>first|exact pN h|push_cast [iO,tN]))
 cases b3
 case false =>
  have e:=ck_named n0 (by unfold namedM;rw [hb1,hb2,hb3];rfl)
  repeat' (first |  (refine plc [] (v3) ?_ ?_;push_cast [iO,tN];rintro r os ⟨rfl,rfl⟩;push_cast [iO,tN])  | ((first|refine pC ?_|refine pQC ?_|refine pU ?_);push_cast [iO,tN])|(refine pif (fun h=>?_) (fun h=>?_)<;>first|exact pN h|push_cast [iO,tN]))
  (refine retK_of [] ?_;push_cast [iO,tN])
  all_goals rw [e]
 repeat' (first |  (refine plc [] (v3) ?_ ?_;push_cast [iO,tN];rintro r os ⟨rfl,rfl⟩;push_cast [iO,tN])  | ((first|refine pC ?_|refine pQC ?_|refine pU ?_);push_cast [iO,tN])|(refine pif (fun h=>?_) (fun h=>?_)<;>first|exact pN h|push_cast [iO,tN]))
 have key:∀ s1:Bool,(decide (d.driver=⟨#[]⟩) || validS d.driver)=s1 → namedM d=(s1 && textS d.alias_):=fun s1 h=>by unfold namedM;rw [hb1,hb2,hb3,h];rfl
 by_cases e:d.driver=⟨#[]⟩
 case' pos =>
  have e':=eq_true e
  have kk:=key true (by rw [decide_eq_true e];rfl)
  push_cast [iO,tN,e',ne_eq,not_true_eq_false]
 case' neg =>
  push_cast [iO,tN,e,ne_eq,not_false_eq_true]
  cases b4
  case false =>
   have e9:=ck_named n0 (by rw [key false (by rw [decide_eq_false e,hb4];rfl)];rfl)
   repeat' (first |  (refine plc [] (v4) ?_ ?_;push_cast [iO,tN];rintro r os ⟨rfl,rfl⟩;push_cast [iO,tN])  | ((first|refine pC ?_|refine pQC ?_|refine pU ?_);push_cast [iO,tN])|(refine pif (fun h=>?_) (fun h=>?_)<;>first|exact pN h|push_cast [iO,tN]))
   (refine retK_of [] ?_;push_cast [iO,tN])
   all_goals rw [e9]
  have kk:=key true (by rw [hb4,Bool.or_true])
  repeat' (first |  (refine plc [] (v4) ?_ ?_;push_cast [iO,tN];rintro r os ⟨rfl,rfl⟩;push_cast [iO,tN])  | ((first|refine pC ?_|refine pQC ?_|refine pU ?_);push_cast [iO,tN])|(refine pif (fun h=>?_) (fun h=>?_)<;>first|exact pN h|push_cast [iO,tN]))
 all_goals
  cases b5
  case false =>
   have e9:=ck_named n0 (by rw [kk,hb5];rfl)
   repeat' (first |  (refine plc [] (v5) ?_ ?_;push_cast [iO,tN];rintro r os ⟨rfl,rfl⟩;push_cast [iO,tN])  | ((first|refine pC ?_|refine pQC ?_|refine pU ?_);push_cast [iO,tN])|(refine pif (fun h=>?_) (fun h=>?_)<;>first|exact pN h|push_cast [iO,tN]))
   (refine retK_of [] ?_;push_cast [iO,tN])
   all_goals rw [e9]
  have n1:namedM d=true:=by rw [kk,hb5];rfl
  repeat' (first |  (refine plc [] (v5) ?_ ?_;push_cast [iO,tN];rintro r os ⟨rfl,rfl⟩;push_cast [iO,tN])  | ((first|refine pC ?_|refine pQC ?_|refine pU ?_);push_cast [iO,tN])|(refine pif (fun h=>?_) (fun h=>?_)<;>first|exact pN h|push_cast [iO,tN]))
  by_cases k1:d.kind < 1
  case pos =>
   have e9:=ck_kind n0 n1 (by unfold kindM;rw [if_neg (by omega),decide_eq_false (p:=1≤d.kind) (by omega)];rfl)
   push_cast [iO,tN,k1]
   repeat' (first|((first|refine pC ?_|refine pQC ?_|refine pU ?_);push_cast [iO,tN,k1])|(refine pif (fun h=>?_) (fun h=>?_)<;>first|exact pN h|push_cast [iO,tN,k1]))
   (refine retK_of [] ?_;push_cast [iO,tN])
   all_goals rw [e9]
  push_cast [iO,tN,k1]
  by_cases k2:4 < d.kind
  case pos =>
   have e9:=ck_kind n0 n1 (by unfold kindM;rw [if_neg (by omega),decide_eq_false (p:=d.kind≤3) (by omega),Bool.and_false];rfl)
   repeat' (first|((first|refine pC ?_|refine pQC ?_|refine pU ?_);push_cast [iO,tN,k1,k2])|(refine pif (fun h=>?_) (fun h=>?_)<;>first|exact pN h|push_cast [iO,tN,k1,k2]))
   (refine retK_of [] ?_;push_cast [iO,tN])
   all_goals rw [e9]
  repeat' (first|((first|refine pC ?_|refine pQC ?_|refine pU ?_);push_cast [iO,tN,k1,k2])|(refine pif (fun h=>?_) (fun h=>?_)<;>first|exact pN h|push_cast [iO,tN,k1,k2]))
  by_cases k4:d.kind=4
  case' pos =>
   have k4':=eq_true k4
   have kq:kindM d=(ifaceS d.name && ifaceS d.original):=by unfold kindM;rw [if_pos k4]
   push_cast [iO,tN,k4']
   cases c1
   case false =>
    have e9:=ck_kind n0 n1 (by rw [kq,hc1];rfl)
    repeat' (first|(refine plc [] (f1) ?_ ?_;push_cast [iO,tN,k4'];rintro r os ⟨rfl,rfl⟩;push_cast [iO,tN,k4'])|((first|refine pC ?_|refine pQC ?_|refine pU ?_);push_cast [iO,tN,k4'])|(refine pif (fun h=>?_) (fun h=>?_)<;>first|exact pN h|push_cast [iO,tN,k4']))
    (refine retK_of [] ?_;push_cast [iO,tN])
    all_goals rw [e9]
   repeat' (first|(refine plc [] (f1) ?_ ?_;push_cast [iO,tN,k4'];rintro r os ⟨rfl,rfl⟩;push_cast [iO,tN,k4'])|((first|refine pC ?_|refine pQC ?_|refine pU ?_);push_cast [iO,tN,k4'])|(refine pif (fun h=>?_) (fun h=>?_)<;>first|exact pN h|push_cast [iO,tN,k4']))
   cases c2
   case false =>
    have e9:=ck_kind n0 n1 (by rw [kq,hc1,hc2];rfl)
    repeat' (first|(refine plc [] (f2) ?_ ?_;push_cast [iO,tN,k4'];rintro r os ⟨rfl,rfl⟩;push_cast [iO,tN,k4'])|((first|refine pC ?_|refine pQC ?_|refine pU ?_);push_cast [iO,tN,k4'])|(refine pif (fun h=>?_) (fun h=>?_)<;>first|exact pN h|push_cast [iO,tN,k4']))
    (refine retK_of [] ?_;push_cast [iO,tN])
    all_goals rw [e9]
   have n2:kindM d=true:=by rw [kq,hc1,hc2];rfl
   repeat' (first|(refine plc [] (f2) ?_ ?_;push_cast [iO,tN,k4',ne_eq,not_true_eq_false];rintro r os ⟨rfl,rfl⟩;push_cast [iO,tN,k4',ne_eq,not_true_eq_false])|((first|refine pC ?_|refine pQC ?_|refine pU ?_);push_cast [iO,tN,k4',ne_eq,not_true_eq_false])|(refine pif (fun h=>?_) (fun h=>?_)<;>first|exact pN h|push_cast [iO,tN,k4',ne_eq,not_true_eq_false]))
  case' neg =>
   have kq:kindM d=decide (d.name=d.original):=by unfold kindM;rw [if_neg k4,decide_eq_true (p:=1≤d.kind) (by omega),decide_eq_true (p:=d.kind≤3) (by omega)];rfl
   push_cast [iO,tN,k4,ne_eq,not_false_eq_true]
   by_cases ne:d.name=d.original
   case neg =>
    have e9:=ck_kind n0 n1 (by rw [kq,decide_eq_false ne])
    repeat' (first|((first|refine pC ?_|refine pQC ?_|refine pU ?_);push_cast [iO,tN,k4,ne,ne_eq,not_false_eq_true])|(refine pif (fun h=>?_) (fun h=>?_)<;>first|exact pN h|push_cast [iO,tN,k4,ne,ne_eq,not_false_eq_true]))
    (refine retK_of [] ?_;push_cast [iO,tN])
    all_goals rw [e9]
   have n2:kindM d=true:=by rw [kq,decide_eq_true ne]
   have ne':=eq_true ne
   repeat' (first|((first|refine pC ?_|refine pQC ?_|refine pU ?_);push_cast [iO,tN,k4,ne',ne_eq,not_true_eq_false,not_false_eq_true])|(refine pif (fun h=>?_) (fun h=>?_)<;>first|exact pN h|push_cast [iO,tN,k4,ne',ne_eq,not_true_eq_false,not_false_eq_true]))
  all_goals
   cases c7
   case' false =>
    have nq:numberM d=decide (d.number=0):=by unfold numberM;rw [hc7];rfl
    by_cases z:d.number=0
    case neg =>
     have e9:=ck_number n0 n1 n2 (by rw [nq,decide_eq_false z])
     repeat' (first|(refine plc [] (nd) ?_ ?_;push_cast [iO,tN,z,ne_eq,not_false_eq_true];rintro r os ⟨rfl,rfl⟩;push_cast [iO,tN,z,ne_eq,not_false_eq_true])|((first|refine pC ?_|refine pQC ?_|refine pU ?_);push_cast [iO,tN,z,ne_eq,not_false_eq_true])|(refine pif (fun h=>?_) (fun h=>?_)<;>first|exact pN h|push_cast [iO,tN,z,ne_eq,not_false_eq_true]))
     (refine retK_of [] ?_;push_cast [iO,tN])
     all_goals rw [e9]
    have n3:numberM d=true:=by rw [nq,decide_eq_true z]
    have z':=eq_true z
    by_cases h24:(24:Int) < (d.attrs.length:Int)
    case pos =>
     have e9:=ck_len n0 n1 n2 n3 (by omega)
     repeat' (first|(refine plc [] (nd) ?_ ?_;push_cast [iO,tN,z',h24,ne_eq,not_true_eq_false];rintro r os ⟨rfl,rfl⟩;push_cast [iO,tN,z',h24,ne_eq,not_true_eq_false])|((first|refine pC ?_|refine pQC ?_|refine pU ?_);push_cast [iO,tN,z',h24,ne_eq,not_true_eq_false])|(refine pif (fun h=>?_) (fun h=>?_)<;>first|exact pN h|push_cast [iO,tN,z',h24,ne_eq,not_true_eq_false]))
     (refine retK_of [] ?_;push_cast [iO,tN])
     all_goals rw [e9]
    repeat' (first|(refine plc [] (nd) ?_ ?_;push_cast [iO,tN,z',h24,ne_eq,not_true_eq_false];rintro r os ⟨rfl,rfl⟩;push_cast [iO,tN,z',h24,ne_eq,not_true_eq_false])|((first|refine pC ?_|refine pQC ?_|refine pU ?_);push_cast [iO,tN,z',h24,ne_eq,not_true_eq_false])|(refine pif (fun h=>?_) (fun h=>?_)<;>first|exact pN h|push_cast [iO,tN,z',h24,ne_eq,not_true_eq_false]))
   case' true =>
    have nq:numberM d=(decide (1≤d.number) && decide (d.number≤1073741824)):=by unfold numberM;rw [hc7];rfl
    repeat' (first |  (refine plc [] (nd) ?_ ?_;push_cast [iO,tN];rintro r os ⟨rfl,rfl⟩;push_cast [iO,tN])  | ((first|refine pC ?_|refine pQC ?_|refine pU ?_);push_cast [iO,tN])|(refine pif (fun h=>?_) (fun h=>?_)<;>first|exact pN h|push_cast [iO,tN]))
    by_cases z1:d.number < 1
    case pos =>
     have e9:=ck_number n0 n1 n2 (by rw [nq,decide_eq_false (p:=1≤d.number) (by omega)];rfl)
     push_cast [iO,tN,z1]
     repeat' (first|((first|refine pC ?_|refine pQC ?_|refine pU ?_);push_cast [iO,tN,z1])|(refine pif (fun h=>?_) (fun h=>?_)<;>first|exact pN h|push_cast [iO,tN,z1]))
     (refine retK_of [] ?_;push_cast [iO,tN])
     all_goals rw [e9]
    push_cast [iO,tN,z1]
    by_cases z2:1073741824 < d.number
    case pos =>
     have e9:=ck_number n0 n1 n2 (by rw [nq,decide_eq_false (p:=d.number≤1073741824) (by omega),Bool.and_false])
     push_cast [iO,tN,z1,z2]
     repeat' (first|((first|refine pC ?_|refine pQC ?_|refine pU ?_);push_cast [iO,tN,z1,z2])|(refine pif (fun h=>?_) (fun h=>?_)<;>first|exact pN h|push_cast [iO,tN,z1,z2]))
     (refine retK_of [] ?_;push_cast [iO,tN])
     all_goals rw [e9]
    have n3:numberM d=true:=by rw [nq,decide_eq_true (p:=1≤d.number) (by omega),decide_eq_true (p:=d.number≤1073741824) (by omega)];rfl
    push_cast [iO,tN,z1,z2]
    by_cases h24:(24:Int) < (d.attrs.length:Int)
    case pos =>
     have e9:=ck_len n0 n1 n2 n3 (by omega)
     repeat' (first|((first|refine pC ?_|refine pQC ?_|refine pU ?_);push_cast [iO,tN,z1,z2,h24])|(refine pif (fun h=>?_) (fun h=>?_)<;>first|exact pN h|push_cast [iO,tN,z1,z2,h24]))
     (refine retK_of [] ?_;push_cast [iO,tN])
     all_goals rw [e9]
    repeat' (first|((first|refine pC ?_|refine pQC ?_|refine pU ?_);push_cast [iO,tN,z1,z2,h24])|(refine pif (fun h=>?_) (fun h=>?_)<;>first|exact pN h|push_cast [iO,tN,z1,z2,h24]))
   all_goals
    (apply pwp_loop3 (α:=Nat) 6 [] (fun k=>[(5,.c (.v (.int .i64 k)))]) (fun k=>[]) (fun k=>k≤d.attrs.length∧(d.attrs.take k).all attrB=true) (fun k=>d.attrs.length - k) (0);(focus ((try push_cast [iO,tN]);rfl));(focus exact ⟨by omega,rfl⟩);(focus ((refine weak_fg ?_;try push_cast [iO,tN]))))
    rintro k ⟨hk1,ha⟩
    push_cast [iO,tN]
    by_cases hlt:k < d.attrs.length
    case pos =>
     have hm:d.attrs.getD k default ∈ d.attrs:=by rw [getD_lt _ hlt];exact List.getElem_mem _
     have a1:=rvalid_pure (d.attrs.getD k default).name (hk.attrs _ hm).1
     have a2:=rtext_pure (d.attrs.getD k default).value (hk.attrs _ hm).2
     have hno:attrB (d.attrs.getD k default)=false → checkM d=33:=fun h=>ck_attrs n0 n1 n2 n3 (by omega) (by unfold attrsB;rw [List.all_eq_false.2 ⟨_,hm,by rw [h];decide⟩,Bool.and_false])
     have hyes:attrB (d.attrs.getD k default)=true → (d.attrs.take (k+1)).all attrB=true:=fun h=>by
      rw [List.take_succ_eq_append_getElem hlt,List.all_append,ha,← getD_lt _ hlt,List.all_cons,h];rfl
     unfold attrB at hno hyes
     obtain ⟨y1,hy1⟩:∃ b,validS (d.attrs.getD k default).name=b:=⟨_,rfl⟩
     obtain ⟨y2,hy2⟩:∃ b,textS (d.attrs.getD k default).value=b:=⟨_,rfl⟩
     rw [hy1] at a1 hno hyes
     rw [hy2] at a2 hno hyes
     cases y1
     case false =>
      have e9:=hno rfl
      repeat' (first |  (refine plc [] (a1) ?_ ?_;push_cast [iO,tN];rintro r os ⟨rfl,rfl⟩;push_cast [iO,tN])  | ((first|refine pC ?_|refine pQC ?_|refine pU ?_);push_cast [iO,tN])|(refine pif (fun h=>?_) (fun h=>?_)<;>first|exact pN h|push_cast [iO,tN]))
      (refine retK_of [] ?_;push_cast [iO,tN])
      all_goals rw [e9]
     cases y2
     case false =>
      have e9:=hno (by rw [Bool.and_false])
      repeat' (first |  (refine plc [] (a1) ?_ ?_;push_cast [iO,tN];rintro r os ⟨rfl,rfl⟩;push_cast [iO,tN])|(refine plc [] (a2) ?_ ?_;push_cast [iO,tN];rintro r os ⟨rfl,rfl⟩;push_cast [iO,tN])  | ((first|refine pC ?_|refine pQC ?_|refine pU ?_);push_cast [iO,tN])|(refine pif (fun h=>?_) (fun h=>?_)<;>first|exact pN h|push_cast [iO,tN]))
      (refine retK_of [] ?_;push_cast [iO,tN])
      all_goals rw [e9]
     by_cases ev:(d.attrs.getD k default).value=⟨#[]⟩
     case pos =>
      have e9:=hno (by rw [decide_eq_false (p:=(d.attrs.getD k default).value≠⟨#[]⟩) (fun h=>h ev)];rfl)
      have ev':=eq_true ev
      repeat' (first|(refine plc [] (a1) ?_ ?_;push_cast [iO,tN,ev'];rintro r os ⟨rfl,rfl⟩;push_cast [iO,tN,ev'])|(refine plc [] (a2) ?_ ?_;push_cast [iO,tN,ev'];rintro r os ⟨rfl,rfl⟩;push_cast [iO,tN,ev'])|((first|refine pC ?_|refine pQC ?_|refine pU ?_);push_cast [iO,tN,ev'])|(refine pif (fun h=>?_) (fun h=>?_)<;>first|exact pN h|push_cast [iO,tN,ev']))
      (refine retK_of [] ?_;push_cast [iO,tN])
      all_goals rw [e9]
     have e9:=hyes (by rw [decide_eq_true (p:=(d.attrs.getD k default).value≠⟨#[]⟩) ev];rfl)
     repeat' (first|(refine plc [] (a1) ?_ ?_;push_cast [iO,tN,ev];rintro r os ⟨rfl,rfl⟩;push_cast [iO,tN,ev])|(refine plc [] (a2) ?_ ?_;push_cast [iO,tN,ev];rintro r os ⟨rfl,rfl⟩;push_cast [iO,tN,ev])|((first|refine pC ?_|refine pQC ?_|refine pU ?_);push_cast [iO,tN,ev])|(refine pif (fun h=>?_) (fun h=>?_)<;>first|exact pN h|push_cast [iO,tN,ev]))
     exact ⟨k+1,⟨by omega,e9⟩,by (refine weak_fg ?_;push_cast [iO,tN]),by omega⟩
    rw [List.take_of_length_le (by omega)] at ha
    have so:=rsorted_pure d.attrs (by omega)
    cases hso:sortedM d.attrs
    case false =>
     rw [hso] at so
     have e9:=ck_attrs n0 n1 n2 n3 (by omega) (by unfold attrsB;rw [hso];rfl)
     repeat' (first |  (refine plc [] (so) ?_ ?_;push_cast [iO,tN];rintro r os ⟨rfl,rfl⟩;push_cast [iO,tN])  | ((first|refine pC ?_|refine pQC ?_|refine pU ?_);push_cast [iO,tN])|(refine pif (fun h=>?_) (fun h=>?_)<;>first|exact pN h|push_cast [iO,tN]))
     (refine retK_of [] ?_;push_cast [iO,tN])
     all_goals rw [e9]
    rw [hso] at so
    have e8:=ck_link n0 n1 n2 n3 (by omega) (by unfold attrsB;rw [hso,ha];rfl)
    repeat' (first |  (refine plc [] (so) ?_ ?_;push_cast [iO,tN];rintro r os ⟨rfl,rfl⟩;push_cast [iO,tN])  | ((first|refine pC ?_|refine pQC ?_|refine pU ?_);push_cast [iO,tN])|(refine pif (fun h=>?_) (fun h=>?_)<;>first|exact pN h|push_cast [iO,tN]))
   ·have e2:=hnm hc7
    have lk:=rlink_pure (nodeM d) (by rw [e2,nodeS_fit];omega)
    rw [e2] at lk
    cases hlk:linkS (nodeS d.original)
    case false =>
     rw [hlk] at lk
     have e9:checkM d=30:=by rw [e8,hc7,hlk];rfl
     repeat' (first|(refine plc [] (lk) ?_ ?_;push_cast [iO,tN,e2];rintro r os ⟨rfl,rfl⟩;push_cast [iO,tN,e2])|((first|refine pC ?_|refine pQC ?_|refine pU ?_);push_cast [iO,tN,e2])|(refine pif (fun h=>?_) (fun h=>?_)<;>first|exact pN h|push_cast [iO,tN,e2]))
     (refine retK_of [] ?_;push_cast [iO,tN])
     all_goals rw [e9]
    case true =>
     rw [hlk] at lk
     have e9:checkM d=0:=by rw [e8,hc7,hlk];rfl
     repeat' (first|(refine plc [] (lk) ?_ ?_;push_cast [iO,tN,e2];rintro r os ⟨rfl,rfl⟩;push_cast [iO,tN,e2])|((first|refine pC ?_|refine pQC ?_|refine pU ?_);push_cast [iO,tN,e2])|(refine pif (fun h=>?_) (fun h=>?_)<;>first|exact pN h|push_cast [iO,tN,e2]))
     (refine retK_of [] ?_;push_cast [iO,tN])
     all_goals rw [e9]
   ·have e9:checkM d=0:=by rw [e8,hc7];rfl
    repeat' (first|((first|refine pC ?_|refine pQC ?_|refine pU ?_);push_cast [iO,tN])|(refine pif (fun h=>?_) (fun h=>?_)<;>first|exact pN h|push_cast [iO,tN]))
    (refine retK_of [] ?_;push_cast [iO,tN])
    all_goals rw [e9]
set_option maxRecDepth 20000
theorem beneath_walk (a b:ByteArray) (ha:a.size≤1000000) (w:World) :
  Calls Tryz.prog 79 #[.string a,.string b] w fun e w'=>e = .returned (.bool (beneath a b))∧w'=w:=by
 have h:=strings_HasPrefix b (a++⟨#[47]⟩) w
 unfold beneath
 go_enter Tryz.func79,Tryz.ntmps79
 go_wp2_with (go_at_call 98;refine h.mono ?_;rintro e w' ⟨rfl,rfl⟩)
 go_ret
 exact ⟨rfl,rfl⟩
theorem rbeneath_pure (a b:ByteArray) (ha:a.size≤1000000):PCalls Tryz.prog 79 [.c (.v (.string a)),.c (.v (.string b))] [] fun r os=>r = .c (.v (.bool (beneath a b)))∧os=[] :=
 pcalls_plain [.string a,.string b] _ rfl fun w _=>(beneath_walk a b ha w).mono fun e w' ⟨he,hw⟩=>by rw [he,hw];exact ⟨rfl,Below.refl _ _⟩
end Go.Proofs.YtmjffgienmcabaaGreatDoor
