/- What the program computes, and the plain laws of it, part 36. -/
import Derived.Lib.ItoaNum
import Derived.WideKeyEntry
import Derived.Test.YtmbbkfffcflfcaaGreatDoorS35
namespace Go.Proofs.YtmbbkfffcflfcaaGreatDoor
attribute [local irreducible] PL QL PWPr PCalls Weak RetK Kontr PA
open Go.RowKit
open IntWalk renaming iteOmega → O, toNatUp → U
set_option linter.unusedVariables false
set_option linter.unusedSimpArgs false
set_option maxRecDepth 20000
theorem within_pure (n lo hi:Int):PCalls Tryz.prog 110 [.c (.v (.int .i64 n)),.c (.v (.int .i64 lo)),.c (.v (.int .i64 hi))] [] fun r os=>r = .c (.v (.bool (decide (lo≤n) && decide (n≤hi))))∧os=[]:=by
 refine pcalls_of Tryz.func110 rfl (by simp [Tryz.ntmps110]) ?_
 rw [Tryz.ntmps110,Tryz.results110]
 by_cases h:lo≤n
 ·push_cast [O,U]
  repeat' ((first|refine pG ?_|refine pQ ?_|refine pU ?_|refine pif ?_ ?_<;>intro h<;>try exact pN h)<;>push_cast [O,U,h])
  (refine retK_of [] ?_;push_cast [O,U])
  all_goals simp [h]
 ·push_cast [O,U]
  repeat' ((first|refine pG ?_|refine pQ ?_|refine pU ?_|refine pif ?_ ?_<;>intro h<;>try exact pN h)<;>push_cast [O,U,h])
  (refine retK_of [] ?_;push_cast [O,U])
  all_goals simp [h]
set_option maxHeartbeats 1000000 in
theorem number_pure (d:Dev):PCalls Tryz.prog 113 [.agg d.e] [] fun r os=>r = .c (.v (.bool (numberM d)))∧os=[]:=by
 have hn:=numbered_pure d.kind
 have hw:=within_pure d.number 1 1073741824
 unfold numberM
 have e:hasN d=(decide (d.kind=2) || decide (d.kind=3)):=rfl
 obtain ⟨b,hb⟩:∃ b,(decide (d.kind=2) || decide (d.kind=3))=b:=⟨_,rfl⟩
 rw [e,hb]
 rw [hb] at hn
 refine pcalls_of Tryz.func113 rfl (by simp [Tryz.ntmps113]) ?_
 rw [Tryz.ntmps113,Tryz.results113]
 cases b
 ·push_cast [O,U]
  repeat' ((first|refine plE [] hn ?_ ?_|refine pG ?_|refine pQ ?_|refine pU ?_|refine pif ?_ ?_<;>intro h<;>try exact pN h)<;>push_cast [O,U])
  (refine retK_of [] ?_;push_cast [O,U])
 ·push_cast [O,U]
  repeat' ((first|refine plE [] hn ?_ ?_|refine plE [] hw ?_ ?_|refine pG ?_|refine pQ ?_|refine pU ?_|refine pif ?_ ?_<;>intro h<;>try exact pN h)<;>push_cast [O,U])
  (refine retK_of [] ?_;push_cast [O,U])
set_option maxHeartbeats 1000000 in
theorem kind_pure (d:Dev) (hk:d.ok):PCalls Tryz.prog 112 [.agg d.e] [] fun r os=>r = .c (.v (.bool (kindM d)))∧os=[]:=by
 have h1:=iface_pure d.name hk.name
 have h2:=iface_pure d.original hk.original
 unfold kindM
 refine pcalls_of Tryz.func112 rfl (by simp [Tryz.ntmps112]) ?_
 rw [Tryz.ntmps112,Tryz.results112]
 by_cases e4:d.kind=4
 ·have e4':=eq_true e4
  rw [if_pos e4]
  obtain ⟨b,hb⟩:∃ b,ifaceS d.name=b:=⟨_,rfl⟩
  rw [hb] at h1 ⊢
  cases b
  ·push_cast [O,U]
   repeat' ((first|refine plE [] h1 ?_ ?_|refine pG ?_|refine pQ ?_|refine pU ?_|refine pif ?_ ?_<;>intro h<;>try exact pN h)<;>push_cast [O,U,e4'])
   (refine retK_of [] ?_;push_cast [O,U])
  ·push_cast [O,U]
   repeat' ((first|refine plE [] h1 ?_ ?_;focus (push_cast [O,U,e4'];done)|refine plE [] h2 ?_ ?_;focus (push_cast [O,U,e4'];done)|refine pG ?_|refine pQ ?_|refine pU ?_|refine pif ?_ ?_<;>intro h<;>try exact pN h)<;>push_cast [O,U,e4'])
   (refine retK_of [] ?_;push_cast [O,U])
 ·rw [if_neg e4]
  by_cases e1:d.kind=1
  ·have e1':=eq_true e1
   push_cast [O,U]
   repeat' ((first|refine pG ?_|refine pQ ?_|refine pU ?_|refine pif ?_ ?_<;>intro h<;>try exact pN h)<;>push_cast [O,U,e4,e1'])
   (refine retK_of [] ?_;push_cast [O,U])
   all_goals simp [e1]
  ·by_cases e2:d.kind=2
   ·have e2':=eq_true e2
    push_cast [O,U]
    repeat' ((first|refine pG ?_|refine pQ ?_|refine pU ?_|refine pif ?_ ?_<;>intro h<;>try exact pN h)<;>push_cast [O,U,e4,e1,e2'])
    (refine retK_of [] ?_;push_cast [O,U])
    all_goals simp [e2]
   ·by_cases e3:d.kind=3
    ·have e3':=eq_true e3
     push_cast [O,U]
     repeat' ((first|refine pG ?_|refine pQ ?_|refine pU ?_|refine pif ?_ ?_<;>intro h<;>try exact pN h)<;>push_cast [O,U,e4,e1,e2,e3'])
     (refine retK_of [] ?_;push_cast [O,U])
     all_goals simp [e3]
    ·have ef:(decide (1≤d.kind) && decide (d.kind≤3))=false:=by
      rw [Bool.and_eq_false_iff,decide_eq_false_iff_not,decide_eq_false_iff_not];omega
     push_cast [O,U]
     repeat' ((first|refine pG ?_|refine pQ ?_|refine pU ?_|refine pif ?_ ?_<;>intro h<;>try exact pN h)<;>push_cast [O,U,e4,e1,e2,e3])
     (refine retK_of [] ?_;push_cast [O,U])
     all_goals simp [ef]
set_option maxHeartbeats 2000000 in
theorem named_pure (d:Dev) (hk:d.ok):PCalls Tryz.prog 111 [.agg d.e] [] fun r os=>r = .c (.v (.bool (namedM d)))∧os=[]:=by
 have h1:=valid_pure d.name hk.name
 have h2:=valid_pure d.original hk.original
 have h3:=valid_pure d.subsystem hk.subsystem
 have h4:=valid_pure d.driver hk.driver
 have h5:=text_pure d.alias_ hk.alias_
 unfold namedM
 refine pcalls_of Tryz.func111 rfl (by simp [Tryz.ntmps111]) ?_
 rw [Tryz.ntmps111,Tryz.results111]
 obtain ⟨b1,hb1⟩:∃ b,validS d.name=b:=⟨_,rfl⟩
 obtain ⟨b2,hb2⟩:∃ b,validS d.original=b:=⟨_,rfl⟩
 obtain ⟨b3,hb3⟩:∃ b,validS d.subsystem=b:=⟨_,rfl⟩
 obtain ⟨b4,hb4⟩:∃ b,validS d.driver=b:=⟨_,rfl⟩
 rw [hb1] at h1 ⊢
 rw [hb2] at h2 ⊢
 rw [hb3] at h3 ⊢
 rw [hb4] at h4 ⊢
 cases b1
 ·push_cast [O,U]
  repeat' ((first|refine plE [] h1 ?_ ?_|refine pG ?_|refine pQ ?_|refine pU ?_|refine pif ?_ ?_<;>intro h<;>try exact pN h)<;>push_cast [O,U])
  (refine retK_of [] ?_;push_cast [O,U])
 cases b2
 ·push_cast [O,U]
  repeat' ((first|refine plE [] h1 ?_ ?_;focus (push_cast [O,U];done)|refine plE [] h2 ?_ ?_;focus (push_cast [O,U];done)|refine pG ?_|refine pQ ?_|refine pU ?_|refine pif ?_ ?_<;>intro h<;>try exact pN h)<;>push_cast [O,U])
  (refine retK_of [] ?_;push_cast [O,U])
 cases b3
 ·push_cast [O,U]
  repeat' ((first|refine plE [] h1 ?_ ?_;focus (push_cast [O,U];done)|refine plE [] h2 ?_ ?_;focus (push_cast [O,U];done)|refine plE [] h3 ?_ ?_;focus (push_cast [O,U];done)|refine pG ?_|refine pQ ?_|refine pU ?_|refine pif ?_ ?_<;>intro h<;>try exact pN h)<;>push_cast [O,U])
  (refine retK_of [] ?_;push_cast [O,U])
 by_cases e:d.driver=⟨#[]⟩
 ·have e':=eq_true e
  push_cast [O,U]
  repeat' ((first|refine plE [] h1 ?_ ?_;focus (push_cast [O,U,e'];done)|refine plE [] h2 ?_ ?_;focus (push_cast [O,U,e'];done)|refine plE [] h3 ?_ ?_;focus (push_cast [O,U,e'];done)|refine plE [] h5 ?_ ?_;focus (push_cast [O,U,e'];done)|refine pG ?_|refine pQ ?_|refine pU ?_|refine pif ?_ ?_<;>intro h<;>try exact pN h)<;>push_cast [O,U,e'])
  (refine retK_of [] ?_;push_cast [O,U])
  all_goals simp [e]
 cases b4
 ·push_cast [O,U]
  repeat' ((first|refine plE [] h1 ?_ ?_;focus (push_cast [O,U,e];done)|refine plE [] h2 ?_ ?_;focus (push_cast [O,U,e];done)|refine plE [] h3 ?_ ?_;focus (push_cast [O,U,e];done)|refine plE [] h4 ?_ ?_;focus (push_cast [O,U,e];done)|refine pG ?_|refine pQ ?_|refine pU ?_|refine pif ?_ ?_<;>intro h<;>try exact pN h)<;>push_cast [O,U,e])
  (refine retK_of [] ?_;push_cast [O,U])
  all_goals simp [e]
 ·push_cast [O,U]
  repeat' ((first|refine plE [] h1 ?_ ?_;focus (push_cast [O,U,e];done)|refine plE [] h2 ?_ ?_;focus (push_cast [O,U,e];done)|refine plE [] h3 ?_ ?_;focus (push_cast [O,U,e];done)|refine plE [] h4 ?_ ?_;focus (push_cast [O,U,e];done)|refine plE [] h5 ?_ ?_;focus (push_cast [O,U,e];done)|refine pG ?_|refine pQ ?_|refine pU ?_|refine pif ?_ ?_<;>intro h<;>try exact pN h)<;>push_cast [O,U,e])
  (refine retK_of [] ?_;push_cast [O,U])
  all_goals simp [e]
set_option maxHeartbeats 1000000 in
theorem sorted_pure (l:List Atr) (hl:l.length≤9223372036854775807):PCalls Tryz.prog 155 [.c (.sl 2 (l.map Atr.d))] [] fun r os=>r = .c (.v (.bool (sortedM l)))∧os=[]:=by
 refine pcalls_of Tryz.func155 rfl (by simp [Tryz.ntmps155]) ?_
 rw [Tryz.ntmps155,Tryz.results155]
 push_cast [O,U]
 have cB:CutB 4 []:=trivial
 repeat' ((first|refine pC ?_|refine pQC ?_|refine pU ?_|refine pif ?_ ?_<;>intro h<;>try exact pN h)<;>push_cast [O,U])
 (apply pwp_loop3 (α:=Nat) 4 [] (fun k=>[(3,.c (.v (.int .i64 ((k:Int)+1))))]) (fun k=>[]) (fun k=>(l.length=0∨k+1≤l.length)∧k≤l.length∧∀ j,j < k → bless (l.getD j default).name (l.getD (j+1) default).name=true) (fun k=>l.length - k) (0);(focus ((try push_cast [O,U]);rfl));(focus exact ⟨by omega,by omega,by omega⟩);(focus ((refine weak_fg ?_;try push_cast [O,U]))))
 rintro k ⟨hk0,hk,ha⟩
 push_cast [O,U]
 by_cases hlt:k+1 < l.length
 ·cases hv:bless (l.getD k default).name (l.getD (k+1) default).name
  ·have e:=sorted_f hlt hv
   repeat' ((first|refine pC ?_|refine pQC ?_|refine pU ?_|refine pif ?_ ?_<;>intro h<;>try exact pN h)<;>push_cast [O,U,hv])
   (refine retK_of [] ?_;push_cast [O,U])
   all_goals rw [e]
  ·have e:=sorted_next ha hv
   repeat' ((first|refine pC ?_|refine pQC ?_|refine pU ?_|refine pif ?_ ?_<;>intro h<;>try exact pN h)<;>push_cast [O,U,hv])
   exact ⟨k+1,⟨by omega,by omega,e⟩,by (refine weak_fg ?_;push_cast [O,U]),by omega⟩
 ·have e:=sorted_t (k:=k) (by omega) ha
  repeat' ((first|refine pC ?_|refine pQC ?_|refine pU ?_|refine pif ?_ ?_<;>intro h<;>try exact pN h)<;>push_cast [O,U])
  (refine retK_of [] ?_;push_cast [O,U])
  all_goals rw [e]
set_option maxHeartbeats 1000000 in
theorem attrsF_pure (x:Atr) (h1:Fit x.name) (h2:Fit x.value):PCalls Tryz.prog 157 [.agg (x.d.map D.e)] [] fun r os=>r = .c (.v (.bool (!attrB x)))∧os=[]:=by
 have c1:=valid_pure x.name h1
 have c2:=text_pure x.value h2
 unfold attrB
 obtain ⟨b1,hb1⟩:∃ b,validS x.name=b:=⟨_,rfl⟩
 rw [hb1] at c1 ⊢
 refine pcalls_of Tryz.func157 rfl (by simp [Tryz.ntmps157]) ?_
 rw [Tryz.ntmps157,Tryz.results157]
 cases b1
 ·push_cast [O,U]
  repeat' ((first|refine plE [] c1 ?_ ?_|refine pG ?_|refine pQ ?_|refine pU ?_|refine pif ?_ ?_<;>intro h<;>try exact pN h)<;>push_cast [O,U])
  (refine retK_of [] ?_;push_cast [O,U])
 by_cases e:x.value=⟨#[]⟩
 ·have e':=eq_true e
  push_cast [O,U]
  repeat' ((first|refine plE [] c1 ?_ ?_|refine pG ?_|refine pQ ?_|refine pU ?_|refine pif ?_ ?_<;>intro h<;>try exact pN h)<;>push_cast [O,U,e'])
  (refine retK_of [] ?_;push_cast [O,U])
  all_goals simp [e]
 ·push_cast [O,U]
  repeat' ((first|refine plE [] c1 ?_ ?_|refine plE [] c2 ?_ ?_|refine pG ?_|refine pQ ?_|refine pU ?_|refine pif ?_ ?_<;>intro h<;>try exact pN h)<;>push_cast [O,U,e])
  (refine retK_of [] ?_;push_cast [O,U])
  all_goals simp [e]
set_option maxHeartbeats 1000000 in
theorem attributes_pure (l:List Atr) (hl:l.length≤1000000000) (ho:okA l):PCalls Tryz.prog 114 [.c (.sl 2 (l.map Atr.d))] [] fun r os=>r = .c (.v (.bool (attrsB l)))∧os=[]:=by
 have h1:=sorted_pure l (by omega)
 have h2:=containsFuncB_pure l hl 157 [] [] (fun x=>!attrB x) ⟨by kernel_rfl,fun x hx=>attrsF_pure x (ho x hx).1 (ho x hx).2⟩
 have e:(!(l.any fun x=>!attrB x))=l.all attrB:=by rw [List.all_eq_not_any_not]
 obtain ⟨b,hb⟩:∃ b,(l.any fun x=>!attrB x)=b:=⟨_,rfl⟩
 unfold attrsB
 rw [hb] at h2 e
 rw [← e]
 obtain ⟨c,hc⟩:∃ c,sortedM l=c:=⟨_,rfl⟩
 rw [hc] at h1 ⊢
 refine pcalls_of Tryz.func114 rfl (by simp [Tryz.ntmps114]) ?_
 rw [Tryz.ntmps114,Tryz.results114]
 cases c
 ·push_cast [O,U]
  repeat' ((first|refine plE [] h1 ?_ ?_|refine pG ?_|refine pQ ?_|refine pU ?_|refine pif ?_ ?_<;>intro h<;>try exact pN h)<;>push_cast [O,U])
  (refine retK_of [] ?_;push_cast [O,U])
 ·push_cast [O,U]
  repeat' ((first|refine plE [] h1 ?_ ?_|refine plE [] h2 ?_ ?_|refine pG ?_|refine pQ ?_|refine pU ?_|refine pif ?_ ?_<;>intro h<;>try exact pN h)<;>push_cast [O,U])
  (refine retK_of [] ?_;push_cast [O,U])
set_option maxHeartbeats 4000000 in
theorem check_pure (d:Dev) (hk:d.ok):PCalls Tryz.prog 65 [.agg d.e] [] fun r os=>r = .c (.v (.int .i64 (checkM d)))∧os=[]:=by
 have w1:=within_pure d.index 1 1073741824
 have w2:=within_pure d.parent 0 1073741824
 have nm:=named_pure d hk
 have kd:=kind_pure d hk
 have nb:=number_pure d
 have nd:=node_pure d hk.orig
 have lk:=link_pure (nodeM d)
 unfold checkM numsM
 have hnm:hasN d=true → nodeM d=nodeS d.original:=fun h=>by unfold nodeM;rw [if_pos h]
 refine pcalls_of Tryz.func65 rfl (by simp [Tryz.ntmps65]) ?_
 rw [Tryz.ntmps65,Tryz.results65]
 generalize (decide (1≤d.index) && decide (d.index≤1073741824))=c1 at w1 ⊢
 generalize (decide (0≤d.parent) && decide (d.parent≤1073741824))=c2 at w2 ⊢
 generalize namedM d=c3 at nm ⊢
 generalize kindM d=c4 at kd ⊢
 generalize numberM d=c5 at nb ⊢
 cases c1
 case false =>
  push_cast [O,U]
  repeat' ((first|refine plE [] w1 ?_ ?_;focus (push_cast [O,U];done)|refine plE [] w2 ?_ ?_;focus (push_cast [O,U];done)|refine plE [] nm ?_ ?_;focus (push_cast [O,U];done)|refine plE [] kd ?_ ?_;focus (push_cast [O,U];done)|refine plE [] nb ?_ ?_;focus (push_cast [O,U];done)|refine plE [] ab ?_ ?_;focus (push_cast [O,U];done)|refine plE [] nd ?_ ?_;focus (push_cast [O,U];done)|refine plE [] lk ?_ ?_;focus (push_cast [O,U];done)|refine pG ?_|refine pQ ?_|refine pU ?_|refine pif ?_ ?_<;>intro h<;>try exact pN h)<;>push_cast [O,U])
  (refine retK_of [] ?_;push_cast [O,U])
 cases c2
 case false =>
  push_cast [O,U]
  repeat' ((first|refine plE [] w1 ?_ ?_;focus (push_cast [O,U];done)|refine plE [] w2 ?_ ?_;focus (push_cast [O,U];done)|refine plE [] nm ?_ ?_;focus (push_cast [O,U];done)|refine plE [] kd ?_ ?_;focus (push_cast [O,U];done)|refine plE [] nb ?_ ?_;focus (push_cast [O,U];done)|refine plE [] ab ?_ ?_;focus (push_cast [O,U];done)|refine plE [] nd ?_ ?_;focus (push_cast [O,U];done)|refine plE [] lk ?_ ?_;focus (push_cast [O,U];done)|refine pG ?_|refine pQ ?_|refine pU ?_|refine pif ?_ ?_<;>intro h<;>try exact pN h)<;>push_cast [O,U])
  (refine retK_of [] ?_;push_cast [O,U])
 by_cases e:d.parent=d.index
 ·have he:=eq_true e
  push_cast [O,U]
  repeat' ((first|refine plE [] w1 ?_ ?_;focus (push_cast [O,U,he];done)|refine plE [] w2 ?_ ?_;focus (push_cast [O,U,he];done)|refine plE [] nm ?_ ?_;focus (push_cast [O,U,he];done)|refine plE [] kd ?_ ?_;focus (push_cast [O,U,he];done)|refine plE [] nb ?_ ?_;focus (push_cast [O,U,he];done)|refine plE [] ab ?_ ?_;focus (push_cast [O,U,he];done)|refine plE [] nd ?_ ?_;focus (push_cast [O,U,he];done)|refine plE [] lk ?_ ?_;focus (push_cast [O,U,he];done)|refine pG ?_|refine pQ ?_|refine pU ?_|refine pif ?_ ?_<;>intro h<;>try exact pN h)<;>push_cast [O,U,he])
  (refine retK_of [] ?_;push_cast [O,U])
  all_goals simp [e]
 have he:=eq_false e
 rw [decide_eq_false e]
 cases c3
 case false =>
  push_cast [O,U]
  repeat' ((first|refine plE [] w1 ?_ ?_;focus (push_cast [O,U,he];done)|refine plE [] w2 ?_ ?_;focus (push_cast [O,U,he];done)|refine plE [] nm ?_ ?_;focus (push_cast [O,U,he];done)|refine plE [] kd ?_ ?_;focus (push_cast [O,U,he];done)|refine plE [] nb ?_ ?_;focus (push_cast [O,U,he];done)|refine plE [] ab ?_ ?_;focus (push_cast [O,U,he];done)|refine plE [] nd ?_ ?_;focus (push_cast [O,U,he];done)|refine plE [] lk ?_ ?_;focus (push_cast [O,U,he];done)|refine pG ?_|refine pQ ?_|refine pU ?_|refine pif ?_ ?_<;>intro h<;>try exact pN h)<;>push_cast [O,U,he])
  (refine retK_of [] ?_;push_cast [O,U])
 cases c4
 case false =>
  push_cast [O,U]
  repeat' ((first|refine plE [] w1 ?_ ?_;focus (push_cast [O,U,he];done)|refine plE [] w2 ?_ ?_;focus (push_cast [O,U,he];done)|refine plE [] nm ?_ ?_;focus (push_cast [O,U,he];done)|refine plE [] kd ?_ ?_;focus (push_cast [O,U,he];done)|refine plE [] nb ?_ ?_;focus (push_cast [O,U,he];done)|refine plE [] ab ?_ ?_;focus (push_cast [O,U,he];done)|refine plE [] nd ?_ ?_;focus (push_cast [O,U,he];done)|refine plE [] lk ?_ ?_;focus (push_cast [O,U,he];done)|refine pG ?_|refine pQ ?_|refine pU ?_|refine pif ?_ ?_<;>intro h<;>try exact pN h)<;>push_cast [O,U,he])
  (refine retK_of [] ?_;push_cast [O,U])
 cases c5
 case false =>
  push_cast [O,U]
  repeat' ((first|refine plE [] w1 ?_ ?_;focus (push_cast [O,U,he];done)|refine plE [] w2 ?_ ?_;focus (push_cast [O,U,he];done)|refine plE [] nm ?_ ?_;focus (push_cast [O,U,he];done)|refine plE [] kd ?_ ?_;focus (push_cast [O,U,he];done)|refine plE [] nb ?_ ?_;focus (push_cast [O,U,he];done)|refine plE [] ab ?_ ?_;focus (push_cast [O,U,he];done)|refine plE [] nd ?_ ?_;focus (push_cast [O,U,he];done)|refine plE [] lk ?_ ?_;focus (push_cast [O,U,he];done)|refine pG ?_|refine pQ ?_|refine pU ?_|refine pif ?_ ?_<;>intro h<;>try exact pN h)<;>push_cast [O,U,he])
  (refine retK_of [] ?_;push_cast [O,U])
 by_cases h24:24 < d.attrs.length
 ·have hl:=eq_true (show (24:Int) < (d.attrs.length:Int) by omega)
  push_cast [O,U]
  repeat' ((first|refine plE [] w1 ?_ ?_;focus (push_cast [O,U,he,hl];done)|refine plE [] w2 ?_ ?_;focus (push_cast [O,U,he,hl];done)|refine plE [] nm ?_ ?_;focus (push_cast [O,U,he,hl];done)|refine plE [] kd ?_ ?_;focus (push_cast [O,U,he,hl];done)|refine plE [] nb ?_ ?_;focus (push_cast [O,U,he,hl];done)|refine plE [] ab ?_ ?_;focus (push_cast [O,U,he,hl];done)|refine plE [] nd ?_ ?_;focus (push_cast [O,U,he,hl];done)|refine plE [] lk ?_ ?_;focus (push_cast [O,U,he,hl];done)|refine pG ?_|refine pQ ?_|refine pU ?_|refine pif ?_ ?_<;>intro h<;>try exact pN h)<;>push_cast [O,U,he,hl])
  (refine retK_of [] ?_;push_cast [O,U])
  all_goals simp [h24]
 have hl:=eq_false (show ¬ (24:Int) < (d.attrs.length:Int) by omega)
 have ab:=attributes_pure d.attrs (by omega) hk.attrs
 generalize attrsB d.attrs=c6 at ab ⊢
 cases c6
 case false =>
  push_cast [O,U]
  repeat' ((first|refine plE [] w1 ?_ ?_;focus (push_cast [O,U,he,hl];done)|refine plE [] w2 ?_ ?_;focus (push_cast [O,U,he,hl];done)|refine plE [] nm ?_ ?_;focus (push_cast [O,U,he,hl];done)|refine plE [] kd ?_ ?_;focus (push_cast [O,U,he,hl];done)|refine plE [] nb ?_ ?_;focus (push_cast [O,U,he,hl];done)|refine plE [] ab ?_ ?_;focus (push_cast [O,U,he,hl];done)|refine plE [] nd ?_ ?_;focus (push_cast [O,U,he,hl];done)|refine plE [] lk ?_ ?_;focus (push_cast [O,U,he,hl];done)|refine pG ?_|refine pQ ?_|refine pU ?_|refine pif ?_ ?_<;>intro h<;>try exact pN h)<;>push_cast [O,U,he,hl])
  (refine retK_of [] ?_;push_cast [O,U])
  all_goals simp [h24]
 generalize hasN d=c7 at nd hnm ⊢
 cases c7
 case false =>
  push_cast [O,U]
  repeat' ((first|refine plE [] w1 ?_ ?_;focus (push_cast [O,U,he,hl];done)|refine plE [] w2 ?_ ?_;focus (push_cast [O,U,he,hl];done)|refine plE [] nm ?_ ?_;focus (push_cast [O,U,he,hl];done)|refine plE [] kd ?_ ?_;focus (push_cast [O,U,he,hl];done)|refine plE [] nb ?_ ?_;focus (push_cast [O,U,he,hl];done)|refine plE [] ab ?_ ?_;focus (push_cast [O,U,he,hl];done)|refine plE [] nd ?_ ?_;focus (push_cast [O,U,he,hl];done)|refine plE [] lk ?_ ?_;focus (push_cast [O,U,he,hl];done)|refine pG ?_|refine pQ ?_|refine pU ?_|refine pif ?_ ?_<;>intro h<;>try exact pN h)<;>push_cast [O,U,he,hl])
  (refine retK_of [] ?_;push_cast [O,U])
  all_goals simp [h24]
 have e2:=hnm rfl
 rw [e2] at lk nd
 generalize linkS (nodeS d.original)=c8 at lk ⊢
 cases c8
 case false =>
  push_cast [O,U]
  repeat' ((first|refine plE [] w1 ?_ ?_;focus (push_cast [O,U,he,hl];done)|refine plE [] w2 ?_ ?_;focus (push_cast [O,U,he,hl];done)|refine plE [] nm ?_ ?_;focus (push_cast [O,U,he,hl];done)|refine plE [] kd ?_ ?_;focus (push_cast [O,U,he,hl];done)|refine plE [] nb ?_ ?_;focus (push_cast [O,U,he,hl];done)|refine plE [] ab ?_ ?_;focus (push_cast [O,U,he,hl];done)|refine plE [] nd ?_ ?_;focus (push_cast [O,U,he,hl];done)|refine plE [] lk ?_ ?_;focus (push_cast [O,U,he,hl];done)|refine pG ?_|refine pQ ?_|refine pU ?_|refine pif ?_ ?_<;>intro h<;>try exact pN h)<;>push_cast [O,U,he,hl])
  (refine retK_of [] ?_;push_cast [O,U])
  all_goals simp [h24]
 case true =>
  push_cast [O,U]
  repeat' ((first|refine plE [] w1 ?_ ?_;focus (push_cast [O,U,he,hl];done)|refine plE [] w2 ?_ ?_;focus (push_cast [O,U,he,hl];done)|refine plE [] nm ?_ ?_;focus (push_cast [O,U,he,hl];done)|refine plE [] kd ?_ ?_;focus (push_cast [O,U,he,hl];done)|refine plE [] nb ?_ ?_;focus (push_cast [O,U,he,hl];done)|refine plE [] ab ?_ ?_;focus (push_cast [O,U,he,hl];done)|refine plE [] nd ?_ ?_;focus (push_cast [O,U,he,hl];done)|refine plE [] lk ?_ ?_;focus (push_cast [O,U,he,hl];done)|refine pG ?_|refine pQ ?_|refine pU ?_|refine pif ?_ ?_<;>intro h<;>try exact pN h)<;>push_cast [O,U,he,hl])
  (refine retK_of [] ?_;push_cast [O,U])
  all_goals simp [h24]
set_option maxRecDepth 20000
theorem change1_pure (d x:Dev):PCalls Tryz.prog 213 [.agg x.e,.c (.ptr 0 0)] (cshO d) fun r os=>r = .c (.v (.bool (decide (x.index=d.index))))∧os=cshO d:=by
 refine pcalls_of Tryz.func213 rfl (by simp [Tryz.ntmps213]) ?_
 rw [Tryz.ntmps213,Tryz.results213]
 push_cast [O,U]
 repeat' ((first|refine pG ?_|refine pQ ?_|refine pU ?_|refine pif ?_ ?_<;>intro h<;>try exact pN h)<;>push_cast [O,U])
 (refine retK_of [0] ?_;push_cast [O,U])
set_option maxHeartbeats 8000000 in
theorem change_pure (l:List Dev) (d:Dev) (hn:(l.map Dev.index).Nodup) (hl:l.length≤1000) (hz:∀ x ∈ l,x.original.size≤100000) (ha:∀ x ∈ l,x.attrs.length≤1000000000) (hk:d.ok) (hd:d.original.size≤100000) (hda:d.attrs.length≤1000000000) :
  PCalls Tryz.prog 176 [.agg (trE l),.agg d.e] [] fun r os=>r = .two (.agg (trE (if chgErr l d=0 then chgT l d else []))) (.c (.v (.int .i64 (chgErr l d))))∧os=[]:=by
 have hix:=indexFuncD_pure l (by omega) 213 [0] (cshO d) (fun x=>decide (x.index=d.index)) ⟨by kernel_rfl,fun x _=>change1_pure d x⟩
 have hck:=check_pure d hk
 have hcl:=clashes_pure l d (by omega) hz hd
 have hcs:=copies_pure l (by omega) ha
 have hcp:=copied_pure d hda
 refine pcalls_of Tryz.func176 rfl (by simp [Tryz.ntmps176]) ?_
 rw [Tryz.ntmps176,Tryz.results176]
 push_cast [O,U]
 have cB:CutB 9 []:=trivial
 repeat' ((first|refine pC ?_|refine pQC ?_|refine pU ?_|refine pif ?_ ?_<;>intro h<;>try exact pN h)<;>push_cast [O,U])
 (refine plc [1] (hix) ?_ ?_;push_cast [O,U];rintro r os ⟨k,hix2,rfl,rfl⟩;push_cast [O,U])
 rcases hix2 with ⟨rfl,hno⟩|⟨i,rfl,hi,hq,hpre⟩
 ·have hf:findD l d.index=none:=findD_none.2 fun x hx=>by simpa using hno x hx
  have he:chgErr l d=45:=by unfold chgErr;rw [hf]
  repeat' ((first|refine pC ?_|refine pQC ?_|refine pU ?_|refine pif ?_ ?_<;>intro h<;>try exact pN h)<;>push_cast [O,U])
  (refine retK_of [] ?_;push_cast [O,U,he])
 have hq:(l.getD i default).index=d.index:=by simpa using hq
 have hm:l.getD i default ∈ l:=by rw [getD_lt l hi];exact List.getElem_mem _
 have hf:findD l d.index=some (l.getD i default):=by rw [← hq];exact findD_mem hn hm
 have hT:=chgT_set hn hi hq
 obtain ⟨o,ho⟩:∃ o,l.getD i default=o:=⟨_,rfl⟩
 rw [ho] at hf
 have he:chgErr l d=if checkM d≠0 then 41 else if d.parent≠o.parent∨d.original≠o.original∨d.kind≠o.kind then 42 else if clashesM l d=true then 44 else 0:=by unfold chgErr;rw [hf]
 by_cases hc:checkM d=0
 case neg =>
  rw [if_pos hc] at he
  repeat' ((first|refine plE [] hck ?_ ?_|refine pC ?_|refine pQC ?_|refine pU ?_|refine pif ?_ ?_<;>intro h<;>try exact pN h)<;>push_cast [O,U,ho,hi,hc])
  (refine retK_of [] ?_;push_cast [O,U,he])
 rw [if_neg (fun h=>h hc)] at he
 rw [hc] at hck
 by_cases h1:d.parent=o.parent
 case neg =>
  rw [if_pos (.inl h1)] at he
  repeat' ((first|refine plE [] hck ?_ ?_|refine pC ?_|refine pQC ?_|refine pU ?_|refine pif ?_ ?_<;>intro h<;>try exact pN h)<;>push_cast [O,U,ho,hi,h1])
  (refine retK_of [] ?_;push_cast [O,U,he])
 by_cases h2:d.original=o.original
 case neg =>
  rw [if_pos (.inr (.inl h2))] at he
  have h1':(o.parent≠o.parent)=False:=by simp
  have h2n:(d.original≠o.original)=True:=eq_true h2
  repeat' ((first|refine plE [] hck ?_ ?_|refine pC ?_|refine pQC ?_|refine pU ?_|refine pif ?_ ?_<;>intro h<;>try exact pN h)<;>push_cast [O,U,ho,hi,h1,h1',h2n])
  (refine retK_of [] ?_;push_cast [O,U,he])
 have h1':(o.parent≠o.parent)=False:=by simp
 have h2':(o.original≠o.original)=False:=by simp
 have h3':(o.kind≠o.kind)=False:=by simp
 by_cases h3:d.kind=o.kind
 case neg =>
  rw [if_pos (.inr (.inr h3))] at he
  repeat' ((first|refine plE [] hck ?_ ?_|refine pC ?_|refine pQC ?_|refine pU ?_|refine pif ?_ ?_<;>intro h<;>try exact pN h)<;>push_cast [O,U,ho,hi,h1,h1',h2,h2',h3])
  (refine retK_of [] ?_;push_cast [O,U,he])
 rw [if_neg (fun h=>h.elim (fun h=>h h1) fun h=>h.elim (fun h=>h h2) fun h=>h h3)] at he
 cases hcc:clashesM l d with
 | true =>
  rw [hcc] at hcl he
  rw [if_pos rfl] at he
  repeat' ((first|refine plE [] hck ?_ ?_|refine plE [] hcl ?_ ?_|refine pC ?_|refine pQC ?_|refine pU ?_|refine pif ?_ ?_<;>intro h<;>try exact pN h)<;>push_cast [O,U,ho,hi,h1,h1',h2,h2',h3,h3'])
  (refine retK_of [] ?_;push_cast [O,U,he])
 | false =>
  rw [hcc] at hcl he
  rw [if_neg Bool.false_ne_true] at he
  have hset:(l.map Dev.d).set i d.d=(l.set i d).map Dev.d:=by rw [List.map_set]
  repeat' ((first|refine plE [] hck ?_ ?_|refine plE [] hcl ?_ ?_|refine plE [] hcs ?_ ?_|refine plE [] hcp ?_ ?_|refine pC ?_|refine pQC ?_|refine pU ?_|refine pif ?_ ?_<;>intro h<;>try exact pN h)<;>push_cast [O,U,ho,hi,h1,h1',h2,h2',h3,h3'])
  (refine retK_of [] ?_;push_cast [O,U,he,hT])
  rw [h1,h2,h3]
end Go.Proofs.YtmbbkfffcflfcaaGreatDoor
