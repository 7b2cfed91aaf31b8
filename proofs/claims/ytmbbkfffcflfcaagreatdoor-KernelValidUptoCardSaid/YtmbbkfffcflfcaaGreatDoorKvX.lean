import Derived.Test.YtmbbkfffcflfcaaGreatDoorRows
import Derived.Test.YtmbbkfffcflfcaaGreatDoorS49
namespace Go.Proofs.YtmbbkfffcflfcaaGreatDoor
open Go.RowKit
open IntWalk renaming iteOmega → O, toNatUp → U
set_option linter.unusedVariables false
set_option linter.unusedSimpArgs false
end Go.Proofs.YtmbbkfffcflfcaaGreatDoor
namespace Go.Proofs.YtmbbkfffcflfcaaGreatDoor
attribute [local irreducible] PL QL PWPr PCalls Weak RetK Kontr PA
open Go.RowKit
open IntWalk renaming iteOmega → O, toNatUp → U
set_option linter.unusedVariables false
set_option linter.unusedSimpArgs false
set_option maxRecDepth 20000
theorem atr_eq {a b:Atr} (h1:a.name=b.name) (h2:a.value=b.value):a=b:=by
 cases a;cases b
 simp only at h1 h2
 rw [h1,h2]
set_option maxHeartbeats 2000000 in
theorem sameattrs_pure (a b:List Atr) (ha:a.length≤9223372036854775807) (hb:b.length≤9223372036854775807) :
  PCalls Tryz.prog 122 [.c (.sl 2 (a.map Atr.d)),.c (.sl 2 (b.map Atr.d))] [] fun r os=>r = .c (.v (.bool (decide (a=b))))∧os=[]:=by
 refine pcalls_of Tryz.func122 rfl (by simp [Tryz.ntmps122]) ?_
 rw [Tryz.ntmps122,Tryz.results122]
 push_cast [O,U]
 have cB:CutB 6 []:=trivial
 by_cases hl:a.length=b.length
 case neg =>
  have hn:decide (a=b)=false:=decide_eq_false fun e=>hl (by rw [e])
  have hl2:¬ (a.length:Int)=(b.length:Int):=by omega
  repeat' ((first|refine pC ?_|refine pQC ?_|refine pU ?_|refine pif ?_ ?_<;>intro h<;>try exact pN h)<;>push_cast [O,U,hl,hl2])
  (refine retK_of [] ?_;push_cast [O,U,hn])
 have hl2:(a.length:Int)=(b.length:Int):=by omega
 repeat' ((first|refine pC ?_|refine pQC ?_|refine pU ?_|refine pif ?_ ?_<;>intro h<;>try exact pN h)<;>push_cast [O,U,hl,hl2])
 (apply pwp_loop3 (α:=Nat) 6 [] (fun k=>[(5,.c (.v (.int .i64 k)))]) (fun k=>[]) (fun k=>k≤a.length∧a.take k=b.take k) (fun k=>a.length - k) (0);(focus ((try push_cast [O,U]);rfl));(focus exact ⟨Nat.zero_le _,rfl⟩);(focus ((refine weak_fg ?_;try push_cast [O,U]))))
 rintro k ⟨hk,hpre⟩
 push_cast [O,U]
 by_cases hlt:k < a.length
 ·have hlt':k < b.length:=by omega
  by_cases h1:(a.getD k default).name=(b.getD k default).name
  ·by_cases h2:(a.getD k default).value=(b.getD k default).value
   ·have he:=atr_eq h1 h2
    repeat' ((first|refine pC ?_|refine pQC ?_|refine pU ?_|refine pif ?_ ?_<;>intro h<;>try exact pN h)<;>push_cast [O,U,h1,h2])
    refine ⟨k+1,⟨by omega,?_⟩,by (refine weak_fg ?_;push_cast [O,U]),by omega⟩
    rw [List.take_succ_eq_append_getElem hlt,List.take_succ_eq_append_getElem hlt',hpre,← getD_lt a hlt,← getD_lt b hlt',he]
   ·have hn:decide (a=b)=false:=decide_eq_false fun e=>h2 (by rw [e])
    repeat' ((first|refine pC ?_|refine pQC ?_|refine pU ?_|refine pif ?_ ?_<;>intro h<;>try exact pN h)<;>push_cast [O,U,h1,h2])
    (refine retK_of [] ?_;push_cast [O,U,hn])
  ·have hn:decide (a=b)=false:=decide_eq_false fun e=>h1 (by rw [e])
   repeat' ((first|refine pC ?_|refine pQC ?_|refine pU ?_|refine pif ?_ ?_<;>intro h<;>try exact pN h)<;>push_cast [O,U,h1])
   (refine retK_of [] ?_;push_cast [O,U,hn])
 ·have hn:decide (a=b)=true:=decide_eq_true (by
   have:=hpre
   rwa [List.take_of_length_le (by omega),List.take_of_length_le (by omega)] at this)
  repeat' ((first|refine pC ?_|refine pQC ?_|refine pU ?_|refine pif ?_ ?_<;>intro h<;>try exact pN h)<;>push_cast [O,U])
  (refine retK_of [] ?_;push_cast [O,U,hn])
end Go.Proofs.YtmbbkfffcflfcaaGreatDoor
namespace Go.Proofs.YtmbbkfffcflfcaaGreatDoor
attribute [local irreducible] PL QL PWPr PCalls Weak RetK Kontr PA
open Go.RowKit
open IntWalk renaming iteOmega → O, toNatUp → U
set_option linter.unusedVariables false
set_option linter.unusedSimpArgs false
set_option maxRecDepth 20000
set_option maxRecDepth 10000 in
set_option maxHeartbeats 8000000 in
theorem samedev_pure (a b:Dev) (ha:a.attrs.length≤9223372036854775807) (hb:b.attrs.length≤9223372036854775807) :
  PCalls Tryz.prog 69 [.agg a.e,.agg b.e] [] fun r os=>r = .c (.v (.bool (decide (a=b))))∧os=[]:=by
 refine pcalls_of Tryz.func69 rfl (by simp [Tryz.ntmps69]) ?_
 rw [Tryz.ntmps69,Tryz.results69]
 rcases a with ⟨a1,a2,a3,a4,a5,a6,a7,a8,a9,al⟩
 rcases b with ⟨b1,b2,b3,b4,b5,b6,b7,b8,b9,bl⟩
 simp only at ha hb
 push_cast [O,U]
 by_cases e1:a1=b1
 case neg =>
  repeat' ((first|refine pG ?_|refine pQ ?_|refine pU ?_|refine pif ?_ ?_<;>intro h<;>try exact pN h)<;>push_cast [O,U,e1])
  (refine retK_of [] ?_;push_cast [O,U])
  simp [e1]
 subst e1
 by_cases e2:a2=b2
 case neg =>
  repeat' ((first|refine pG ?_|refine pQ ?_|refine pU ?_|refine pif ?_ ?_<;>intro h<;>try exact pN h)<;>push_cast [O,U,e2])
  (refine retK_of [] ?_;push_cast [O,U])
  simp [e2]
 subst e2
 by_cases e3:a3=b3
 case neg =>
  repeat' ((first|refine pG ?_|refine pQ ?_|refine pU ?_|refine pif ?_ ?_<;>intro h<;>try exact pN h)<;>push_cast [O,U,e3])
  (refine retK_of [] ?_;push_cast [O,U])
  simp [e3]
 subst e3
 by_cases e4:a4=b4
 case neg =>
  repeat' ((first|refine pG ?_|refine pQ ?_|refine pU ?_|refine pif ?_ ?_<;>intro h<;>try exact pN h)<;>push_cast [O,U,e4])
  (refine retK_of [] ?_;push_cast [O,U])
  simp [e4]
 subst e4
 by_cases e5:a5=b5
 case neg =>
  repeat' ((first|refine pG ?_|refine pQ ?_|refine pU ?_|refine pif ?_ ?_<;>intro h<;>try exact pN h)<;>push_cast [O,U,e5])
  (refine retK_of [] ?_;push_cast [O,U])
  simp [e5]
 subst e5
 by_cases e6:a6=b6
 case neg =>
  repeat' ((first|refine pG ?_|refine pQ ?_|refine pU ?_|refine pif ?_ ?_<;>intro h<;>try exact pN h)<;>push_cast [O,U,e6])
  (refine retK_of [] ?_;push_cast [O,U])
  simp [e6]
 subst e6
 by_cases e7:a7=b7
 case neg =>
  repeat' ((first|refine pG ?_|refine pQ ?_|refine pU ?_|refine pif ?_ ?_<;>intro h<;>try exact pN h)<;>push_cast [O,U,e7])
  (refine retK_of [] ?_;push_cast [O,U])
  simp [e7]
 subst e7
 by_cases e8:a8=b8
 case neg =>
  repeat' ((first|refine pG ?_|refine pQ ?_|refine pU ?_|refine pif ?_ ?_<;>intro h<;>try exact pN h)<;>push_cast [O,U,e8])
  (refine retK_of [] ?_;push_cast [O,U])
  simp [e8]
 subst e8
 by_cases e9:a9=b9
 case neg =>
  repeat' ((first|refine pG ?_|refine pQ ?_|refine pU ?_|refine pif ?_ ?_<;>intro h<;>try exact pN h)<;>push_cast [O,U,e9])
  (refine retK_of [] ?_;push_cast [O,U])
  simp [e9]
 subst e9
 repeat' ((first|refine plE [] (sameattrs_pure al bl ha hb) ?_ ?_|refine pG ?_|refine pQ ?_|refine pU ?_|refine pif ?_ ?_<;>intro h<;>try exact pN h)<;>push_cast [O,U])
 (refine retK_of [] ?_;push_cast [O,U])
 simp
theorem sametexts_pure (a b:List ByteArray) (ha:a.length≤1000000000) (hb:b.length≤1000000000) :
  PCalls Tryz.prog 37 [.c (.sl 1 (a.map strD)),.c (.sl 1 (b.map strD))] [] fun r os=>r = .c (.v (.bool (decide (a=b))))∧os=[]:=by
 refine pcalls_of Tryz.func37 rfl (by simp [Tryz.ntmps37]) ?_
 rw [Tryz.ntmps37,Tryz.results37]
 push_cast [O,U]
 by_cases hl:a.length=b.length
 ·repeat' ((first|refine pG ?_|refine pQ ?_|refine pU ?_|refine pif ?_ ?_<;>intro h<;>try exact pN h)<;>push_cast [O,U])
  refine pwp_loop2 (α:=Nat) (fun k=>k≤a.length∧a.take k=b.take k) (fun k=>⟨[(5,.c (.v (.int .i64 k))),(0,.c (.sl 1 (a.map strD))),(1,.c (.sl 1 (b.map strD)))],[]⟩) (fun k=>a.length - k) 0 ⟨by omega,by simp⟩ (by (refine weak_fg ?_;push_cast [O,U])) ?_
  rintro k ⟨hk,hpre⟩
  by_cases hlt:k < a.length
  ·have hlt':k < b.length:=by omega
   have e1:=getD_lt a hlt
   have e2:=getD_lt b hlt'
   repeat' ((first|refine pG ?_|refine pQ ?_|refine pU ?_|refine pif ?_ ?_<;>intro h<;>try exact pN h)<;>push_cast [O,U])
   ·(refine retK_of [] ?_;push_cast [O,U])
    rw [e1,e2] at h
    have:¬ a=b:=fun e=>by subst e;simp at h
    simp [this]
   ·refine ⟨k+1,⟨by omega,?_⟩,by (refine weak_fg ?_;push_cast [O,U]),by omega⟩
    rw [e1,e2] at h
    have h':a[k]=b[k]:=by simpa using h
    rw [List.take_succ_eq_append_getElem hlt,List.take_succ_eq_append_getElem hlt',hpre,h']
  ·rw [List.take_of_length_le (by omega),List.take_of_length_le (by omega)] at hpre
   repeat' ((first|refine pG ?_|refine pQ ?_|refine pU ?_|refine pif ?_ ?_<;>intro h<;>try exact pN h)<;>push_cast [O,U])
   (refine retK_of [] ?_;push_cast [O,U])
   simp [hpre]
 ·have:¬ a=b:=fun e=>hl (by rw [e])
  repeat' ((first|refine pG ?_|refine pQ ?_|refine pU ?_|refine pif ?_ ?_<;>intro h<;>try exact pN h)<;>push_cast [O,U])
  (refine retK_of [] ?_;push_cast [O,U])
  simp [this]
end Go.Proofs.YtmbbkfffcflfcaaGreatDoor
namespace Go.Proofs.YtmbbkfffcflfcaaGreatDoor
open Go.RowKit
open IntWalk renaming iteOmega → O, toNatUp → U
set_option linter.unusedVariables false
set_option linter.unusedSimpArgs false
theorem drive_err {l:List Dev} (h:TreeV l) {d:Dev} (hd:d ∈ l) {v:ByteArray} (hv:v=⟨#[]⟩∨validS v=true):chgErr l (drvD d v)=0:=by
 have hf:findD l (drvD d v).index=some d:=findD_mem h.okt.nodup hd
 have h1:=h.chk d hd
 have n1:=checkM_nums h1
 have n2:=checkM_named h1
 have hM:namedM (drvD d v)=true:=by
  unfold namedM at n2 ⊢
  simp only [Bool.and_eq_true] at n2 ⊢
  refine ⟨⟨n2.1.1,?_⟩,n2.2⟩
  rw [Bool.or_eq_true,decide_eq_true_eq]
  exact hv
 have hc:checkM (drvD d v)=0:=by
  have hN:numsM (drvD d v)=numsM d:=rfl
  unfold checkM at h1 ⊢
  rw [n1,n2] at h1
  rw [hN,n1,hM]
  exact h1
 unfold chgErr
 rw [hf]
 simp only
 rw [if_neg (fun h=>h hc),if_neg (by rintro (h|h|h)<;>exact h rfl),if_neg]
 intro h2
 unfold clashesM at h2
 obtain ⟨x,hx,h3⟩:=List.any_eq_true.1 h2
 rw [Bool.and_eq_true,Bool.not_eq_true',decide_eq_false_iff_not] at h3
 have h4:=h.ncl x hx d hd (fun e=>h3.1 (by rw [e];rfl))
 have h5:clashM x (drvD d v)=clashM x d:=rfl
 rw [h5,h4] at h3
 cases h3.2
end Go.Proofs.YtmbbkfffcflfcaaGreatDoor
namespace Go.Proofs.YtmbbkfffcflfcaaGreatDoor
open Go.RowKit
open IntWalk renaming iteOmega → O, toNatUp → U
set_option linter.unusedVariables false
set_option linter.unusedSimpArgs false
theorem drive_ok {k:Ker} (h:TreeV k.tree) {d:Dev} (hd:d ∈ k.tree) {v:ByteArray} (hv:v=⟨#[]⟩∨validS v=true):k.drive d v=((k.withT (chgT k.tree (drvD d v))).emit (if v=⟨#[]⟩ then 6 else 5) d.index ⟨#[]⟩,0):=by
 unfold Ker.drive
 rw [if_pos (drive_err h hd hv)]
theorem firstM_in {k:Ker} {d:Dev} {s:ByteArray} (h:firstM k d=some s):s ∈ k.loaded:=List.mem_of_find?_eq_some h
theorem add_err {k:Ker} (h:KerI k) (p:ByteArray) (x:Dev) (he:(k.add p x).2.2≠0):(k.add p x).1=k:=by
 unfold Ker.add at he ⊢
 split
 ·rfl
 ·rename_i h1
  rw [if_neg h1] at he
  by_cases h2:insErr k.tree (newD k (parI k.tree p) x)=0
  ·rw [if_neg (fun h=>h h2)] at he ⊢
   have hp:=h.put h2 rfl
   cases hf:firstM k (newD k (parI k.tree p) x) with
   | none=>rw [hf] at he;exact absurd rfl he
   | some s =>
    rw [hf] at he
    simp only at he
    rw [drive_ok hp.tree (insT_in.2 (.inl rfl)) (.inr (h.name (firstM_in hf)))] at he
    exact absurd rfl he
  ·rw [if_pos h2]
theorem drive_keep (k:Ker) (d:Dev) (v:ByteArray) (he:(k.drive d v).2≠0):(k.drive d v).1=k:=by
 unfold Ker.drive at he ⊢
 split
 ·rename_i h;rw [if_pos h] at he;exact absurd rfl he
 ·rfl
theorem set_err (k:Ker) (d:Dev) (n:ByteArray) (na:List Atr) (same:Bool) (he:(k.set d n na same).2≠0):(k.set d n na same).1=k:=by
 unfold Ker.set at he ⊢
 split
 ·rfl
 ·rename_i h1
  rw [if_neg h1] at he
  split
  ·rfl
  ·rename_i h2;rw [if_neg h2] at he;exact absurd rfl he
theorem rename_err (k:Ker) (d:Dev) (u:ByteArray) (he:(k.rename d u).2≠0):(k.rename d u).1=k:=by
 unfold Ker.rename at he ⊢
 split
 ·rfl
 ·rename_i h1
  rw [if_neg h1] at he
  split
  ·rfl
  ·rename_i h2;rw [if_neg h2] at he;exact absurd rfl he
theorem bind_err (k:Ker) (d:Dev) (v:ByteArray) (he:(k.bind d v).2≠0):(k.bind d v).1=k:=by
 unfold Ker.bind at he ⊢
 split
 ·rfl
 ·rename_i h1
  rw [if_neg h1] at he
  split
  ·rfl
  ·rename_i h2;rw [if_neg h2] at he;exact drive_keep k d v he
theorem unbind_err (k:Ker) (d:Dev) (he:(k.unbind d).2≠0):(k.unbind d).1=k:=by
 unfold Ker.unbind at he ⊢
 split
 ·rfl
 ·rename_i h1;rw [if_neg h1] at he;exact drive_keep k d _ he
theorem load_err (k:Ker) (n:ByteArray) (he:(k.load n).2≠0):(k.load n).1=k:=by
 unfold Ker.load at he ⊢
 cases hm:modOf k.mods n with
 | none=>rfl
 | some m =>
  rw [hm] at he
  simp only at he ⊢
  split
  ·rfl
  ·rename_i h1;rw [if_neg h1] at he;exact absurd rfl he
theorem unload_err (k:Ker) (n:ByteArray) (he:(k.unload n).2≠0):(k.unload n).1=k:=by
 unfold Ker.unload at he ⊢
 cases hm:modOf k.mods n with
 | none=>rfl
 | some m =>
  rw [hm] at he
  simp only at he ⊢
  split
  ·rfl
  ·rename_i h1;rw [if_neg h1] at he;exact absurd rfl he
theorem one_err (sa:List Atr → ByteArray → ByteArray → List Atr) (k:Ker) (op:Opr) (d:Dev) (he:(k.one sa op d).2≠0):(k.one sa op d).1=k:=by
 unfold Ker.one at he ⊢
 split
 ·rename_i h;rw [if_pos h] at he;exact absurd rfl he
 ·rename_i h1;rw [if_neg h1] at he
  split
  ·rename_i h;rw [if_pos h] at he;exact set_err _ _ _ _ _ he
  ·rename_i h2;rw [if_neg h2] at he
   split
   ·rename_i h;rw [if_pos h] at he;exact absurd rfl he
   ·rename_i h3;rw [if_neg h3] at he
    split
    ·rename_i h;rw [if_pos h] at he;exact rename_err _ _ _ he
    ·rename_i h4;rw [if_neg h4] at he
     split
     ·rename_i h;rw [if_pos h] at he;exact bind_err _ _ _ he
     ·rename_i h5;rw [if_neg h5] at he;exact unbind_err _ _ he
theorem do_err (sa:List Atr → ByteArray → ByteArray → List Atr) {k:Ker} (h:KerI k) (op:Opr) (he:(k.doM sa op).2.2≠0):(k.doM sa op).1=k:=by
 unfold Ker.doM at he ⊢
 split
 ·rename_i h1;rw [if_pos h1] at he;exact add_err h _ _ he
 ·rename_i h1;rw [if_neg h1] at he
  split
  ·rename_i h2;rw [if_pos h2] at he;exact load_err _ _ he
  ·rename_i h2;rw [if_neg h2] at he
   split
   ·rename_i h3;rw [if_pos h3] at he;exact unload_err _ _ he
   ·rename_i h3;rw [if_neg h3] at he
    split
    ·rfl
    ·rename_i h4;rw [if_neg h4] at he
     cases ha:atD k.tree op.path with
     | none=>rfl
     | some d=>rw [ha] at he;exact one_err _ _ _ _ he
end Go.Proofs.YtmbbkfffcflfcaaGreatDoor
namespace Go.Proofs.YtmbbkfffcflfcaaGreatDoor
attribute [local irreducible] PL QL PWPr PCalls Weak RetK Kontr PA
open Go.RowKit
open IntWalk renaming iteOmega → O, toNatUp → U
set_option linter.unusedVariables false
set_option linter.unusedSimpArgs false
set_option maxRecDepth 20000
set_option maxHeartbeats 4000000 in
theorem sametree_pure (a b:List Dev) (ha:a.length≤1000000000) (hb:b.length≤1000000000) (hda:∀ d ∈ a,d.attrs.length≤1000000000) (hdb:∀ d ∈ b,d.attrs.length≤1000000000) :
  PCalls Tryz.prog 36 [.agg (trE a),.agg (trE b)] [] fun r os=>r = .c (.v (.bool (decide (a=b))))∧os=[]:=by
 refine pcalls_of Tryz.func36 rfl (by simp [Tryz.ntmps36]) ?_
 rw [Tryz.ntmps36,Tryz.results36]
 push_cast [O,U]
 have cB:CutB 6 []:=trivial
 by_cases hl:a.length=b.length
 case neg =>
  have hne:a≠b:=fun e=>hl (by rw [e])
  have hl2:¬ (a.length:Int)=(b.length:Int):=by omega
  repeat' ((first|refine pC ?_|refine pQC ?_|refine pU ?_|refine pif ?_ ?_<;>intro h<;>try exact pN h)<;>push_cast [O,U,hl2])
  (refine retK_of [] ?_;push_cast [O,U,hne])
 have hl2:(a.length:Int)=(b.length:Int):=by omega
 have hl3:((b.length:Int)≠(b.length:Int))=False:=by simp
 repeat' ((first|refine pC ?_|refine pQC ?_|refine pU ?_|refine pif ?_ ?_<;>intro h<;>try exact pN h)<;>push_cast [O,U,hl2,hl3])
 (apply pwp_loop3 (α:=Nat) 6 [] (fun k=>[(5,.c (.v (.int .i64 k)))]) (fun k=>[]) (fun k=>k≤a.length∧a.take k=b.take k) (fun k=>a.length - k) (0);(focus ((try push_cast [O,U]);rfl));(focus exact ⟨by omega,by simp⟩);(focus ((refine weak_fg ?_;try push_cast [O,U]))))
 rintro k ⟨hk,hpre⟩
 push_cast [O,U]
 by_cases hlt:k < a.length
 ·have hlt':k < b.length:=by omega
  have hm1:a.getD k default ∈ a:=by rw [getD_lt a hlt];exact List.getElem_mem _
  have hm2:b.getD k default ∈ b:=by rw [getD_lt b hlt'];exact List.getElem_mem _
  have hc:=samedev_pure (a.getD k default) (b.getD k default) (by have:=hda _ hm1;omega) (by have:=hdb _ hm2;omega)
  have hlt2:(k:Int) < (b.length:Int):=by omega
  by_cases he:a.getD k default=b.getD k default
  ·rw [decide_eq_true he] at hc
   have hp:a.take (k+1)=b.take (k+1):=by
    rw [getD_lt a hlt,getD_lt b hlt'] at he
    rw [List.take_succ_eq_append_getElem hlt,List.take_succ_eq_append_getElem hlt',hpre,he]
   repeat' ((first|(refine ql_call2 false rfl rfl (by kernel_rfl) (hc) (fun r os h=>h.1) rfl ?_ ?_;push_cast [O,U,hl2,hlt2,hlt'];refine ql_of_qops ?_;push_cast [O,U,hl2,hlt2,hlt'])|refine pC ?_|refine pQC ?_|refine pU ?_|refine pif ?_ ?_<;>intro h<;>try exact pN h)<;>push_cast [O,U,hl2,hlt2,hlt'])
   exact ⟨k+1,⟨by omega,hp⟩,by (refine weak_fg ?_;push_cast [O,U]),by omega⟩
  ·rw [decide_eq_false he] at hc
   have hne:a≠b:=fun e=>he (by rw [e])
   repeat' ((first|(refine ql_call2 false rfl rfl (by kernel_rfl) (hc) (fun r os h=>h.1) rfl ?_ ?_;push_cast [O,U,hl2,hlt2,hlt'];refine ql_of_qops ?_;push_cast [O,U,hl2,hlt2,hlt'])|refine pC ?_|refine pQC ?_|refine pU ?_|refine pif ?_ ?_<;>intro h<;>try exact pN h)<;>push_cast [O,U,hl2,hlt2,hlt'])
   (refine retK_of [] ?_;push_cast [O,U,hne])
 ·rw [List.take_of_length_le (by omega),List.take_of_length_le (by omega)] at hpre
  have hk2:k=b.length:=by omega
  subst hk2
  repeat' ((first|refine pC ?_|refine pQC ?_|refine pU ?_|refine pif ?_ ?_<;>intro h<;>try exact pN h)<;>push_cast [O,U,hl2])
  (refine retK_of [] ?_;push_cast [O,U,hpre])
end Go.Proofs.YtmbbkfffcflfcaaGreatDoor
namespace Go.Proofs.YtmbbkfffcflfcaaGreatDoor
attribute [local irreducible] PL QL PWPr PCalls Weak RetK Kontr PA PCallsG
open Go.RowKit
open IntWalk renaming iteOmega → O, toNatUp → U
set_option linter.unusedVariables false
set_option linter.unusedSimpArgs false
set_option maxRecDepth 20000
theorem klast_pure (k:Ker):PCalls Tryz.prog 32 [.c (.ptr 0 0)] (kerO k) fun r os=>r = .c (.v (.int .i64 k.evs.length))∧os=kerO k:=by
 refine pcalls_of Tryz.func32 rfl (by simp [Tryz.ntmps32]) ?_
 rw [Tryz.ntmps32,Tryz.results32]
 push_cast [O,U]
 repeat' ((first|refine pG ?_|refine pQ ?_|refine pU ?_|refine pif ?_ ?_<;>intro h<;>try exact pN h)<;>push_cast [O,U])
 (refine retK_of [0,1,2] ?_;push_cast [O,U])
end Go.Proofs.YtmbbkfffcflfcaaGreatDoor
namespace Go.Proofs.YtmbbkfffcflfcaaGreatDoor
attribute [local irreducible] PL QL PWPr PCalls Weak RetK Kontr PA
open Go.RowKit
open IntWalk renaming iteOmega → O, toNatUp → U
set_option linter.unusedVariables false
set_option linter.unusedSimpArgs false
set_option maxRecDepth 20000
theorem find_take {l:List Dev} (h:Okp l) {i:Nat} (hi:i < l.length):findD (l.take i) (l.getD i default).index=none:=findD_none.2 fun d hd e=>by
 obtain ⟨j,hj,rfl⟩:=List.mem_take_iff_getElem.1 hd
 have hjl:j < l.length:=by omega
 have:=(List.pairwise_iff_getElem.1 h.nodup) j i (by rw [List.length_map];exact hjl) (by rw [List.length_map];exact hi) (by omega)
 rw [List.getElem_map,List.getElem_map] at this
 rw [getD_lt l hi] at e
 exact this e
theorem find_up {l:List Dev} (h:Okp l) {i:Nat} (hi:i < l.length) (hp:(l.getD i default).parent≠0):(findD (l.take i) (l.getD i default).parent).isSome=true:=by
 rw [getD_lt l hi] at hp ⊢
 rcases h.par i hi with h0|⟨j,hj,he⟩
 ·exact absurd h0 hp
 ·cases hf:findD (l.take i) l[i].parent with
  | some x=>rfl
  | none=>exact absurd he (findD_none.1 hf l[j] (List.mem_take_iff_getElem.2 ⟨j,by omega,rfl⟩))
theorem own_at {l:List Dev} (h:Okp l) {i:Nat} (hi:i < l.length):origM l (l.getD i default).index=ownM l (l.getD i default):=by
 have hm:l.getD i default ∈ l:=by rw [getD_lt l hi];exact List.getElem_mem _
 unfold ownM
 exact orig_step h hm
theorem lk_self {l:List Dev} (h:Okp l) {i:Nat} (hi:i < l.length):lkP false (.c (.v (.string ⟨#[]⟩))) true (mget (origE l i) (.i .i64 (l.getD i default).index))=some (.two (.c (.v (.string (⟨#[]⟩)))) (.c (.v (.bool false)))):=by
 rw [mget_origE,find_take h hi]
 rfl
theorem lk_par {l:List Dev} (h:Okp l) {i:Nat} (hi:i < l.length):lkP false (.c (.v (.string ⟨#[]⟩))) true (mget (origE l i) (.i .i64 (l.getD i default).parent))=some (.two (.c (.v (.string (placeM l (l.getD i default).parent)))) (.c (.v (.bool ((findD (l.take i) (l.getD i default).parent).isSome))))):=by
 rw [mget_origE]
 cases hf:findD (l.take i) (l.getD i default).parent with
 | none=>rw [above_eq h hi hf];rfl
 | some d=>rfl
theorem lk_prev {l:List Dev} (h:Okp l) {i j:Nat} (hi:i < l.length) (hj:j < i):lkP false (.c (.v (.string ⟨#[]⟩))) false (mget (origE l i) (.i .i64 (l.getD j default).index))=some (.c (.v (.string (placeM l (l.getD j default).index)))):=by
 rw [mget_origE]
 have hjl:j < l.length:=by omega
 cases hf:findD (l.take i) (l.getD j default).index with
 | none=>exact absurd (by rw [getD_lt l hjl]) (findD_none.1 hf l[j] (List.mem_take_iff_getElem.2 ⟨j,by omega,rfl⟩))
 | some d=>rfl
theorem clashes_no {l:List Dev} (h:TreeV l) {i:Nat} (hi:i < l.length):clashesM (l.take i) (l.getD i default)=false:=by
 unfold clashesM
 rw [List.any_eq_false]
 intro x hx
 have hm:l.getD i default ∈ l:=by rw [getD_lt l hi];exact List.getElem_mem _
 by_cases he:x.index=(l.getD i default).index
 ·rw [he];simp
 ·rw [h.ncl x (List.mem_of_mem_take hx) _ hm (fun e=>he (by rw [e]))];simp
set_option maxHeartbeats 16000000 in
theorem tcheck_pure (l:List Dev) (h:TreeV l):PCalls Tryz.prog 35 [.agg (trE l)] [] fun r os=>r = .c (.v (.int .i64 0))∧os=[]:=by
 have hp:=h.okt.p
 have hlen:=h.len
 have hsm:∀ d ∈ l,Small d:=fun d hd=>check_small (h.chk d hd)
 have hz:∀ d ∈ l,d.original.size≤1000:=fun d hd=>by have:=(hsm d hd).orig;omega
 refine pcalls_of Tryz.func35 rfl (by simp [Tryz.ntmps35]) ?_
 rw [Tryz.ntmps35,Tryz.results35]
 push_cast [O,U]
 have cB:CutB 11 [17,18,19,43,47,49,57,61,78]:=trivial
 have hlen':¬ (256:Int) < (l.length:Int):=by omega
 repeat' ((first|refine pC ?_|refine pQC ?_|refine pU ?_|refine pif ?_ ?_<;>intro h<;>try exact pN h)<;>push_cast [O,U,hlen'])
 (apply pwp_loop3 (α:=Nat) 11 [17,18,19,43,47,49,57,61,78] (fun i=>[(19,.c (.v (.int .i64 i)))]) (fun i=>[(1,.map (some .i64) false (origE l i))]) (fun i=>i≤l.length) (fun i=>l.length - i) (0);(focus ((try push_cast [O,U]);rfl));(focus exact (Nat.zero_le _));(focus ((refine weak_fg ?_;try push_cast [O,U]);(try (rfl)))))
 intro i hi
 push_cast [O,U]
 by_cases hlt:i < l.length
 case neg =>
  repeat' ((first|refine pC ?_|refine pQC ?_|refine pU ?_|refine pif ?_ ?_<;>intro h<;>try exact pN h)<;>push_cast [O,U])
  (refine retK_of [] ?_;push_cast [O,U])
 have hm:l.getD i default ∈ l:=by rw [getD_lt l hlt];exact List.getElem_mem _
 have ls:=lk_self hp hlt
 have lp:=lk_par hp hlt
 have hst:=(place_step hp hlt).symm
 have hpo:=put_orig hp hlt
 have hps:=place_size (by omega) hz (l.getD i default).parent
 have hpz:=place_size (show l.length≤1000 by omega) hz (l.getD i default).index
 have hoz:=hz _ hm
 have hck:=check_pure (l.getD i default) (hsm _ hm).ok
 rw [h.chk _ hm] at hck
 have hdp:=depth_pure (placeM l (l.getD i default).index) (by omega)
 have hdl:depthM (placeM l (l.getD i default).index)=(origM l (l.getD i default).index).length:=by
  rw [own_at hp hlt,← newP_depth h.okt (h.chk _ hm)]
  unfold newP
  rw [hst]
 rw [hdl] at hdp
 have hd7:¬ (7:Int) < ((origM l (l.getD i default).index).length:Int):=by have:=h.dep _ hm;omega
 have hcl:=clashes_pure (l.take i) (l.getD i default) (by rw [List.length_take];omega) (fun x hx=>by have:=hz x (List.mem_of_mem_take hx);omega) (by omega)
 rw [clashes_no h hlt] at hcl
 refine pwp_seq fun K1 hK1=>?_
 refine pwp_region ?_
 push_cast [O,U]
 refine Kont.use (by assumption) ?_
 refine pwp_seq fun K2 hK2=>?_
 refine pwp_cond ?_
 push_cast [O,U]
 refine ⟨fun _=>?_,fun h'=>absurd (show (i:Int) < (l.length:Int) by omega) (of_decide_eq_false h')⟩
 refine pwp_skip ?_
 push_cast [O,U]
 refine Kont.use (by assumption) ?_
 refine pwp_seq fun K3 hK3=>?_
 refine pwp_block ?_
 refine pwp_seq fun K4 hK4=>?_
 refine pwp_region ?_
 push_cast [O,U]
 refine Kont.use (by assumption) ?_
 refine pwp_cut 11 [17,18,19] ?_
 push_cast [O,U]
 refine pwp_seq fun K5 hK5=>?_
 refine pwp_regionL ?_
 refine pl_run1 (q:=.c (.mp 1)) rfl (by push_cast [O,U]) (by push_cast [O,U]) ?_
 push_cast [O,U]
 refine pl_run1 (q:=.c (.ptr 2 0)) rfl (by push_cast [O,U]) (by push_cast [O,U]) ?_
 push_cast [O,U]
 refine pl_run1 (q:=.c (.v (.int .i64 ((l.getD i default).index)))) rfl (by push_cast [O,U]) (by push_cast [O,U]) ?_
 push_cast [O,U]
 refine pl_run1 (q:=.two (.c (.v (.string (⟨#[]⟩)))) (.c (.v (.bool false)))) rfl (by push_cast [O,U,ls]) (by push_cast [O,U]) ?_
 push_cast [O,U]
 refine pl_of_pops ?_
 push_cast [O,U]
 refine Kont.use (by assumption) ?_
 refine pwp_cut 11 [17,18,19] ?_
 push_cast [O,U]
 refine pwp_seq fun K6 hK6=>?_
 refine pwp_regionL ?_
 refine pl_run1 (q:=.c (.mp 1)) rfl (by push_cast [O,U]) (by push_cast [O,U]) ?_
 push_cast [O,U]
 refine pl_run1 (q:=.c (.ptr 2 1)) rfl (by push_cast [O,U]) (by push_cast [O,U]) ?_
 push_cast [O,U]
 refine pl_run1 (q:=.c (.v (.int .i64 ((l.getD i default).parent)))) rfl (by push_cast [O,U]) (by push_cast [O,U]) ?_
 push_cast [O,U]
 refine pl_run1 (q:=.two (.c (.v (.string (placeM l (l.getD i default).parent)))) (.c (.v (.bool ((findD (l.take i) (l.getD i default).parent).isSome))))) rfl (by push_cast [O,U,lp]) (by push_cast [O,U]) ?_
 push_cast [O,U]
 refine pl_of_pops ?_
 push_cast [O,U]
 refine Kont.use (by assumption) ?_
 refine pwp_cut 11 [17,18,19] ?_
 push_cast [O,U]
 refine pwp_seq fun K7 hK7=>?_
 refine pwp_regionL ?_
 refine pl_run1 (q:=.c (.v (.string (placeM l (l.getD i default).parent)))) rfl (by push_cast [O,U]) (by push_cast [O,U]) ?_
 push_cast [O,U]
 refine pl_cat rfl rfl rfl rfl ?_ (by push_cast [O,U]) ?_
 ·rw [show (⟨#[47]⟩:ByteArray).size=1 from rfl];omega
 push_cast [O,U]
 refine pl_run1 (q:=.c (.ptr 2 3)) rfl (by push_cast [O,U]) (by push_cast [O,U]) ?_
 push_cast [O,U]
 refine pl_run1 (q:=.c (.v (.string (l.getD i default).original))) rfl (by push_cast [O,U]) (by push_cast [O,U]) ?_
 push_cast [O,U]
 refine pl_cat rfl rfl rfl rfl ?_ (by push_cast [O,U]) ?_
 ·rw [ByteArray.size_append,show (⟨#[47]⟩:ByteArray).size=1 from rfl];omega
 push_cast [O,U]
 refine pl_of_pops ?_
 push_cast [O,U]
 refine Kont.use (by assumption) ?_
 rw [hst]
 refine pwp_cut 11 [17,18,19] ?_
 push_cast [O,U]
 have hsn:(l.getD i default).parent=0∨((l.getD i default).parent≠0∧(findD (l.take i) (l.getD i default).parent).isSome=true):=by
  by_cases h0:(l.getD i default).parent=0
  ·exact .inl h0
  ·exact .inr ⟨h0,find_up hp hlt h0⟩
 obtain ⟨P,hP⟩:∃ P,placeM l (l.getD i default).index=P:=⟨_,rfl⟩
 obtain ⟨S0,hS0⟩:∃ S0,(findD (l.take i) (l.getD i default).parent).isSome=S0:=⟨_,rfl⟩
 obtain ⟨G,hG⟩:∃ G,(origM l (l.getD i default).index).length=G:=⟨_,rfl⟩
 have hG7:¬ (7:Int) < (G:Int):=by rw [← hG];exact hd7
 rw [hP] at hdp hpo ⊢
 rw [hG] at hdp
 rw [hS0] at hsn ⊢
 rcases hsn with h0|⟨h0,rfl⟩
 ·by_cases hi0:i=0
  ·subst hi0
   repeat' ((first|refine plE [] hck ?_ ?_|refine plE [] hdp ?_ ?_|(refine pwp_cut 11 [17,18,19,43,47,49,57,61,78] ?_;apply pwp_drawn_to;(focus kernel_rfl);(focus (simp only [List.length_cons,List.length_nil,Nat.reduceAdd];(repeat' first|((refine plE [] hcl ?_ ?_<;>push_cast [O,U,  h0,hG7,hpo]))|((first|refine pah 0 ?_|refine pah 2 ?_|refine pah 3 ?_|refine pah 6 ?_);push_cast [O,U,  h0,hG7,hpo])|(refine pad ?_;first|with_reducible exact weak_cutS 11 [17,18,19,43,47,49,57,61,78] _|(refine weak_fg ?_;push_cast [O,U,  h0,hG7,hpo]))|((first|refine pas [1] ?_|refine pas [4] ?_|refine pas [5] ?_);push_cast [O,U,  h0,hG7,hpo])|((first|refine pas [1,4] ?_);push_cast [O,U,  h0,hG7,hpo];refine ⟨?_,?_⟩));done));push_cast [O,U,  h0,hG7,hpo])|refine pC ?_|refine pQC ?_|refine pU ?_|refine pif ?_ ?_<;>intro h<;>try exact pN h)<;>push_cast [O,U,h0,hG7,hpo])
   exact ⟨1,by omega,by (refine weak_fg ?_;push_cast [O,U,hpo]),by omega⟩
  ·obtain ⟨j,rfl⟩:∃ j,i=j+1:=⟨i - 1,by omega⟩
   have hjl:j < l.length:=by omega
   have lkv:=lk_prev hp hlt (show j < j+1 by omega)
   have hpj:=place_size (show l.length≤1000 by omega) hz (l.getD j default).index
   have hmj:l.getD j default ∈ l:=by rw [getD_lt l hjl];exact List.getElem_mem _
   have hcm:cmpP (placeM l (l.getD j default).index) P < 0:=by
    have h1:=newP_cmp h.okt (h.chk _ hm) hmj
    unfold newP at h1
    rw [hst,hP,← own_at hp hlt] at h1
    rw [h1,getD_lt l hjl,getD_lt l hlt]
    exact (List.pairwise_iff_getElem.1 h.ord) j (j+1) hjl hlt (by omega)
   have hor:=order_pure (placeM l (l.getD j default).index) P (by omega) (by rw [← hP];omega)
   obtain ⟨c,hc⟩:∃ c,cmpP (placeM l (l.getD j default).index) P=c:=⟨_,rfl⟩
   rw [hc] at hor hcm
   have hc0:¬ (0:Int)≤c:=by omega
   have hmt:(l.map Dev.d).take (j+1)=(l.take (j+1)).map Dev.d:=List.map_take.symm
   repeat' ((first|refine plE [] hck ?_ ?_|refine plE [] hdp ?_ ?_|refine plE [] hor ?_ ?_|(refine ql_call2 false rfl rfl (by kernel_rfl) (hcl) (fun r os h=>h.1) rfl ?_ ?_;push_cast [O,U,h0,hG7,hpo,hc0,lkv,hmt];refine ql_of_qops ?_;push_cast [O,U,h0,hG7,hpo,hc0,lkv,hmt])|refine pC ?_|refine pQC ?_|refine pU ?_|refine pif ?_ ?_<;>intro h<;>try exact pN h)<;>push_cast [O,U,h0,hG7,hpo,hc0,lkv,hmt])
   exact ⟨j+1+1,by omega,by (refine weak_fg ?_;push_cast [O,U,hpo]),by omega⟩
 ·by_cases hi0:i=0
  ·subst hi0
   repeat' ((first|refine plE [] hck ?_ ?_|refine plE [] hdp ?_ ?_|(refine pwp_cut 11 [17,18,19,43,47,49,57,61,78] ?_;apply pwp_drawn_to;(focus kernel_rfl);(focus (simp only [List.length_cons,List.length_nil,Nat.reduceAdd];(repeat' first|((refine plE [] hcl ?_ ?_<;>push_cast [O,U,  h0,hG7,hpo]))|((first|refine pah 0 ?_|refine pah 2 ?_|refine pah 3 ?_|refine pah 6 ?_);push_cast [O,U,  h0,hG7,hpo])|(refine pad ?_;first|with_reducible exact weak_cutS 11 [17,18,19,43,47,49,57,61,78] _|(refine weak_fg ?_;push_cast [O,U,  h0,hG7,hpo]))|((first|refine pas [1] ?_|refine pas [4] ?_|refine pas [5] ?_);push_cast [O,U,  h0,hG7,hpo])|((first|refine pas [1,4] ?_);push_cast [O,U,  h0,hG7,hpo];refine ⟨?_,?_⟩));done));push_cast [O,U,  h0,hG7,hpo])|refine pC ?_|refine pQC ?_|refine pU ?_|refine pif ?_ ?_<;>intro h<;>try exact pN h)<;>push_cast [O,U,h0,hG7,hpo])
   exact ⟨1,by omega,by (refine weak_fg ?_;push_cast [O,U,hpo]),by omega⟩
  ·obtain ⟨j,rfl⟩:∃ j,i=j+1:=⟨i - 1,by omega⟩
   have hjl:j < l.length:=by omega
   have lkv:=lk_prev hp hlt (show j < j+1 by omega)
   have hpj:=place_size (show l.length≤1000 by omega) hz (l.getD j default).index
   have hmj:l.getD j default ∈ l:=by rw [getD_lt l hjl];exact List.getElem_mem _
   have hcm:cmpP (placeM l (l.getD j default).index) P < 0:=by
    have h1:=newP_cmp h.okt (h.chk _ hm) hmj
    unfold newP at h1
    rw [hst,hP,← own_at hp hlt] at h1
    rw [h1,getD_lt l hjl,getD_lt l hlt]
    exact (List.pairwise_iff_getElem.1 h.ord) j (j+1) hjl hlt (by omega)
   have hor:=order_pure (placeM l (l.getD j default).index) P (by omega) (by rw [← hP];omega)
   obtain ⟨c,hc⟩:∃ c,cmpP (placeM l (l.getD j default).index) P=c:=⟨_,rfl⟩
   rw [hc] at hor hcm
   have hc0:¬ (0:Int)≤c:=by omega
   have hmt:(l.map Dev.d).take (j+1)=(l.take (j+1)).map Dev.d:=List.map_take.symm
   repeat' ((first|refine plE [] hck ?_ ?_|refine plE [] hdp ?_ ?_|refine plE [] hor ?_ ?_|(refine ql_call2 false rfl rfl (by kernel_rfl) (hcl) (fun r os h=>h.1) rfl ?_ ?_;push_cast [O,U,h0,hG7,hpo,hc0,lkv,hmt];refine ql_of_qops ?_;push_cast [O,U,h0,hG7,hpo,hc0,lkv,hmt])|refine pC ?_|refine pQC ?_|refine pU ?_|refine pif ?_ ?_<;>intro h<;>try exact pN h)<;>push_cast [O,U,h0,hG7,hpo,hc0,lkv,hmt])
   exact ⟨j+1+1,by omega,by (refine weak_fg ?_;push_cast [O,U,hpo]),by omega⟩
end Go.Proofs.YtmbbkfffcflfcaaGreatDoor
namespace Go.Proofs.YtmbbkfffcflfcaaGreatDoor
open Go.ChangeShapes Go.WideShapes Go.ChangeAt Go.RowKit
set_option linter.unusedVariables false
set_option linter.unusedSimpArgs false
mutual
def bkD:D → Nat
 | .v (.string s)=>s.size+1
 | .v _=>1
 | .sl _ rows=>bkRs rows+1
def bkR:List D → Nat
 | []=>0
 | d :: r=>bkD d+bkR r
def bkRs:List (List D) → Nat
 | []=>0
 | r :: rs=>bkR r+bkRs rs
end
theorem bkR_append:∀ a b:List D,bkR (a++b)=bkR a+bkR b
 | [],b=>by simp [bkR]
 | d :: a,b=>by rw [List.cons_append,bkR,bkR,bkR_append a b];omega
theorem trod_rowsB {H:Type} {enc:TypeId × Value → H} {P:Program} {W:World} {t e:TypeId} {size fuel:Nat} {A:Option Addr} {n c:Nat} {x:DataW H × List MemPlace}
  (ht:P.underlying t=some (.slice e)) (hC:P.cellsOf e=size) (hp:0 < size) (h:DataW.trod enc P W 0 (fun _=>true) true fuel t [.slice A n c]=some x) :
  ∃ (F:Nat → List Value) (Dd:Nat → DataW H),((x.1 = .nil∧n=0)∨∃ sp,x.1 = .slice ((List.range n).map Dd) sp)∧n≤c∧c≤maxLen∧(∀ i,i < n → (F i).length=size∧∃ m y,DataW.trod enc P W 0 (fun _=>true) true m e (F i)=some y∧y.1=Dd i) ∧
   Rd W (fun _=>True) size A n ((List.range n).flatMap F):=by
 rcases Go.Deep.open_slice ht h with ⟨hcs,hx0⟩|⟨a,len,cap,m,fu,D,Pl,hcs,_,hl,hm,hmm,hx0,hi⟩
 ·simp at hcs
  obtain ⟨rfl,rfl,rfl⟩:=hcs
  exact ⟨fun _=>[],fun _=>.nil,.inl ⟨by rw [hx0],rfl⟩,Nat.le_refl _,by simp [maxLen],fun i hi=>absurd hi (by omega),by simpa using Rd.nil⟩
 ·simp at hcs
  obtain ⟨rfl,rfl,rfl⟩:=hcs
  simp only [if_true] at hmm
  subst hmm
  obtain ⟨F,hF⟩:=Go.Deep.choose_lt (n:=n) (p:=fun i (cs':List Value)=>W.cells? 0 (a.add (i * P.cellsOf e)) (P.cellsOf e)=some cs'∧DataW.trod enc P W 0 (fun _=>true) true fu e cs'=some (D i,Pl i))
   (fun i h=>hi i (by omega))
  have hlen:∀ i,i < n → (F i).length=size:=fun i h=>by
   have:=(World.cells?_some (hF i h).1).2.1
   rw [this,hC]
  have hflat:∀ k,k≤n → ((List.range k).flatMap F).length=k * size:=by
   intro k
   induction k with
   | zero=>intro _;simp
   | succ k ih =>
    intro hk
    rw [List.range_succ,List.flatMap_append,List.length_append,ih (by omega)]
    simp [hlen k (by omega),Nat.add_mul]
  refine ⟨F,D,.inr ⟨_,by rw [hx0]⟩,hl,hm,fun i h=>⟨hlen i h,fu,_,(hF i h).2,rfl⟩,hflat n (Nat.le_refl _),fun hn=>?_⟩
  have hcell:∀ i,i < n → ∀ j,j < size → W.cell? ((a.add (i * size)).add j)=(F i)[j]?:=fun i h j hj=>by
   have h1:=(World.cells?_some (hF i h).1).2.2 j (by rw [hC];exact hj)
   rw [hC] at h1
   exact h1
  have hget:∀ k,k≤n → ∀ j,((List.range k).flatMap F)[j]? = if j < k * size then (F (j / size))[j % size]? else none:=by
   intro k
   induction k with
   | zero=>intro _ j;simp
   | succ k ih =>
    intro hk j
    rw [List.range_succ,List.flatMap_append]
    by_cases hj:j < k * size
    ·rw [List.getElem?_append_left (by rw [hflat k (by omega)];exact hj),ih (by omega),if_pos hj,if_pos (by rw [Nat.add_mul];omega)]
    ·rw [List.getElem?_append_right (by rw [hflat k (by omega)];omega),hflat k (by omega)]
     simp only [List.flatMap_cons,List.flatMap_nil,List.append_nil]
     by_cases hj2:j < (k+1) * size
     ·have hj3:j - k * size < size:=by rw [Nat.add_mul] at hj2;omega
      have e1:j / size=k:=by
       rw [show j=(j - k * size)+k * size by omega,Nat.add_mul_div_right _ _ hp,Nat.div_eq_of_lt hj3];omega
      have e2:j % size=j - k * size:=by
       conv=>lhs;rw [show j=(j - k * size)+k * size by omega]
       rw [Nat.add_mul_mod_self_right,Nat.mod_eq_of_lt hj3]
      rw [if_pos hj2,e1,e2]
     ·rw [if_neg hj2,List.getElem?_eq_none (by rw [hlen k (by omega)];rw [Nat.add_mul] at hj2;omega)]
  obtain ⟨b,off,spot⟩:=a
  have h0:=hcell 0 (by omega) 0 hp
  have hs:spot=none:=by
   have hx:(F 0)[0]? = some ((F 0)[0]'(by rw [hlen 0 (by omega)];exact hp)):=List.getElem?_eq_getElem _
   rw [hx] at h0
   simpa [Addr.add] using World.cell?_spot h0
  subst hs
  have h0b:b < W.heap.size:=by
   have hx:(F 0)[0]? = some ((F 0)[0]'(by rw [hlen 0 (by omega)];exact hp)):=List.getElem?_eq_getElem _
   rw [hx] at h0
   have:=World.block_lt_of_cell? _ _ h0
   simpa [Addr.add_lit] using this
  refine ⟨b,off,rfl,trivial,h0b,fun j u hu=>?_⟩
  rw [hget n (Nat.le_refl _)] at hu
  split at hu
  ·rename_i hj
   have hq:j / size < n:=Nat.div_lt_of_lt_mul (by rw [Nat.mul_comm];exact hj)
   have h1:=hcell (j / size) hq (j % size) (Nat.mod_lt _ hp)
   rw [Addr.add_lit,Addr.add_lit,Nat.add_assoc,Nat.mul_comm,Nat.div_add_mod] at h1
   rw [h1,hu]
  ·cases hu
theorem bk_map {H:Type} {G:Nat → List D} {Dd:Nat → DataW H}:∀ l:List Nat,(∀ i ∈ l,bkR (G i)≤Rows.uptoBulk (Dd i)) → bkRs (l.map G)≤Rows.uptoBulkAll (l.map Dd)
 | [],_=>by simp [bkRs]
 | i :: l,h=>by
  have h1:=h i (by simp)
  have h2:=bk_map l fun j hj=>h j (by simp [hj])
  rw [List.map_cons,List.map_cons,bkRs,Rows.uptoBulkAll]
  omega
theorem bk_rows {H:Type} {G:Nat → List D} {Dd:Nat → DataW H} {d:DataW H} {n sz:Nat} (hx:(d = .nil∧n=0)∨∃ sp,d = .slice ((List.range n).map Dd) sp) (h:∀ i,i < n → bkR (G i)≤Rows.uptoBulk (Dd i)):bkR [.sl sz ((List.range n).map G)]≤Rows.uptoBulk d:=by
 rcases hx with ⟨rfl,rfl⟩|⟨sp,rfl⟩
 ·simp [bkR,bkD,bkRs,Rows.uptoBulk]
 ·have:=bk_map (G:=G) (Dd:=Dd) (List.range n) fun i hi=>h i (List.mem_range.1 hi)
  simp only [bkR,bkD,Rows.uptoBulk]
  omega
theorem bk_str {H:Type} (s:ByteArray):bkR [D.v (.string s)]≤Rows.uptoBulk (DataW.lit (H:=H) (.string s.data.toList)):=by
 have h2:s.size=s.data.toList.length:=rfl
 simp only [bkR,bkD,Rows.uptoBulk]
 omega
theorem bulk_agg {H:Type} (l:List (DataW H)):Rows.uptoBulkAll l≤Rows.uptoBulk (.agg l):=by
 simp only [Rows.uptoBulk];omega
section
variable {H:Type} {enc:TypeId × Value → H} {P:Program} {W:World}
mutual
theorem shb_ok:∀ (n:Nat) (t:TypeId) (ss:List Sh) (cs:List Value) (fuel:Nat) (y:DataW H × List MemPlace),shOf P n t=some ss → DataW.trod enc P W 0 (fun _=>true) true fuel t cs=some y →
  ∃ ds,TR ss ds∧All2 (RD W (Here W)) ds cs∧bkR ds≤Rows.uptoBulk y.1
 | 0,t,ss,cs,fuel,y,h,_=>by simp [shOf] at h
 | n+1,t,ss,cs,fuel,y,h,ht=>by
  rw [shOf] at h
  split at h
  ·rename_i k hu
   cases h
   obtain ⟨m,rfl,rfl,hw⟩:=DataW.trod_int hu ht
   refine ⟨[.v (.int k m)],?_,?_,by simp [bkR,bkD,Rows.uptoBulk]⟩
   ·rw [TR];exact ⟨_,_,rfl,by rw [TD];exact ⟨m,rfl,hw⟩,by rw [TR]⟩
   ·exact ⟨by rw [RD];exact ⟨rfl,rfl⟩,trivial⟩
  ·rename_i hu
   cases h
   obtain ⟨s,rfl,rfl,hs⟩:=DataW.trod_string hu ht
   refine ⟨[.v (.string s)],?_,?_,bk_str s⟩
   ·rw [TR];exact ⟨_,_,rfl,by rw [TD];exact ⟨s,rfl,hs⟩,by rw [TR]⟩
   ·exact ⟨by rw [RD];exact ⟨rfl,rfl⟩,trivial⟩
  ·rename_i hu
   cases h
   obtain ⟨b,rfl,rfl⟩:=DataW.trod_bool hu ht
   refine ⟨[.v (.bool b)],?_,?_,by simp [bkR,bkD,Rows.uptoBulk]⟩
   ·rw [TR];exact ⟨_,_,rfl,by rw [TD];exact ⟨b,rfl⟩,by rw [TR]⟩
   ·exact ⟨by rw [RD];exact ⟨rfl,rfl⟩,trivial⟩
  ·rename_i e hu
   split at h
   ·rename_i es he
    split at h
    ·rename_i hc
     cases h
     have hcs:∃ A len c,cs=[.slice A len c]:=by
      rcases Go.Deep.open_slice hu ht with ⟨h1,_⟩|⟨a,len,cap,m,fu,D,Pl,h1,_⟩
      ·exact ⟨_,_,_,h1⟩
      ·exact ⟨_,_,_,h1⟩
     obtain ⟨A,len,c,rfl⟩:=hcs
     obtain ⟨F,Dd,hx0,h1,h2,h3,h4⟩:=trod_rowsB hu hc.2 hc.1 ht
     have hall:∀ i,i < len → ∃ ds,TR es ds∧All2 (RD W (Here W)) ds (F i)∧bkR ds≤Rows.uptoBulk (Dd i):=fun i hi=>by
      obtain ⟨_,m,y',hy,hd⟩:=h3 i hi
      rw [← hd]
      exact shb_ok n e es (F i) m y' he hy
     obtain ⟨G,hG⟩:=Go.Deep.choose_lt (n:=len) (p:=fun i ds=>TR es ds∧All2 (RD W (Here W)) ds (F i)∧bkR ds≤Rows.uptoBulk (Dd i)) hall
     have hrows:∀ k,k≤len → All2 (RD W (Here W)) ((List.range k).map G).flatten ((List.range k).flatMap F):=by
      intro k
      induction k with
      | zero=>intro _;trivial
      | succ k ih =>
       intro hk
       rw [List.range_succ,List.map_append,List.flatten_append,List.flatMap_append]
       exact (ih (by omega)).append (by simpa using (hG k (by omega)).2.1)
     have hlen:((List.range len).map G).length=len:=by simp
     refine ⟨[.sl es.length ((List.range len).map G)],?_,?_,bk_rows hx0 fun i hi=>(hG i hi).2.2⟩
     ·rw [TR]
      refine ⟨_,_,rfl,?_,by rw [TR]⟩
      rw [TD]
      refine ⟨_,rfl,by rw [hlen];exact Nat.le_trans h1 h2,fun r hr=>?_⟩
      obtain ⟨i,hi,rfl⟩:=List.mem_map.1 hr
      exact (hG i (List.mem_range.1 hi)).1
     ·refine ⟨?_,trivial⟩
      rw [rd_sl]
      refine ⟨A,c,_,by rw [hlen],by rw [hlen];exact h1,by rw [hlen];exact rd_here h4,?_⟩
      refine ⟨fun r hr=>?_,hrows len (Nat.le_refl _)⟩
      obtain ⟨i,hi,rfl⟩:=List.mem_map.1 hr
      exact (hG i (List.mem_range.1 hi)).1.len
    ·cases h
   ·cases h
  ·rename_i fs hu
   split at h
   ·rename_i ss' hfs
    split at h
    ·rename_i hc
     cases h
     obtain ⟨xs,m,_,rfl,hl,hlen,hf⟩:=DataW.trod_struct hu ht
     obtain ⟨ds,h1,h2,h3⟩:=shbFs_ok n fs.toList 0 ss cs (xs.map (·.1)) hfs (by omega) (fun i f hi=>by
      have h1:=hf i f (by simpa using hi)
      have hi2:i < xs.length:=by
       have:=(List.getElem?_eq_some_iff.1 hi).1
       simp at this
       omega
      rw [List.getElem?_eq_getElem hi2] at h1
      exact ⟨_,_,h1,by rw [List.getElem?_map,List.getElem?_eq_getElem hi2];rfl⟩)
     refine ⟨ds,h1,?_,Nat.le_trans h3 (bulk_agg _)⟩
     rw [List.drop_zero,List.take_of_length_le (by omega)] at h2
     exact h2
    ·cases h
   ·cases h
  ·cases h
theorem shbFs_ok:∀ (n:Nat) (fs:List Field) (o:Nat) (ss:List Sh) (cs:List Value) (Ds:List (DataW H)),shFs P n fs o=some ss → o+ss.length≤cs.length →
  (∀ (i:Nat) (f:Field),fs[i]? = some f → ∃ m y,DataW.trod enc P W 0 (fun _=>true) true m f.type ((cs.drop f.offset).take (P.cellsOf f.type))=some y∧Ds[i]? = some y.1) →
  ∃ ds,TR ss ds∧All2 (RD W (Here W)) ds ((cs.drop o).take ss.length)∧bkR ds≤Rows.uptoBulkAll Ds
 | 0,fs,o,ss,cs,Ds,h,_,_=>by simp [shFs] at h
 | n+1,[],o,ss,cs,Ds,h,_,_=>by
  rw [shFs] at h
  cases h
  exact ⟨[],by rw [TR],by simp [All2],by simp [bkR]⟩
 | n+1,f :: fs,o,ss,cs,Ds,h,hle,hf=>by
  rw [shFs] at h
  split at h
  ·rename_i s1 s2 h1 h2
   split at h
   ·rename_i hc
    cases h
    rw [List.length_append] at hle
    obtain ⟨m,y,hy,hD0⟩:=hf 0 f rfl
    obtain ⟨Ds',rfl⟩:∃ Ds',Ds=y.1 :: Ds':=by
     cases Ds with
     | nil=>cases hD0
     | cons d Ds'=>exact ⟨Ds',by rw [List.getElem?_cons_zero] at hD0;cases hD0;rfl⟩
    rw [hc.1,hc.2] at hy
    obtain ⟨d1,t1,a1,b1⟩:=shb_ok n f.type s1 _ m y h1 hy
    obtain ⟨d2,t2,a2,b2⟩:=shbFs_ok n fs (o+P.cellsOf f.type) s2 cs Ds' h2 (by omega) (fun i g hi=>by have:=hf (i+1) g (by simpa using hi);simpa using this)
    refine ⟨d1++d2,t1.append t2,?_,by rw [bkR_append,Rows.uptoBulkAll];omega⟩
    rw [List.length_append,List.take_add,List.drop_drop,← hc.2]
    have:=a1.append (by simpa using a2)
    rw [hc.2] at this ⊢
    exact this
   ·cases h
  ·cases h
end
end
theorem bulk_in {H:Type} {d:DataW H}:∀ {l:List (DataW H)},d ∈ l → Rows.uptoBulk d≤Rows.uptoBulkAll l
 | x :: r,h=>by
  rw [Rows.uptoBulkAll]
  rcases List.mem_cons.1 h with rfl|h
  ·omega
  ·have:=bulk_in h;omega
theorem bulk_small {H:Type} {l:List (DataW H)} (hk:Rows.uptoSmall H l=true):Rows.uptoBulkAll l≤1048576:=by
 simpa [Rows.uptoSmall] using hk
end Go.Proofs.YtmbbkfffcflfcaaGreatDoor
namespace Go.Proofs.YtmbbkfffcflfcaaGreatDoor
open Go.ChangeShapes Go.WideShapes Go.ChangeAt Go.RowKit
set_option linter.unusedVariables false
set_option linter.unusedSimpArgs false
section
variable {H:Type} {enc:TypeId × Value → H} {P:Program} {W:World}
theorem open_st_all {base:Nat} {t:TypeId} {fs:Array Field} {v:Value} {d:DataW H} {ps:List MemPlace} (n:Nat) (ss:List Sh) (ht:P.underlying t=some (.struct fs)) (hs:shOf P n t=some ss) (hv:Value.okWide P W .any base t v) (h:DataW.Trod enc P W 0 (fun _=>true) true t v d ps) :
  ∃ ds,TR ss ds∧RP W (G0 W) (.agg (ds.map D.e)) v∧bkR ds≤Rows.uptoBulk d:=by
 obtain ⟨cs,rfl,_⟩:=okWide_struct ht hv
 obtain ⟨fuel,hf⟩:=h
 have hf':DataW.trod enc P W 0 (fun _=>true) true fuel t cs.toList=some (d,ps):=by simpa [Value.cells] using hf
 obtain ⟨ds,h1,h2,hb⟩:=shb_ok n t ss cs.toList fuel _ hs hf'
 exact ⟨ds,h1,⟨cs.toList,by simp,re_of_d (Γ:=G0 W) h2⟩,hb⟩
end
def shOp:List Sh:=[.int .i64,.str,.int .i64,.int .i64,.str,.str,.str,.str,.str,.int .i64,.int .i64,.sl [.str,.str],.str,.str]
theorem sh_op:shOf Tryz.prog 30 55=some shOp:=by kernel_rfl
theorem atr_fit:∀ (rows:List (List D)),(∀ r ∈ rows,TR [.str,.str] r) → ∃ l:List Atr,rows=l.map Atr.d∧okA l
 | [],_=>⟨[],rfl,fun a ha=>by simp at ha⟩
 | r :: rows,h=>by
  obtain ⟨l,rfl,hl⟩:=atr_fit rows fun r' hr=>h r' (by simp [hr])
  have h1:=h r (by simp)
  simp only [TR,TD] at h1
  obtain ⟨_,_,rfl,⟨a,rfl,ha⟩,_,_,rfl,⟨b,rfl,hb⟩,rfl⟩:=h1
  refine ⟨⟨a,b⟩ :: l,rfl,fun x hx=>?_⟩
  rcases List.mem_cons.1 hx with rfl|hx
  ·exact ⟨by simpa [maxLen] using ha,by simpa [maxLen] using hb⟩
  ·exact hl x hx
theorem atr_len:∀ l:List Atr,l.length≤bkRs (l.map Atr.d)
 | []=>Nat.zero_le _
 | a :: l=>by
  have:=atr_len l
  simp only [List.length_cons,List.map_cons,bkRs,Atr.d,bkR,bkD]
  omega
theorem op_dec (ds:List D) (h:TR shOp ds) (hb:bkR ds≤1048576):∃ o:Opr,ds.map D.e=o.e∧OprOk o∧o.path.size+o.name.size+o.value.size≤9000000000000000000:=by
 simp only [shOp,TR,TD] at h
 obtain ⟨_,_,rfl,⟨k0,rfl,_⟩,_,_,rfl,⟨p1,rfl,_⟩,_,_,rfl,⟨a1,rfl,_⟩,_,_,rfl,⟨a2,rfl,_⟩,_,_,rfl,⟨a3,rfl,_⟩,_,_,rfl,⟨a4,rfl,_⟩,_,_,rfl,⟨a5,rfl,_⟩,_,_,rfl,⟨a6,rfl,_⟩,_,_,rfl,⟨a7,rfl,_⟩,_,_,rfl,⟨a8,rfl,_⟩,_,_,rfl,⟨a9,rfl,_⟩,_,_,rfl,⟨rows,rfl,hl,hr⟩,_,_,rfl,⟨n3,rfl,_⟩,_,_,rfl,⟨v4,rfl,_⟩,rfl⟩:=h
 obtain ⟨l,rfl,hok⟩:=atr_fit rows fun r hr'=>by have:=hr r hr';simpa only [TR,TD] using this
 have hll:=atr_len l
 simp only [bkR,bkD] at hb
 rw [List.length_map] at hl
 refine ⟨⟨k0,p1,⟨a1,a2,a3,a4,a5,a6,a7,a8,a9,l⟩,n3,v4⟩,rfl,⟨⟨?_,?_,?_,?_,?_,hok,?_,?_⟩,?_,?_,?_,?_⟩,?_⟩
 all_goals (simp only [Fit];omega)
end Go.Proofs.YtmbbkfffcflfcaaGreatDoor
namespace Go.Proofs.YtmbbkfffcflfcaaGreatDoor
attribute [local irreducible] PL QL PWPr PCalls Weak RetK Kontr PA PCallsG
open Go.RowKit
open IntWalk renaming iteOmega → O, toNatUp → U
set_option linter.unusedVariables false
set_option linter.unusedSimpArgs false
set_option maxRecDepth 20000
theorem viaKey {α:Type} {G:α → Prop} {φ:α → Prop} {X:Prop} (h:(∀ x,φ x → G x) → X) (g:∀ x,φ x → G x):X:=h g
set_option maxHeartbeats 16000000 in
theorem valid05_pure (L:List Int) (hL:∀ x ∈ L,-9223372036854775808≤x∧x≤9223372036854775807) (hl:L.length≤9223372036854775807) (op0:Opr) (ho0:OprOk op0) (hz0:op0.path.size+op0.name.size+op0.value.size≤9000000000000000000) :
  PCalls Tryz.prog 10 [.c (.sl 1 (L.map fun x=>[.v (.int .i64 x)])),.agg op0.e] [] fun r os=>r = .c (.v (.bool true))∧os=[]:=by
 refine pcalls_of Tryz.func10 rfl (by simp [Tryz.ntmps10]) ?_
 rw [Tryz.ntmps10,Tryz.results10]
 have hb:=begin_pure L hL hl
 have hkn:=known05_pure
 have hatt:=ho0.att
 have nex:=fun (j:Nat) (hj:j < 1000000) (m:Int) (hm:0 < m) (hm2:m≤9223372036854775807)=>next_ex L j m hj hm hm2 hL hl
 push_cast [O,U]
 have cB:CutB 14 []:=trivial
 repeat' ((first|refine pC ?_|refine pQC ?_|refine pU ?_|refine pif ?_ ?_<;>intro h<;>try exact pN h)<;>push_cast [O,U])
 (refine plc [] (hb) ?_ ?_;push_cast [O,U];rintro r os ⟨ms,hS,rfl,rfl⟩;push_cast [O,U])
 repeat' ((first|refine pC ?_|refine pQC ?_|refine pU ?_|refine pif ?_ ?_<;>intro h<;>try exact pN h)<;>push_cast [O,U])
 (refine plE [] hkn ?_ ?_<;>push_cast [O,U])
 refine pl_ptreq rfl rfl rfl rfl (by kernel_rfl) (by simp [dstOk]) (pl_of_pops ?_)
 push_cast [O,U]
 have n1:=nex 8 (by decide) 20 (by decide) (by decide)
 clear hatt
 revert op0
 apply viaKey (α:=Opr) (φ:=OprOk)
 ·intro key op0 ho0 hz0
  have hatt:=ho0.att
  by_cases hC:¬ 40 < op0.dev.attrs.length∧¬ 3000 < op0.path.size+op0.name.size+op0.value.size
  ·have hA':¬ (40:Int) < (op0.dev.attrs.length:Int):=by omega
   have hB':¬ (3000:Int) < (op0.path.size:Int)+(op0.name.size:Int)+(op0.value.size:Int):=by omega
   push_cast [O,U,hA',hB']
   repeat' ((first|refine pC ?_|refine pQC ?_|refine pU ?_|refine pif ?_ ?_<;>intro h<;>try exact pN h)<;>push_cast [O,U,hA',hB'])
   refine pl_weak (weak_cutT 14 [43,44] [1] _) ?_
   push_cast [O,U]
   exact key op0 ho0
  ·have hzo:OprOk ⟨0,⟨#[]⟩,zeroD,⟨#[]⟩,⟨#[]⟩⟩:=oprZ (Nat.zero_le _) (Nat.zero_le _) (Nat.zero_le _)
   by_cases hA:40 < op0.dev.attrs.length
   ·have hA':(40:Int) < (op0.dev.attrs.length:Int):=by omega
    push_cast [O,U,hA']
    repeat' ((first|refine pC ?_|refine pQC ?_|refine pU ?_|refine pif ?_ ?_<;>intro h<;>try exact pN h)<;>push_cast [O,U,hA'])
    refine pl_weak (weak_cutT 14 [43,44] [1] _) ?_
    push_cast [O,U]
    exact pl_weak (by (refine weak_fg ?_;push_cast [O,U])) (key ⟨0,⟨#[]⟩,zeroD,⟨#[]⟩,⟨#[]⟩⟩ hzo)
   ·have hA':¬ (40:Int) < (op0.dev.attrs.length:Int):=by omega
    have hB':(3000:Int) < (op0.path.size:Int)+(op0.name.size:Int)+(op0.value.size:Int):=by omega
    push_cast [O,U,hA',hB']
    repeat' ((first|refine pC ?_|refine pQC ?_|refine pU ?_|refine pif ?_ ?_<;>intro h<;>try exact pN h)<;>push_cast [O,U,hA',hB'])
    refine pl_weak (weak_cutT 14 [43,44] [1] _) ?_
    push_cast [O,U]
    exact pl_weak (by (refine weak_fg ?_;push_cast [O,U])) (key ⟨0,⟨#[]⟩,zeroD,⟨#[]⟩,⟨#[]⟩⟩ hzo)
 intro raw hraw
 (refine plc [1] (n1) ?_ ?_;push_cast [O,U];rintro r os ⟨v,⟨va,vb⟩,rfl,rfl⟩;push_cast [O,U])
 obtain ⟨n,rfl⟩:∃ n:Nat,v=(n:Int):=⟨v.toNat,by omega⟩
 repeat' ((first|refine pC ?_|refine pQC ?_|refine pU ?_|refine pif ?_ ?_<;>intro h<;>try exact pN h)<;>push_cast [O,U])
 (apply pwp_loop3 (α:=Nat × Ker × Nat) 14 [] (fun x=>[(6,.c (.v (.int .i64 ((x.1:Int) - 1))))]) (fun x=>[(1,tape L x.2.2),(2,kerB 3 4 x.2.1),(3,kerL x.2.1),(4,kerV x.2.1)]) (fun x=>x.1≤n+1∧Lived (n+1 - x.1) x.2.1∧x.2.2≤9+60 * (n+1 - x.1)) (fun x=>x.1) ((n+1,begK ms,9));(focus ((try push_cast [O,U]);rfl));(focus exact ⟨Nat.le_refl _,by rw [Nat.sub_self];exact Lived.beg hS,by simp only;omega⟩);(focus ((refine weak_fg ?_;try push_cast [O,U]);(try (rfl)))))
 rintro ⟨i,k,q⟩ ⟨hi,hk,hq⟩
 simp only at hi hk hq
 by_cases h0:0 < i
 case neg =>
  have h0':¬ (0:Int)≤(i:Int) - 1:=by omega
  push_cast [O,U]
  repeat' ((first|refine pC ?_|refine pQC ?_|refine pU ?_|refine pif ?_ ?_<;>intro h<;>try exact pN h)<;>push_cast [O,U,h0'])
  (refine retK_of [] ?_;push_cast [O,U])
 obtain ⟨i,rfl⟩:∃ i',i=i'+1:=⟨i - 1,by omega⟩
 have hev:=hk.e
 have htp:=hk.t
 have hlo:=hk.b.lod
 have hkt:=ktree_pure k hk.b.inv.tree
 have hla:=klast_pure k
 have hld:=kloaded_pure k (by omega)
 obtain ⟨ix1,ix2,ix3,ix4⟩:=hk.ixs (by omega)
 have hop:=wop_ex L q k.tree (by omega) ix4 ix3 ix1 ix2 hL hl
 have h1':(i:Int)+1 - 1=i:=by omega
 have h0':(0:Int)≤(i:Int):=by omega
 repeat' ((first|(refine hidR 9 ?_)|refine pC ?_|refine pQC ?_|refine pU ?_|refine pif ?_ ?_<;>intro h<;>try exact pN h)<;>push_cast [O,U,h1',h0'])
 refine unhid ?_
 (refine pwp_cut 14 [] ?_;refine pwp_drawn (by kernel_rfl) ?_;simp only [List.length_cons,List.length_nil,Nat.reduceAdd];refine pah 0 ?_;push_cast [O,U,  h0'];refine pah 3 ?_;push_cast [O,U,  h0'];refine pah 6 ?_;push_cast [O,U,  h0'];apply pa_hav;intro z30;apply pa_hav;intro z29;apply pa_hav;intro z27;apply pa_hav;intro z28;apply pa_hav;intro z24;apply pa_hav;intro z25;apply pa_hav;intro z26;apply pa_hav;intro z19;apply pa_hav;intro z20;apply pa_hav;intro z21;apply pa_hav;intro z22;apply pa_hav;intro z23;apply pa_hav;intro z12;apply pa_hav;intro z13;apply pa_hav;intro z14;apply pa_hav;intro z15;apply pa_hav;intro z16;apply pa_hav;intro z17;apply pa_hav;intro z18;apply pa_hav;intro z5;apply pa_hav;intro z6;apply pa_hav;intro z7;apply pa_hav;intro z8;apply pa_hav;intro z9;apply pa_hav;intro z10;apply pa_hav;intro z11;apply pa_hav;intro z1;apply pa_hav;intro z2;apply pa_hav;intro z3;apply pa_hav;intro z4;refine pas [1,4,7,9] ?_;push_cast [O,U,  h0'];refine ⟨z1,z2,z3,z4⟩;refine pas [1,4,7] ?_;push_cast [O,U,  h0'];refine ⟨z8,z10,z11⟩;refine pas [1,4,9] ?_;push_cast [O,U,  h0'];refine ⟨z7,z9,paw z11 ?_⟩<;>(refine weak_fg ?_;push_cast [O,U,  h0']);refine pas [1,7,9] ?_;push_cast [O,U,  h0'];refine ⟨z6,paw z9 ?_,paw z10 ?_⟩<;>(refine weak_fg ?_;push_cast [O,U,  h0']);refine pas [2,4,7,9] ?_;push_cast [O,U,  h0'];refine ⟨?_,?_,?_,?_⟩;(focus ((refine plE [2,3,4] hkt ?_ ?_;(focus (push_cast [O,U,  h0'];done));push_cast [O,U,  h0']);exact z5));(focus (refine paw z6 ?_;refine weak_fg ?_;push_cast [O,U,  h0']));(focus (refine paw z7 ?_;refine weak_fg ?_;push_cast [O,U,  h0']));(focus (refine paw z8 ?_;refine weak_fg ?_;push_cast [O,U,  h0']));refine pas [1,4] ?_;push_cast [O,U,  h0'];refine ⟨z17,z18⟩;refine pas [1,7] ?_;push_cast [O,U,  h0'];refine ⟨z16,paw z18 ?_⟩<;>(refine weak_fg ?_;push_cast [O,U,  h0']);refine pas [1,9] ?_;push_cast [O,U,  h0'];refine ⟨z15,paw z18 ?_⟩<;>(refine weak_fg ?_;push_cast [O,U,  h0']);refine pas [2,4,7] ?_;push_cast [O,U,  h0'];refine ⟨?_,?_,?_⟩;(focus ((refine plE [2,3,4] hkt ?_ ?_;(focus (push_cast [O,U,  h0'];done));push_cast [O,U,  h0']);exact z14));(focus (refine paw z16 ?_;refine weak_fg ?_;push_cast [O,U,  h0']));(focus (refine paw z17 ?_;refine weak_fg ?_;push_cast [O,U,  h0']));refine pas [2,4,9] ?_;push_cast [O,U,  h0'];refine ⟨?_,?_,?_⟩;(focus ((refine plE [2,3,4] hkt ?_ ?_;(focus (push_cast [O,U,  h0'];done));push_cast [O,U,  h0']);exact z13));(focus (refine paw z15 ?_;refine weak_fg ?_;push_cast [O,U,  h0']));(focus (refine paw z17 ?_;refine weak_fg ?_;push_cast [O,U,  h0']));refine pas [2,7,9] ?_;push_cast [O,U,  h0'];refine ⟨?_,?_,?_⟩;(focus ((refine plE [2,3,4] hkt ?_ ?_;(focus (push_cast [O,U,  h0'];done));push_cast [O,U,  h0']);exact z12));(focus (refine paw z15 ?_;refine weak_fg ?_;push_cast [O,U,  h0']));(focus (refine paw z16 ?_;refine weak_fg ?_;push_cast [O,U,  h0']));refine pas [4,7,9] ?_;push_cast [O,U,  h0'];refine ⟨paw z12 ?_,paw z13 ?_,paw z14 ?_⟩<;>(refine weak_fg ?_;push_cast [O,U,  h0']);refine pas [1] ?_;push_cast [O,U,  h0'];refine z23;refine pas [2,4] ?_;push_cast [O,U,  h0'];refine ⟨?_,?_⟩;(focus ((refine plE [2,3,4] hkt ?_ ?_;(focus (push_cast [O,U,  h0'];done));push_cast [O,U,  h0']);exact z22));(focus (refine paw z23 ?_;refine weak_fg ?_;push_cast [O,U,  h0']));refine pas [2,7] ?_;push_cast [O,U,  h0'];refine ⟨?_,?_⟩;(focus ((refine plE [2,3,4] hkt ?_ ?_;(focus (push_cast [O,U,  h0'];done));push_cast [O,U,  h0']);exact z21));(focus (refine paw z23 ?_;refine weak_fg ?_;push_cast [O,U,  h0']));refine pas [2,9] ?_;push_cast [O,U,  h0'];refine ⟨?_,?_⟩;(focus ((refine plE [2,3,4] hkt ?_ ?_;(focus (push_cast [O,U,  h0'];done));push_cast [O,U,  h0']);exact z20));(focus (refine paw z23 ?_;refine weak_fg ?_;push_cast [O,U,  h0']));refine pas [4,7] ?_;push_cast [O,U,  h0'];refine ⟨paw z21 ?_,paw z22 ?_⟩<;>(refine weak_fg ?_;push_cast [O,U,  h0']);refine pas [4,9] ?_;push_cast [O,U,  h0'];refine ⟨paw z20 ?_,paw z22 ?_⟩<;>(refine weak_fg ?_;push_cast [O,U,  h0']);refine pas [5,7,9] ?_;push_cast [O,U,  h0'];refine ⟨?_,?_,?_⟩;(focus ((refine plE [2,3,4] hla ?_ ?_;(focus (push_cast [O,U,  h0'];done));push_cast [O,U,  h0']);exact z19));(focus (refine paw z20 ?_;refine weak_fg ?_;push_cast [O,U,  h0']));(focus (refine paw z21 ?_;refine weak_fg ?_;push_cast [O,U,  h0']));refine pas [2] ?_;push_cast [O,U,  h0'];(focus ((refine plE [2,3,4] hkt ?_ ?_;(focus (push_cast [O,U,  h0'];done));push_cast [O,U,  h0']);exact z26));refine pas [4] ?_;push_cast [O,U,  h0'];refine paw z26 ?_<;>(refine weak_fg ?_;push_cast [O,U,  h0']);refine pas [5,7] ?_;push_cast [O,U,  h0'];refine ⟨?_,?_⟩;(focus ((refine plE [2,3,4] hla ?_ ?_;(focus (push_cast [O,U,  h0'];done));push_cast [O,U,  h0']);exact z25));(focus (refine paw z26 ?_;refine weak_fg ?_;push_cast [O,U,  h0']));refine pas [5,9] ?_;push_cast [O,U,  h0'];refine ⟨?_,?_⟩;(focus ((refine plE [2,3,4] hla ?_ ?_;(focus (push_cast [O,U,  h0'];done));push_cast [O,U,  h0']);exact z24));(focus (refine paw z26 ?_;refine weak_fg ?_;push_cast [O,U,  h0']));refine pas [7,9] ?_;push_cast [O,U,  h0'];refine ⟨paw z24 ?_,paw z25 ?_⟩<;>(refine weak_fg ?_;push_cast [O,U,  h0']);refine pas [5] ?_;push_cast [O,U,  h0'];(focus ((refine plE [2,3,4] hla ?_ ?_;(focus (push_cast [O,U,  h0'];done));push_cast [O,U,  h0']);exact z28));refine pas [7] ?_;push_cast [O,U,  h0'];refine paw z28 ?_<;>(refine weak_fg ?_;push_cast [O,U,  h0']);refine pas [8,9] ?_;push_cast [O,U,  h0'];refine ⟨?_,?_⟩;(focus ((refine plE [2,3,4] hld ?_ ?_;(focus (push_cast [O,U,  h0'];done));push_cast [O,U,  h0']);exact z27));(focus (refine paw z28 ?_;refine weak_fg ?_;push_cast [O,U,  h0']));refine pas [8] ?_;push_cast [O,U,  h0'];(focus ((refine plE [2,3,4] hld ?_ ?_;(focus (push_cast [O,U,  h0'];done));push_cast [O,U,  h0']);exact z29));refine pas [9] ?_;push_cast [O,U,  h0'];refine paw z29 ?_<;>(refine weak_fg ?_;push_cast [O,U,  h0']);refine pas [10] ?_;push_cast [O,U,  h0'];(focus (refine pah 11 ?_;push_cast [O,U,  h0'];refine pah 12 ?_;push_cast [O,U,  h0'];exact paw z30 (weak_cutS 14 [] _)));push_cast [O,U,  h0'];refine pad ?_;push_cast [O,U,  h0'])
 (refine plc [1] (hop) ?_ ?_;push_cast [O,U];rintro r os ⟨op,q2,ho,hq2,rfl,rfl⟩;push_cast [O,U])
 by_cases w0:(i:Int)=0
 ·have w0':=eq_true w0
  have hdo:=kdo_pure k raw hk.b hraw (by omega) (by omega)
  have hk2:=hk.do (by omega) raw
  have herr:(kerOp k raw).2.2≠0 → (kerOp k raw).1=k:=do_err insAt3 hk.b.inv raw
  obtain ⟨R,hR⟩:∃ R,kerOp k raw=R:=⟨_,rfl⟩
  rw [hR] at hdo hk2 herr
  obtain ⟨k2,n2,e2⟩:=R
  simp only at hdo hk2 herr
  have hkt2:=ktree_pure k2 hk2.b.inv.tree
  have hch:=tcheck_pure k2.tree hk2.b.inv.tree
  by_cases he:e2=0
  ·have he':=eq_true he
   repeat' ((first|(refine plcG 1 [2,3,4] (hdo) ?_ ?_;push_cast [O,U,w0',he'];rintro r os ⟨rfl,rfl⟩)|refine plE [2,3,4] hkt2 ?_ ?_|refine plE [] hch ?_ ?_|refine pC ?_|refine pQC ?_|refine pU ?_|refine pif ?_ ?_<;>intro h<;>try exact pN h)<;>push_cast [O,U,w0',he'])
   exact ⟨(i,k2,q2),⟨by simp only;omega,by simp only;rw [show n+1 - i=n+1 - (i+1)+1 by omega];exact hk2,by simp only;omega⟩,by (refine weak_fg ?_;push_cast [O,U]),by simp only;omega⟩
  ·have he':=eq_false he
   have hkk:=herr he
   subst hkk
   have hst:=sametree_pure k2.tree k2.tree (by omega) (by omega) hk2.b.att hk2.b.att
   have htx:=sametexts_pure k2.loaded k2.loaded (by omega) (by omega)
   rw [decide_eq_true rfl] at hst htx
   repeat' ((first|(refine plcG 1 [2,3,4] (hdo) ?_ ?_;push_cast [O,U,w0',he'];rintro r os ⟨rfl,rfl⟩)|refine plE [2,3,4] hkt2 ?_ ?_|refine plE [] hch ?_ ?_|refine plE [] hst ?_ ?_|refine plE [2,3,4] hla ?_ ?_|refine plE [2,3,4] hld ?_ ?_|refine plE [] htx ?_ ?_|refine pC ?_|refine pQC ?_|refine pU ?_|refine pif ?_ ?_<;>intro h<;>try exact pN h)<;>push_cast [O,U,w0',he'])
   exact ⟨(i,k2,q2),⟨by simp only;omega,by simp only;rw [show n+1 - i=n+1 - (i+1)+1 by omega];exact hk2,by simp only;omega⟩,by (refine weak_fg ?_;push_cast [O,U]),by simp only;omega⟩
 ·have w0':=eq_false w0
  have hdo:=kdo_pure k op hk.b ho (by omega) (by omega)
  have hk2:=hk.do (by omega) op
  have herr:(kerOp k op).2.2≠0 → (kerOp k op).1=k:=do_err insAt3 hk.b.inv op
  obtain ⟨R,hR⟩:∃ R,kerOp k op=R:=⟨_,rfl⟩
  rw [hR] at hdo hk2 herr
  obtain ⟨k2,n2,e2⟩:=R
  simp only at hdo hk2 herr
  have hkt2:=ktree_pure k2 hk2.b.inv.tree
  have hch:=tcheck_pure k2.tree hk2.b.inv.tree
  by_cases he:e2=0
  ·have he':=eq_true he
   repeat' ((first|(refine plcG 1 [2,3,4] (hdo) ?_ ?_;push_cast [O,U,w0',he'];rintro r os ⟨rfl,rfl⟩)|refine plE [2,3,4] hkt2 ?_ ?_|refine plE [] hch ?_ ?_|refine pC ?_|refine pQC ?_|refine pU ?_|refine pif ?_ ?_<;>intro h<;>try exact pN h)<;>push_cast [O,U,w0',he'])
   exact ⟨(i,k2,q2),⟨by simp only;omega,by simp only;rw [show n+1 - i=n+1 - (i+1)+1 by omega];exact hk2,by simp only;omega⟩,by (refine weak_fg ?_;push_cast [O,U]),by simp only;omega⟩
  ·have he':=eq_false he
   have hkk:=herr he
   subst hkk
   have hst:=sametree_pure k2.tree k2.tree (by omega) (by omega) hk2.b.att hk2.b.att
   have htx:=sametexts_pure k2.loaded k2.loaded (by omega) (by omega)
   rw [decide_eq_true rfl] at hst htx
   repeat' ((first|(refine plcG 1 [2,3,4] (hdo) ?_ ?_;push_cast [O,U,w0',he'];rintro r os ⟨rfl,rfl⟩)|refine plE [2,3,4] hkt2 ?_ ?_|refine plE [] hch ?_ ?_|refine plE [] hst ?_ ?_|refine plE [2,3,4] hla ?_ ?_|refine plE [2,3,4] hld ?_ ?_|refine plE [] htx ?_ ?_|refine pC ?_|refine pQC ?_|refine pU ?_|refine pif ?_ ?_<;>intro h<;>try exact pN h)<;>push_cast [O,U,w0',he'])
   exact ⟨(i,k2,q2),⟨by simp only;omega,by simp only;rw [show n+1 - i=n+1 - (i+1)+1 by omega];exact hk2,by simp only;omega⟩,by (refine weak_fg ?_;push_cast [O,U]),by simp only;omega⟩
end Go.Proofs.YtmbbkfffcflfcaaGreatDoor
