/- What the program computes, and the plain laws of it, part 37. -/
import Derived.Test.YtmjffgienmcabaaGreatDoorS36
namespace Go.Proofs.YtmjffgienmcabaaGreatDoor
attribute [local irreducible] PL QL PWPr PCalls Weak RetK Kontr PA
open Go.RowKit
open IntWalk renaming iteOmega → iO, toNatUp → tN
set_option linter.unusedVariables false
set_option linter.unusedSimpArgs false
set_option maxRecDepth 20000
theorem ie1 {l:List Dev} {d:Dev} (h:checkM d≠0):insErr l d=41:=by unfold insErr;rw [if_pos h]
theorem ie2 {l:List Dev} {d:Dev} (h:checkM d=0) (h2:(findD l d.index).isSome=true):insErr l d=44:=by unfold insErr;rw [if_neg (by simp [h]),if_pos h2]
theorem ie3 {l:List Dev} {d:Dev} (h:checkM d=0) (h2:findD l d.index=none) (h3:d.parent≠0) (h4:findD l d.parent=none):insErr l d=42:=by
 unfold insErr;rw [if_neg (by simp [h]),if_neg (by simp [h2]),if_pos ⟨h3,by simp [h4]⟩]
theorem ie4 {l:List Dev} {d:Dev} (h:checkM d=0) (h2:findD l d.index=none) (h3:d.parent=0∨(findD l d.parent).isSome=true) (h5:256≤l.length):insErr l d=40:=by
 unfold insErr
 rw [if_neg (by simp [h]),if_neg (by simp [h2]),if_neg (by rintro ⟨a,b⟩;rcases h3 with h3|h3;exact a h3;rw [Option.isNone_iff_eq_none] at b;rw [b] at h3;cases h3),if_pos h5]
theorem ie5 {l:List Dev} {d:Dev} (h:checkM d=0) (h2:findD l d.index=none) (h3:d.parent=0∨(findD l d.parent).isSome=true) (h5:¬ 256≤l.length) (h6:7 < (ownM l d).length):insErr l d=46:=by
 unfold insErr
 rw [if_neg (by simp [h]),if_neg (by simp [h2]),if_neg (by rintro ⟨a,b⟩;rcases h3 with h3|h3;exact a h3;rw [Option.isNone_iff_eq_none] at b;rw [b] at h3;cases h3),if_neg h5,if_pos h6]
theorem ie6 {l:List Dev} {d:Dev} (h:checkM d=0) (h2:findD l d.index=none) (h3:d.parent=0∨(findD l d.parent).isSome=true) (h5:¬ 256≤l.length) (h6:¬ 7 < (ownM l d).length):insErr l d=if l.any (bad1 l (ownM l d) d) then 44 else 0:=by
 unfold insErr
 rw [if_neg (by simp [h]),if_neg (by simp [h2]),if_neg (by rintro ⟨a,b⟩;rcases h3 with h3|h3;exact a h3;rw [Option.isNone_iff_eq_none] at b;rw [b] at h3;cases h3),if_neg h5,if_neg h6]
theorem any_bad {l:List Dev} {p:Dev → Bool} {k:Nat} (hk:k < l.length) (h:p (l.getD k default)=true):l.any p=true:=List.any_eq_true.2 ⟨_,by rw [getD_lt l hk];exact List.getElem_mem _,h⟩
theorem take_bad {l:List Dev} {p:Dev → Bool} {k:Nat} (hk:k < l.length) (h0:∀ x ∈ l.take k,p x=false) (h:p (l.getD k default)=false):∀ x ∈ l.take (k+1),p x=false:=fun x hx=>by
 rw [List.take_succ_eq_append_getElem hk,List.mem_append,List.mem_singleton] at hx
 rcases hx with hx|hx
 ·exact h0 x hx
 ·rw [hx,← getD_lt l hk];exact h
set_option maxRecDepth 20000 in
set_option maxHeartbeats 8000000 in
theorem rins_pure (l:List Dev) (d:Dev) (hk:d.ok) (hd:d.original.size≤100000) (hz:∀ x ∈ l,x.original.size≤100000) (hl:l.length≤1000000) :
  PCalls Tryz.prog 20 [.agg (trE l),.agg d.e] [] fun r os=>r = .two (.agg (trE (if insErr l d=0 then insT l d else []))) (.c (.v (.int .i64 (insErr l d))))∧os=[]:=by
 have ck:=rcheck_pure d hk
 have i1:=rindex_pure l d.index (by omega)
 have i2:=rindex_pure l d.parent (by omega)
 have ho:=rorigin_pure l d.parent hl
 have hol:=orig_len l d.parent
 refine pcalls_of Tryz.func20 rfl (by simp [Tryz.ntmps20]) ?_
 rw [Tryz.ntmps20,Tryz.results20]
 push_cast [iO,tN]
 have cB:CutB 11 []:=trivial
 by_cases c0:checkM d=0
 case neg =>
  have e:=ie1 (l:=l) c0
  rw [e]
  repeat' (first|(refine plc [] (ck) ?_ ?_;push_cast [iO,tN,c0,ne_eq,not_false_eq_true];rintro r os ⟨rfl,rfl⟩;push_cast [iO,tN,c0,ne_eq,not_false_eq_true])|(refine Kont.use (by assumption) ?_)|(refine pwp_seq fun K hK=>?_)|(refine pwp_block ?_)|(refine pwp_scope ?_)|((first|(refine pwp_cut 11 [] ?_;first|refine pwp_region ?_|refine pwp_quiet (by kernel_rfl) (by kernel_rfl) ?_)|refine pwp_exit ?_|refine pwp_ret ?_|refine pwp_skip ?_);push_cast [iO,tN,c0,ne_eq,not_false_eq_true])|(refine pwp_cond ?_;push_cast [iO,tN,c0,ne_eq,not_false_eq_true];try (refine ⟨fun h=>?_,fun h=>?_⟩<;>(try simp only [decide_eq_true_eq,decide_eq_false_iff_not,cN] at h)<;>(try (first|contradiction|omega|exact cT h (by assumption)|exact cF h (by assumption))))))
  (refine retK_of [] ?_;push_cast [iO,tN])
  all_goals first|exact ⟨rfl,rfl⟩|simp
 rw [c0] at ck
 rcases idxI_find d.index l with ⟨h1,h2⟩|⟨i,h1,h2,h3⟩
 case inr =>
  have e:=ie2 (l:=l) c0 (by rw [h3];rfl)
  rw [e]
  rw [h1] at i1
  repeat' (first |  (refine plc [] (ck) ?_ ?_;push_cast [iO,tN];rintro r os ⟨rfl,rfl⟩;push_cast [iO,tN])|(refine plc [] (i1) ?_ ?_;push_cast [iO,tN];rintro r os ⟨rfl,rfl⟩;push_cast [iO,tN])  | (refine Kont.use (by assumption) ?_)|(refine pwp_seq fun K hK=>?_)|(refine pwp_block ?_)|(refine pwp_scope ?_)|((first|(refine pwp_cut 11 [] ?_;first|refine pwp_region ?_|refine pwp_quiet (by kernel_rfl) (by kernel_rfl) ?_)|refine pwp_exit ?_|refine pwp_ret ?_|refine pwp_skip ?_);push_cast [iO,tN])|(refine pwp_cond ?_;push_cast [iO,tN];try (refine ⟨fun h=>?_,fun h=>?_⟩<;>(try simp only [decide_eq_true_eq,decide_eq_false_iff_not,cN] at h)<;>(try (first|contradiction|omega|exact cT h (by assumption)|exact cF h (by assumption))))))
  (refine retK_of [] ?_;push_cast [iO,tN])
  all_goals first|exact ⟨rfl,rfl⟩|simp
 rw [h1] at i1
 have hot2:List.map strD (origM l d.parent)++[[D.v (.string d.original)]]=(ownM l d).map strD:=by
  unfold ownM
  rw [List.map_append];rfl
 have hown:(origM l d.parent).length+1=(ownM l d).length:=by unfold ownM;rw [List.length_append];rfl
 have hot3:List.take ((origM l d.parent).length+1) ((ownM l d).map strD)=(ownM l d).map strD:=List.take_of_length_le (by rw [List.length_map];omega)
 by_cases hbad:d.parent≠0∧findD l d.parent=none
 case pos =>
  obtain ⟨p0,hp⟩:=hbad
  have e:=ie3 (l:=l) c0 h2 p0 hp
  rw [e]
  rcases idxI_find d.parent l with ⟨q1,q2⟩|⟨i,q1,q2,q3⟩
  ·rw [q1] at i2
   repeat' (first|(refine plc [] (ck) ?_ ?_;push_cast [iO,tN,p0,ne_eq,not_false_eq_true];rintro r os ⟨rfl,rfl⟩;push_cast [iO,tN,p0,ne_eq,not_false_eq_true])|(refine plc [] (i1) ?_ ?_;push_cast [iO,tN,p0,ne_eq,not_false_eq_true];rintro r os ⟨rfl,rfl⟩;push_cast [iO,tN,p0,ne_eq,not_false_eq_true])|(refine plc [] (i2) ?_ ?_;push_cast [iO,tN,p0,ne_eq,not_false_eq_true];rintro r os ⟨rfl,rfl⟩;push_cast [iO,tN,p0,ne_eq,not_false_eq_true])|(refine Kont.use (by assumption) ?_)|(refine pwp_seq fun K hK=>?_)|(refine pwp_block ?_)|(refine pwp_scope ?_)|((first|(refine pwp_cut 11 [] ?_;first|refine pwp_region ?_|refine pwp_quiet (by kernel_rfl) (by kernel_rfl) ?_)|refine pwp_exit ?_|refine pwp_ret ?_|refine pwp_skip ?_);push_cast [iO,tN,p0,ne_eq,not_false_eq_true])|(refine pwp_cond ?_;push_cast [iO,tN,p0,ne_eq,not_false_eq_true];try (refine ⟨fun h=>?_,fun h=>?_⟩<;>(try simp only [decide_eq_true_eq,decide_eq_false_iff_not,cN] at h)<;>(try (first|contradiction|omega|exact cT h (by assumption)|exact cF h (by assumption))))))
   (refine retK_of [] ?_;push_cast [iO,tN])
   all_goals first|exact ⟨rfl,rfl⟩|simp
  ·rw [hp] at q3;cases q3
 have h3:d.parent=0∨(findD l d.parent).isSome=true:=by
  by_cases p0:d.parent=0
  ·exact .inl p0
  ·right
   cases hp:findD l d.parent with
   | none=>exact absurd ⟨p0,hp⟩ hbad
   | some x=>rfl
 repeat' (first |  (refine plc [] (ck) ?_ ?_;push_cast [iO,tN];rintro r os ⟨rfl,rfl⟩;push_cast [iO,tN])|(refine plc [] (i1) ?_ ?_;push_cast [iO,tN];rintro r os ⟨rfl,rfl⟩;push_cast [iO,tN])  | (refine Kont.use (by assumption) ?_)|(refine pwp_seq fun K hK=>?_)|(refine pwp_block ?_)|(refine pwp_scope ?_)|((first|(refine pwp_cut 11 [] ?_;first|refine pwp_region ?_|refine pwp_quiet (by kernel_rfl) (by kernel_rfl) ?_)|refine pwp_exit ?_|refine pwp_ret ?_|refine pwp_skip ?_);push_cast [iO,tN])|(refine pwp_cond ?_;push_cast [iO,tN];try (refine ⟨fun h=>?_,fun h=>?_⟩<;>(try simp only [decide_eq_true_eq,decide_eq_false_iff_not,cN] at h)<;>(try (first|contradiction|omega|exact cT h (by assumption)|exact cF h (by assumption))))))
 apply meet
 ·intro H
  by_cases p0:d.parent=0
  ·have p0':=eq_true p0
   push_cast [iO,tN,p0',ne_eq,not_true_eq_false]
   refine Kont.use (by assumption) ?_
   refine pwp_cond ?_
   push_cast [iO,tN]
   refine pwp_skip ?_
   push_cast [iO,tN]
   refine Kont.use (by assumption) ?_
   refine pwp_cut 11 [] ?_
   push_cast [iO,tN]
   exact H.out
  ·rcases idxI_find d.parent l with ⟨q1,q2⟩|⟨i,q1,q2,q3⟩
   ·rcases h3 with h3|h3
    ·exact absurd h3 p0
    ·rw [q2] at h3;cases h3
   rw [q1] at i2
   push_cast [iO,tN,p0,ne_eq,not_false_eq_true]
   (refine plc [] (i2) ?_ ?_;push_cast [iO,tN];rintro r os ⟨rfl,rfl⟩;push_cast [iO,tN])
   refine Kont.use (by assumption) ?_
   refine pwp_cond ?_
   push_cast [iO,tN]
   refine ⟨fun h=>absurd (of_decide_eq_true h) (by omega),fun _=>?_⟩
   refine pwp_skip ?_
   push_cast [iO,tN]
   refine Kont.use (by assumption) ?_
   refine pwp_cut 11 [] ?_
   push_cast [iO,tN]
   exact H.out
 by_cases h5:256≤l.length
 case pos =>
  have e:=ie4 c0 h2 h3 h5
  have h5':(256:Int)≤(l.length:Int):=by omega
  rw [e]
  repeat' (first|(refine Kont.use (by assumption) ?_)|(refine pwp_seq fun K hK=>?_)|(refine pwp_block ?_)|(refine pwp_scope ?_)|((first|(refine pwp_cut 11 [] ?_;first|refine pwp_region ?_|refine pwp_quiet (by kernel_rfl) (by kernel_rfl) ?_)|refine pwp_exit ?_|refine pwp_ret ?_|refine pwp_skip ?_);push_cast [iO,tN,h5'])|(refine pwp_cond ?_;push_cast [iO,tN,h5'];try (refine ⟨fun h=>?_,fun h=>?_⟩<;>(try simp only [decide_eq_true_eq,decide_eq_false_iff_not,cN] at h)<;>(try (first|contradiction|omega|exact cT h (by assumption)|exact cF h (by assumption))))))
  (refine retK_of [] ?_;push_cast [iO,tN])
  all_goals first|exact ⟨rfl,rfl⟩|simp
 have h5':¬ (256:Int)≤(l.length:Int):=by omega
 by_cases h6:7 < (ownM l d).length
 case pos =>
  have e:=ie5 c0 h2 h3 h5 h6
  have h6':(7:Int) < ((origM l d.parent).length:Int)+1:=by omega
  rw [e]
  repeat' (first|((refine pwp_cut 11 [] ?_;apply pwp_drawn_to;(focus kernel_rfl);(focus (simp only [List.length_cons,List.length_nil,Nat.reduceAdd];(repeat' first|(refine plc [] (ho) ?_ ?_;push_cast [iO,tN,h5',h6'];rintro r os ⟨rfl,rfl⟩;push_cast [iO,tN,h5',h6'])|((first|refine pah 1 ?_|refine pah 4 ?_|refine pah 8 ?_);push_cast [iO,tN,h5',h6'])|(refine pad ?_;first|with_reducible exact weak_cutS 11 [] _|(refine weak_fg ?_;push_cast [iO,tN,h5',h6']))|((first|refine pas [0] ?_|refine pas [2] ?_|refine pas [3] ?_|refine pas [5] ?_|refine pas [6] ?_|refine pas [7] ?_);push_cast [iO,tN,h5',h6'])|((first|refine pas [0,2] ?_|refine pas [0,5] ?_|refine pas [0,6] ?_|refine pas [2,5] ?_|refine pas [2,6] ?_|refine pas [3,5] ?_|refine pas [3,6] ?_);push_cast [iO,tN,h5',h6'];refine ⟨?_,?_⟩)|((first|refine pas [0,2,5] ?_|refine pas [0,2,6] ?_);push_cast [iO,tN,h5',h6'];refine ⟨?_,?_,?_⟩));done));push_cast [iO,tN,h5',h6']))|(refine Kont.use (by assumption) ?_)|(refine pwp_seq fun K hK=>?_)|(refine pwp_block ?_)|(refine pwp_scope ?_)|((first|(refine pwp_cut 11 [] ?_;first|refine pwp_region ?_|refine pwp_quiet (by kernel_rfl) (by kernel_rfl) ?_)|refine pwp_exit ?_|refine pwp_ret ?_|refine pwp_skip ?_);push_cast [iO,tN,h5',h6'])|(refine pwp_cond ?_;push_cast [iO,tN,h5',h6'];try (refine ⟨fun h=>?_,fun h=>?_⟩<;>(try simp only [decide_eq_true_eq,decide_eq_false_iff_not,cN] at h)<;>(try (first|contradiction|omega|exact cT h (by assumption)|exact cF h (by assumption))))))
  (refine retK_of [] ?_;push_cast [iO,tN])
  all_goals first|exact ⟨rfl,rfl⟩|simp
 have h6':¬ (7:Int) < ((origM l d.parent).length:Int)+1:=by omega
 have e:=ie6 c0 h2 h3 h5 h6
 repeat' (first|((refine pwp_cut 11 [] ?_;apply pwp_drawn_to;(focus kernel_rfl);(focus (simp only [List.length_cons,List.length_nil,Nat.reduceAdd];(repeat' first|(refine plc [] (ho) ?_ ?_;push_cast [iO,tN,h5',h6'];rintro r os ⟨rfl,rfl⟩;push_cast [iO,tN,h5',h6'])|((first|refine pah 1 ?_|refine pah 4 ?_|refine pah 8 ?_);push_cast [iO,tN,h5',h6'])|(refine pad ?_;first|with_reducible exact weak_cutS 11 [] _|(refine weak_fg ?_;push_cast [iO,tN,h5',h6']))|((first|refine pas [0] ?_|refine pas [2] ?_|refine pas [3] ?_|refine pas [5] ?_|refine pas [6] ?_|refine pas [7] ?_);push_cast [iO,tN,h5',h6'])|((first|refine pas [0,2] ?_|refine pas [0,5] ?_|refine pas [0,6] ?_|refine pas [2,5] ?_|refine pas [2,6] ?_|refine pas [3,5] ?_|refine pas [3,6] ?_);push_cast [iO,tN,h5',h6'];refine ⟨?_,?_⟩)|((first|refine pas [0,2,5] ?_|refine pas [0,2,6] ?_);push_cast [iO,tN,h5',h6'];refine ⟨?_,?_,?_⟩));done));push_cast [iO,tN,h5',h6']))|(refine Kont.use (by assumption) ?_)|(refine pwp_seq fun K hK=>?_)|(refine pwp_block ?_)|(refine pwp_scope ?_)|((first|(refine pwp_cut 11 [] ?_;first|refine pwp_region ?_|refine pwp_quiet (by kernel_rfl) (by kernel_rfl) ?_)|refine pwp_exit ?_|refine pwp_ret ?_|refine pwp_skip ?_);push_cast [iO,tN,h5',h6'])|(refine pwp_cond ?_;push_cast [iO,tN,h5',h6'];try (refine ⟨fun h=>?_,fun h=>?_⟩<;>(try simp only [decide_eq_true_eq,decide_eq_false_iff_not,cN] at h)<;>(try (first|contradiction|omega|exact cT h (by assumption)|exact cF h (by assumption))))))
 refine pwp_weak (weak_frz 3 (by omega)) ?_
 push_cast [iO,tN,hot2,hot3]
 (apply pwp_loop3 (α:=Nat) 11 [] (fun k=>[(7,.c (.v (.int .i64 (atM l (ownM l d) k)))),(8,.c (.v (.int .i64 k)))]) (fun k=>[]) (fun k=>k≤l.length∧∀ x ∈ l.take k,bad1 l (ownM l d) d x=false) (fun k=>l.length - k) (0);(focus ((try push_cast [iO,tN]);rfl));(focus exact ⟨by omega,by simp⟩);(focus ((refine weak_fg ?_;try push_cast [iO,tN]);(try (rfl)))))
 rintro k ⟨hk1,hb⟩
 push_cast [iO,tN]
 by_cases hlt:k < l.length
 case pos =>
  have hx:l.getD k default ∈ l:=by rw [getD_lt l hlt];exact List.getElem_mem _
  have hox:=rorigin_pure l (l.getD k default).index hl
  have hoxl:=orig_len l (l.getD k default).index
  have hcl:=rclash_pure (l.getD k default) d (hz _ hx) hd
  have hs:=atM_succ l (ownM l d) k
  have bu:bad1 l (ownM l d) d (l.getD k default)=(decide (cmpL (origM l (l.getD k default).index) (ownM l d)=0) || clashM (l.getD k default) d):=rfl
  have hyes:=any_bad (p:=bad1 l (ownM l d) d) hlt
  have hno:=take_bad hlt hb
  have hcm:=rcompare_pure (origM l (l.getD k default).index) (ownM l d) (by omega) (by omega)
  obtain ⟨cv,hcv⟩:∃ cv,cmpL (origM l (l.getD k default).index) (ownM l d)=cv:=⟨_,rfl⟩
  rw [hcv] at hcm hs bu
  by_cases z0:cv=0
  case pos =>
   have e9:=hyes (by rw [bu,decide_eq_true z0];rfl)
   have z0':=eq_true z0
   rw [e9] at e
   repeat' (first|((refine pwp_cut 11 [] ?_;apply pwp_drawn_to;(focus kernel_rfl);(focus (simp only [List.length_cons,List.length_nil,Nat.reduceAdd];(repeat' first|(refine plc [] (hox) ?_ ?_;push_cast [iO,tN,z0'];rintro r os ⟨rfl,rfl⟩;push_cast [iO,tN,z0'])|(refine pl_call2 true [] rfl rfl (by kernel_rfl) (hcm) ?_ ?_ ?_;push_cast [iO,tN,z0'];(intro _ r os;rintro ⟨rfl,rfl⟩;push_cast [iO,tN,z0']);rintro r os ⟨rfl,rfl⟩;refine pl_of_pops ?_;push_cast [iO,tN,z0'])|((first|refine pah 1 ?_|refine pah 3 ?_|refine pah 4 ?_|refine pah 5 ?_|refine pah 8 ?_|refine pah 10 ?_);push_cast [iO,tN,z0'])|(refine pad ?_;first|with_reducible exact weak_cutS 11 [] _|(refine weak_fg ?_;push_cast [iO,tN,z0']))|((first|refine pas [0] ?_|refine pas [2] ?_|refine pas [6] ?_|refine pas [7] ?_|refine pas [9] ?_);push_cast [iO,tN,z0'])|((first|refine pas [0,2] ?_|refine pas [0,6] ?_);push_cast [iO,tN,z0'];refine ⟨?_,?_⟩));done));push_cast [iO,tN,z0']))|((refine ql_call2 false rfl rfl (by kernel_rfl) (hcl) (fun r os h=>h.1) rfl ?_ ?_;push_cast [iO,tN,z0'];refine ql_of_qops ?_;push_cast [iO,tN,z0']))|(refine Kont.use (by assumption) ?_)|(refine pwp_seq fun K hK=>?_)|(refine pwp_block ?_)|(refine pwp_scope ?_)|((first|(refine pwp_cut 11 [] ?_;first|refine pwp_region ?_|refine pwp_quiet (by kernel_rfl) (by kernel_rfl) ?_)|refine pwp_exit ?_|refine pwp_ret ?_|refine pwp_skip ?_);push_cast [iO,tN,z0'])|(refine pwp_cond ?_;push_cast [iO,tN,z0'];try (refine ⟨fun h=>?_,fun h=>?_⟩<;>(try simp only [decide_eq_true_eq,decide_eq_false_iff_not,cN] at h)<;>(try (first|contradiction|omega|exact cT h (by assumption)|exact cF h (by assumption))))))
   (refine retK_of [] ?_;push_cast [iO,tN])
   all_goals rw [e]
   all_goals first|exact ⟨rfl,rfl⟩|simp
  rw [decide_eq_false z0,Bool.false_or] at bu
  cases hcc:clashM (l.getD k default) d
  case true =>
   rw [hcc] at hcl bu
   have e9:=hyes bu
   rw [e9] at e
   repeat' (first|((refine pwp_cut 11 [] ?_;apply pwp_drawn_to;(focus kernel_rfl);(focus (simp only [List.length_cons,List.length_nil,Nat.reduceAdd];(repeat' first|(refine plc [] (hox) ?_ ?_;push_cast [iO,tN,z0];rintro r os ⟨rfl,rfl⟩;push_cast [iO,tN,z0])|(refine pl_call2 true [] rfl rfl (by kernel_rfl) (hcm) ?_ ?_ ?_;push_cast [iO,tN,z0];(intro _ r os;rintro ⟨rfl,rfl⟩;push_cast [iO,tN,z0]);rintro r os ⟨rfl,rfl⟩;refine pl_of_pops ?_;push_cast [iO,tN,z0])|((first|refine pah 1 ?_|refine pah 3 ?_|refine pah 4 ?_|refine pah 5 ?_|refine pah 8 ?_|refine pah 10 ?_);push_cast [iO,tN,z0])|(refine pad ?_;first|with_reducible exact weak_cutS 11 [] _|(refine weak_fg ?_;push_cast [iO,tN,z0]))|((first|refine pas [0] ?_|refine pas [2] ?_|refine pas [6] ?_|refine pas [7] ?_|refine pas [9] ?_);push_cast [iO,tN,z0])|((first|refine pas [0,2] ?_|refine pas [0,6] ?_);push_cast [iO,tN,z0];refine ⟨?_,?_⟩));done));push_cast [iO,tN,z0]))|((refine ql_call2 false rfl rfl (by kernel_rfl) (hcl) (fun r os h=>h.1) rfl ?_ ?_;push_cast [iO,tN,z0];refine ql_of_qops ?_;push_cast [iO,tN,z0]))|(refine Kont.use (by assumption) ?_)|(refine pwp_seq fun K hK=>?_)|(refine pwp_block ?_)|(refine pwp_scope ?_)|((first|(refine pwp_cut 11 [] ?_;first|refine pwp_region ?_|refine pwp_quiet (by kernel_rfl) (by kernel_rfl) ?_)|refine pwp_exit ?_|refine pwp_ret ?_|refine pwp_skip ?_);push_cast [iO,tN,z0])|(refine pwp_cond ?_;push_cast [iO,tN,z0];try (refine ⟨fun h=>?_,fun h=>?_⟩<;>(try simp only [decide_eq_true_eq,decide_eq_false_iff_not,cN] at h)<;>(try (first|contradiction|omega|exact cT h (by assumption)|exact cF h (by assumption))))))
   (refine retK_of [] ?_;push_cast [iO,tN])
   all_goals rw [e]
   all_goals first|exact ⟨rfl,rfl⟩|simp
  rw [hcc] at hcl bu
  have hn:=hno bu
  by_cases zn:cv < 0
  case pos =>
   rw [if_pos zn] at hs
   have zn':=eq_true zn
   repeat' (first|((refine pwp_cut 11 [] ?_;apply pwp_drawn_to;(focus kernel_rfl);(focus (simp only [List.length_cons,List.length_nil,Nat.reduceAdd];(repeat' first|(refine plc [] (hox) ?_ ?_;push_cast [iO,tN,z0,zn'];rintro r os ⟨rfl,rfl⟩;push_cast [iO,tN,z0,zn'])|(refine pl_call2 true [] rfl rfl (by kernel_rfl) (hcm) ?_ ?_ ?_;push_cast [iO,tN,z0,zn'];(intro _ r os;rintro ⟨rfl,rfl⟩;push_cast [iO,tN,z0,zn']);rintro r os ⟨rfl,rfl⟩;refine pl_of_pops ?_;push_cast [iO,tN,z0,zn'])|((first|refine pah 1 ?_|refine pah 3 ?_|refine pah 4 ?_|refine pah 5 ?_|refine pah 8 ?_|refine pah 10 ?_);push_cast [iO,tN,z0,zn'])|(refine pad ?_;first|with_reducible exact weak_cutS 11 [] _|(refine weak_fg ?_;push_cast [iO,tN,z0,zn']))|((first|refine pas [0] ?_|refine pas [2] ?_|refine pas [6] ?_|refine pas [7] ?_|refine pas [9] ?_);push_cast [iO,tN,z0,zn'])|((first|refine pas [0,2] ?_|refine pas [0,6] ?_);push_cast [iO,tN,z0,zn'];refine ⟨?_,?_⟩));done));push_cast [iO,tN,z0,zn']))|((refine ql_call2 false rfl rfl (by kernel_rfl) (hcl) (fun r os h=>h.1) rfl ?_ ?_;push_cast [iO,tN,z0,zn'];refine ql_of_qops ?_;push_cast [iO,tN,z0,zn']))|(refine Kont.use (by assumption) ?_)|(refine pwp_seq fun K hK=>?_)|(refine pwp_block ?_)|(refine pwp_scope ?_)|((first|(refine pwp_cut 11 [] ?_;first|refine pwp_region ?_|refine pwp_quiet (by kernel_rfl) (by kernel_rfl) ?_)|refine pwp_exit ?_|refine pwp_ret ?_|refine pwp_skip ?_);push_cast [iO,tN,z0,zn'])|(refine pwp_cond ?_;push_cast [iO,tN,z0,zn'];try (refine ⟨fun h=>?_,fun h=>?_⟩<;>(try simp only [decide_eq_true_eq,decide_eq_false_iff_not,cN] at h)<;>(try (first|contradiction|omega|exact cT h (by assumption)|exact cF h (by assumption))))))
   exact ⟨k+1,⟨by omega,hn⟩,by (refine weak_fg ?_;push_cast [iO,tN,hs]),by omega⟩
  rw [if_neg zn] at hs
  repeat' (first|((refine pwp_cut 11 [] ?_;apply pwp_drawn_to;(focus kernel_rfl);(focus (simp only [List.length_cons,List.length_nil,Nat.reduceAdd];(repeat' first|(refine plc [] (hox) ?_ ?_;push_cast [iO,tN,z0,zn];rintro r os ⟨rfl,rfl⟩;push_cast [iO,tN,z0,zn])|(refine pl_call2 true [] rfl rfl (by kernel_rfl) (hcm) ?_ ?_ ?_;push_cast [iO,tN,z0,zn];(intro _ r os;rintro ⟨rfl,rfl⟩;push_cast [iO,tN,z0,zn]);rintro r os ⟨rfl,rfl⟩;refine pl_of_pops ?_;push_cast [iO,tN,z0,zn])|((first|refine pah 1 ?_|refine pah 3 ?_|refine pah 4 ?_|refine pah 5 ?_|refine pah 8 ?_|refine pah 10 ?_);push_cast [iO,tN,z0,zn])|(refine pad ?_;first|with_reducible exact weak_cutS 11 [] _|(refine weak_fg ?_;push_cast [iO,tN,z0,zn]))|((first|refine pas [0] ?_|refine pas [2] ?_|refine pas [6] ?_|refine pas [7] ?_|refine pas [9] ?_);push_cast [iO,tN,z0,zn])|((first|refine pas [0,2] ?_|refine pas [0,6] ?_);push_cast [iO,tN,z0,zn];refine ⟨?_,?_⟩));done));push_cast [iO,tN,z0,zn]))|((refine ql_call2 false rfl rfl (by kernel_rfl) (hcl) (fun r os h=>h.1) rfl ?_ ?_;push_cast [iO,tN,z0,zn];refine ql_of_qops ?_;push_cast [iO,tN,z0,zn]))|(refine Kont.use (by assumption) ?_)|(refine pwp_seq fun K hK=>?_)|(refine pwp_block ?_)|(refine pwp_scope ?_)|((first|(refine pwp_cut 11 [] ?_;first|refine pwp_region ?_|refine pwp_quiet (by kernel_rfl) (by kernel_rfl) ?_)|refine pwp_exit ?_|refine pwp_ret ?_|refine pwp_skip ?_);push_cast [iO,tN,z0,zn])|(refine pwp_cond ?_;push_cast [iO,tN,z0,zn];try (refine ⟨fun h=>?_,fun h=>?_⟩<;>(try simp only [decide_eq_true_eq,decide_eq_false_iff_not,cN] at h)<;>(try (first|contradiction|omega|exact cT h (by assumption)|exact cF h (by assumption))))))
  exact ⟨k+1,⟨by omega,hn⟩,by (refine weak_fg ?_;push_cast [iO,tN,hs]),by omega⟩
 have hk2:k=l.length:=by omega
 subst hk2
 rw [List.take_length] at hb
 have ea:l.any (bad1 l (ownM l d) d)=false:=List.any_eq_false.2 fun x hx=>by rw [hb x hx];simp
 rw [ea] at e
 simp only [Bool.false_eq_true,if_false] at e
 have hal:=atM_le l (ownM l d) l.length
 have hin:insT l d=l.take (atM l (ownM l d) l.length)++[d]++l.drop (atM l (ownM l d) l.length):=rfl
 obtain ⟨a,haa⟩:∃ a,atM l (ownM l d) l.length=a:=⟨_,rfl⟩
 rw [haa] at hal hin ⊢
 obtain ⟨A,hA⟩:∃ A,l.take a=A:=⟨_,rfl⟩
 obtain ⟨B,hB⟩:∃ B,l.drop a=B:=⟨_,rfl⟩
 have hAl:A.length≤1000000:=by rw [← hA,List.length_take];omega
 have hBl:B.length≤1000000:=by rw [← hB,List.length_drop];omega
 have hTk:List.take a (List.map Dev.d l)=A.map Dev.d:=by rw [← List.map_take,hA]
 have hDr:List.drop a (List.map Dev.d l)=B.map Dev.d:=by rw [← List.map_drop,hB]
 rw [hA,hB] at hin
 repeat' (first |  (refine pwp_drawn (by kernel_rfl) ?_;simp only [List.length_cons,List.length_nil,Nat.reduceAdd])  | (refine Kont.use (by assumption) ?_)|(refine pwp_seq fun K hK=>?_)|(refine pwp_block ?_)|(refine pwp_scope ?_)|((first|(refine pwp_cut 11 [] ?_;first|refine pwp_region ?_|refine pwp_quiet (by kernel_rfl) (by kernel_rfl) ?_)|refine pwp_exit ?_|refine pwp_ret ?_|refine pwp_skip ?_);push_cast [iO,tN])|(refine pwp_cond ?_;push_cast [iO,tN];try (refine ⟨fun h=>?_,fun h=>?_⟩<;>(try simp only [decide_eq_true_eq,decide_eq_false_iff_not,cN] at h)<;>(try (first|contradiction|omega|exact cT h (by assumption)|exact cF h (by assumption))))))
 refine pa_hoist 0 (by kernel_rfl) ?_
 push_cast [iO,tN,hTk,hDr]
 refine pa_hoist 2 (by kernel_rfl) ?_
 push_cast [iO,tN,hTk,hDr]
 refine pa_hoist 4 (by kernel_rfl) ?_
 push_cast [iO,tN,hTk,hDr]
 refine pa_hoist 10 (by kernel_rfl) ?_
 push_cast [iO,tN,hTk,hDr]
 refine pa_hoist 12 (by kernel_rfl) ?_
 push_cast [iO,tN,hTk,hDr]
 refine pa_weak (s':=⟨[(84,.c (.ptr 4 0)),(86,.c (.ptr 0 0)),(88,.c (.v (.int .i64 a))),(94,.c (.ptr 0 0)),(96,.c (.v (.int .i64 a))),(10,.c (.ptr 4 0)),(7,.c (.v (.int .i64 a))),(5,.c (.v (.int .i64 0))),(4,.c (.ptr 2 0)),(3,.c (.ptr 1 0)),(2,.c (.ptr 0 0))],[.box 36 (trE l),.box 48 d.e,.box 36 [.v (.slice none 0 0)],.arr 9 1 [],.box 36 [.v (.slice none 0 0)]]⟩) (by (refine weak_fg ?_;push_cast [iO,tN])) ?_
 refine pa_have 0 #[true,true,true,true,true,true,true,true,true,true,true,true,true,true,true,true,true] (⟨[(10,.c (.ptr 4 0)),(7,.c (.v (.int .i64 a))),(5,.c (.v (.int .i64 0))),(4,.c (.ptr 2 0)),(3,.c (.ptr 1 0)),(2,.c (.ptr 0 0))],[.box 36 (trE l),.box 48 d.e,.box 36 [.v (.slice none 0 0)],.arr 9 1 [],.box 36 [.own 5 (A.length+1+B.length)],.arr 48 10 ((A++[d]++B).map Dev.d)]⟩:S) (fun hd1_3_6_7_8_9_11_14_16_=>?_) ?_
 rotate_left
 ·refine pa_done (by kernel_rfl) ?_
  push_cast [iO,tN,hTk,hDr]
  repeat' (first|(refine Kont.use (by assumption) ?_)|(refine pwp_seq fun K hK=>?_)|(refine pwp_block ?_)|(refine pwp_scope ?_)|((first|(refine pwp_cut 11 [] ?_;first|refine pwp_region ?_|refine pwp_quiet (by kernel_rfl) (by kernel_rfl) ?_)|refine pwp_exit ?_|refine pwp_ret ?_|refine pwp_skip ?_);push_cast [iO,tN])|(refine pwp_cond ?_;push_cast [iO,tN];try (refine ⟨fun h=>?_,fun h=>?_⟩<;>(try simp only [decide_eq_true_eq,decide_eq_false_iff_not,cN] at h)<;>(try (first|contradiction|omega|exact cT h (by assumption)|exact cF h (by assumption))))))
  (refine retK_of [] ?_;push_cast [iO,tN])
  rw [e,hin]
  simp
  exact List.take_of_length_le (by simp;omega)
 refine pa_have 1 #[true,true,true,true,true,true,true,true,true,true,true,true,true,true,true,true,false] (⟨[(98,.c (.own 5 (A.length+1+B.length))),(99,.c (.ptr 4 0)),(10,.c (.ptr 4 0)),(7,.c (.v (.int .i64 a))),(5,.c (.v (.int .i64 0))),(4,.c (.ptr 2 0)),(3,.c (.ptr 1 0)),(2,.c (.ptr 0 0))],[.box 36 (trE l),.box 48 d.e,.box 36 [.v (.slice none 0 0)],.arr 9 1 [],.box 36 [.v (.slice none 0 0)],.arr 48 10 ((A++[d]++B).map Dev.d)]⟩:S) (fun hd1_3_6_7_8_9_11_14_=>?_) (by
  refine pa_step [16] (by kernel_rfl) rfl ?_
  push_cast [iO,tN,hTk,hDr]
  ·exact pa_weak (by (refine weak_fg ?_;push_cast [iO,tN,hTk,hDr])) hd1_3_6_7_8_9_11_14_16_)
 refine pa_have 3 #[true,true,true,true,true,true,true,true,true,true,true,true,true,true,false,false,false] (⟨[(93,.c (.own 5 (A.length+1))),(97,.c (.sl 10 (B.map Dev.d))),(10,.c (.ptr 4 0)),(7,.c (.v (.int .i64 a))),(5,.c (.v (.int .i64 0))),(4,.c (.ptr 2 0)),(3,.c (.ptr 1 0)),(2,.c (.ptr 0 0))],[.box 36 (trE l),.box 48 d.e,.box 36 [.v (.slice none 0 0)],.arr 9 1 [],.box 36 [.v (.slice none 0 0)],.arr 48 10 ((A++[d]).map Dev.d)]⟩:S) (fun hd1_3_6_7_8_9_11_=>?_) (by
  refine pa_step [14] (by kernel_rfl) rfl ?_
  push_cast [iO,tN,hTk,hDr]
  ·refine pa_hoist 15 (by kernel_rfl) ?_
   push_cast [iO,tN,hTk,hDr]
   exact pa_weak (by (refine weak_fg ?_;push_cast [iO,tN,hTk,hDr])) hd1_3_6_7_8_9_11_14_)
 refine pa_have 5 #[true,true,true,true,true,true,true,true,true,true,true,false,true,false,false,false,false] (⟨[(93,.c (.own 5 (A.length+1))),(94,.c (.ptr 0 0)),(96,.c (.v (.int .i64 a))),(10,.c (.ptr 4 0)),(7,.c (.v (.int .i64 a))),(5,.c (.v (.int .i64 0))),(4,.c (.ptr 2 0)),(3,.c (.ptr 1 0)),(2,.c (.ptr 0 0))],[.box 36 (trE l),.box 48 d.e,.box 36 [.v (.slice none 0 0)],.arr 9 1 [],.box 36 [.v (.slice none 0 0)],.arr 48 10 ((A++[d]).map Dev.d)]⟩:S) (fun hd1_3_6_7_8_9_=>?_) (by
  refine pa_step [11] (by kernel_rfl) rfl ?_
  push_cast [iO,tN,hTk,hDr]
  ·refine pa_hoist 13 (by kernel_rfl) ?_
   push_cast [iO,tN,hTk,hDr]
   exact pa_weak (by (refine weak_fg ?_;push_cast [iO,tN,hTk,hDr])) hd1_3_6_7_8_9_11_)
 refine pa_have 4 #[true,true,true,true,true,true,true,true,true,false,true,true,true,true,false,false,false] (⟨[(90,.c (.own 5 A.length)),(92,.c (.full 10 [d.d])),(97,.c (.sl 10 (B.map Dev.d))),(10,.c (.ptr 4 0)),(7,.c (.v (.int .i64 a))),(5,.c (.v (.int .i64 0))),(4,.c (.ptr 2 0)),(3,.c (.ptr 1 0)),(2,.c (.ptr 0 0))],[.box 36 (trE l),.box 48 d.e,.box 36 [.v (.slice none 0 0)],.arr 9 1 [],.box 36 [.v (.slice none 0 0)],.arr 48 10 ((A).map Dev.d)]⟩:S) (fun hd1_3_6_7_8_11_=>?_) (by
  refine pa_step [9] (by kernel_rfl) rfl ?_
  push_cast [iO,tN,hTk,hDr]
  ·exact pa_weak (by (refine weak_fg ?_;push_cast [iO,tN,hTk,hDr])) hd1_3_6_7_8_9_11_)
 refine pa_have 6 #[true,true,true,true,true,true,true,true,true,false,true,false,true,false,false,false,false] (⟨[(90,.c (.own 5 A.length)),(92,.c (.full 10 [d.d])),(94,.c (.ptr 0 0)),(96,.c (.v (.int .i64 a))),(10,.c (.ptr 4 0)),(7,.c (.v (.int .i64 a))),(5,.c (.v (.int .i64 0))),(4,.c (.ptr 2 0)),(3,.c (.ptr 1 0)),(2,.c (.ptr 0 0))],[.box 36 (trE l),.box 48 d.e,.box 36 [.v (.slice none 0 0)],.arr 9 1 [],.box 36 [.v (.slice none 0 0)],.arr 48 10 ((A).map Dev.d)]⟩:S) (fun hd1_3_6_7_8_=>?_) (by
  refine pa_step [9,11] (by kernel_rfl) rfl ?_
  push_cast [iO,tN,hTk,hDr]
  refine ⟨?_,?_⟩
  ·exact pa_weak (by (refine weak_fg ?_;push_cast [iO,tN,hTk,hDr])) hd1_3_6_7_8_9_
  ·refine pa_hoist 13 (by kernel_rfl) ?_
   push_cast [iO,tN,hTk,hDr]
   exact pa_weak (by (refine weak_fg ?_;push_cast [iO,tN,hTk,hDr])) hd1_3_6_7_8_11_)
 refine pa_have 5 #[true,true,true,true,true,true,true,true,false,false,true,true,true,true,false,false,false] (⟨[(90,.c (.own 5 A.length)),(91,.agg d.e),(97,.c (.sl 10 (B.map Dev.d))),(10,.c (.ptr 4 0)),(7,.c (.v (.int .i64 a))),(5,.c (.v (.int .i64 0))),(4,.c (.ptr 2 0)),(3,.c (.ptr 1 0)),(2,.c (.ptr 0 0))],[.box 36 (trE l),.box 48 d.e,.box 36 [.v (.slice none 0 0)],.arr 9 1 [],.box 36 [.v (.slice none 0 0)],.arr 48 10 ((A).map Dev.d)]⟩:S) (fun hd1_3_6_7_11_=>?_) (by
  refine pa_step [8] (by kernel_rfl) rfl ?_
  push_cast [iO,tN,hTk,hDr]
  ·exact pa_weak (by (refine weak_fg ?_;push_cast [iO,tN,hTk,hDr])) hd1_3_6_7_8_11_)
 refine pa_have 5 #[true,true,true,true,true,true,false,true,true,false,true,true,true,true,false,false,false] (⟨[(85,.c (.v (.slice none 0 0))),(89,.c (.sl 10 (A.map Dev.d))),(92,.c (.full 10 [d.d])),(97,.c (.sl 10 (B.map Dev.d))),(10,.c (.ptr 4 0)),(7,.c (.v (.int .i64 a))),(5,.c (.v (.int .i64 0))),(4,.c (.ptr 2 0)),(3,.c (.ptr 1 0)),(2,.c (.ptr 0 0))],[.box 36 (trE l),.box 48 d.e,.box 36 [.v (.slice none 0 0)],.arr 9 1 [],.box 36 [.v (.slice none 0 0)]]⟩:S) (fun hd1_3_7_8_11_=>?_) (by
  refine pa_step [6] (by kernel_rfl) rfl ?_
  push_cast [iO,tN,hTk,hDr]
  ·exact pa_weak (by (refine weak_fg ?_;push_cast [iO,tN,hTk,hDr])) hd1_3_6_7_8_11_)
 refine pa_have 7 #[true,true,true,true,true,true,true,true,false,false,true,false,true,false,false,false,false] (⟨[(90,.c (.own 5 A.length)),(91,.agg d.e),(94,.c (.ptr 0 0)),(96,.c (.v (.int .i64 a))),(10,.c (.ptr 4 0)),(7,.c (.v (.int .i64 a))),(5,.c (.v (.int .i64 0))),(4,.c (.ptr 2 0)),(3,.c (.ptr 1 0)),(2,.c (.ptr 0 0))],[.box 36 (trE l),.box 48 d.e,.box 36 [.v (.slice none 0 0)],.arr 9 1 [],.box 36 [.v (.slice none 0 0)],.arr 48 10 ((A).map Dev.d)]⟩:S) (fun hd1_3_6_7_=>?_) (by
  refine pa_step [8,11] (by kernel_rfl) rfl ?_
  push_cast [iO,tN,hTk,hDr]
  refine ⟨?_,?_⟩
  ·exact pa_weak (by (refine weak_fg ?_;push_cast [iO,tN,hTk,hDr])) hd1_3_6_7_8_
  ·refine pa_hoist 13 (by kernel_rfl) ?_
   push_cast [iO,tN,hTk,hDr]
   exact pa_weak (by (refine weak_fg ?_;push_cast [iO,tN,hTk,hDr])) hd1_3_6_7_11_)
 refine pa_have 6 #[true,true,true,true,true,true,true,false,false,false,true,true,true,true,false,false,false] (⟨[(90,.c (.own 5 A.length)),(97,.c (.sl 10 (B.map Dev.d))),(10,.c (.ptr 4 0)),(7,.c (.v (.int .i64 a))),(5,.c (.v (.int .i64 0))),(4,.c (.ptr 2 0)),(3,.c (.ptr 1 0)),(2,.c (.ptr 0 0))],[.box 36 (trE l),.box 48 d.e,.box 36 [.v (.slice none 0 0)],.arr 9 1 [],.box 36 [.v (.slice none 0 0)],.arr 48 10 ((A).map Dev.d)]⟩:S) (fun hd1_3_6_11_=>?_) (by
  refine pa_step [7] (by kernel_rfl) rfl ?_
  push_cast [iO,tN,hTk,hDr]
  ·exact pa_weak (by (refine weak_fg ?_;push_cast [iO,tN,hTk,hDr])) hd1_3_6_7_11_)
 refine pa_have 7 #[true,true,true,true,true,true,false,true,true,false,true,false,true,false,false,false,false] (⟨[(85,.c (.v (.slice none 0 0))),(89,.c (.sl 10 (A.map Dev.d))),(92,.c (.full 10 [d.d])),(94,.c (.ptr 0 0)),(96,.c (.v (.int .i64 a))),(10,.c (.ptr 4 0)),(7,.c (.v (.int .i64 a))),(5,.c (.v (.int .i64 0))),(4,.c (.ptr 2 0)),(3,.c (.ptr 1 0)),(2,.c (.ptr 0 0))],[.box 36 (trE l),.box 48 d.e,.box 36 [.v (.slice none 0 0)],.arr 9 1 [],.box 36 [.v (.slice none 0 0)]]⟩:S) (fun hd1_3_7_8_=>?_) (by
  refine pa_step [6,11] (by kernel_rfl) rfl ?_
  push_cast [iO,tN,hTk,hDr]
  refine ⟨?_,?_⟩
  ·exact pa_weak (by (refine weak_fg ?_;push_cast [iO,tN,hTk,hDr])) hd1_3_6_7_8_
  ·refine pa_hoist 13 (by kernel_rfl) ?_
   push_cast [iO,tN,hTk,hDr]
   exact pa_weak (by (refine weak_fg ?_;push_cast [iO,tN,hTk,hDr])) hd1_3_7_8_11_)
 refine pa_have 6 #[true,true,true,true,true,true,false,true,false,false,true,true,true,true,false,false,false] (⟨[(85,.c (.v (.slice none 0 0))),(89,.c (.sl 10 (A.map Dev.d))),(91,.agg d.e),(97,.c (.sl 10 (B.map Dev.d))),(10,.c (.ptr 4 0)),(7,.c (.v (.int .i64 a))),(5,.c (.v (.int .i64 0))),(4,.c (.ptr 2 0)),(3,.c (.ptr 1 0)),(2,.c (.ptr 0 0))],[.box 36 (trE l),.box 48 d.e,.box 36 [.v (.slice none 0 0)],.arr 9 1 [],.box 36 [.v (.slice none 0 0)]]⟩:S) (fun hd1_3_7_11_=>?_) (by
  refine pa_step [6,8] (by kernel_rfl) rfl ?_
  push_cast [iO,tN,hTk,hDr]
  refine ⟨?_,?_⟩
  ·exact pa_weak (by (refine weak_fg ?_;push_cast [iO,tN,hTk,hDr])) hd1_3_6_7_11_
  ·exact pa_weak (by (refine weak_fg ?_;push_cast [iO,tN,hTk,hDr])) hd1_3_7_8_11_)
 refine pa_have 7 #[true,true,true,false,true,false,false,true,true,false,true,true,true,true,false,false,false] (⟨[(85,.c (.v (.slice none 0 0))),(86,.c (.ptr 0 0)),(88,.c (.v (.int .i64 a))),(92,.c (.full 10 [d.d])),(97,.c (.sl 10 (B.map Dev.d))),(10,.c (.ptr 4 0)),(7,.c (.v (.int .i64 a))),(5,.c (.v (.int .i64 0))),(4,.c (.ptr 2 0)),(3,.c (.ptr 1 0)),(2,.c (.ptr 0 0))],[.box 36 (trE l),.box 48 d.e,.box 36 [.v (.slice none 0 0)],.arr 9 1 [],.box 36 [.v (.slice none 0 0)]]⟩:S) (fun hd1_7_8_11_=>?_) (by
  refine pa_step [3] (by kernel_rfl) rfl ?_
  push_cast [iO,tN,hTk,hDr]
  ·refine pa_hoist 5 (by kernel_rfl) ?_
   push_cast [iO,tN,hTk,hDr]
   exact pa_weak (by (refine weak_fg ?_;push_cast [iO,tN,hTk,hDr])) hd1_3_7_8_11_)
 refine pa_have 6 #[true,false,true,true,true,true,false,true,true,false,true,true,true,true,false,false,false] (⟨[(84,.c (.ptr 4 0)),(89,.c (.sl 10 (A.map Dev.d))),(92,.c (.full 10 [d.d])),(97,.c (.sl 10 (B.map Dev.d))),(10,.c (.ptr 4 0)),(7,.c (.v (.int .i64 a))),(5,.c (.v (.int .i64 0))),(4,.c (.ptr 2 0)),(3,.c (.ptr 1 0)),(2,.c (.ptr 0 0))],[.box 36 (trE l),.box 48 d.e,.box 36 [.v (.slice none 0 0)],.arr 9 1 [],.box 36 [.v (.slice none 0 0)]]⟩:S) (fun hd3_7_8_11_=>?_) (by
  refine pa_step [1] (by kernel_rfl) rfl ?_
  push_cast [iO,tN,hTk,hDr]
  ·exact pa_weak (by (refine weak_fg ?_;push_cast [iO,tN,hTk,hDr])) hd1_3_7_8_11_)
 refine pa_have 8 #[true,true,true,true,true,true,true,false,false,false,true,false,true,false,false,false,false] (⟨[(90,.c (.own 5 A.length)),(94,.c (.ptr 0 0)),(96,.c (.v (.int .i64 a))),(10,.c (.ptr 4 0)),(7,.c (.v (.int .i64 a))),(5,.c (.v (.int .i64 0))),(4,.c (.ptr 2 0)),(3,.c (.ptr 1 0)),(2,.c (.ptr 0 0))],[.box 36 (trE l),.box 48 d.e,.box 36 [.v (.slice none 0 0)],.arr 9 1 [],.box 36 [.v (.slice none 0 0)],.arr 48 10 ((A).map Dev.d)]⟩:S) (fun hd1_3_6_=>?_) (by
  refine pa_step [7,11] (by kernel_rfl) rfl ?_
  push_cast [iO,tN,hTk,hDr]
  refine ⟨?_,?_⟩
  ·exact pa_weak (by (refine weak_fg ?_;push_cast [iO,tN,hTk,hDr])) hd1_3_6_7_
  ·refine pa_hoist 13 (by kernel_rfl) ?_
   push_cast [iO,tN,hTk,hDr]
   exact pa_weak (by (refine weak_fg ?_;push_cast [iO,tN,hTk,hDr])) hd1_3_6_11_)
 refine pa_have 8 #[true,true,true,true,true,true,false,true,false,false,true,false,true,false,false,false,false] (⟨[(85,.c (.v (.slice none 0 0))),(89,.c (.sl 10 (A.map Dev.d))),(91,.agg d.e),(94,.c (.ptr 0 0)),(96,.c (.v (.int .i64 a))),(10,.c (.ptr 4 0)),(7,.c (.v (.int .i64 a))),(5,.c (.v (.int .i64 0))),(4,.c (.ptr 2 0)),(3,.c (.ptr 1 0)),(2,.c (.ptr 0 0))],[.box 36 (trE l),.box 48 d.e,.box 36 [.v (.slice none 0 0)],.arr 9 1 [],.box 36 [.v (.slice none 0 0)]]⟩:S) (fun hd1_3_7_=>?_) (by
  refine pa_step [6,8,11] (by kernel_rfl) rfl ?_
  push_cast [iO,tN,hTk,hDr]
  refine ⟨?_,?_,?_⟩
  ·exact pa_weak (by (refine weak_fg ?_;push_cast [iO,tN,hTk,hDr])) hd1_3_6_7_
  ·exact pa_weak (by (refine weak_fg ?_;push_cast [iO,tN,hTk,hDr])) hd1_3_7_8_
  ·refine pa_hoist 13 (by kernel_rfl) ?_
   push_cast [iO,tN,hTk,hDr]
   exact pa_weak (by (refine weak_fg ?_;push_cast [iO,tN,hTk,hDr])) hd1_3_7_11_)
 refine pa_have 7 #[true,true,true,true,true,true,false,false,false,false,true,true,true,true,false,false,false] (⟨[(85,.c (.v (.slice none 0 0))),(89,.c (.sl 10 (A.map Dev.d))),(97,.c (.sl 10 (B.map Dev.d))),(10,.c (.ptr 4 0)),(7,.c (.v (.int .i64 a))),(5,.c (.v (.int .i64 0))),(4,.c (.ptr 2 0)),(3,.c (.ptr 1 0)),(2,.c (.ptr 0 0))],[.box 36 (trE l),.box 48 d.e,.box 36 [.v (.slice none 0 0)],.arr 9 1 [],.box 36 [.v (.slice none 0 0)]]⟩:S) (fun hd1_3_11_=>?_) (by
  refine pa_step [6,7] (by kernel_rfl) rfl ?_
  push_cast [iO,tN,hTk,hDr]
  refine ⟨?_,?_⟩
  ·exact pa_weak (by (refine weak_fg ?_;push_cast [iO,tN,hTk,hDr])) hd1_3_6_11_
  ·exact pa_weak (by (refine weak_fg ?_;push_cast [iO,tN,hTk,hDr])) hd1_3_7_11_)
 refine pa_have 9 #[true,true,true,false,true,false,false,true,true,false,true,false,true,false,false,false,false] (⟨[(85,.c (.v (.slice none 0 0))),(86,.c (.ptr 0 0)),(88,.c (.v (.int .i64 a))),(92,.c (.full 10 [d.d])),(94,.c (.ptr 0 0)),(96,.c (.v (.int .i64 a))),(10,.c (.ptr 4 0)),(7,.c (.v (.int .i64 a))),(5,.c (.v (.int .i64 0))),(4,.c (.ptr 2 0)),(3,.c (.ptr 1 0)),(2,.c (.ptr 0 0))],[.box 36 (trE l),.box 48 d.e,.box 36 [.v (.slice none 0 0)],.arr 9 1 [],.box 36 [.v (.slice none 0 0)]]⟩:S) (fun hd1_7_8_=>?_) (by
  refine pa_step [3,11] (by kernel_rfl) rfl ?_
  push_cast [iO,tN,hTk,hDr]
  refine ⟨?_,?_⟩
  ·refine pa_hoist 5 (by kernel_rfl) ?_
   push_cast [iO,tN,hTk,hDr]
   exact pa_weak (by (refine weak_fg ?_;push_cast [iO,tN,hTk,hDr])) hd1_3_7_8_
  ·refine pa_hoist 13 (by kernel_rfl) ?_
   push_cast [iO,tN,hTk,hDr]
   exact pa_weak (by (refine weak_fg ?_;push_cast [iO,tN,hTk,hDr])) hd1_7_8_11_)
 refine pa_have 8 #[true,true,true,false,true,false,false,true,false,false,true,true,true,true,false,false,false] (⟨[(85,.c (.v (.slice none 0 0))),(86,.c (.ptr 0 0)),(88,.c (.v (.int .i64 a))),(91,.agg d.e),(97,.c (.sl 10 (B.map Dev.d))),(10,.c (.ptr 4 0)),(7,.c (.v (.int .i64 a))),(5,.c (.v (.int .i64 0))),(4,.c (.ptr 2 0)),(3,.c (.ptr 1 0)),(2,.c (.ptr 0 0))],[.box 36 (trE l),.box 48 d.e,.box 36 [.v (.slice none 0 0)],.arr 9 1 [],.box 36 [.v (.slice none 0 0)]]⟩:S) (fun hd1_7_11_=>?_) (by
  refine pa_step [3,8] (by kernel_rfl) rfl ?_
  push_cast [iO,tN,hTk,hDr]
  refine ⟨?_,?_⟩
  ·refine pa_hoist 5 (by kernel_rfl) ?_
   push_cast [iO,tN,hTk,hDr]
   exact pa_weak (by (refine weak_fg ?_;push_cast [iO,tN,hTk,hDr])) hd1_3_7_11_
  ·exact pa_weak (by (refine weak_fg ?_;push_cast [iO,tN,hTk,hDr])) hd1_7_8_11_)
 refine pa_have 8 #[true,false,true,true,true,true,false,true,true,false,true,false,true,false,false,false,false] (⟨[(84,.c (.ptr 4 0)),(89,.c (.sl 10 (A.map Dev.d))),(92,.c (.full 10 [d.d])),(94,.c (.ptr 0 0)),(96,.c (.v (.int .i64 a))),(10,.c (.ptr 4 0)),(7,.c (.v (.int .i64 a))),(5,.c (.v (.int .i64 0))),(4,.c (.ptr 2 0)),(3,.c (.ptr 1 0)),(2,.c (.ptr 0 0))],[.box 36 (trE l),.box 48 d.e,.box 36 [.v (.slice none 0 0)],.arr 9 1 [],.box 36 [.v (.slice none 0 0)]]⟩:S) (fun hd3_7_8_=>?_) (by
  refine pa_step [1,11] (by kernel_rfl) rfl ?_
  push_cast [iO,tN,hTk,hDr]
  refine ⟨?_,?_⟩
  ·exact pa_weak (by (refine weak_fg ?_;push_cast [iO,tN,hTk,hDr])) hd1_3_7_8_
  ·refine pa_hoist 13 (by kernel_rfl) ?_
   push_cast [iO,tN,hTk,hDr]
   exact pa_weak (by (refine weak_fg ?_;push_cast [iO,tN,hTk,hDr])) hd3_7_8_11_)
 refine pa_have 7 #[true,false,true,true,true,true,false,true,false,false,true,true,true,true,false,false,false] (⟨[(84,.c (.ptr 4 0)),(89,.c (.sl 10 (A.map Dev.d))),(91,.agg d.e),(97,.c (.sl 10 (B.map Dev.d))),(10,.c (.ptr 4 0)),(7,.c (.v (.int .i64 a))),(5,.c (.v (.int .i64 0))),(4,.c (.ptr 2 0)),(3,.c (.ptr 1 0)),(2,.c (.ptr 0 0))],[.box 36 (trE l),.box 48 d.e,.box 36 [.v (.slice none 0 0)],.arr 9 1 [],.box 36 [.v (.slice none 0 0)]]⟩:S) (fun hd3_7_11_=>?_) (by
  refine pa_step [1,8] (by kernel_rfl) rfl ?_
  push_cast [iO,tN,hTk,hDr]
  refine ⟨?_,?_⟩
  ·exact pa_weak (by (refine weak_fg ?_;push_cast [iO,tN,hTk,hDr])) hd1_3_7_11_
  ·exact pa_weak (by (refine weak_fg ?_;push_cast [iO,tN,hTk,hDr])) hd3_7_8_11_)
 refine pa_have 8 #[true,false,true,false,true,false,false,true,true,false,true,true,true,true,false,false,false] (⟨[(84,.c (.ptr 4 0)),(86,.c (.ptr 0 0)),(88,.c (.v (.int .i64 a))),(92,.c (.full 10 [d.d])),(97,.c (.sl 10 (B.map Dev.d))),(10,.c (.ptr 4 0)),(7,.c (.v (.int .i64 a))),(5,.c (.v (.int .i64 0))),(4,.c (.ptr 2 0)),(3,.c (.ptr 1 0)),(2,.c (.ptr 0 0))],[.box 36 (trE l),.box 48 d.e,.box 36 [.v (.slice none 0 0)],.arr 9 1 [],.box 36 [.v (.slice none 0 0)]]⟩:S) (fun hd7_8_11_=>?_) (by
  refine pa_step [1,3] (by kernel_rfl) rfl ?_
  push_cast [iO,tN,hTk,hDr]
  refine ⟨?_,?_⟩
  ·exact pa_weak (by (refine weak_fg ?_;push_cast [iO,tN,hTk,hDr])) hd1_7_8_11_
  ·refine pa_hoist 5 (by kernel_rfl) ?_
   push_cast [iO,tN,hTk,hDr]
   exact pa_weak (by (refine weak_fg ?_;push_cast [iO,tN,hTk,hDr])) hd3_7_8_11_)
 refine pa_have 9 #[true,true,true,true,true,true,false,false,false,false,true,false,true,false,false,false,false] (⟨[(85,.c (.v (.slice none 0 0))),(89,.c (.sl 10 (A.map Dev.d))),(94,.c (.ptr 0 0)),(96,.c (.v (.int .i64 a))),(10,.c (.ptr 4 0)),(7,.c (.v (.int .i64 a))),(5,.c (.v (.int .i64 0))),(4,.c (.ptr 2 0)),(3,.c (.ptr 1 0)),(2,.c (.ptr 0 0))],[.box 36 (trE l),.box 48 d.e,.box 36 [.v (.slice none 0 0)],.arr 9 1 [],.box 36 [.v (.slice none 0 0)]]⟩:S) (fun hd1_3_=>?_) (by
  refine pa_step [6,7,11] (by kernel_rfl) rfl ?_
  push_cast [iO,tN,hTk,hDr]
  refine ⟨?_,?_,?_⟩
  ·exact pa_weak (by (refine weak_fg ?_;push_cast [iO,tN,hTk,hDr])) hd1_3_6_
  ·exact pa_weak (by (refine weak_fg ?_;push_cast [iO,tN,hTk,hDr])) hd1_3_7_
  ·refine pa_hoist 13 (by kernel_rfl) ?_
   push_cast [iO,tN,hTk,hDr]
   exact pa_weak (by (refine weak_fg ?_;push_cast [iO,tN,hTk,hDr])) hd1_3_11_)
 refine pa_have 10 #[true,true,true,false,true,false,false,true,false,false,true,false,true,false,false,false,false] (⟨[(85,.c (.v (.slice none 0 0))),(86,.c (.ptr 0 0)),(88,.c (.v (.int .i64 a))),(91,.agg d.e),(94,.c (.ptr 0 0)),(96,.c (.v (.int .i64 a))),(10,.c (.ptr 4 0)),(7,.c (.v (.int .i64 a))),(5,.c (.v (.int .i64 0))),(4,.c (.ptr 2 0)),(3,.c (.ptr 1 0)),(2,.c (.ptr 0 0))],[.box 36 (trE l),.box 48 d.e,.box 36 [.v (.slice none 0 0)],.arr 9 1 [],.box 36 [.v (.slice none 0 0)]]⟩:S) (fun hd1_7_=>?_) (by
  refine pa_step [3,8,11] (by kernel_rfl) rfl ?_
  push_cast [iO,tN,hTk,hDr]
  refine ⟨?_,?_,?_⟩
  ·refine pa_hoist 5 (by kernel_rfl) ?_
   push_cast [iO,tN,hTk,hDr]
   exact pa_weak (by (refine weak_fg ?_;push_cast [iO,tN,hTk,hDr])) hd1_3_7_
  ·exact pa_weak (by (refine weak_fg ?_;push_cast [iO,tN,hTk,hDr])) hd1_7_8_
  ·refine pa_hoist 13 (by kernel_rfl) ?_
   push_cast [iO,tN,hTk,hDr]
   exact pa_weak (by (refine weak_fg ?_;push_cast [iO,tN,hTk,hDr])) hd1_7_11_)
 refine pa_have 9 #[true,true,true,false,true,false,false,false,false,false,true,true,true,true,false,false,false] (⟨[(85,.c (.v (.slice none 0 0))),(86,.c (.ptr 0 0)),(88,.c (.v (.int .i64 a))),(97,.c (.sl 10 (B.map Dev.d))),(10,.c (.ptr 4 0)),(7,.c (.v (.int .i64 a))),(5,.c (.v (.int .i64 0))),(4,.c (.ptr 2 0)),(3,.c (.ptr 1 0)),(2,.c (.ptr 0 0))],[.box 36 (trE l),.box 48 d.e,.box 36 [.v (.slice none 0 0)],.arr 9 1 [],.box 36 [.v (.slice none 0 0)]]⟩:S) (fun hd1_11_=>?_) (by
  refine pa_step [3,7] (by kernel_rfl) rfl ?_
  push_cast [iO,tN,hTk,hDr]
  refine ⟨?_,?_⟩
  ·refine pa_hoist 5 (by kernel_rfl) ?_
   push_cast [iO,tN,hTk,hDr]
   exact pa_weak (by (refine weak_fg ?_;push_cast [iO,tN,hTk,hDr])) hd1_3_11_
  ·exact pa_weak (by (refine weak_fg ?_;push_cast [iO,tN,hTk,hDr])) hd1_7_11_)
 refine pa_have 9 #[true,false,true,true,true,true,false,true,false,false,true,false,true,false,false,false,false] (⟨[(84,.c (.ptr 4 0)),(89,.c (.sl 10 (A.map Dev.d))),(91,.agg d.e),(94,.c (.ptr 0 0)),(96,.c (.v (.int .i64 a))),(10,.c (.ptr 4 0)),(7,.c (.v (.int .i64 a))),(5,.c (.v (.int .i64 0))),(4,.c (.ptr 2 0)),(3,.c (.ptr 1 0)),(2,.c (.ptr 0 0))],[.box 36 (trE l),.box 48 d.e,.box 36 [.v (.slice none 0 0)],.arr 9 1 [],.box 36 [.v (.slice none 0 0)]]⟩:S) (fun hd3_7_=>?_) (by
  refine pa_step [1,8,11] (by kernel_rfl) rfl ?_
  push_cast [iO,tN,hTk,hDr]
  refine ⟨?_,?_,?_⟩
  ·exact pa_weak (by (refine weak_fg ?_;push_cast [iO,tN,hTk,hDr])) hd1_3_7_
  ·exact pa_weak (by (refine weak_fg ?_;push_cast [iO,tN,hTk,hDr])) hd3_7_8_
  ·refine pa_hoist 13 (by kernel_rfl) ?_
   push_cast [iO,tN,hTk,hDr]
   exact pa_weak (by (refine weak_fg ?_;push_cast [iO,tN,hTk,hDr])) hd3_7_11_)
 refine pa_have 8 #[true,false,true,true,true,true,false,false,false,false,true,true,true,true,false,false,false] (⟨[(84,.c (.ptr 4 0)),(89,.c (.sl 10 (A.map Dev.d))),(97,.c (.sl 10 (B.map Dev.d))),(10,.c (.ptr 4 0)),(7,.c (.v (.int .i64 a))),(5,.c (.v (.int .i64 0))),(4,.c (.ptr 2 0)),(3,.c (.ptr 1 0)),(2,.c (.ptr 0 0))],[.box 36 (trE l),.box 48 d.e,.box 36 [.v (.slice none 0 0)],.arr 9 1 [],.box 36 [.v (.slice none 0 0)]]⟩:S) (fun hd3_11_=>?_) (by
  refine pa_step [1,7] (by kernel_rfl) rfl ?_
  push_cast [iO,tN,hTk,hDr]
  refine ⟨?_,?_⟩
  ·exact pa_weak (by (refine weak_fg ?_;push_cast [iO,tN,hTk,hDr])) hd1_3_11_
  ·exact pa_weak (by (refine weak_fg ?_;push_cast [iO,tN,hTk,hDr])) hd3_7_11_)
 refine pa_have 10 #[true,false,true,false,true,false,false,true,true,false,true,false,true,false,false,false,false] (⟨[(84,.c (.ptr 4 0)),(86,.c (.ptr 0 0)),(88,.c (.v (.int .i64 a))),(92,.c (.full 10 [d.d])),(94,.c (.ptr 0 0)),(96,.c (.v (.int .i64 a))),(10,.c (.ptr 4 0)),(7,.c (.v (.int .i64 a))),(5,.c (.v (.int .i64 0))),(4,.c (.ptr 2 0)),(3,.c (.ptr 1 0)),(2,.c (.ptr 0 0))],[.box 36 (trE l),.box 48 d.e,.box 36 [.v (.slice none 0 0)],.arr 9 1 [],.box 36 [.v (.slice none 0 0)]]⟩:S) (fun hd7_8_=>?_) (by
  refine pa_step [1,3,11] (by kernel_rfl) rfl ?_
  push_cast [iO,tN,hTk,hDr]
  refine ⟨?_,?_,?_⟩
  ·exact pa_weak (by (refine weak_fg ?_;push_cast [iO,tN,hTk,hDr])) hd1_7_8_
  ·refine pa_hoist 5 (by kernel_rfl) ?_
   push_cast [iO,tN,hTk,hDr]
   exact pa_weak (by (refine weak_fg ?_;push_cast [iO,tN,hTk,hDr])) hd3_7_8_
  ·refine pa_hoist 13 (by kernel_rfl) ?_
   push_cast [iO,tN,hTk,hDr]
   exact pa_weak (by (refine weak_fg ?_;push_cast [iO,tN,hTk,hDr])) hd7_8_11_)
 refine pa_have 9 #[true,false,true,false,true,false,false,true,false,false,true,true,true,true,false,false,false] (⟨[(84,.c (.ptr 4 0)),(86,.c (.ptr 0 0)),(88,.c (.v (.int .i64 a))),(91,.agg d.e),(97,.c (.sl 10 (B.map Dev.d))),(10,.c (.ptr 4 0)),(7,.c (.v (.int .i64 a))),(5,.c (.v (.int .i64 0))),(4,.c (.ptr 2 0)),(3,.c (.ptr 1 0)),(2,.c (.ptr 0 0))],[.box 36 (trE l),.box 48 d.e,.box 36 [.v (.slice none 0 0)],.arr 9 1 [],.box 36 [.v (.slice none 0 0)]]⟩:S) (fun hd7_11_=>?_) (by
  refine pa_step [1,3,8] (by kernel_rfl) rfl ?_
  push_cast [iO,tN,hTk,hDr]
  refine ⟨?_,?_,?_⟩
  ·exact pa_weak (by (refine weak_fg ?_;push_cast [iO,tN,hTk,hDr])) hd1_7_11_
  ·refine pa_hoist 5 (by kernel_rfl) ?_
   push_cast [iO,tN,hTk,hDr]
   exact pa_weak (by (refine weak_fg ?_;push_cast [iO,tN,hTk,hDr])) hd3_7_11_
  ·exact pa_weak (by (refine weak_fg ?_;push_cast [iO,tN,hTk,hDr])) hd7_8_11_)
 refine pa_have 11 #[true,true,true,false,true,false,false,false,false,false,true,false,true,false,false,false,false] (⟨[(85,.c (.v (.slice none 0 0))),(86,.c (.ptr 0 0)),(88,.c (.v (.int .i64 a))),(94,.c (.ptr 0 0)),(96,.c (.v (.int .i64 a))),(10,.c (.ptr 4 0)),(7,.c (.v (.int .i64 a))),(5,.c (.v (.int .i64 0))),(4,.c (.ptr 2 0)),(3,.c (.ptr 1 0)),(2,.c (.ptr 0 0))],[.box 36 (trE l),.box 48 d.e,.box 36 [.v (.slice none 0 0)],.arr 9 1 [],.box 36 [.v (.slice none 0 0)]]⟩:S) (fun hd1_=>?_) (by
  refine pa_step [3,7,11] (by kernel_rfl) rfl ?_
  push_cast [iO,tN,hTk,hDr]
  refine ⟨?_,?_,?_⟩
  ·refine pa_hoist 5 (by kernel_rfl) ?_
   push_cast [iO,tN,hTk,hDr]
   exact pa_weak (by (refine weak_fg ?_;push_cast [iO,tN,hTk,hDr])) hd1_3_
  ·exact pa_weak (by (refine weak_fg ?_;push_cast [iO,tN,hTk,hDr])) hd1_7_
  ·refine pa_hoist 13 (by kernel_rfl) ?_
   push_cast [iO,tN,hTk,hDr]
   exact pa_weak (by (refine weak_fg ?_;push_cast [iO,tN,hTk,hDr])) hd1_11_)
 refine pa_have 10 #[true,false,true,true,true,true,false,false,false,false,true,false,true,false,false,false,false] (⟨[(84,.c (.ptr 4 0)),(89,.c (.sl 10 (A.map Dev.d))),(94,.c (.ptr 0 0)),(96,.c (.v (.int .i64 a))),(10,.c (.ptr 4 0)),(7,.c (.v (.int .i64 a))),(5,.c (.v (.int .i64 0))),(4,.c (.ptr 2 0)),(3,.c (.ptr 1 0)),(2,.c (.ptr 0 0))],[.box 36 (trE l),.box 48 d.e,.box 36 [.v (.slice none 0 0)],.arr 9 1 [],.box 36 [.v (.slice none 0 0)]]⟩:S) (fun hd3_=>?_) (by
  refine pa_step [1,7,11] (by kernel_rfl) rfl ?_
  push_cast [iO,tN,hTk,hDr]
  refine ⟨?_,?_,?_⟩
  ·exact pa_weak (by (refine weak_fg ?_;push_cast [iO,tN,hTk,hDr])) hd1_3_
  ·exact pa_weak (by (refine weak_fg ?_;push_cast [iO,tN,hTk,hDr])) hd3_7_
  ·refine pa_hoist 13 (by kernel_rfl) ?_
   push_cast [iO,tN,hTk,hDr]
   exact pa_weak (by (refine weak_fg ?_;push_cast [iO,tN,hTk,hDr])) hd3_11_)
 refine pa_have 11 #[true,false,true,false,true,false,false,true,false,false,true,false,true,false,false,false,false] (⟨[(84,.c (.ptr 4 0)),(86,.c (.ptr 0 0)),(88,.c (.v (.int .i64 a))),(91,.agg d.e),(94,.c (.ptr 0 0)),(96,.c (.v (.int .i64 a))),(10,.c (.ptr 4 0)),(7,.c (.v (.int .i64 a))),(5,.c (.v (.int .i64 0))),(4,.c (.ptr 2 0)),(3,.c (.ptr 1 0)),(2,.c (.ptr 0 0))],[.box 36 (trE l),.box 48 d.e,.box 36 [.v (.slice none 0 0)],.arr 9 1 [],.box 36 [.v (.slice none 0 0)]]⟩:S) (fun hd7_=>?_) (by
  refine pa_step [1,3,8,11] (by kernel_rfl) rfl ?_
  push_cast [iO,tN,hTk,hDr]
  refine ⟨?_,?_,?_,?_⟩
  ·exact pa_weak (by (refine weak_fg ?_;push_cast [iO,tN,hTk,hDr])) hd1_7_
  ·refine pa_hoist 5 (by kernel_rfl) ?_
   push_cast [iO,tN,hTk,hDr]
   exact pa_weak (by (refine weak_fg ?_;push_cast [iO,tN,hTk,hDr])) hd3_7_
  ·exact pa_weak (by (refine weak_fg ?_;push_cast [iO,tN,hTk,hDr])) hd7_8_
  ·refine pa_hoist 13 (by kernel_rfl) ?_
   push_cast [iO,tN,hTk,hDr]
   exact pa_weak (by (refine weak_fg ?_;push_cast [iO,tN,hTk,hDr])) hd7_11_)
 refine pa_have 10 #[true,false,true,false,true,false,false,false,false,false,true,true,true,true,false,false,false] (⟨[(84,.c (.ptr 4 0)),(86,.c (.ptr 0 0)),(88,.c (.v (.int .i64 a))),(97,.c (.sl 10 (B.map Dev.d))),(10,.c (.ptr 4 0)),(7,.c (.v (.int .i64 a))),(5,.c (.v (.int .i64 0))),(4,.c (.ptr 2 0)),(3,.c (.ptr 1 0)),(2,.c (.ptr 0 0))],[.box 36 (trE l),.box 48 d.e,.box 36 [.v (.slice none 0 0)],.arr 9 1 [],.box 36 [.v (.slice none 0 0)]]⟩:S) (fun hd11_=>?_) (by
  refine pa_step [1,3,7] (by kernel_rfl) rfl ?_
  push_cast [iO,tN,hTk,hDr]
  refine ⟨?_,?_,?_⟩
  ·exact pa_weak (by (refine weak_fg ?_;push_cast [iO,tN,hTk,hDr])) hd1_11_
  ·refine pa_hoist 5 (by kernel_rfl) ?_
   push_cast [iO,tN,hTk,hDr]
   exact pa_weak (by (refine weak_fg ?_;push_cast [iO,tN,hTk,hDr])) hd3_11_
  ·exact pa_weak (by (refine weak_fg ?_;push_cast [iO,tN,hTk,hDr])) hd7_11_)
 refine pa_step [1,3,7,11] (by kernel_rfl) rfl ?_
 push_cast [iO,tN,hTk,hDr]
 refine ⟨?_,?_,?_,?_⟩
 ·exact pa_weak (by (refine weak_fg ?_;push_cast [iO,tN,hTk,hDr])) hd1_
 ·refine pa_hoist 5 (by kernel_rfl) ?_
  push_cast [iO,tN,hTk,hDr]
  exact pa_weak (by (refine weak_fg ?_;push_cast [iO,tN,hTk,hDr])) hd3_
 ·exact pa_weak (by (refine weak_fg ?_;push_cast [iO,tN,hTk,hDr])) hd7_
 ·refine pa_hoist 13 (by kernel_rfl) ?_
  push_cast [iO,tN,hTk,hDr]
  exact pa_weak (by (refine weak_fg ?_;push_cast [iO,tN,hTk,hDr])) hd11_
end Go.Proofs.YtmjffgienmcabaaGreatDoor
