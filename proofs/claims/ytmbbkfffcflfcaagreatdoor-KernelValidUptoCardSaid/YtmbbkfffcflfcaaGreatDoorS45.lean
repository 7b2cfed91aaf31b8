/- What the program computes, and the plain laws of it, part 45. -/
import Derived.Lib.ItoaNum
import Derived.WideKeyEntry
import Derived.Test.YtmbbkfffcflfcaaGreatDoorS43
import Derived.Test.YtmbbkfffcflfcaaGreatDoorS44
namespace Go.Proofs.YtmbbkfffcflfcaaGreatDoor
attribute [local irreducible] PL QL PWPr PCalls Weak RetK Kontr PA
open Go.RowKit
open IntWalk renaming iteOmega → O, toNatUp → U
set_option linter.unusedVariables false
set_option linter.unusedSimpArgs false
set_option maxRecDepth 20000
def newP (l:List Dev) (d:Dev):ByteArray:=placeM l d.parent++⟨#[47]⟩++d.original
theorem newP_split {l:List Dev} (h:Okt l) {d:Dev} (hc:checkM d=0):splitP (newP l d)=some (ownM l d):=by
 have e:newP l d=joinP (ownM l d):=by unfold ownM newP;rw [joinP_snoc];rfl
 rw [e]
 refine splitP_join (by unfold ownM;simp) fun p hp=>?_
 unfold ownM at hp
 rcases List.mem_append.1 hp with hp|hp
 ·exact orig_val h.val _ p hp
 ·rw [List.mem_singleton] at hp;rw [hp];exact check_orig hc
theorem newP_depth {l:List Dev} (h:Okt l) {d:Dev} (hc:checkM d=0):depthM (newP l d)=(ownM l d).length:=by unfold depthM;rw [newP_split h hc]
theorem newP_cmp {l:List Dev} (h:Okt l) {d x:Dev} (hc:checkM d=0) (hx:x ∈ l):cmpP (placeM l x.index) (newP l d)=cmpL (origM l x.index) (ownM l d):=by unfold cmpP;rw [newP_split h hc,place_split h hx]
theorem newP_eq {l:List Dev} (h:Okt l) {d x:Dev} (hc:checkM d=0) (hx:x ∈ l):placeM l x.index=newP l d ↔ origM l x.index=ownM l d:=by
 constructor
 ·intro e
  have h1:=place_split h hx
  rw [e,newP_split h hc] at h1
  exact (Option.some.inj h1).symm
 ·intro e
  unfold placeM
  rw [e]
  unfold ownM newP
  rw [joinP_snoc];rfl
def insAt (l:List Dev) (d:Dev):Nat:=atM l (ownM l d) l.length
theorem at_first {l:List Dev} (h:Okt l) (ho:OrdT l) {d:Dev} (hc:checkM d=0) {k:Int} (hk:idxD (fun x=>decide (0≤cmpP (placeM l x.index) (newP l d))) l k):(k = -1∧insAt l d=l.length)∨(k=(insAt l d:Int)∧insAt l d < l.length):=by
 have hle:=atM_le l (ownM l d) l.length
 have hlo:=ins_lo (d:=d) ho
 unfold insAt
 rcases hk with ⟨rfl,hk⟩|⟨i,rfl,hi,hq,hp⟩
 ·refine .inl ⟨rfl,?_⟩
  by_cases h0:l.length=0
  ·omega
  ·have hm:l.getD (l.length - 1) default ∈ l:=by rw [getD_lt l (by omega)];exact List.getElem_mem _
   have h1:=of_decide_eq_false (hk _ hm)
   rw [newP_cmp h hc hm] at h1
   have:=atM_ge l (ownM l d) (j:=l.length - 1) (by omega) l.length (by omega)
   omega
 ·right
  have hm:l.getD i default ∈ l:=by rw [getD_lt l hi];exact List.getElem_mem _
  have h1:=of_decide_eq_true hq
  rw [newP_cmp h hc hm] at h1
  have e1:¬ i < atM l (ownM l d) l.length:=fun hlt=>by
   have:=hlo (l.getD i default) (List.mem_take_iff_getElem.2 ⟨i,by omega,by rw [getD_lt l hi]⟩)
   omega
  have e2:i≤atM l (ownM l d) l.length:=by
   by_cases h0:i=0
   ·omega
   ·have hm2:l.getD (i - 1) default ∈ l:=by rw [getD_lt l (by omega)];exact List.getElem_mem _
    have h2:=of_decide_eq_false (hp (l.getD (i - 1) default) (List.mem_take_iff_getElem.2 ⟨i - 1,by omega,by rw [getD_lt l (by omega)]⟩))
    rw [newP_cmp h hc hm2] at h2
    have:=atM_ge l (ownM l d) (j:=i - 1) (by omega) l.length (by omega)
    omega
  have e3:i=atM l (ownM l d) l.length:=by omega
  exact ⟨by rw [← e3],by omega⟩
theorem any_ins {l:List Dev} (h:Okt l) (ho:OrdT l) {d:Dev} (hc:checkM d=0) (hf:findD l d.index=none):l.any (bad1 l (ownM l d) d)=((decide (insAt l d < l.length) && decide (placeM l (l.getD (insAt l d) default).index=newP l d)) || clashesM l d):=by
 have hcl:clashesM l d=l.any fun x=>clashM x d:=by
  unfold clashesM
  rw [Bool.eq_iff_iff,List.any_eq_true,List.any_eq_true]
  constructor
  ·rintro ⟨x,hx,h1⟩
   rw [Bool.and_eq_true] at h1
   exact ⟨x,hx,h1.2⟩
  ·rintro ⟨x,hx,h1⟩
   exact ⟨x,hx,by rw [h1,decide_eq_false (findD_none.1 hf x hx)];rfl⟩
 rw [hcl,Bool.eq_iff_iff,List.any_eq_true,Bool.or_eq_true,List.any_eq_true,Bool.and_eq_true,decide_eq_true_eq,decide_eq_true_eq]
 have hlo:=ins_lo (d:=d) ho
 constructor
 ·rintro ⟨x,hx,h1⟩
  unfold bad1 at h1
  rw [Bool.or_eq_true,decide_eq_true_eq] at h1
  rcases h1 with h1|h1
  ·left
   obtain ⟨j,hj,rfl⟩:=List.getElem_of_mem hx
   have e1:¬ j < insAt l d:=fun hlt=>by
    have:=hlo l[j] (List.mem_take_iff_getElem.2 ⟨j,by unfold insAt at hlt;omega,rfl⟩)
    omega
   have hin:insAt l d < l.length:=by omega
   refine ⟨hin,?_⟩
   by_cases e2:insAt l d=j
   ·rw [e2,getD_lt l hj,newP_eq h hc hx]
    exact cmpL_eq.1 h1
   ·exfalso
    have h2:=List.pairwise_iff_getElem.1 ho (insAt l d) j hin hj (by omega)
    rw [cmpL_eq.1 h1] at h2
    have:=atM_ge l (ownM l d) (j:=insAt l d) (by rw [getD_lt l hin];exact h2) l.length hin
    unfold insAt at this hin
    omega
  ·exact .inr ⟨x,hx,h1⟩
 ·rintro (⟨h1,h2⟩|⟨x,hx,h1⟩)
  ·have hm:l.getD (insAt l d) default ∈ l:=by rw [getD_lt l h1];exact List.getElem_mem _
   refine ⟨_,hm,?_⟩
   unfold bad1
   rw [decide_eq_true (cmpL_eq.2 ((newP_eq h hc hm).1 h2))]
   rfl
  ·refine ⟨x,hx,?_⟩
   unfold bad1
   rw [h1,Bool.or_true]
theorem insT_at (l:List Dev) (d:Dev):insT l d=l.take (insAt l d)++d :: l.drop (insAt l d):=by unfold insT insAt;rw [List.append_assoc,List.singleton_append]
theorem insert1_pure (l:List Dev) (p:ByteArray) (x:Dev) (hl:l.length≤1000) (hz:∀ d ∈ l,d.original.size≤1000) (hp:p.size≤100000000):PCalls Tryz.prog 134 [.agg x.e,.c (.ptr 0 0),.c (.ptr 1 0)] (viewO l p) fun r os=>r = .c (.v (.bool (decide (0≤cmpP (placeM l x.index) p))))∧os=viewO l p:=by
 have hlk:=lk_full0 l x.index
 have hps:=place_size hl hz x.index
 have hc:=order_pure (placeM l x.index) p (by omega) hp
 refine pcalls_of Tryz.func134 rfl (by simp [Tryz.ntmps134]) ?_
 rw [Tryz.ntmps134,Tryz.results134]
 push_cast [O,U]
 repeat' ((first|refine plE [] hc ?_ ?_|refine pG ?_|refine pQ ?_|refine pU ?_|refine pif ?_ ?_<;>intro h<;>try exact pN h)<;>push_cast [O,U,hlk])
 (refine retK_of [0,1,2,3] ?_;push_cast [O,U])
set_option maxHeartbeats 16000000 in
theorem tins_pure (l:List Dev) (d:Dev) (hT:Okt l) (ho:OrdT l) (hl:l.length≤1000) (hz:∀ x ∈ l,x.original.size≤1000) (ha:∀ x ∈ l,x.attrs.length≤1000000000) (hd:d.ok) (hdz:d.original.size≤1048576) (hda:d.attrs.length≤1000000000) :
  PCalls Tryz.prog 86 [.agg (trE l),.agg d.e] [] fun r os=>r = .two (.agg (trE (if insErr l d=0 then insT l d else []))) (.c (.v (.int .i64 (insErr l d))))∧os=[]:=by
 have hk:=look_pure l hT.p hl hz
 have hlk1:=lk_full l d.parent
 have hlk2:=lk_full l d.index
 have hps:=place_size hl hz d.parent
 have hs1:(⟨#[47]⟩:ByteArray).size=1:=rfl
 have hPz:(newP l d).size≤3000000:=by unfold newP;rw [ByteArray.size_append,ByteArray.size_append,hs1];omega
 have hix:=indexFuncD_pure l (by omega) 134 [0,1] (viewO l (newP l d)) (fun x=>decide (0≤cmpP (placeM l x.index) (newP l d))) ⟨by kernel_rfl,fun x _=>insert1_pure l (newP l d) x hl hz (by omega)⟩
 have hck:=check_pure d hd
 have hdp:=depth_pure (newP l d) (by omega)
 have hcs:=copies_pure l (by omega) ha
 have hcd:=copied_pure d hda
 refine pcalls_of Tryz.func86 rfl (by simp [Tryz.ntmps86]) ?_
 rw [Tryz.ntmps86,Tryz.results86]
 push_cast [O,U]
 have cB:CutB 13 []:=trivial
 refine pwp_seq fun K0 hK0=>?_
 refine pC ?_
 push_cast [O,U]
 refine pU ?_
 refine pwp_seq fun K1 hK1=>?_
 refine pC ?_
 push_cast [O,U]
 (refine plE [] hk ?_ ?_<;>push_cast [O,U])
 push_cast [O,U]
 refine pU ?_
 refine pwp_seq fun K2 hK2=>?_
 refine pC ?_
 push_cast [O,U,hlk1]
 refine pU ?_
 refine pwp_seq fun K3 hK3=>?_
 refine pC ?_
 push_cast [O,U,hlk2]
 refine pU ?_
 refine pwp_cut 13 [] ?_
 push_cast [O,U]
 refine pwp_seq fun K4 hK4=>?_
 refine pwp_regionL ?_
 refine pl_run1 (q:=.c (.v (.string (placeM l d.parent)))) rfl (by push_cast [O,U]) (by push_cast [O,U]) ?_
 push_cast [O,U]
 refine pl_cat rfl rfl rfl rfl (emp_fit (by omega)) (by push_cast [O,U]) ?_
 push_cast [O,U]
 refine pl_run1 (q:=.c (.ptr 1 3)) rfl (by push_cast [O,U]) (by push_cast [O,U]) ?_
 push_cast [O,U]
 refine pl_run1 (q:=.c (.v (.string d.original))) rfl (by push_cast [O,U]) (by push_cast [O,U]) ?_
 push_cast [O,U]
 refine pl_cat rfl rfl rfl rfl ?_ (by push_cast [O,U]) ?_
 ·rw [ByteArray.size_append,show (⟨#[47]⟩:ByteArray).size=1 from rfl];omega
 push_cast [O,U]
 refine pl_of_pops ?_
 push_cast [O,U]
 rw [show placeM l d.parent++⟨#[47]⟩++d.original=newP l d from rfl]
 refine pU ?_
 by_cases hc:checkM d=0
 case neg =>
  have he:=ie1 (l:=l) hc
  repeat' ((first|(refine plc [5,6,3,4] (hix) ?_ ?_;push_cast [O,U,hc];rintro r os ⟨k,hk,rfl,rfl⟩)|refine plE [] hck ?_ ?_|refine pC ?_|refine pQC ?_|refine pU ?_|refine pif ?_ ?_<;>intro h<;>try exact pN h)<;>push_cast [O,U,hc])
  all_goals (refine retK_of [] ?_;push_cast [O,U,he])
 rw [hc] at hck
 have hdz2:d.original.size≤1000:=by have:=valid_size (check_orig hc);omega
 have hcl:=clashes_pure l d (by omega) (fun x hx=>by have:=hz x hx;omega) (by omega)
 have hole:insAt l d≤l.length:=atM_le l (ownM l d) l.length
 have hixe:=hix.mono (R':=fun r os=>r = .c (.v (.int .i64 (if insAt l d < l.length then (insAt l d:Int) else -1)))∧os=viewO l (newP l d)) fun r os ⟨k,hk,hr,ho2⟩=>by
  rcases at_first hT ho hc hk with ⟨h1,h2⟩|⟨h1,h2⟩
  ·exact ⟨by rw [hr,h1,if_neg (by omega)],ho2⟩
  ·exact ⟨by rw [hr,h1,if_pos h2],ho2⟩
 refine pwp_seq fun K5 hK5=>?_
 refine pC ?_
 push_cast [O,U]
 (refine plE [5,6,3,4] hixe ?_ ?_<;>push_cast [O,U])
 push_cast [O,U]
 refine pU ?_
 obtain ⟨m,hm⟩:∃ m,insAt l d=m:=⟨_,rfl⟩
 rw [hm] at hole ⊢
 (apply pwp_mid3 (α:=Nat) 13 [] (fun u=>[(12,.c (.v (.int .i64 u)))]) (fun u=>[]) (fun u=>u≤l.length∧u=m) (m);(focus ((try push_cast [O,U]);rfl)))
 ·by_cases hin:m < l.length
  ·have h1:¬ (m:Int) < 0:=by omega
   repeat' ((first|refine pC ?_|refine pQC ?_|refine pU ?_|refine pif ?_ ?_<;>intro h<;>try exact pN h)<;>push_cast [O,U,hin,if_true,if_pos hin,h1])
   exact ⟨m,⟨hole,rfl⟩,by (refine weak_fg ?_;push_cast [O,U])⟩
  ·have h2:m=l.length:=by omega
   repeat' ((first|refine pC ?_|refine pQC ?_|refine pU ?_|refine pif ?_ ?_<;>intro h<;>try exact pN h)<;>push_cast [O,U,hin,if_false,if_neg hin])
   exact ⟨m,⟨hole,rfl⟩,by rw [h2];(refine weak_fg ?_;push_cast [O,U])⟩
 rintro u ⟨_,rfl⟩
 push_cast [O,U]
 by_cases h2:(findD l d.index).isSome=true
 ·have he:=ie2 hc h2
  rw [h2] at hlk2
  repeat' ((first|refine plE [] hck ?_ ?_|refine pC ?_|refine pQC ?_|refine pU ?_|refine pif ?_ ?_<;>intro h<;>try exact pN h)<;>push_cast [O,U,h2])
  all_goals (refine retK_of [] ?_;push_cast [O,U,he])
 have h2n:findD l d.index=none:=by cases h:findD l d.index with
  | none=>rfl
  | some y=>rw [h] at h2;exact absurd rfl h2
 have h2f:(findD l d.index).isSome=false:=by rw [h2n];rfl
 by_cases h3:d.parent=0∨(findD l d.parent).isSome=true
 case neg =>
  have h3a:d.parent≠0:=fun h=>h3 (.inl h)
  have h3b:findD l d.parent=none:=by cases h:findD l d.parent with
   | none=>rfl
   | some y=>exact absurd (.inr (by rw [h];rfl)) h3
  have h3c:(findD l d.parent).isSome=false:=by rw [h3b];rfl
  have he:=ie3 hc h2n h3a h3b
  repeat' ((first|refine plE [] hck ?_ ?_|refine pC ?_|refine pQC ?_|refine pU ?_|refine pif ?_ ?_<;>intro h<;>try exact pN h)<;>push_cast [O,U,h2f,h3a,h3c])
  all_goals (refine retK_of [] ?_;push_cast [O,U,he])
 have h3d:((decide (¬ d.parent=0)) && !(findD l d.parent).isSome)=false:=by
  rcases h3 with h|h
  ·rw [decide_eq_false (fun hh=>hh h)];rfl
  ·rw [h];simp
 by_cases h5:256≤l.length
 ·have he:=ie4 hc h2n h3 h5
  by_cases h3e:d.parent=0
  ·repeat' ((first|refine plE [] hck ?_ ?_|refine pC ?_|refine pQC ?_|refine pU ?_|refine pif ?_ ?_<;>intro h<;>try exact pN h)<;>push_cast [O,U,h2f,h3e,h5])
   all_goals (refine retK_of [] ?_;push_cast [O,U,he])
  ·have h3f:(findD l d.parent).isSome=true:=h3.resolve_left h3e
   repeat' ((first|refine plE [] hck ?_ ?_|refine pC ?_|refine pQC ?_|refine pU ?_|refine pif ?_ ?_<;>intro h<;>try exact pN h)<;>push_cast [O,U,h2f,h3e,h3f,h5])
   all_goals (refine retK_of [] ?_;push_cast [O,U,he])
 rw [newP_depth hT hc] at hdp
 have h6a:(7 < (ownM l d).length)∨¬ 7 < (ownM l d).length:=Classical.em _
 have hlk4:=lk_full0 l (l.getD u default).index
 by_cases h6:7 < (ownM l d).length
 ·have he:=ie5 hc h2n h3 h5 h6
  have h6b:(7:Int) < ((ownM l d).length:Int):=by omega
  by_cases h3e:d.parent=0
  ·repeat' ((first|refine plE [] hck ?_ ?_|refine plE [] hdp ?_ ?_|refine pC ?_|refine pQC ?_|refine pU ?_|refine pif ?_ ?_<;>intro h<;>try exact pN h)<;>push_cast [O,U,h2f,h3e,h5,h6b])
   all_goals (refine retK_of [] ?_;push_cast [O,U,he])
  ·have h3f:(findD l d.parent).isSome=true:=h3.resolve_left h3e
   repeat' ((first|refine plE [] hck ?_ ?_|refine plE [] hdp ?_ ?_|refine pC ?_|refine pQC ?_|refine pU ?_|refine pif ?_ ?_<;>intro h<;>try exact pN h)<;>push_cast [O,U,h2f,h3e,h3f,h5,h6b])
   all_goals (refine retK_of [] ?_;push_cast [O,U,he])
 have h6b:¬ (7:Int) < ((ownM l d).length:Int):=by omega
 have he:=ie6 hc h2n h3 h5 h6
 rw [any_ins hT ho hc h2n,hm] at he
 have hid:=insertD_pure l d u hole (by omega)
 by_cases h3e:d.parent=0
 case pos =>
  by_cases hin:u < l.length
  ·by_cases hq:placeM l (l.getD u default).index=newP l d
   ·rw [decide_eq_true hin,decide_eq_true hq] at he
    simp only [Bool.and_self,Bool.true_or,if_true] at he
    repeat' ((first|refine plE [] hck ?_ ?_|refine plE [] hdp ?_ ?_|refine plE [] hcl ?_ ?_|refine pC ?_|refine pQC ?_|refine pU ?_|refine pif ?_ ?_<;>intro h<;>try exact pN h)<;>push_cast [O,U,h2f,h3e,h5,h6b,hlk4,hin,hq])
    all_goals (refine retK_of [] ?_;push_cast [O,U,he])
   ·rw [decide_eq_false hq,Bool.and_false,Bool.false_or] at he
    by_cases hcm:clashesM l d=true
    ·rw [if_pos hcm] at he
     repeat' ((first|refine plE [] hck ?_ ?_|refine plE [] hdp ?_ ?_|refine plE [] hcl ?_ ?_|refine pC ?_|refine pQC ?_|refine pU ?_|refine pif ?_ ?_<;>intro h<;>try exact pN h)<;>push_cast [O,U,h2f,h3e,h5,h6b,hlk4,hin,hq,hcm])
     all_goals (refine retK_of [] ?_;push_cast [O,U,he])
    ·rw [if_neg hcm] at he
     repeat' ((first|(refine hidR 21 ?_)|refine plE [] hck ?_ ?_|refine plE [] hdp ?_ ?_|refine plE [] hcl ?_ ?_|refine pC ?_|refine pQC ?_|refine pU ?_|refine pif ?_ ?_<;>intro h<;>try exact pN h)<;>push_cast [O,U,h2f,h3e,h5,h6b,hlk4,hin,hq,hcm])
     refine unhid ?_
     (refine pwp_drawn (by kernel_rfl) ?_;try simp only [List.length_cons,List.length_nil,Nat.reduceAdd];repeat' first|(refine plE [] hcs ?_ ?_;(focus (push_cast [O,U,  h3e];done));push_cast [O,U,  h3e])|(refine plE [] hcd ?_ ?_;(focus (push_cast [O,U,  h3e];done));push_cast [O,U,  h3e])|(refine pl_call2 false [7] rfl rfl (by kernel_rfl) hid ?_ nofun ?_;push_cast [O,U,  h3e];rintro r os (⟨rfl,rfl⟩|⟨rfl,rfl⟩)<;>(refine pl_of_pops ?_;push_cast [O,U,  h3e]))|((first|refine pah 0 ?_|refine pah 3 ?_|refine pah 8 ?_|refine pah 10 ?_);push_cast [O,U,  h3e])|(refine pad ?_;try push_cast [O,U,  h3e])|((first|refine pas [1] ?_|refine pas [2] ?_|refine pas [4] ?_|refine pas [5] ?_|refine pas [6] ?_|refine pas [7] ?_|refine pas [9] ?_);push_cast [O,U,  h3e])|((first|refine pas [1,2] ?_|refine pas [1,4] ?_|refine pas [1,5] ?_|refine pas [1,6] ?_|refine pas [1,7] ?_|refine pas [1,9] ?_|refine pas [2,4] ?_|refine pas [2,5] ?_|refine pas [2,6] ?_|refine pas [2,7] ?_|refine pas [2,9] ?_|refine pas [4,5] ?_|refine pas [4,6] ?_|refine pas [4,7] ?_|refine pas [4,9] ?_|refine pas [5,6] ?_|refine pas [5,7] ?_|refine pas [5,9] ?_|refine pas [6,7] ?_|refine pas [6,9] ?_|refine pas [7,9] ?_);push_cast [O,U,  h3e];refine ⟨?_,?_⟩)|((first|refine pas [1,2,4] ?_|refine pas [1,2,5] ?_|refine pas [1,2,6] ?_|refine pas [1,2,7] ?_|refine pas [1,2,9] ?_|refine pas [1,4,5] ?_|refine pas [1,4,6] ?_|refine pas [1,4,7] ?_|refine pas [1,4,9] ?_|refine pas [1,5,6] ?_|refine pas [1,5,7] ?_|refine pas [1,5,9] ?_|refine pas [1,6,7] ?_|refine pas [1,6,9] ?_|refine pas [1,7,9] ?_|refine pas [2,4,5] ?_|refine pas [2,4,6] ?_|refine pas [2,4,7] ?_|refine pas [2,4,9] ?_|refine pas [2,5,6] ?_|refine pas [2,5,7] ?_|refine pas [2,5,9] ?_|refine pas [2,6,7] ?_|refine pas [2,6,9] ?_|refine pas [2,7,9] ?_|refine pas [4,5,6] ?_|refine pas [4,5,7] ?_|refine pas [4,5,9] ?_|refine pas [4,6,7] ?_|refine pas [4,6,9] ?_|refine pas [4,7,9] ?_|refine pas [5,6,7] ?_|refine pas [5,6,9] ?_|refine pas [5,7,9] ?_|refine pas [6,7,9] ?_);push_cast [O,U,  h3e];refine ⟨?_,?_,?_⟩))
     all_goals first|rw [he,if_pos rfl,insT_at,hm]|rw [he,insT_at,hm]|rw [insT_at,hm]
     all_goals (refine retK_of [] ?_;push_cast [O,U])
     all_goals (rw [h3e];exact List.take_of_length_le (by rw [List.length_append,List.length_cons,List.length_map,List.length_map,List.length_take,List.length_drop];omega))
  ·rw [decide_eq_false hin,Bool.false_and,Bool.false_or] at he
   by_cases hcm:clashesM l d=true
   ·rw [if_pos hcm] at he
    repeat' ((first|refine plE [] hck ?_ ?_|refine plE [] hdp ?_ ?_|refine plE [] hcl ?_ ?_|refine pC ?_|refine pQC ?_|refine pU ?_|refine pif ?_ ?_<;>intro h<;>try exact pN h)<;>push_cast [O,U,h2f,h3e,h5,h6b,hlk4,hin,hcm])
    all_goals (refine retK_of [] ?_;push_cast [O,U,he])
   ·rw [if_neg hcm] at he
    repeat' ((first|(refine hidR 21 ?_)|refine plE [] hck ?_ ?_|refine plE [] hdp ?_ ?_|refine plE [] hcl ?_ ?_|refine pC ?_|refine pQC ?_|refine pU ?_|refine pif ?_ ?_<;>intro h<;>try exact pN h)<;>push_cast [O,U,h2f,h3e,h5,h6b,hlk4,hin,hcm])
    refine unhid ?_
    (refine pwp_drawn (by kernel_rfl) ?_;try simp only [List.length_cons,List.length_nil,Nat.reduceAdd];repeat' first|(refine plE [] hcs ?_ ?_;(focus (push_cast [O,U,  h3e];done));push_cast [O,U,  h3e])|(refine plE [] hcd ?_ ?_;(focus (push_cast [O,U,  h3e];done));push_cast [O,U,  h3e])|(refine pl_call2 false [7] rfl rfl (by kernel_rfl) hid ?_ nofun ?_;push_cast [O,U,  h3e];rintro r os (⟨rfl,rfl⟩|⟨rfl,rfl⟩)<;>(refine pl_of_pops ?_;push_cast [O,U,  h3e]))|((first|refine pah 0 ?_|refine pah 3 ?_|refine pah 8 ?_|refine pah 10 ?_);push_cast [O,U,  h3e])|(refine pad ?_;try push_cast [O,U,  h3e])|((first|refine pas [1] ?_|refine pas [2] ?_|refine pas [4] ?_|refine pas [5] ?_|refine pas [6] ?_|refine pas [7] ?_|refine pas [9] ?_);push_cast [O,U,  h3e])|((first|refine pas [1,2] ?_|refine pas [1,4] ?_|refine pas [1,5] ?_|refine pas [1,6] ?_|refine pas [1,7] ?_|refine pas [1,9] ?_|refine pas [2,4] ?_|refine pas [2,5] ?_|refine pas [2,6] ?_|refine pas [2,7] ?_|refine pas [2,9] ?_|refine pas [4,5] ?_|refine pas [4,6] ?_|refine pas [4,7] ?_|refine pas [4,9] ?_|refine pas [5,6] ?_|refine pas [5,7] ?_|refine pas [5,9] ?_|refine pas [6,7] ?_|refine pas [6,9] ?_|refine pas [7,9] ?_);push_cast [O,U,  h3e];refine ⟨?_,?_⟩)|((first|refine pas [1,2,4] ?_|refine pas [1,2,5] ?_|refine pas [1,2,6] ?_|refine pas [1,2,7] ?_|refine pas [1,2,9] ?_|refine pas [1,4,5] ?_|refine pas [1,4,6] ?_|refine pas [1,4,7] ?_|refine pas [1,4,9] ?_|refine pas [1,5,6] ?_|refine pas [1,5,7] ?_|refine pas [1,5,9] ?_|refine pas [1,6,7] ?_|refine pas [1,6,9] ?_|refine pas [1,7,9] ?_|refine pas [2,4,5] ?_|refine pas [2,4,6] ?_|refine pas [2,4,7] ?_|refine pas [2,4,9] ?_|refine pas [2,5,6] ?_|refine pas [2,5,7] ?_|refine pas [2,5,9] ?_|refine pas [2,6,7] ?_|refine pas [2,6,9] ?_|refine pas [2,7,9] ?_|refine pas [4,5,6] ?_|refine pas [4,5,7] ?_|refine pas [4,5,9] ?_|refine pas [4,6,7] ?_|refine pas [4,6,9] ?_|refine pas [4,7,9] ?_|refine pas [5,6,7] ?_|refine pas [5,6,9] ?_|refine pas [5,7,9] ?_|refine pas [6,7,9] ?_);push_cast [O,U,  h3e];refine ⟨?_,?_,?_⟩))
    all_goals first|rw [he,if_pos rfl,insT_at,hm]|rw [he,insT_at,hm]|rw [insT_at,hm]
    all_goals (refine retK_of [] ?_;push_cast [O,U])
    all_goals (rw [h3e];exact List.take_of_length_le (by rw [List.length_append,List.length_cons,List.length_map,List.length_map,List.length_take,List.length_drop];omega))
 case neg =>
  have h3f:(findD l d.parent).isSome=true:=h3.resolve_left h3e
  by_cases hin:u < l.length
  ·by_cases hq:placeM l (l.getD u default).index=newP l d
   ·rw [decide_eq_true hin,decide_eq_true hq] at he
    simp only [Bool.and_self,Bool.true_or,if_true] at he
    repeat' ((first|refine plE [] hck ?_ ?_|refine plE [] hdp ?_ ?_|refine plE [] hcl ?_ ?_|refine pC ?_|refine pQC ?_|refine pU ?_|refine pif ?_ ?_<;>intro h<;>try exact pN h)<;>push_cast [O,U,h2f,h3e,h3f,h5,h6b,hlk4,hin,hq])
    all_goals (refine retK_of [] ?_;push_cast [O,U,he])
   ·rw [decide_eq_false hq,Bool.and_false,Bool.false_or] at he
    by_cases hcm:clashesM l d=true
    ·rw [if_pos hcm] at he
     repeat' ((first|refine plE [] hck ?_ ?_|refine plE [] hdp ?_ ?_|refine plE [] hcl ?_ ?_|refine pC ?_|refine pQC ?_|refine pU ?_|refine pif ?_ ?_<;>intro h<;>try exact pN h)<;>push_cast [O,U,h2f,h3e,h3f,h5,h6b,hlk4,hin,hq,hcm])
     all_goals (refine retK_of [] ?_;push_cast [O,U,he])
    ·rw [if_neg hcm] at he
     repeat' ((first|(refine hidR 21 ?_)|refine plE [] hck ?_ ?_|refine plE [] hdp ?_ ?_|refine plE [] hcl ?_ ?_|refine pC ?_|refine pQC ?_|refine pU ?_|refine pif ?_ ?_<;>intro h<;>try exact pN h)<;>push_cast [O,U,h2f,h3e,h3f,h5,h6b,hlk4,hin,hq,hcm])
     refine unhid ?_
     (refine pwp_drawn (by kernel_rfl) ?_;try simp only [List.length_cons,List.length_nil,Nat.reduceAdd];repeat' first|(refine plE [] hcs ?_ ?_;(focus (push_cast [O,U];done));push_cast [O,U])|(refine plE [] hcd ?_ ?_;(focus (push_cast [O,U];done));push_cast [O,U])|(refine pl_call2 false [7] rfl rfl (by kernel_rfl) hid ?_ nofun ?_;push_cast [O,U];rintro r os (⟨rfl,rfl⟩|⟨rfl,rfl⟩)<;>(refine pl_of_pops ?_;push_cast [O,U]))|((first|refine pah 0 ?_|refine pah 3 ?_|refine pah 8 ?_|refine pah 10 ?_);push_cast [O,U])|(refine pad ?_;try push_cast [O,U])|((first|refine pas [1] ?_|refine pas [2] ?_|refine pas [4] ?_|refine pas [5] ?_|refine pas [6] ?_|refine pas [7] ?_|refine pas [9] ?_);push_cast [O,U])|((first|refine pas [1,2] ?_|refine pas [1,4] ?_|refine pas [1,5] ?_|refine pas [1,6] ?_|refine pas [1,7] ?_|refine pas [1,9] ?_|refine pas [2,4] ?_|refine pas [2,5] ?_|refine pas [2,6] ?_|refine pas [2,7] ?_|refine pas [2,9] ?_|refine pas [4,5] ?_|refine pas [4,6] ?_|refine pas [4,7] ?_|refine pas [4,9] ?_|refine pas [5,6] ?_|refine pas [5,7] ?_|refine pas [5,9] ?_|refine pas [6,7] ?_|refine pas [6,9] ?_|refine pas [7,9] ?_);push_cast [O,U];refine ⟨?_,?_⟩)|((first|refine pas [1,2,4] ?_|refine pas [1,2,5] ?_|refine pas [1,2,6] ?_|refine pas [1,2,7] ?_|refine pas [1,2,9] ?_|refine pas [1,4,5] ?_|refine pas [1,4,6] ?_|refine pas [1,4,7] ?_|refine pas [1,4,9] ?_|refine pas [1,5,6] ?_|refine pas [1,5,7] ?_|refine pas [1,5,9] ?_|refine pas [1,6,7] ?_|refine pas [1,6,9] ?_|refine pas [1,7,9] ?_|refine pas [2,4,5] ?_|refine pas [2,4,6] ?_|refine pas [2,4,7] ?_|refine pas [2,4,9] ?_|refine pas [2,5,6] ?_|refine pas [2,5,7] ?_|refine pas [2,5,9] ?_|refine pas [2,6,7] ?_|refine pas [2,6,9] ?_|refine pas [2,7,9] ?_|refine pas [4,5,6] ?_|refine pas [4,5,7] ?_|refine pas [4,5,9] ?_|refine pas [4,6,7] ?_|refine pas [4,6,9] ?_|refine pas [4,7,9] ?_|refine pas [5,6,7] ?_|refine pas [5,6,9] ?_|refine pas [5,7,9] ?_|refine pas [6,7,9] ?_);push_cast [O,U];refine ⟨?_,?_,?_⟩))
     all_goals first|rw [he,if_pos rfl,insT_at,hm]|rw [he,insT_at,hm]|rw [insT_at,hm]
     all_goals (refine retK_of [] ?_;push_cast [O,U])
     all_goals (exact List.take_of_length_le (by rw [List.length_append,List.length_cons,List.length_map,List.length_map,List.length_take,List.length_drop];omega))
  ·rw [decide_eq_false hin,Bool.false_and,Bool.false_or] at he
   by_cases hcm:clashesM l d=true
   ·rw [if_pos hcm] at he
    repeat' ((first|refine plE [] hck ?_ ?_|refine plE [] hdp ?_ ?_|refine plE [] hcl ?_ ?_|refine pC ?_|refine pQC ?_|refine pU ?_|refine pif ?_ ?_<;>intro h<;>try exact pN h)<;>push_cast [O,U,h2f,h3e,h3f,h5,h6b,hlk4,hin,hcm])
    all_goals (refine retK_of [] ?_;push_cast [O,U,he])
   ·rw [if_neg hcm] at he
    repeat' ((first|(refine hidR 21 ?_)|refine plE [] hck ?_ ?_|refine plE [] hdp ?_ ?_|refine plE [] hcl ?_ ?_|refine pC ?_|refine pQC ?_|refine pU ?_|refine pif ?_ ?_<;>intro h<;>try exact pN h)<;>push_cast [O,U,h2f,h3e,h3f,h5,h6b,hlk4,hin,hcm])
    refine unhid ?_
    (refine pwp_drawn (by kernel_rfl) ?_;try simp only [List.length_cons,List.length_nil,Nat.reduceAdd];repeat' first|(refine plE [] hcs ?_ ?_;(focus (push_cast [O,U];done));push_cast [O,U])|(refine plE [] hcd ?_ ?_;(focus (push_cast [O,U];done));push_cast [O,U])|(refine pl_call2 false [7] rfl rfl (by kernel_rfl) hid ?_ nofun ?_;push_cast [O,U];rintro r os (⟨rfl,rfl⟩|⟨rfl,rfl⟩)<;>(refine pl_of_pops ?_;push_cast [O,U]))|((first|refine pah 0 ?_|refine pah 3 ?_|refine pah 8 ?_|refine pah 10 ?_);push_cast [O,U])|(refine pad ?_;try push_cast [O,U])|((first|refine pas [1] ?_|refine pas [2] ?_|refine pas [4] ?_|refine pas [5] ?_|refine pas [6] ?_|refine pas [7] ?_|refine pas [9] ?_);push_cast [O,U])|((first|refine pas [1,2] ?_|refine pas [1,4] ?_|refine pas [1,5] ?_|refine pas [1,6] ?_|refine pas [1,7] ?_|refine pas [1,9] ?_|refine pas [2,4] ?_|refine pas [2,5] ?_|refine pas [2,6] ?_|refine pas [2,7] ?_|refine pas [2,9] ?_|refine pas [4,5] ?_|refine pas [4,6] ?_|refine pas [4,7] ?_|refine pas [4,9] ?_|refine pas [5,6] ?_|refine pas [5,7] ?_|refine pas [5,9] ?_|refine pas [6,7] ?_|refine pas [6,9] ?_|refine pas [7,9] ?_);push_cast [O,U];refine ⟨?_,?_⟩)|((first|refine pas [1,2,4] ?_|refine pas [1,2,5] ?_|refine pas [1,2,6] ?_|refine pas [1,2,7] ?_|refine pas [1,2,9] ?_|refine pas [1,4,5] ?_|refine pas [1,4,6] ?_|refine pas [1,4,7] ?_|refine pas [1,4,9] ?_|refine pas [1,5,6] ?_|refine pas [1,5,7] ?_|refine pas [1,5,9] ?_|refine pas [1,6,7] ?_|refine pas [1,6,9] ?_|refine pas [1,7,9] ?_|refine pas [2,4,5] ?_|refine pas [2,4,6] ?_|refine pas [2,4,7] ?_|refine pas [2,4,9] ?_|refine pas [2,5,6] ?_|refine pas [2,5,7] ?_|refine pas [2,5,9] ?_|refine pas [2,6,7] ?_|refine pas [2,6,9] ?_|refine pas [2,7,9] ?_|refine pas [4,5,6] ?_|refine pas [4,5,7] ?_|refine pas [4,5,9] ?_|refine pas [4,6,7] ?_|refine pas [4,6,9] ?_|refine pas [4,7,9] ?_|refine pas [5,6,7] ?_|refine pas [5,6,9] ?_|refine pas [5,7,9] ?_|refine pas [6,7,9] ?_);push_cast [O,U];refine ⟨?_,?_,?_⟩))
    all_goals first|rw [he,if_pos rfl,insT_at,hm]|rw [he,insT_at,hm]|rw [insT_at,hm]
    all_goals (refine retK_of [] ?_;push_cast [O,U])
    all_goals (exact List.take_of_length_le (by rw [List.length_append,List.length_cons,List.length_map,List.length_map,List.length_take,List.length_drop];omega))
end Go.Proofs.YtmbbkfffcflfcaaGreatDoor
