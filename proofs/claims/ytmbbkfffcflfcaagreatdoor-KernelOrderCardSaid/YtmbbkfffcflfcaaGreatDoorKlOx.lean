import Derived.Test.YtmbbkfffcflfcaaGreatDoorR49
namespace Go.Proofs.YtmbbkfffcflfcaaGreatDoor
open Go.RowKit
open IntWalk renaming iteOmega → iO, toNatUp → tN
set_option linter.unusedVariables false
set_option linter.unusedSimpArgs false
theorem chain_pos {l:List Dev} (h:Okp l):∀ (j:Nat) (hj:j < l.length) (x:Dev),x ∈ chainM l l[j].index → ∃ i,∃ hi:i < l.length,i≤j∧l[i]=x:=fun j=>by
 induction j using Nat.strongRecOn with
 | ind j ih =>
  intro hj x hx
  rw [chain_step h (List.getElem_mem hj)] at hx
  rcases List.mem_cons.1 hx with e|hx
  ·exact ⟨j,hj,Nat.le_refl _,e.symm⟩
  ·rcases h.par j hj with hp|⟨i,hi,hp⟩
   ·rw [hp,chain_none (find0 h.pos (Int.le_refl _))] at hx
    cases hx
   ·rw [← hp] at hx
    obtain ⟨i2,hi2,h1,h2⟩:=ih i hi (by omega) x hx
    exact ⟨i2,hi2,by omega,h2⟩
theorem drive_new (k:Ker) (d:Dev) (v:ByteArray):∃ new,NewE k (k.drive d v).1 new:=by
 unfold Ker.drive
 split
 ·refine ⟨_,rfl,fun e he=>?_⟩
  rw [List.mem_singleton] at he
  rw [he]
  show (if v=⟨#[]⟩ then (6:Int) else 5)≠2
  split<;>decide
 ·exact ⟨[],(List.append_nil _).symm,fun e he=>by cases he⟩
theorem each_new (q:Dev → Bool) (v:ByteArray):∀ (l:List Dev) (k:Ker),∃ new,NewE k (k.each q v l) new
 | [],k=>⟨[],NewE.nil rfl⟩
 | d :: l,k=>by
  have h:k.each q v (d :: l)=(if q d=true then (k.drive d v).1 else k).each q v l:=rfl
  rw [h]
  obtain ⟨b,hb⟩:=each_new q v l (if q d=true then (k.drive d v).1 else k)
  by_cases hq:q d=true
  ·rw [if_pos hq] at hb ⊢
   obtain ⟨a,ha⟩:=drive_new k d v
   exact ⟨_,ha.trans hb⟩
  ·rw [if_neg hq] at hb ⊢
   exact ⟨_,hb⟩
theorem remEvs_idx (l:List Dev):∀ (ds:List Dev) (n i:Nat),i < ds.length → ((remEvs l n ds).getD i default).idx=(ds.getD i default).index
 | [],n,i,h=>by simp at h
 | d :: ds,n,0,h=>rfl
 | d :: ds,n,i+1,h=>by
  rw [remEvs,List.getD_cons_succ,List.getD_cons_succ]
  exact remEvs_idx l ds (n+1) i (by simpa using h)
theorem remove_ord {k:Ker} (h:KerI k) (d:Dev):∃ new,(k.remove d).1.evs=k.evs++new∧OrdE k new:=by
 refine ⟨_,rfl,⟨fun a b hb ha _ _ x hx hne=>?_⟩⟩
 rw [remEvs_len] at ha
 have hbl:b < (subtM k.tree d.index).reverse.length:=by omega
 rw [remEvs_idx _ _ _ _ ha] at hx hne
 rw [remEvs_idx _ _ _ _ hbl]
 have hnd:(k.tree.map Dev.index).Nodup:=h.tree.okt.nodup
 have hpw:k.tree.Pairwise fun u w=>w.index ∉ ((chainM k.tree u.index).filter fun x=>!decide (x.index=u.index)).map Dev.index:=by
  rw [List.pairwise_iff_getElem]
  intro i j hi hj hij hm
  obtain ⟨y,hy,e⟩:=List.mem_map.1 hm
  obtain ⟨hy,_⟩:=List.mem_filter.1 hy
  obtain ⟨i2,hi2,h1,h2⟩:=chain_pos h.tree.okt.p i hi y hy
  rw [← h2] at e
  have h3:=same_ix hnd (List.getElem_mem hi2) (List.getElem_mem hj) e
  have h4:k.tree.Nodup:=List.Pairwise.of_map Dev.index (fun a b hne e=>hne (by rw [e])) hnd
  rcases Nat.lt_or_ge i2 j with h5|h5
  ·exact List.pairwise_iff_getElem.1 h4 i2 j hi2 hj h5 h3
  ·omega
 have hpr:(subtM k.tree d.index).reverse.Pairwise fun u w=>u.index ∉ ((chainM k.tree w.index).filter fun x=>!decide (x.index=w.index)).map Dev.index:=by
  rw [List.pairwise_reverse]
  exact hpw.filter _
 have h6:=List.pairwise_iff_getElem.1 hpr b a hbl ha hb
 rw [getD_lt _ ha] at hx hne
 rw [getD_lt _ hbl]
 intro e
 refine h6 (List.mem_map.2 ⟨x,List.mem_filter.2 ⟨hx,?_⟩,e⟩)
 rw [Bool.not_eq_true',decide_eq_false_iff_not]
 exact hne
theorem one_ord {sa:List Atr → ByteArray → ByteArray → List Atr} {k:Ker} (h:KerI k) (op:Opr) (d:Dev):∃ new,(k.one sa op d).1.evs=k.evs++new∧OrdE k new:=by
 have hN:∀ {k':Ker} {new:List Evt},NewE k k' new → ∃ new,k'.evs=k.evs++new∧OrdE k new:=fun h=>⟨_,h.eq,h.ord⟩
 have hE:∀ {k':Ker} (a ix:Int) (o:ByteArray),k'.evs=k.evs → a≠2 → ∃ new,(k'.emit a ix o).evs=k.evs++new∧OrdE k new:=fun {k'} a ix o he ha=>hN (k':=k'.emit a ix o) (new:=[⟨(k'.evs.length:Int)+1,a,ix,pathM k'.tree ix,o⟩]) ⟨by show k'.evs++_=_;rw [he],fun e he2=>by rw [List.mem_singleton] at he2;rw [he2];exact ha⟩
 unfold Ker.one
 split
 ·exact remove_ord h d
 ·split
  ·unfold Ker.set
   split
   ·exact hN (NewE.nil rfl)
   ·split
    ·exact hN (NewE.nil rfl)
    ·simp only
     split
     ·exact hN (NewE.nil rfl)
     ·exact hE _ _ _ rfl (by decide)
  ·split
   ·exact hE _ _ _ rfl (by decide)
   ·split
    ·unfold Ker.rename
     split
     ·exact hN (NewE.nil rfl)
     ·split
      ·exact hN (NewE.nil rfl)
      ·simp only
       split
       ·exact hN (NewE.nil rfl)
       ·exact hE _ _ _ rfl (by decide)
    ·split
     ·unfold Ker.bind
      split
      ·exact hN (NewE.nil rfl)
      ·split
       ·exact hN (NewE.nil rfl)
       ·obtain ⟨a,ha⟩:=drive_new k d op.value;exact hN ha
     ·unfold Ker.unbind
      split
      ·exact hN (NewE.nil rfl)
      ·obtain ⟨a,ha⟩:=drive_new k d ⟨#[]⟩;exact hN ha
theorem do_ord (sa:List Atr → ByteArray → ByteArray → List Atr) {k:Ker} (h:KerI k) (op:Opr):∃ new,(k.doM sa op).1.evs=k.evs++new∧OrdE k new:=by
 have hN:∀ {k':Ker} {new:List Evt},NewE k k' new → ∃ new,k'.evs=k.evs++new∧OrdE k new:=fun h=>⟨_,h.eq,h.ord⟩
 unfold Ker.doM
 split
 ·unfold Ker.add
  split
  ·exact hN (NewE.nil rfl)
  ·split
   ·exact hN (NewE.nil rfl)
   ·have hp:NewE k (k.put (newD k (parI k.tree op.path) op.dev)) [⟨(k.evs.length:Int)+1,1,(newD k (parI k.tree op.path) op.dev).index,pathM (insT k.tree (newD k (parI k.tree op.path) op.dev)) (newD k (parI k.tree op.path) op.dev).index,⟨#[]⟩⟩]:=⟨rfl,fun e he=>by rw [List.mem_singleton] at he;rw [he];show (1:Int)≠2;decide⟩
    cases firstM k (newD k (parI k.tree op.path) op.dev) with
    | none=>exact hN hp
    | some s =>
     obtain ⟨a,ha⟩:=drive_new (k.put (newD k (parI k.tree op.path) op.dev)) (newD k (parI k.tree op.path) op.dev) s
     exact hN (hp.trans ha)
 ·split
  ·unfold Ker.load
   cases modOf k.mods op.value with
   | none=>exact hN (NewE.nil rfl)
   | some m =>
    simp only
    split
    ·exact hN (NewE.nil rfl)
    ·obtain ⟨a,ha⟩:=each_new (fun d=>decide (d.driver=⟨#[]⟩) && matB m d) op.value k.tree (k.withL (k.loaded++[op.value]))
     exact hN ((NewE.nil (k:=k) (k':=k.withL (k.loaded++[op.value])) rfl).trans ha)
  ·split
   ·unfold Ker.unload
    cases modOf k.mods op.value with
    | none=>exact hN (NewE.nil rfl)
    | some m =>
     simp only
     split
     ·exact hN (NewE.nil rfl)
     ·obtain ⟨a,ha⟩:=each_new (fun d=>decide (d.driver=op.value)) ⟨#[]⟩ k.tree (k.withL (k.loaded.filter fun s=>!decide (s=op.value)))
      exact hN ((NewE.nil (k:=k) (k':=k.withL (k.loaded.filter fun s=>!decide (s=op.value))) rfl).trans ha)
   ·split
    ·exact hN (NewE.nil rfl)
    ·cases atD k.tree op.path with
     | none=>exact hN (NewE.nil rfl)
     | some d=>exact one_ord h op d
end Go.Proofs.YtmbbkfffcflfcaaGreatDoor
namespace Go.Proofs.YtmbbkfffcflfcaaGreatDoor
open Go.RowKit
open IntWalk renaming iteOmega → iO, toNatUp → tN
set_option linter.unusedVariables false
set_option linter.unusedSimpArgs false
def ancM (l:List Dev) (n:Int):List Dev:=(chainM l n).filter fun d=>decide (d.index≠n)
end Go.Proofs.YtmbbkfffcflfcaaGreatDoor
namespace Go.Proofs.YtmbbkfffcflfcaaGreatDoor
attribute [local irreducible] PL QL PWPr PCalls Weak RetK Kontr PA
open Go.RowKit
open IntWalk renaming iteOmega → iO, toNatUp → tN
set_option linter.unusedVariables false
set_option linter.unusedSimpArgs false
set_option maxRecDepth 20000
theorem anc_none {l acc:List Dev} {n c:Int} {k:Nat} (h:acc++(chainGo l k c).filter (fun d=>decide (d.index≠n))=ancM l n) (hf:findD l c=none):acc=ancM l n:=by
 rw [chainGo_none hf,List.filter_nil,List.append_nil] at h
 exact h
theorem anc_zero {l acc:List Dev} {n c:Int} (h:acc++(chainGo l 0 c).filter (fun d=>decide (d.index≠n))=ancM l n):acc=ancM l n:=by
 rw [chainGo,List.filter_nil,List.append_nil] at h
 exact h
theorem anc_skip {l acc:List Dev} {n c:Int} {k:Nat} {d:Dev} (h:acc++(chainGo l (k+1) c).filter (fun d=>decide (d.index≠n))=ancM l n) (hf:findD l c=some d) (he:d.index=n):acc++(chainGo l k d.parent).filter (fun d=>decide (d.index≠n))=ancM l n:=by
 rw [chainGo_some hf,List.filter_cons_of_neg (by simp [he])] at h
 exact h
theorem anc_take {l acc:List Dev} {n c:Int} {k:Nat} {d:Dev} (h:acc++(chainGo l (k+1) c).filter (fun d=>decide (d.index≠n))=ancM l n) (hf:findD l c=some d) (he:¬ d.index=n):(acc++[d])++(chainGo l k d.parent).filter (fun d=>decide (d.index≠n))=ancM l n:=by
 rw [chainGo_some hf,List.filter_cons_of_pos (by simp [he])] at h
 rw [List.append_assoc]
 exact h
set_option maxHeartbeats 8000000 in
theorem ancestors_pure (l:List Dev) (n:Int) (h:Okp l) (hl:l.length≤1000) (hz:∀ d ∈ l,d.original.size≤1000) (ha:∀ d ∈ l,d.attrs.length≤1000000000) :
  PCalls Tryz.prog 33 [.agg (trE l),.c (.v (.int .i64 n))] [] fun r os=>r = .c (.sl 10 ((ancM l n).map Dev.d))∧os=[]:=by
 have hk:=look_pure l h hl hz
 have hu:=up_pure l n
 have hanc:(ancM l n).length≤l.length:=by unfold ancM;exact Nat.le_trans (List.length_filter_le _ _) (chain_len l n)
 refine pcalls_of Tryz.func33 rfl (by simp [Tryz.ntmps33]) ?_
 rw [Tryz.ntmps33,Tryz.results33]
 push_cast [iO,tN]
 have cB:CutB 7 [10]:=trivial
 repeat' (first |  ((refine pwp_cut 7 [10] ?_;apply pwp_drawn_to;(focus kernel_rfl);(focus (simp only [List.length_cons,List.length_nil,Nat.reduceAdd];(repeat' first|((refine plc [] (hk) ?_ ?_;push_cast [iO,tN];rintro r os ⟨rfl,rfl⟩;push_cast [iO,tN]))|((refine plc [3,4] (hu) ?_ ?_;push_cast [iO,tN];rintro r os ⟨rfl,rfl⟩;push_cast [iO,tN]))|(refine pad ?_;first|with_reducible exact weak_cutS 7 [10] _|(refine weak_fg ?_;push_cast [iO,tN]))|((first|refine pas [0] ?_|refine pas [1] ?_|refine pas [2] ?_|refine pas [3] ?_);push_cast [iO,tN])|((first|refine pas [0,2] ?_|refine pas [1,2] ?_);push_cast [iO,tN];refine ⟨?_,?_⟩));done));push_cast [iO,tN]))|(refine pwp_seq fun K hK=>?_)|(refine pwp_block ?_)  | ((first|refine pC ?_|refine pQC ?_|refine pU ?_);push_cast [iO,tN])|(refine pif (fun h=>?_) (fun h=>?_)<;>first|exact pN h|push_cast [iO,tN]))
 refine pwp_range (R:=fun lo r os'=>∃ L2 t2 c j,os'=[.box 41 (trE l),.box 3 [.v (.int .i64 n)],.box 39 [.own 8 (ancM l n).length],.map (some .i64) false (placeE l l.length),.map (some .i64) false (origE l l.length),.box 120 [.sl 10 (l.map Dev.d),.mp 3,.mp 4],.box 3 [.v (.int .i64 c)],.loop lo L2 t2,.arr 53 10 ((ancM l n).map Dev.d)]++j∧(j=[]∨∃ b,j=[b])∧L2.st = .ready∧L2.pd=none) rfl (by kernel_rfl) (fun lo D fn=>?_) (fun lo r os' hR=>?_)
 ·refine pcalls_of_all Tryz.func108 rfl (by simp [Tryz.ntmps108]) ?_
  rw [Tryz.ntmps108,Tryz.results108]
  push_cast [iO,tN]
  refine pwp_weak (weak_adopt_box 2 0 53 10 (by omega) 39 [.v (.slice none 0 0)] rfl rfl) ?_
  push_cast [iO,tN]
  have cB:CutB 6 [7,8,9]:=trivial
  repeat' (first|((first|refine pC ?_|refine pQC ?_|refine pU ?_);push_cast [iO,tN])|(refine pif (fun h=>?_) (fun h=>?_)<;>first|exact pN h|push_cast [iO,tN]))
  (apply pwp_loop3 (α:=Nat × Int × List Dev) 6 [7,8,9] (fun x=>[(9,.c (.v (.int .i64 x.1)))]) (fun x=>[(2,.box 39 [.own 8 x.2.2.length]),(6,.box 3 [.v (.int .i64 x.2.1)]),(8,.arr 53 10 (x.2.2.map Dev.d))]) (fun x=>x.1≤l.length∧x.2.2.length≤x.1∧x.2.2++(chainGo l (l.length - x.1) x.2.1).filter (fun d=>decide (d.index≠n))=ancM l n) (fun x=>l.length - x.1) ((0,n,[]));(focus ((try push_cast [iO,tN]);rfl));(focus exact ⟨Nat.zero_le _,Nat.le_refl _,rfl⟩);(focus ((refine weak_fg ?_;try push_cast [iO,tN]))))
  rintro ⟨j,c,acc⟩ ⟨hj,hal,hacc⟩
  simp only at hj hal hacc
  push_cast [iO,tN]
  have hfd:=vfind_pure l c h hl
  by_cases hlt:j < l.length
  ·obtain ⟨m,hm⟩:∃ m,l.length - j=m+1:=⟨l.length - j - 1,by omega⟩
   rw [hm] at hacc
   cases hd:findD l c with
   | none =>
    rw [hd] at hfd
    simp only [Option.getD_none,Option.isSome_none] at hfd
    have he:=anc_none hacc hd
    subst he
    repeat' (first |  ((refine plc [3,4] (hfd) ?_ ?_;push_cast [iO,tN];rintro r os ⟨rfl,rfl⟩;push_cast [iO,tN]))  | ((first|refine pC ?_|refine pQC ?_|refine pU ?_);push_cast [iO,tN])|(refine pif (fun h=>?_) (fun h=>?_)<;>first|exact pN h|push_cast [iO,tN]))
    exact ⟨_,rfl,by push_cast [iO,tN],_,_,_,[_],rfl,.inr ⟨_,rfl⟩,rfl,rfl⟩
   | some d =>
    rw [hd] at hfd
    simp only [Option.getD_some,Option.isSome_some] at hfd
    have hcp:=copied_pure d (ha _ (findD_some hd).1)
    have hm2:l.length - (j+1)=m:=by omega
    by_cases he:d.index=n
    ·have hn2:=anc_skip hacc hd he
     repeat' (first |  ((refine plc [3,4] (hfd) ?_ ?_;push_cast [iO,tN];rintro r os ⟨rfl,rfl⟩;push_cast [iO,tN]))  | ((first|refine pC ?_|refine pQC ?_|refine pU ?_);push_cast [iO,tN])|(refine pif (fun h=>?_) (fun h=>?_)<;>first|exact pN h|push_cast [iO,tN]))
     refine pl_yield 7 (qs:=[.agg d.e]) rfl (by push_cast [iO,tN]) rfl (by push_cast [iO,tN]) rfl rfl (by push_cast [iO,tN]) rfl rfl ?_
     try dsimp only
     push_cast [iO,tN]
     have cB:CutB 7 [10,11]:=trivial
     repeat' (first|((first|refine pC ?_|refine pQC ?_|refine pU ?_);push_cast [iO,tN])|(refine pif (fun h=>?_) (fun h=>?_)<;>first|exact pN h|push_cast [iO,tN]))
     simp only [asgQ]
     refine ⟨_,_,rfl,rfl,?_⟩
     try dsimp only
     repeat' (first|((first|refine pC ?_|refine pQC ?_|refine pU ?_);push_cast [iO,tN,he])|(refine pif (fun h=>?_) (fun h=>?_)<;>first|exact pN h|push_cast [iO,tN,he]))
     simp only [yldQ]
     refine ⟨_,_,rfl,?_⟩
     refine pl_of_pops ?_
     push_cast [iO,tN]
     have cB:CutB 6 [7,8,9]:=trivial
     repeat' (first|((first|refine pC ?_|refine pQC ?_|refine pU ?_);push_cast [iO,tN])|(refine pif (fun h=>?_) (fun h=>?_)<;>first|exact pN h|push_cast [iO,tN]))
     exact ⟨(j+1,d.parent,acc),⟨by simp only;omega,by simp only;omega,by simp only [hm2];exact hn2⟩,by (refine weak_fg ?_;push_cast [iO,tN]),by simp only;omega⟩
    ·have hn2:=anc_take hacc hd he
     repeat' (first |  ((refine plc [3,4] (hfd) ?_ ?_;push_cast [iO,tN];rintro r os ⟨rfl,rfl⟩;push_cast [iO,tN]))  | ((first|refine pC ?_|refine pQC ?_|refine pU ?_);push_cast [iO,tN])|(refine pif (fun h=>?_) (fun h=>?_)<;>first|exact pN h|push_cast [iO,tN]))
     refine pl_yield 7 (qs:=[.agg d.e]) rfl (by push_cast [iO,tN]) rfl (by push_cast [iO,tN]) rfl rfl (by push_cast [iO,tN]) rfl rfl ?_
     try dsimp only
     push_cast [iO,tN]
     have cB:CutB 7 [10,11]:=trivial
     repeat' (first|((first|refine pC ?_|refine pQC ?_|refine pU ?_);push_cast [iO,tN])|(refine pif (fun h=>?_) (fun h=>?_)<;>first|exact pN h|push_cast [iO,tN]))
     simp only [asgQ]
     refine ⟨_,_,rfl,rfl,?_⟩
     try dsimp only
     repeat' (first|((refine pwp_drawn (by kernel_rfl) ?_;try simp only [List.length_cons,List.length_nil,Nat.reduceAdd];repeat' first|((refine plc [] (hcp) ?_ ?_;push_cast [iO,tN,  he];rintro r os ⟨rfl,rfl⟩;push_cast [iO,tN,  he]))|(refine pl_app2 (e:=53) (sz:=10) (by':=136) (rows:=acc.map Dev.d) (ys:=[d.d]) 8 rfl (by push_cast [iO,tN,  he]) (by push_cast [iO,tN,  he]) (by push_cast [iO,tN,  he]) (by push_cast [iO,tN,  he]) (by omega) (by push_cast [iO,tN,  he]) (by push_cast [iO,tN,  he]) (by push_cast [iO,tN,  he]) (by push_cast [iO,tN,  he]) (by simp) (by push_cast [iO,tN,  he];omega) (by push_cast [iO,tN,  he];omega) ?_ ?_<;>(refine pl_of_pops ?_;push_cast [iO,tN,  he]))|(refine pad ?_;try push_cast [iO,tN,  he])|((first|refine pas [0] ?_|refine pas [1] ?_|refine pas [2] ?_|refine pas [3] ?_|refine pas [4] ?_|refine pas [5] ?_);push_cast [iO,tN,  he])|((first|refine pas [0,1] ?_|refine pas [0,2] ?_|refine pas [0,3] ?_|refine pas [0,4] ?_|refine pas [0,5] ?_|refine pas [1,2] ?_|refine pas [1,3] ?_|refine pas [1,4] ?_|refine pas [1,5] ?_|refine pas [2,3] ?_|refine pas [2,4] ?_|refine pas [2,5] ?_|refine pas [3,4] ?_|refine pas [3,5] ?_|refine pas [4,5] ?_);push_cast [iO,tN,  he];refine ⟨?_,?_⟩)|((first|refine pas [0,1,2] ?_|refine pas [0,1,3] ?_|refine pas [0,1,4] ?_|refine pas [0,1,5] ?_|refine pas [0,2,3] ?_|refine pas [0,2,4] ?_|refine pas [0,2,5] ?_|refine pas [0,3,4] ?_|refine pas [0,3,5] ?_|refine pas [0,4,5] ?_|refine pas [1,2,3] ?_|refine pas [1,2,4] ?_|refine pas [1,2,5] ?_|refine pas [1,3,4] ?_|refine pas [1,3,5] ?_|refine pas [1,4,5] ?_|refine pas [2,3,4] ?_|refine pas [2,3,5] ?_|refine pas [2,4,5] ?_|refine pas [3,4,5] ?_);push_cast [iO,tN,  he];refine ⟨?_,?_,?_⟩)))|((first|refine pC ?_|refine pQC ?_|refine pU ?_);push_cast [iO,tN,he])|(refine pif (fun h=>?_) (fun h=>?_)<;>first|exact pN h|push_cast [iO,tN,he]))
     all_goals simp only [yldQ]
     all_goals refine ⟨_,_,rfl,?_⟩
     all_goals push_cast [iO,tN]
     have cB:CutB 6 [7,8,9]:=trivial
     all_goals have cB6:CutB 6 [7,8,9]:=trivial
     all_goals first
      | (refine pl_of_pops ?_;push_cast [iO,tN];(repeat' (first|((first|refine pC ?_|refine pQC ?_|refine pU ?_);push_cast [iO,tN])|(refine pif (fun h=>?_) (fun h=>?_)<;>first|exact pN h|push_cast [iO,tN])));refine ⟨(j+1,d.parent,acc++[d]),⟨by simp only;omega,by simp only [List.length_append,List.length_singleton];omega,by simp only [hm2];exact hn2⟩,?_,by simp only;omega⟩;(refine weak_fg ?_;push_cast [iO,tN]);done)
      | (refine pl_weak (weak_sw 10 (by omega)) ?_;push_cast [iO,tN];refine pl_weak (weak_sw 9 (by omega)) ?_;push_cast [iO,tN];refine pl_weak (weak_sw 8 (by omega)) ?_;push_cast [iO,tN];refine pl_of_pops ?_;push_cast [iO,tN];(repeat' (first|((first|refine pC ?_|refine pQC ?_|refine pU ?_);push_cast [iO,tN])|(refine pif (fun h=>?_) (fun h=>?_)<;>first|exact pN h|push_cast [iO,tN])));refine ⟨(j+1,d.parent,acc++[d]),⟨by simp only;omega,by simp only [List.length_append,List.length_singleton];omega,by simp only [hm2];exact hn2⟩,?_,by simp only;omega⟩;(refine weak_fg ?_;push_cast [iO,tN]);done)
  ·have hj2:l.length - j=0:=by omega
   rw [hj2] at hacc
   have he:=anc_zero hacc
   subst he
   repeat' (first|((first|refine pC ?_|refine pQC ?_|refine pU ?_);push_cast [iO,tN])|(refine pif (fun h=>?_) (fun h=>?_)<;>first|exact pN h|push_cast [iO,tN]))
   exact ⟨_,rfl,by push_cast [iO,tN],_,_,_,[],rfl,.inl rfl,rfl,rfl⟩
 ·obtain ⟨L2,t2,c,jj,rfl,hj,h1,h2⟩:=hR
  rcases hj with rfl|⟨b,rfl⟩
  ·refine ⟨L2,t2,rfl,by rw [h1];simp,?_⟩
   rw [h2]
   simp only [rngfQ]
   have cB:CutB 7 []:=trivial
   push_cast [iO,tN]
   refine pU ?_
   refine pwp_weak (weak_frz 8 (by omega)) ?_
   push_cast [iO,tN]
   repeat' (first|((first|refine pC ?_|refine pQC ?_|refine pU ?_);push_cast [iO,tN])|(refine pif (fun h=>?_) (fun h=>?_)<;>first|exact pN h|push_cast [iO,tN]))
   (refine retK_of [] ?_;push_cast [iO,tN])
  ·refine ⟨L2,t2,rfl,by rw [h1];simp,?_⟩
   rw [h2]
   simp only [rngfQ]
   have cB:CutB 7 []:=trivial
   push_cast [iO,tN]
   refine pU ?_
   refine pwp_weak (weak_frz 8 (by omega)) ?_
   push_cast [iO,tN]
   repeat' (first|((first|refine pC ?_|refine pQC ?_|refine pU ?_);push_cast [iO,tN])|(refine pif (fun h=>?_) (fun h=>?_)<;>first|exact pN h|push_cast [iO,tN]))
   (refine retK_of [] ?_;push_cast [iO,tN])
end Go.Proofs.YtmbbkfffcflfcaaGreatDoor
namespace Go.Proofs.YtmbbkfffcflfcaaGreatDoor
attribute [local irreducible] PL QL PWPr PCalls Weak RetK Kontr PA PCallsG
open Go.RowKit
open IntWalk renaming iteOmega → iO, toNatUp → tN
set_option linter.unusedVariables false
set_option linter.unusedSimpArgs false
set_option maxRecDepth 20000
theorem klast_pure (k:Ker):PCalls Tryz.prog 32 [.c (.ptr 0 0)] (kerO k) fun r os=>r = .c (.v (.int .i64 k.evs.length))∧os=kerO k:=by
 refine pcalls_of Tryz.func32 rfl (by simp [Tryz.ntmps32]) ?_
 rw [Tryz.ntmps32,Tryz.results32]
 push_cast [iO,tN]
 repeat' (first|((first|refine pG ?_|refine pQ ?_|refine pU ?_);push_cast [iO,tN])|(refine pif (fun h=>?_) (fun h=>?_)<;>first|exact pN h|push_cast [iO,tN]))
 (refine retK_of [0,1,2] ?_;push_cast [iO,tN])
end Go.Proofs.YtmbbkfffcflfcaaGreatDoor
namespace Go.Proofs.YtmbbkfffcflfcaaGreatDoor
attribute [local irreducible] PL QL PWPr PCalls Weak RetK Kontr PA PCallsG
open Go.RowKit
open IntWalk renaming iteOmega → iO, toNatUp → tN
set_option linter.unusedVariables false
set_option linter.unusedSimpArgs false
set_option maxRecDepth 20000
set_option maxHeartbeats 16000000 in
theorem order05_pure (L:List Int) (hL:∀ x ∈ L,-9223372036854775808≤x∧x≤9223372036854775807) (hl:L.length≤9223372036854775807) :
  PCalls Tryz.prog 8 [.c (.sl 1 (L.map fun x=>[.v (.int .i64 x)]))] [] fun r os=>r = .c (.v (.bool true))∧os=[]:=by
 refine pcalls_of Tryz.func8 rfl (by simp [Tryz.ntmps8]) ?_
 rw [Tryz.ntmps8,Tryz.results8]
 have hb:=begin_pure L hL hl
 have hkn:=known05_pure
 have nex:=fun (j:Nat) (hj:j < 1000000) (m:Int) (hm:0 < m) (hm2:m≤9223372036854775807)=>next_ex L j m hj hm hm2 hL hl
 push_cast [iO,tN]
 have cB:CutB 12 [93]:=trivial
 repeat' (first|((first|refine pC ?_|refine pQC ?_|refine pU ?_);push_cast [iO,tN])|(refine pif (fun h=>?_) (fun h=>?_)<;>first|exact pN h|push_cast [iO,tN]))
 (refine plc [] (hb) ?_ ?_;push_cast [iO,tN];rintro r os ⟨ms,hS,rfl,rfl⟩;push_cast [iO,tN])
 repeat' (first|((first|refine pC ?_|refine pQC ?_|refine pU ?_);push_cast [iO,tN])|(refine pif (fun h=>?_) (fun h=>?_)<;>first|exact pN h|push_cast [iO,tN]))
 (refine plc [] (hkn) ?_ ?_;push_cast [iO,tN];rintro r os ⟨rfl,rfl⟩;push_cast [iO,tN])
 refine pl_ptreq rfl rfl rfl rfl (by kernel_rfl) (by simp [dstOk]) (pl_of_pops ?_)
 push_cast [iO,tN]
 repeat' (first|((first|refine pC ?_|refine pQC ?_|refine pU ?_);push_cast [iO,tN])|(refine pif (fun h=>?_) (fun h=>?_)<;>first|exact pN h|push_cast [iO,tN]))
 have n1:=nex 8 (by decide) 22 (by decide) (by decide)
 (refine plc [0] (n1) ?_ ?_;push_cast [iO,tN];rintro r os ⟨v,⟨va,vb⟩,rfl,rfl⟩;push_cast [iO,tN])
 obtain ⟨n,rfl⟩:∃ n:Nat,v=(n:Int):=⟨v.toNat,by omega⟩
 repeat' (first|((first|refine pC ?_|refine pQC ?_|refine pU ?_);push_cast [iO,tN])|(refine pif (fun h=>?_) (fun h=>?_)<;>first|exact pN h|push_cast [iO,tN]))
 (apply pwp_loop3 (α:=Nat × Ker × Nat) 12 [93] (fun x=>[(4,.c (.v (.int .i64 x.1)))]) (fun x=>[(0,tape L x.2.2),(1,kerB 2 3 x.2.1),(2,kerL x.2.1),(3,kerV x.2.1)]) (fun x=>x.1≤n∧Lived (n - x.1) x.2.1∧x.2.2≤9+60 * (n - x.1)) (fun x=>x.1) ((n,begK ms,9));(focus ((try push_cast [iO,tN]);rfl));(focus exact ⟨Nat.le_refl _,by rw [Nat.sub_self];exact Lived.beg hS,by simp only;omega⟩);(focus ((refine weak_fg ?_;try push_cast [iO,tN]);(try (rfl)))))
 rintro ⟨i,k,q⟩ ⟨hi,hk,hq⟩
 simp only at hi hk hq
 by_cases h0:0 < i
 case neg =>
  have h0':¬ (0:Int) < (i:Int):=by omega
  push_cast [iO,tN]
  repeat' (first|((first|refine pC ?_|refine pQC ?_|refine pU ?_);push_cast [iO,tN,h0'])|(refine pif (fun h=>?_) (fun h=>?_)<;>first|exact pN h|push_cast [iO,tN,h0']))
  (refine retK_of [] ?_;push_cast [iO,tN])
 obtain ⟨i,rfl⟩:∃ i',i=i'+1:=⟨i - 1,by omega⟩
 have h0':(0:Int) < (i:Int)+1:=by omega
 have hev:=hk.e
 have htp:=hk.t
 have hkt:=ktree_pure k hk.b.inv.tree
 have hla:=klast_pure k
 obtain ⟨ix1,ix2,ix3,ix4⟩:=hk.ixs (by omega)
 have hop:=wop_ex L q k.tree (by omega) ix4 ix3 ix1 ix2 hL hl
 have hdo:=fun op ho=>kdo_pure k op hk.b ho (by omega) (by omega)
 repeat' (first|((refine plc [1,2,3] (hkt) ?_ ?_;push_cast [iO,tN,h0'];rintro r os ⟨rfl,rfl⟩;push_cast [iO,tN,h0']))|((refine plc [1,2,3] (hla) ?_ ?_;push_cast [iO,tN,h0'];rintro r os ⟨rfl,rfl⟩;push_cast [iO,tN,h0']))|(refine hidR 9 ?_)|((first|refine pC ?_|refine pQC ?_|refine pU ?_);push_cast [iO,tN,h0'])|(refine pif (fun h=>?_) (fun h=>?_)<;>first|exact pN h|push_cast [iO,tN,h0']))
 refine unhid ?_
 (refine pwp_cut 12 [93] ?_;apply pwp_drawn_ex (α:=Opr × Nat) 12 [93] (fun x=>[]) (fun x=>[(0,tape L x.2),(1,kerB 2 3 (kerOp k x.1).1),(2,kerL (kerOp k x.1).1),(3,kerV (kerOp k x.1).1)]) (fun x=>OprOk x.1∧x.2≤q+40) ((⟨0,⟨#[]⟩,zeroD,⟨#[]⟩,⟨#[]⟩⟩,0));(focus ((try push_cast [iO,tN]);rfl));(focus kernel_rfl);(focus (simp only [List.length_cons,List.length_nil,Nat.reduceAdd];(repeat' first|((refine plc [0] (hop) ?_ ?_;push_cast [iO,tN];rintro r os ⟨op,q2,ho,hq2,rfl,rfl⟩;push_cast [iO,tN]))|((refine plcG 1 [1,2,3] ((hdo op ho)) ?_ ?_;push_cast [iO,tN];rintro r os ⟨rfl,rfl⟩;push_cast [iO,tN]))|((first|refine pah 0 ?_|refine pah 2 ?_);push_cast [iO,tN])|(refine pad ?_;try push_cast [iO,tN])|((first|refine pas [1] ?_|refine pas [3] ?_|refine pas [4] ?_|refine pas [5] ?_|refine pas [6] ?_);push_cast [iO,tN])|((first|refine pas [1,3] ?_|refine pas [1,4] ?_|refine pas [1,5] ?_|refine pas [1,6] ?_|refine pas [3,4] ?_|refine pas [3,5] ?_|refine pas [3,6] ?_|refine pas [4,5] ?_|refine pas [4,6] ?_|refine pas [5,6] ?_);push_cast [iO,tN];refine ⟨?_,?_⟩)|((first|refine pas [1,3,4] ?_|refine pas [1,3,5] ?_|refine pas [1,3,6] ?_|refine pas [1,4,5] ?_|refine pas [1,4,6] ?_|refine pas [1,5,6] ?_|refine pas [3,4,5] ?_|refine pas [3,4,6] ?_|refine pas [3,5,6] ?_|refine pas [4,5,6] ?_);push_cast [iO,tN];refine ⟨?_,?_,?_⟩));all_goals (exact ⟨(op,q2),⟨ho,hq2⟩,by (refine weak_fg ?_;push_cast [iO,tN])⟩))))
 rintro ⟨op,q2⟩ ⟨ho,hq2⟩
 simp only at ho hq2
 obtain ⟨new,hnew,hord⟩:=do_ord insAt3 hk.b.inv op
 have hk2:=hk.do (by omega) op
 have hnew2:(kerOp k op).1.evs=k.evs++new:=hnew
 obtain ⟨k2,hke⟩:∃ k2,(kerOp k op).1=k2:=⟨_,rfl⟩
 rw [hke] at hk2 hnew2 ⊢
 have hev2:=hk2.e
 have hE:=kevents_pure k2 k.evs.length (by omega) (by omega)
 have hsn:since k2 k.evs.length=k.evs.length:=by
  unfold since
  rw [hnew2,List.length_append]
  split
  ·omega
  ·rw [if_pos (by omega)];omega
 have hdn:k2.evs.drop k.evs.length=new:=by rw [hnew2,List.drop_left]
 rw [hsn,hdn] at hE
 have hnl:new.length≤1000000:=by rw [hnew2,List.length_append] at hev2;omega
 push_cast [iO,tN]
 (refine plc [1,2,3] (hE) ?_ ?_;push_cast [iO,tN];rintro r os ⟨rfl,rfl⟩;push_cast [iO,tN])
 repeat' (first|((first|refine pC ?_|refine pQC ?_|refine pU ?_);push_cast [iO,tN])|(refine pif (fun h=>?_) (fun h=>?_)<;>first|exact pN h|push_cast [iO,tN]))
 (apply pwp_loop3 (α:=Nat) 12 [93] (fun a=>[(8,.c (.v (.int .i64 a)))]) (fun a=>[]) (fun a=>a≤new.length) (fun a=>new.length - a) (0);(focus ((try push_cast [iO,tN]);rfl));(focus exact (Nat.zero_le _));(focus ((refine weak_fg ?_;try push_cast [iO,tN]);(try (rfl)))))
 intro a ha
 push_cast [iO,tN]
 by_cases hal:a < new.length
 case neg =>
  repeat' (first|((first|refine pC ?_|refine pQC ?_|refine pU ?_);push_cast [iO,tN])|(refine pif (fun h=>?_) (fun h=>?_)<;>first|exact pN h|push_cast [iO,tN]))
  exact ⟨(i,k2,q2),⟨by simp only;omega,by simp only;rw [show n - i=n - (i+1)+1 by omega];exact hk2,by simp only;omega⟩,by (refine weak_fg ?_;push_cast [iO,tN]),by simp only;omega⟩
 repeat' (first|((first|refine pC ?_|refine pQC ?_|refine pU ?_);push_cast [iO,tN])|(refine pif (fun h=>?_) (fun h=>?_)<;>first|exact pN h|push_cast [iO,tN]))
 (apply pwp_loop3 (α:=Nat) 12 [93] (fun b=>[(9,.c (.v (.int .i64 b)))]) (fun b=>[]) (fun b=>b≤a) (fun b=>a - b) (0);(focus ((try push_cast [iO,tN]);rfl));(focus exact (Nat.zero_le _));(focus ((refine weak_fg ?_;try push_cast [iO,tN]);(try (rfl)))))
 intro b hb
 push_cast [iO,tN]
 by_cases hba:b < a
 case neg =>
  repeat' (first|((first|refine pC ?_|refine pQC ?_|refine pU ?_);push_cast [iO,tN])|(refine pif (fun h=>?_) (fun h=>?_)<;>first|exact pN h|push_cast [iO,tN]))
  exact ⟨a+1,by omega,by (refine weak_fg ?_;push_cast [iO,tN]),by omega⟩
 by_cases ea:(new.getD a default).act=2
 case neg =>
  repeat' (first|((first|refine pC ?_|refine pQC ?_|refine pU ?_);push_cast [iO,tN,ea])|(refine pif (fun h=>?_) (fun h=>?_)<;>first|exact pN h|push_cast [iO,tN,ea]))
  exact ⟨b+1,by omega,by (refine weak_fg ?_;push_cast [iO,tN]),by omega⟩
 by_cases eb:(new.getD b default).act=2
 case neg =>
  repeat' (first|((first|refine pC ?_|refine pQC ?_|refine pU ?_);push_cast [iO,tN,ea,eb])|(refine pif (fun h=>?_) (fun h=>?_)<;>first|exact pN h|push_cast [iO,tN,ea,eb]))
  exact ⟨b+1,by omega,by (refine weak_fg ?_;push_cast [iO,tN]),by omega⟩
 have han:=ancestors_pure k.tree (new.getD a default).idx hk.b.okp (by omega) hk.b.orig hk.b.att
 have hno:∀ x ∈ ancM k.tree (new.getD a default).idx,x.index≠(new.getD b default).idx:=fun x hx=>by
  unfold ancM at hx
  rw [List.mem_filter] at hx
  exact hord.ord a b hba hal ea eb x hx.1 (by simpa using hx.2)
 have hAl:(ancM k.tree (new.getD a default).idx).length≤9223372036854775807:=by
  unfold ancM
  have h1:=List.length_filter_le (fun d:Dev=>decide (d.index≠(new.getD a default).idx)) (chainM k.tree (new.getD a default).idx)
  have h2:=chain_len k.tree (new.getD a default).idx
  omega
 obtain ⟨A,hA⟩:∃ A,ancM k.tree (new.getD a default).idx=A:=⟨_,rfl⟩
 rw [hA] at han hno hAl
 repeat' (first|((refine pwp_cut 12 [93] ?_;apply pwp_drawn_to;(focus kernel_rfl);(focus (simp only [List.length_cons,List.length_nil,Nat.reduceAdd];(repeat' first|((refine plc [] (han) ?_ ?_;push_cast [iO,tN,  ea,eb];rintro r os ⟨rfl,rfl⟩;push_cast [iO,tN,  ea,eb]))|((first|refine pah 1 ?_|refine pah 2 ?_|refine pah 3 ?_|refine pah 4 ?_|refine pah 7 ?_);push_cast [iO,tN,  ea,eb])|(refine pad ?_;first|with_reducible exact weak_cutS 12 [93] _|(refine weak_fg ?_;push_cast [iO,tN,  ea,eb]))|((first|refine pas [0] ?_|refine pas [5] ?_|refine pas [6] ?_);push_cast [iO,tN,  ea,eb])|((first|refine pas [0,5] ?_);push_cast [iO,tN,  ea,eb];refine ⟨?_,?_⟩));done));push_cast [iO,tN,  ea,eb]))|((first|refine pC ?_|refine pQC ?_|refine pU ?_);push_cast [iO,tN,ea,eb])|(refine pif (fun h=>?_) (fun h=>?_)<;>first|exact pN h|push_cast [iO,tN,ea,eb]))
 (apply pwp_loop3 (α:=Nat) 12 [93] (fun c=>[(11,.c (.v (.int .i64 c)))]) (fun c=>[]) (fun c=>c≤A.length) (fun c=>A.length - c) (0);(focus ((try push_cast [iO,tN]);rfl));(focus exact (Nat.zero_le _));(focus ((refine weak_fg ?_;try push_cast [iO,tN]);(try (rfl)))))
 intro c hc
 push_cast [iO,tN]
 by_cases hcl:c < A.length
 ·have hne:((A.getD c default).index=(new.getD b default).idx)=False:=eq_false (hno _ (by rw [getD_lt _ hcl];exact List.getElem_mem _))
  repeat' (first|((refine pwp_cut 12 [93] ?_;apply pwp_drawn_to;(focus kernel_rfl);(focus (simp only [List.length_cons,List.length_nil,Nat.reduceAdd];(repeat' first|((first|refine pah 0 ?_|refine pah 1 ?_|refine pah 2 ?_|refine pah 3 ?_|refine pah 5 ?_|refine pah 6 ?_|refine pah 7 ?_|refine pah 8 ?_|refine pah 10 ?_);push_cast [iO,tN,  hne])|(refine pad ?_;first|with_reducible exact weak_cutS 12 [93] _|(refine weak_fg ?_;push_cast [iO,tN,  hne]))|((first|refine pas [4] ?_|refine pas [9] ?_);push_cast [iO,tN,  hne])|((first|refine pas [4,9] ?_);push_cast [iO,tN,  hne];refine ⟨?_,?_⟩));done));push_cast [iO,tN,  hne]))|((first|refine pC ?_|refine pQC ?_|refine pU ?_);push_cast [iO,tN,hne])|(refine pif (fun h=>?_) (fun h=>?_)<;>first|exact pN h|push_cast [iO,tN,hne]))
  exact ⟨c+1,by omega,by (refine weak_fg ?_;push_cast [iO,tN]),by omega⟩
 ·repeat' (first|((first|refine pC ?_|refine pQC ?_|refine pU ?_);push_cast [iO,tN])|(refine pif (fun h=>?_) (fun h=>?_)<;>first|exact pN h|push_cast [iO,tN]))
  exact ⟨b+1,by omega,by (refine weak_fg ?_;push_cast [iO,tN]),by omega⟩
end Go.Proofs.YtmbbkfffcflfcaaGreatDoor
