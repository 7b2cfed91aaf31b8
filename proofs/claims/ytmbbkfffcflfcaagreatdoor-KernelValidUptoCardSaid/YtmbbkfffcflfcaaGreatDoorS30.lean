/- What the program computes, and the plain laws of it, part 30. -/
import Derived.WideKeyEntry
import Derived.Test.YtmbbkfffcflfcaaGreatDoorS29
namespace Go.Proofs.YtmbbkfffcflfcaaGreatDoor
attribute [local irreducible] PL QL PWPr PCalls Weak RetK Kontr PA
open Go.RowKit
open IntWalk renaming iteOmega → O, toNatUp → U
set_option linter.unusedVariables false
set_option linter.unusedSimpArgs false
set_option maxRecDepth 20000
def placeE (l:List Dev) (i:Nat):List (MK × List D):=(List.range i).map fun j=>(.i .i64 (l.getD j default).index,[.v (.int .i64 (j:Int))])
def origE (l:List Dev) (i:Nat):List (MK × List D):=(l.take i).map fun d=>(.i .i64 d.index,[.v (.string (placeM l d.index))])
theorem mget_orig (l:List Dev) (n:Int):∀ m:List Dev,mget (m.map fun d=>(.i .i64 d.index,[.v (.string (placeM l d.index))])) (.i .i64 n)=(findD m n).map fun _=>[D.v (.string (placeM l n))]
 | []=>rfl
 | d :: m=>by
  rw [List.map_cons,mget]
  unfold findD
  by_cases h:d.index=n
  ·rw [List.find?_cons_of_pos (by simpa using h)]
   subst h
   simp
  ·rw [List.find?_cons_of_neg (by simpa using h),if_neg (by simp [h])]
   exact mget_orig l n m
theorem mput_new:∀ (es:List (MK × List D)) (k:MK) (r:List D),mget es k=none → mput es k r=es++[(k,r)]
 | [],k,r,_=>rfl
 | e :: es,k,r,h=>by
  obtain ⟨k',r'⟩:=e
  rw [mget] at h
  split at h
  ·cases h
  ·rename_i hk
   rw [mput,if_neg hk,mput_new es k r h];rfl
theorem mget_place (l:List Dev) (n:Int):∀ i,i≤l.length → (∀ j,j < i → (l.getD j default).index≠n) → mget (placeE l i) (.i .i64 n)=none:=by
 intro i hi h
 unfold placeE
 have key:∀ js:List Nat,(∀ j ∈ js,j < i) → mget (js.map fun j=>((MK.i .i64 (l.getD j default).index:MK),[D.v (.int .i64 (j:Int))])) (.i .i64 n)=none:=by
  intro js
  induction js with
  | nil=>intro _;rfl
  | cons j js ih =>
   intro hj
   rw [List.map_cons,mget,if_neg (fun e=>h j (hj j (by simp)) (by injection e))]
   exact ih fun x hx=>hj x (by simp [hx])
 exact key _ fun j hj=>List.mem_range.1 hj
theorem mget_origE (l:List Dev) (i:Nat) (n:Int):mget (origE l i) (.i .i64 n)=(findD (l.take i) n).map fun _=>[D.v (.string (placeM l n))]:=mget_orig l n _
theorem above_eq {l:List Dev} (h:Okp l) {i:Nat} (hi:i < l.length):(findD (l.take i) (l.getD i default).parent=none → placeM l (l.getD i default).parent=⟨#[]⟩):=fun hn=>by
 rcases h.par i hi with h0|⟨j,hj,hp⟩
 ·rw [getD_lt l hi,h0]
  unfold placeM
  rw [orig_none (find0 h.pos (by omega))]
  rfl
 ·exfalso
  have hm:l[j] ∈ l.take i:=by rw [List.mem_take_iff_getElem];exact ⟨j,by omega,rfl⟩
  exact findD_none.1 hn _ hm (by rw [getD_lt l hi];exact hp)
theorem lk_above {l:List Dev} (h:Okp l) {i:Nat} (hi:i < l.length):lkP false (.c (.v (.string ⟨#[]⟩))) false (mget (origE l i) (.i .i64 (l.getD i default).parent))=some (.c (.v (.string (placeM l (l.getD i default).parent)))):=by
 rw [mget_origE]
 cases hf:findD (l.take i) (l.getD i default).parent with
 | none=>rw [above_eq h hi hf];rfl
 | some d=>rfl
theorem place_step {l:List Dev} (h:Okp l) {i:Nat} (hi:i < l.length):placeM l (l.getD i default).index=placeM l (l.getD i default).parent++⟨#[47]⟩++(l.getD i default).original:=by
 have hm:l.getD i default ∈ l:=by rw [getD_lt l hi];exact List.getElem_mem _
 unfold placeM
 rw [orig_step h hm,joinP_snoc]
theorem new_index {l:List Dev} (h:Okp l) {i:Nat} (hi:i < l.length):∀ j,j < i → (l.getD j default).index≠(l.getD i default).index:=fun j hj e=>by
 have hp:=List.pairwise_iff_getElem.1 h.nodup j i (by simp;omega) (by simp;omega) hj
 simp only [List.getElem_map] at hp
 rw [getD_lt l (by omega),getD_lt l hi] at e
 exact hp e
theorem put_place {l:List Dev} (h:Okp l) {i:Nat} (hi:i < l.length):mput (placeE l i) (.i .i64 (l.getD i default).index) [.v (.int .i64 (i:Int))]=placeE l (i+1):=by
 rw [mput_new _ _ _ (mget_place l _ i (by omega) (new_index h hi))]
 unfold placeE
 rw [List.range_succ,List.map_append];rfl
theorem put_orig {l:List Dev} (h:Okp l) {i:Nat} (hi:i < l.length):mput (origE l i) (.i .i64 (l.getD i default).index) [.v (.string (placeM l (l.getD i default).index))]=origE l (i+1):=by
 rw [mput_new]
 ·unfold origE
  rw [List.take_succ_eq_append_getElem hi,List.map_append,← getD_lt l hi];rfl
 ·rw [mget_origE,findD_none.2 fun d hd e=>?_]
  ·rfl
  ·obtain ⟨j,hj,rfl⟩:=List.mem_take_iff_getElem.1 hd
   exact new_index h hi j (by omega) (by rw [getD_lt l (by omega)];exact e)
theorem place_size {l:List Dev} (hl:l.length≤1000) (hz:∀ d ∈ l,d.original.size≤1000) (n:Int):(placeM l n).size≤1001000:=by
 have h1:=orig_len l n
 have h2:=orig_size hz n
 have h3:=joinL_len (B:=1000) (ps:=(origM l n).map (·.data.toList)) fun q hq=>by obtain ⟨x,hx,rfl⟩:=List.mem_map.1 hq;exact h2 x hx
 have h4:(placeM l n).size=(joinL ((origM l n).map (·.data.toList))).length:=by unfold placeM;rw [← joinP_list];rfl
 rw [h4]
 rw [List.length_map] at h3
 have h5:(origM l n).length * 1001≤1000 * 1001:=Nat.mul_le_mul_right _ (by omega)
 omega
theorem emp_fit {n:Nat} (h:n≤100000000):(n:Int)+((⟨#[47]⟩:ByteArray).size:Int)≤9223372036854775807:=slash_fit2 h
set_option maxHeartbeats 4000000 in
theorem look_pure (l:List Dev) (h:Okp l) (hl:l.length≤1000) (hz:∀ d ∈ l,d.original.size≤1000) :
  PCalls Tryz.prog 62 [.agg (trE l)] [] fun r os=>r = .agg [.sl 10 (l.map Dev.d),.mp 0,.mp 1]∧os=[.map (some .i64) false (placeE l l.length),.map (some .i64) false (origE l l.length)]:=by
 refine pcalls_of Tryz.func62 rfl (by simp [Tryz.ntmps62]) ?_
 rw [Tryz.ntmps62,Tryz.results62]
 push_cast [O,U]
 have cB:CutB 7 [13,14,15]:=trivial
 repeat' ((first|refine pC ?_|refine pQC ?_|refine pU ?_|refine pif ?_ ?_<;>intro h<;>try exact pN h)<;>push_cast [O,U])
 (apply pwp_loop3 (α:=Nat) 7 [13,14,15] (fun i=>[(15,.c (.v (.int .i64 i)))]) (fun i=>[(2,.map (some .i64) false (placeE l i)),(3,.map (some .i64) false (origE l i))]) (fun i=>i≤l.length) (fun i=>l.length - i) (0);(focus ((try push_cast [O,U]);rfl));(focus exact (Nat.zero_le _));(focus ((refine weak_fg ?_;try push_cast [O,U]);(try (exact ⟨rfl,rfl⟩)))))
 intro i hi
 push_cast [O,U]
 by_cases hlt:i < l.length
 case neg =>
  have hi2:i=l.length:=by omega
  subst hi2
  repeat' ((first|refine pC ?_|refine pQC ?_|refine pU ?_|refine pif ?_ ?_<;>intro h<;>try exact pN h)<;>push_cast [O,U])
  (refine retK_of [2,3] ?_;push_cast [O,U])
 refine pwp_seq fun K1 hK1=>?_
 refine pwp_region ?_
 push_cast [O,U]
 refine Kont.use (by assumption) ?_
 refine pwp_seq fun K2 hK2=>?_
 refine pwp_cond ?_
 push_cast [O,U]
 refine ⟨fun _=>?_,fun h'=>absurd (show (i:Int) < (l.length:Int) by omega) (of_decide_eq_false h')⟩
 refine pwp_skip ?_
 push_cast [O,U]
 refine Kont.use (by assumption) ?_
 refine pwp_seq fun K3 hK3=>?_
 refine pwp_block ?_
 refine pwp_seq fun K4 hK4=>?_
 refine pwp_region ?_
 push_cast [O,U]
 refine Kont.use (by assumption) ?_
 refine pwp_cut 7 [13,14,15] ?_
 push_cast [O,U]
 refine pwp_seq fun K5 hK5=>?_
 refine pwp_regionL ?_
 have hlk:=lk_above h hlt
 have hps:=place_size hl hz (l.getD i default).parent
 have hoz:(l.getD i default).original.size≤1000:=hz _ (by rw [getD_lt l hlt];exact List.getElem_mem _)
 refine pl_run1 (q:=.c (.ptr 4 2)) rfl (by push_cast [O,U]) (by push_cast [O,U]) ?_
 push_cast [O,U]
 refine pl_run1 (q:=.c (.mp 3)) rfl (by push_cast [O,U]) (by push_cast [O,U]) ?_
 push_cast [O,U]
 refine pl_run1 (q:=.c (.ptr 5 1)) rfl (by push_cast [O,U]) (by push_cast [O,U]) ?_
 push_cast [O,U]
 refine pl_run1 (q:=.c (.v (.int .i64 (l.getD i default).parent))) rfl (by push_cast [O,U]) (by push_cast [O,U]) ?_
 push_cast [O,U]
 refine pl_run1 (q:=.c (.v (.string (placeM l (l.getD i default).parent)))) rfl (by push_cast [O,U,hlk]) (by push_cast [O,U]) ?_
 push_cast [O,U]
 refine pl_cat rfl rfl rfl rfl (emp_fit (by omega)) (by push_cast [O,U]) ?_
 push_cast [O,U]
 refine pl_run1 (q:=.c (.ptr 5 3)) rfl (by push_cast [O,U]) (by push_cast [O,U]) ?_
 push_cast [O,U]
 refine pl_run1 (q:=.c (.v (.string (l.getD i default).original))) rfl (by push_cast [O,U]) (by push_cast [O,U]) ?_
 push_cast [O,U]
 refine pl_cat rfl rfl rfl rfl ?_ (by push_cast [O,U]) ?_
 ·rw [ByteArray.size_append,show (⟨#[47]⟩:ByteArray).size=1 from rfl];omega
 push_cast [O,U]
 refine pl_of_pops ?_
 push_cast [O,U]
 refine Kont.use (by assumption) ?_
 rw [← place_step h hlt]
 have hpp:=put_place h hlt
 have hpo:=put_orig h hlt
 refine pwp_cut 7 [13,14,15] ?_
 push_cast [O,U]
 repeat' ((first|(refine pwp_cut 7 [13,14,15] ?_;apply pwp_drawn_to;(focus kernel_rfl);(focus (simp only [List.length_cons,List.length_nil,Nat.reduceAdd];(repeat' first|((first|refine pah 0 ?_|refine pah 2 ?_|refine pah 4 ?_|refine pah 6 ?_|refine pah 8 ?_|refine pah 9 ?_);push_cast [O,U,hpp,hpo])|(refine pad ?_;first|with_reducible exact weak_cutS 7 [13,14,15] _|(refine weak_fg ?_;push_cast [O,U,hpp,hpo]))|((first|refine pas [1] ?_|refine pas [3] ?_|refine pas [5] ?_|refine pas [7] ?_|refine pas [10] ?_|refine pas [11] ?_);push_cast [O,U,hpp,hpo])|((first|refine pas [1,3] ?_|refine pas [1,5] ?_|refine pas [1,7] ?_|refine pas [3,5] ?_|refine pas [3,7] ?_|refine pas [5,7] ?_|refine pas [5,10] ?_|refine pas [7,10] ?_);push_cast [O,U,hpp,hpo];refine ⟨?_,?_⟩)|((first|refine pas [1,3,5] ?_|refine pas [1,3,7] ?_|refine pas [1,5,7] ?_|refine pas [3,5,7] ?_|refine pas [5,7,10] ?_);push_cast [O,U,hpp,hpo];refine ⟨?_,?_,?_⟩)|((first|refine pas [1,3,5,7] ?_);push_cast [O,U,hpp,hpo];refine ⟨?_,?_,?_,?_⟩));done));push_cast [O,U,hpp,hpo])|refine pC ?_|refine pQC ?_|refine pU ?_|refine pif ?_ ?_<;>intro h<;>try exact pN h)<;>push_cast [O,U,hpp,hpo])
 exact ⟨i+1,by omega,by (refine weak_fg ?_;push_cast [O,U]),by omega⟩
set_option maxRecDepth 20000
theorem cloneA_pure (l:List Atr) (hl:l.length≤1000000000) :
  PCalls Tryz.prog 52 [.c (.sl 2 (l.map Atr.d))] [] fun r os=>r = .c (.own 0 l.length)∧os=[.arr 97 2 (l.map Atr.d)]:=by
 refine pcalls_adopt (R:=fun r os=>(r = .c (.own 0 l.length)∧os=[.arr 97 2 (l.map Atr.d)])∨(r = .c (.v (.slice none 0 0))∧os=[]∧l=[])) 97 2 (by omega) ?_ (by
  rintro r os (h|⟨rfl,rfl,rfl⟩)
  ·exact .inl h
  ·exact .inr ⟨rfl,rfl,rfl⟩)
 by_cases h0:l=[]
 ·subst h0
  refine pcalls_split0 (l1:=[]) (l2:=[]) fun A c=>?_
  cases A with
  | none =>
   refine PCalls.mono (R:=fun r os=>r = .c (.v (.slice none 0 0))∧os=[]) ?_ (fun r os h=>.inr ⟨h.1,h.2,rfl⟩)
   refine pcalls_of Tryz.func52 rfl (by simp [Tryz.ntmps52]) ?_
   rw [Tryz.ntmps52,Tryz.results52]
   push_cast [O,U]
   repeat' ((first|refine pG ?_|refine pQ ?_|refine pU ?_|refine pif ?_ ?_<;>intro h<;>try exact pN h)<;>push_cast [O,U])
   (refine retK_of [] ?_;push_cast [O,U])
  | some a =>
   refine PCalls.mono (R:=fun r os=>r = .c (.own 0 0)∧os=[.arr 97 2 []]) ?_ (fun r os h=>.inl h)
   refine pcalls_of Tryz.func52 rfl (by simp [Tryz.ntmps52]) ?_
   rw [Tryz.ntmps52,Tryz.results52]
   push_cast [O,U]
   repeat' ((first|refine pG ?_|refine pQ ?_|refine pU ?_|refine pif ?_ ?_<;>intro h<;>try exact pN h)<;>push_cast [O,U])
   (refine retK_of [0] ?_;push_cast [O,U])
 ·have h1:0 < l.length:=List.length_pos_iff.2 h0
  refine PCalls.mono (R:=fun r os=>r = .c (.own 0 l.length)∧os=[.arr 97 2 (l.map Atr.d)]) ?_ (fun r os h=>.inl h)
  refine pcalls_of Tryz.func52 rfl (by simp [Tryz.ntmps52]) ?_
  rw [Tryz.ntmps52,Tryz.results52]
  push_cast [O,U]
  repeat' ((first|refine pG ?_|refine pQ ?_|refine pU ?_|refine pif ?_ ?_<;>intro h<;>try exact pN h)<;>push_cast [O,U])
  (refine retK_of [0] ?_;push_cast [O,U])
set_option maxRecDepth 20000
def PredD (P:Program) (g:FuncId) (ks:List Nat) (os:List Ob) (l:List Dev) (q:Dev → Bool):Prop:=bodyOk P g=true∧∀ x ∈ l,PCalls P g (.agg x.e :: ks.map fun k=>.c (.ptr k 0)) os fun r os'=>r = .c (.v (.bool (q x)))∧os'=os
def idxD (q:Dev → Bool) (l:List Dev) (k:Int):Prop:=(k = -1∧∀ x ∈ l,q x=false)∨∃ i:Nat,k=i∧i < l.length∧q (l.getD i default)=true∧∀ x ∈ l.take i,q x=false
theorem allSomeD:∀ ks:List Nat,allSome (ks.map fun k=>some (PV.c (.ptr k 0))) (ks.map fun k=>PV.c (.ptr k 0))
 | []=>trivial
 | k :: ks=>⟨leP_refl _,allSomeD ks⟩
theorem indexFuncD_pure (l:List Dev) (hl:l.length≤1000000000) (g:FuncId) (ks:List Nat) (os:List Ob) (q:Dev → Bool) (hp:PredD Tryz.prog g ks os l q) :
  PCalls Tryz.prog 133 [.c (.sl 10 (l.map Dev.d)),.c (.fn (.func g) [] ks)] os fun r os'=>∃ k,idxD q l k∧r = .c (.v (.int .i64 k))∧os'=os:=by
 refine pcalls_of_all Tryz.func133 rfl (by simp [Tryz.ntmps133]) ?_
 rw [Tryz.ntmps133,Tryz.results133]
 push_cast [O,U]
 repeat' ((first|refine pG ?_|refine pQ ?_|refine pU ?_|refine pif ?_ ?_<;>intro h<;>try exact pN h)<;>push_cast [O,U])
 refine pwp_loop2 (α:=Nat) (fun k=>k≤l.length∧∀ x ∈ l.take k,q x=false) (fun k=>⟨[(8,.c (.v (.int .i64 k))),(7,.c (.v (.int .i64 l.length))),(6,.c (.sl 10 (l.map Dev.d))),(0,.c (.sl 10 (l.map Dev.d))),(1,.c (.fn (.func g) [] ks))],os⟩) (fun k=>l.length - k) 0 ⟨by omega,by simp⟩ (weak_slots (by push_cast [O,U]) rfl) ?_
 rintro k ⟨hk,hpre⟩
 by_cases hlt:k < l.length
 ·have hm:l.getD k default ∈ l:=by rw [getD_lt l hlt];exact List.getElem_mem _
  have hc:=hp.2 _ hm
  have hpre2:q (l.getD k default)=false → ∀ x ∈ l.take (k+1),q x=false:=fun h x hx=>by
   rw [List.take_succ_eq_append_getElem hlt] at hx
   rcases List.mem_append.1 hx with hx|hx
   ·exact hpre x hx
   ·simp at hx;subst hx;rw [← getD_lt l hlt];exact h
  cases hq:q (l.getD k default)
  all_goals rw [hq] at hc
  all_goals repeat' ((first|(refine pl_call_all rfl (by push_cast [O,U]) rfl hp.1 (by push_cast [O,U]) ?_ hc ?_;(focus (unfold callArgs;push_cast [O,U];exact allSomeD ks));rintro r os ⟨rfl,rfl⟩;refine pl_of_pops ?_)|refine pG ?_|refine pQ ?_|refine pU ?_|refine pif ?_ ?_<;>intro h<;>try exact pN h)<;>push_cast [O,U])
  ·exact ⟨k+1,⟨by omega,hpre2 hq⟩,weak_slots (by push_cast [O,U]) rfl,by omega⟩
  ·exact ⟨_,rfl,by push_cast [O,U],k,.inr ⟨k,rfl,hlt,hq,hpre⟩,rfl,rfl⟩
 ·rw [List.take_of_length_le (by omega)] at hpre
  repeat' ((first|refine pG ?_|refine pQ ?_|refine pU ?_|refine pif ?_ ?_<;>intro h<;>try exact pN h)<;>push_cast [O,U])
  exact ⟨_,rfl,by push_cast [O,U],-1,.inl ⟨rfl,hpre⟩,rfl,rfl⟩
set_option maxRecDepth 20000
theorem place_none {l:List Dev} {n:Int} (h:findD l n=none):placeM l n=⟨#[]⟩:=by unfold placeM;rw [orig_none h];rfl
theorem lk_full (l:List Dev) (n:Int):lkP false (.c (.v (.string ⟨#[]⟩))) true (mget (origE l l.length) (.i .i64 n))=some (.two (.c (.v (.string (placeM l n)))) (.c (.v (.bool (findD l n).isSome)))):=by
 rw [mget_origE,List.take_length]
 cases hf:findD l n with
 | none=>rw [place_none hf];rfl
 | some d=>rfl
theorem lk_full0 (l:List Dev) (n:Int):lkP false (.c (.v (.string ⟨#[]⟩))) false (mget (origE l l.length) (.i .i64 n))=some (.c (.v (.string (placeM l n)))):=by
 rw [mget_origE,List.take_length]
 cases hf:findD l n with
 | none=>rw [place_none hf];rfl
 | some d=>rfl
theorem copied_pure (d:Dev) (hl:d.attrs.length≤1000000000):PCalls Tryz.prog 64 [.agg d.e] [] fun r os=>r = .agg d.e∧os=[]:=by
 have hc:=cloneA_pure d.attrs hl
 refine pcalls_of Tryz.func64 rfl (by simp [Tryz.ntmps64]) ?_
 rw [Tryz.ntmps64,Tryz.results64]
 push_cast [O,U]
 repeat' ((first|refine plE [] hc ?_ ?_|refine pG ?_|refine pQ ?_|refine pU ?_|refine pif ?_ ?_<;>intro h<;>try exact pN h)<;>push_cast [O,U])
 (refine retK_of [] ?_;push_cast [O,U])
set_option maxRecDepth 20000
abbrev viewO (l:List Dev) (p:ByteArray):List Ob:=[.box 120 [.sl 10 (l.map Dev.d),.mp 2,.mp 3],.box 9 [.v (.string p)],.map (some .i64) false (placeE l l.length),.map (some .i64) false (origE l l.length)]
theorem at1_pure (l:List Dev) (p:ByteArray) (d:Dev):PCalls Tryz.prog 104 [.agg d.e,.c (.ptr 0 0),.c (.ptr 1 0)] (viewO l p) fun r os=>r = .c (.v (.bool (decide (placeM l d.index=p))))∧os=viewO l p:=by
 have hlk:=lk_full0 l d.index
 refine pcalls_of Tryz.func104 rfl (by simp [Tryz.ntmps104]) ?_
 rw [Tryz.ntmps104,Tryz.results104]
 push_cast [O,U]
 repeat' ((first|refine pG ?_|refine pQ ?_|refine pU ?_|refine pif ?_ ?_<;>intro h<;>try exact pN h)<;>push_cast [O,U,hlk])
 (refine retK_of [0,1,2,3] ?_;push_cast [O,U])
theorem firstAt_pure (l:List Dev) (p:ByteArray) (hl:l.length≤1000) (ha:∀ d ∈ l,d.attrs.length≤1000000000):PCalls Tryz.prog 103 [.agg (trE l),.c (.fn (.func 104) [] [0,1])] (viewO l p) fun r os=>r = .two (.agg ((atD l p).getD default).e) (.c (.v (.bool ((atD l p).isSome))))∧os=viewO l p:=by
 have hi:=indexFuncD_pure l (by omega) 104 [0,1] (viewO l p) (fun d=>decide (placeM l d.index=p)) ⟨by kernel_rfl,fun x _=>at1_pure l p x⟩
 refine pcalls_of Tryz.func103 rfl (by simp [Tryz.ntmps103]) ?_
 rw [Tryz.ntmps103,Tryz.results103]
 push_cast [O,U]
 repeat' ((first|refine pG ?_|refine pQ ?_|refine pU ?_|refine pif ?_ ?_<;>intro h<;>try exact pN h)<;>push_cast [O,U])
 (refine plc [0,1,2,3] (hi) ?_ ?_;push_cast [O,U];rintro r os ⟨k,hk,rfl,rfl⟩;push_cast [O,U])
 rcases hk with ⟨rfl,hn⟩|⟨i,rfl,hi2,hq,hpre⟩
 ·have hR:atD l p=none:=by
   unfold atD
   rw [List.find?_eq_none]
   intro x hx
   simpa using hn x hx
  repeat' ((first|refine pG ?_|refine pQ ?_|refine pU ?_|refine pif ?_ ?_<;>intro h<;>try exact pN h)<;>push_cast [O,U])
  (refine retK_of [0,1,2,3] ?_;push_cast [O,U,hR,Option.getD_none,Option.isSome_none])
  repeat' (first|exact rfl|exact leOs_refl _|exact trivial|refine ⟨?_,?_⟩)
 ·have hR:atD l p=some (l.getD i default):=by
   unfold atD
   rw [List.find?_eq_some_iff_append]
   refine ⟨hq,l.take i,l.drop (i+1),?_,fun a ha=>by simpa using hpre a ha⟩
   rw [getD_lt l hi2]
   conv=>lhs;rw [← List.take_append_drop i l,List.drop_eq_getElem_cons hi2]
  have hcp:=copied_pure (l.getD i default) (ha _ (by rw [getD_lt l hi2];exact List.getElem_mem _))
  repeat' ((first|refine plE [] hcp ?_ ?_|refine pG ?_|refine pQ ?_|refine pU ?_|refine pif ?_ ?_<;>intro h<;>try exact pN h)<;>push_cast [O,U])
  (refine retK_of [0,1,2,3] ?_;push_cast [O,U,hR,Option.getD_some,Option.isSome_some])
  all_goals exact ⟨_,_,leP_refl _,leOs_refl _,rfl,rfl⟩
set_option maxHeartbeats 1000000 in
theorem at_pure (l:List Dev) (p:ByteArray) (h:Okp l) (hl:l.length≤1000) (hz:∀ d ∈ l,d.original.size≤1000) (ha:∀ d ∈ l,d.attrs.length≤1000000000) :
  PCalls Tryz.prog 57 [.agg (trE l),.c (.v (.string p))] [] fun r os=>r = .two (.agg ((atD l p).getD default).e) (.c (.v (.bool ((atD l p).isSome))))∧os=[]:=by
 have hk:=look_pure l h hl hz
 have hf:=firstAt_pure l p hl ha
 refine pcalls_of Tryz.func57 rfl (by simp [Tryz.ntmps57]) ?_
 rw [Tryz.ntmps57,Tryz.results57]
 push_cast [O,U]
 repeat' ((first|refine plE [] hk ?_ ?_|refine plE [5,1,3,4] hf ?_ ?_|refine pG ?_|refine pQ ?_|refine pU ?_|refine pif ?_ ?_<;>intro h<;>try exact pN h)<;>push_cast [O,U])
 (refine retK_of [] ?_;push_cast [O,U])
end Go.Proofs.YtmbbkfffcflfcaaGreatDoor
namespace Go.Proofs.YtmbbkfffcflfcaaGreatDoor
open Go.RowKit
open IntWalk renaming iteOmega → O, toNatUp → U
set_option linter.unusedVariables false
set_option linter.unusedSimpArgs false
section
variable {P:Program} {N p:Nat} {ops:Array Oper} {rest:List Oper} {o:Oper} {s:S} {K:S → Prop}
theorem pl_same {q:PV} (hg:gd ops s o.guard=some true) (h:∀ Γ a w,Inv N Γ s a w → ∃ y,RP w Γ q y∧∀ w',Same w w' → (execOp a.eval o).run P w' = .ok (.value y) w') (hd:dstOk N o.dst) (hr:PL P N p ops rest (s.put o.dst q) K):PL P N p ops (o :: rest) s K:=by
 intro Γ a w Q hA hK
 obtain ⟨y,h1,h2⟩:=h Γ a w hA.inv
 unfold wpListIn
 rw [if_pos (gd_ok hg hA.inv)]
 exact wpIn_run (h2 w (Same.refl w)) (hr Γ _ w Q ⟨hA.inv.put (dst_lt hd) h1,hA.le⟩ fun s' Γ'' a' w'' hk ha hg' hd'=>hK s' Γ'' a' w'' hk ha hg' (hd'.trans (put_defers _ _ _)))
theorem pl_lenmap {x:Operand} {t:TypeId} {k:Nat} {kk:Option IntKind} {e:TypeId} {ag:Bool} {es:List (MK × List D)} (ho:o.op = .call ⟨.builtin .len,#[x],#[t]⟩) (hg:gd ops s o.guard=some true) (hx:s.ev x=some (.c (.mp k))) (hm:mpOf P t=some (kk,e)) (hk:s.o[k]? = some (.map kk ag es)) (hd:dstOk N o.dst)
  (hK:PL P N p ops rest (s.put o.dst (.c (.v (.int .i64 (es.length:Int))))) K):PL P N p ops (o :: rest) s K:=by
 refine pl_same (q:=.c (.v (.int .i64 (es.length:Int)))) hg (fun Γ a' w hI=>?_) hd hK
 have h1:=S.ev_ok hx hI
 obtain ⟨kt,hu,hku⟩:=mp_run hm
 obtain ⟨h0,ms,ck,hb,hM⟩:=hI.m.ob k _ hk
 have hlt:Γ.β k < w.heap.size:=(Array.getElem?_eq_some_iff.1 hb).1
 have hl:es.length=ms.size:=by rw [hM.rows.length];exact Array.length_toList
 refine ⟨_,⟨rfl,rfl⟩,fun w' hS=>?_⟩
 simp [execOp,ho,resolve,invoke,builtin,Builtin.len_,run_underlying hu,h1.2,MapKept.run_getObj_map ((hS.block _ hlt).trans hb),goInt,hl]
end
end Go.Proofs.YtmbbkfffcflfcaaGreatDoor
