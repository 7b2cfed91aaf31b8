/- What the program computes, and the plain laws of it, part 28. -/
import Derived.Test.YtgijigkfmbiifaaGreatDoorR18
namespace Go.Proofs.YtgijigkfmbiifaaGreatDoor
attribute [local irreducible] PL QL PWPr PCalls Weak RetK Kontr PA
open Go.RowKit
open IntWalk renaming iteOmega → iO, toNatUp → tN
set_option linter.unusedVariables false
set_option linter.unusedSimpArgs false
set_option maxRecDepth 20000
theorem sort2_pure (l:List ByteArray) (hl:l.length≤1000000) :
  PCalls Tryz.prog 25 [.c (.own 0 l.length)] [.arr 9 1 (l.map strD)] fun r os=>∃ m:List ByteArray,(m.length=l.length∧cmpB m=ascOf l)∧r = .undef∧os=[.arr 9 1 (m.map strD)] :=
 (sort_pure l [] hl).mono (by
  rintro r os ⟨rfl,rfl⟩
  refine ⟨_,⟨?_,?_⟩,rfl,rfl⟩
  ·rw [List.length_map,(List.mergeSort_perm _ _).length_eq,List.length_map]
  ·unfold cmpB ascOf
   rw [List.map_map]
   have:((fun x:ByteArray=>x.data.toList) ∘ unB)=id:=funext fun x=>list_unB x
   rw [this,List.map_id])
theorem compact2_pure (l:List ByteArray) (hl:l.length≤1000000) :
  PCalls Tryz.prog 26 [.c (.own 0 l.length)] [.arr 9 1 (l.map strD)] fun r os=>∃ m:List ByteArray,r = .c (.own 0 (cmpB l).length)∧os=[.arr 9 1 ((cmpB l++m).map strD)] :=
 (compact_pure l [] hl).mono (by
  rintro r os ⟨m,rfl,rfl⟩
  exact ⟨m,by rw [cmpB_len],rfl⟩)
theorem idxShould_pure (M:List Mod) (T R:List ByteArray) (hl:∀ n,(needsOf M n).length≤1000000000) (hl2:∀ n,((modOf M n).getD noMod).pre.length≤1000000000) (hR:R.length≤1000000000) :
  PCalls Tryz.prog 33 [.c (.own 0 R.length),.c (.fn (.func 30) [] [6,2,5])] (orderOs M T R) fun r os=>∃ k,idxQ (shouldV M T R) R k∧r = .c (.v (.int .i64 k))∧os=orderOs M T R :=
 indexFunc_pure R hR _ _ (orderOs M T R).tail _ ⟨by kernel_rfl,fun x _=>order3_pure M T R x hl (hl2 x) hR⟩
theorem idxMay_pure (M:List Mod) (T R:List ByteArray) (hl:∀ n,(needsOf M n).length≤1000000000) (hR:R.length≤1000000000) :
  PCalls Tryz.prog 33 [.c (.own 0 R.length),.c (.fn (.func 27) [] [2,4])] (orderOs M T R) fun r os=>∃ k,idxQ (mayV M T) R k∧r = .c (.v (.int .i64 k))∧os=orderOs M T R :=
 indexFunc_pure R hR _ _ (orderOs M T R).tail _ ⟨by kernel_rfl,fun x _=>order2_pure M T R x hl⟩
theorem idxQ_cases {q:ByteArray → Bool} {l:List ByteArray} {k:Int} (h:idxQ q l k):(k = -1∧l.find? q=none)∨∃ i:Nat,k=i∧i < l.length∧l.find? q=some (l.getD i default):=by
 rcases h with ⟨rfl,h⟩|⟨i,rfl,h1,h2,h3⟩
 ·exact .inl ⟨rfl,idx_none h⟩
 ·exact .inr ⟨i,rfl,h1,idx_some h1 h2 h3⟩
theorem opt_cases {α:Type} (x:Option α):x=none∨∃ b,x=some b:=by cases x with
 | none=>exact .inl rfl
 | some b=>exact .inr ⟨b,rfl⟩
theorem idxQ_none {q:ByteArray → Bool} {l:List ByteArray} {k:Int} (h:idxQ q l k) (h':l.find? q=none):k = -1:=by
 rcases idxQ_cases h with ⟨h,_⟩|⟨i,_,_,h⟩
 ·exact h
 ·rw [h'] at h;cases h
theorem idxQ_some {q:ByteArray → Bool} {l:List ByteArray} {k:Int} {b:ByteArray} (h:idxQ q l k) (h':l.find? q=some b):∃ i:Nat,(i < l.length∧l.getD i default=b)∧k=i:=by
 rcases idxQ_cases h with ⟨_,h⟩|⟨i,h1,h2,h⟩
 ·rw [h'] at h;cases h
 ·rw [h'] at h;cases h;exact ⟨i,⟨h2,rfl⟩,h1⟩
def orderSt (c:Cfg) (x:List ByteArray × List ByteArray × List ByteArray):S:=⟨[(14,.c (.fn (.func 30) [] [7,2,6])),(13,.c (.ptr 7 0)),(12,.c (.own 8 x.1.length)),(11,.c (.ptr 6 0)),(8,.c (.ptr 4 0)),(7,.c (.ptr 2 0)),(6,.c (.v (.slice none 0 0))),(3,.c (.ptr 0 0))],
 [.box 30 c.e,.map none true (modsE c.modules),.box 54 [.mp 1],.map none false (setE x.2.1),.box 56 [.mp 3],.arr 9 1 (x.2.2.map strD),.box 27 [.own 5 x.2.2.length],.box 65 [mayF],.arr 9 1 (x.1.map strD)]⟩
attribute [push_cast] orderSt
def oT (j:Nat):List (Nat × PV):=[(17,.c (.v (.int .i64 j))),(14,.c (.fn (.func 30) [] [7,2,6])),(13,.c (.ptr 7 0)),(11,.c (.ptr 6 0)),(8,.c (.ptr 4 0)),(7,.c (.ptr 2 0)),(6,.c (.v (.slice none 0 0))),(3,.c (.ptr 0 0))]
def oO (c:Cfg) (T out R:List ByteArray):List Ob:=[.box 30 c.e,.map none true (modsE c.modules),.box 54 [.mp 1],.map none false (setE T),.box 56 [.mp 3],.arr 9 1 (R.map strD),.box 27 [.own 5 R.length],.box 65 [mayF],.arr 9 1 (out.map strD)]
attribute [push_cast] oT oO
set_option maxHeartbeats 4000000 in
theorem dorder_pure (c:Cfg) (names loaded:List ByteArray) (hc:CfgOk2 c) (hn:names.length≤1000) (hn2:loaded.length≤1000) :
  PCalls Tryz.prog 7 [.agg c.e,.c (.sl 1 (names.map strD)),.c (.sl 1 (loaded.map strD))] [] fun r os=>r = .c (.own 0 (ordM c.modules loaded (restM loaded names)).length)∧os=[.arr 9 1 ((ordM c.modules loaded (restM loaded names)).map strD)]:=by
 have hS:=hc.small
 have hML:=hS.len
 refine pcalls_of Tryz.func7 rfl (by simp [Tryz.ntmps7]) ?_
 rw [Tryz.ntmps7,Tryz.results7]
 push_cast [iO,tN]
 repeat' (first |  (refine plc [] (modules_pure c hS.nodup (by omega)) ?_ ?_;push_cast [iO,tN];rintro r os ⟨rfl,rfl⟩;push_cast [iO,tN])  | ((first|refine pG ?_|refine pQ ?_|refine pU ?_);push_cast [iO,tN])|(refine pif (fun h=>?_) (fun h=>?_)<;>first|exact pN h|push_cast [iO,tN]))
 refine pwp_loop2 (α:=Nat × List ByteArray) (fun x=>x.1≤loaded.length∧∀ y,y ∈ x.2 ↔ y ∈ loaded.take x.1) (fun x=>⟨[(23,.c (.v (.int .i64 x.1))),(22,.c (.v (.int .i64 loaded.length))),(21,.c (.sl 1 (loaded.map strD))),(8,.c (.ptr 4 0)),(7,.c (.ptr 2 0)),(6,.c (.v (.slice none 0 0))),(3,.c (.ptr 0 0)),(1,.c (.sl 1 (names.map strD)))],[.box 30 c.e,.map none true (modsE c.modules),.box 54 [.mp 1],.map none false (setE x.2),.box 56 [.mp 3]]⟩) (fun x=>loaded.length - x.1) (0,[]) ⟨by simp,by simp⟩ (by (refine weak_fg ?_;push_cast [iO,tN])) ?_
 rintro ⟨k,T⟩ ⟨hk,hT⟩
 simp only at hk hT
 by_cases hlt:k < loaded.length
 ·repeat' (first|((first|refine pG ?_|refine pQ ?_|refine pU ?_);push_cast [iO,tN])|(refine pif (fun h=>?_) (fun h=>?_)<;>first|exact pN h|push_cast [iO,tN]))
  exact ⟨(k+1,addS T (loaded.getD k default)),⟨by simp only;omega,fun y=>by rw [mem_addS,hT,take_mem_succ hlt]⟩,by (refine weak_fg ?_;push_cast [iO,tN]),by simp only;omega⟩
 ·rw [List.take_of_length_le (by omega)] at hT
  have hd:=deleteFunc_pure names (by omega) 24 [2] [.map none false (setE T),.box 56 [.mp 1]] (fun x=>inM x T) fun m _=>⟨by kernel_rfl,fun x _=>order1_pure _ T x⟩
  simp only [filter_congr_in hT] at hd
  obtain ⟨R0,hR0⟩:∃ R0,(names.filter fun x=>!inM x loaded)=R0:=⟨_,rfl⟩
  have hR0l:R0.length≤1000:=by rw [← hR0];exact Nat.le_trans (List.length_filter_le _ _) hn
  rw [hR0] at hd
  have hrest:restM loaded names=ascOf R0:=by rw [restM,hR0]
  repeat' (first |  (refine plc [] (clone_pure names (by omega)) ?_ ?_;push_cast [iO,tN];rintro r os ⟨rfl,rfl⟩;push_cast [iO,tN])|(refine plc [5,3,4] (hd) ?_ ?_;push_cast [iO,tN];rintro r os ⟨rfl,m,rfl⟩;push_cast [iO,tN])  | ((first|refine pG ?_|refine pQ ?_|refine pU ?_);push_cast [iO,tN])|(refine pif (fun h=>?_) (fun h=>?_)<;>first|exact pN h|push_cast [iO,tN]))
  have e2:(R0.map strD++m.map strD).take R0.length=R0.map strD:=List.take_left' (by simp)
  have e2':((R0++m).map strD).take R0.length=R0.map strD:=by rw [List.map_append];exact e2
  refine pl_weak (weak_trim 5 R0.length rfl) ?_
  refine pl_of_pops ?_
  push_cast [iO,tN,e2,e2']
  repeat' (first |  (refine plc [5] (sort2_pure R0 (by omega)) ?_ ?_;push_cast [iO,tN];rintro r os ⟨S0,⟨hS1,hS2⟩,rfl,rfl⟩;push_cast [iO,tN])  | ((first|refine pG ?_|refine pQ ?_|refine pU ?_);push_cast [iO,tN])|(refine pif (fun h=>?_) (fun h=>?_)<;>first|exact pN h|push_cast [iO,tN]))
  have hcp:=compact2_pure S0 (by omega)
  rw [hS1,hS2] at hcp
  repeat' (first |  (refine plc [5] (hcp) ?_ ?_;push_cast [iO,tN];rintro r os ⟨m2,rfl,rfl⟩;push_cast [iO,tN])  | ((first|refine pG ?_|refine pQ ?_|refine pU ?_);push_cast [iO,tN])|(refine pif (fun h=>?_) (fun h=>?_)<;>first|exact pN h|push_cast [iO,tN]))
  refine pwp_label ?_
  push_cast [iO,tN]
  repeat' (first|((first|refine pG ?_|refine pQ ?_|refine pU ?_);push_cast [iO,tN])|(refine pif (fun h=>?_) (fun h=>?_)<;>first|exact pN h|push_cast [iO,tN]))
  obtain ⟨R1,hR1⟩:∃ R1,ascOf R0=R1:=⟨_,rfl⟩
  have hspec:=ascOf_spec R0
  rw [hR1] at hspec hrest
  have e3:(R1.map strD++m2.map strD).take R1.length=R1.map strD:=List.take_left' (by simp)
  rw [hrest]
  simp only [hR1]
  refine pwp_weak (weak_trim 5 R1.length rfl) ?_
  push_cast [iO,tN,e3]
  refine pwp_weak (weak_adopt 12 9 1 (by omega) (by push_cast [iO,tN])) ?_
  push_cast [iO,tN]
  refine pwp_loop2 (α:=List ByteArray × List ByteArray × List ByteArray) (fun x=>OInv c.modules loaded R1 x.1 x.2.1 x.2.2) (fun x=>orderSt c x) (fun x=>x.2.2.length) ([],T,R1) (OInv.start hspec.1 hT) (by (refine weak_fg ?_;push_cast [iO,tN])) ?_
  rintro ⟨out,T1,R⟩ hI
  simp only at hI
  have hRl:=hI.len
  have hR1l:=hspec.2.2
  have hx1:=idxShould_pure c.modules T1 R (fun n=>by have:=hS.needsOf n;omega) (fun n=>by have:=hc.softl n;unfold softOf at this;simp only [List.length_append] at this;omega) (by omega)
  have hx2:=idxMay_pure c.modules T1 R (fun n=>by have:=hS.needsOf n;omega) (by omega)
  unfold orderOs at hx1 hx2
  repeat' (first |  (refine pl_fns (e:=65) (z:=.v .nilFunc) rfl (by push_cast [iO,tN]) (by push_cast [iO,tN]) (by push_cast [iO,tN]) rfl rfl (by push_cast [iO,tN]) ?_;refine pl_of_pops ?_;push_cast [iO,tN])  | ((first|refine pG ?_|refine pQ ?_|refine pU ?_);push_cast [iO,tN])|(refine pif (fun h=>?_) (fun h=>?_)<;>first|exact pN h|push_cast [iO,tN]))
  refine pwp_loop2 (α:=Nat) (fun i=>i≤2∧(1≤i → R.find? (shouldV c.modules T1 R)=none)∧(2≤i → R.find? (mayV c.modules T1)=none)) (fun i=>⟨(44,.c (.v (.int .i64 i))) :: (43,.c (.v (.int .i64 2))) :: (42,.c (.seg 9 1 0 2)) :: (orderSt c (out,T1,R)).t,(orderSt c (out,T1,R)).o++[.box 65 [.fn (.func 30) [] [7,2,6],mayF]]⟩) (fun i=>2 - i) 0 ⟨by omega,by omega,by omega⟩ (by (refine weak_fg ?_;push_cast [iO,tN])) ?_
  rintro i ⟨hi,hi1,hi2⟩
  have h8:¬ (8 ∈ ([7,2,6]:List Nat)):=by decide
  have h9:¬ (8 ∈ ([2,4]:List Nat)):=by decide
  have hi3:i=0∨i=1∨i=2:=by omega
  rcases hi3 with rfl|rfl|rfl
  ·rcases opt_cases (R.find? (shouldV c.modules T1 R)) with hf|⟨b,hf⟩
   ·have hx:=hx1.mono (R':=fun r os=>r = .c (.v (.int .i64 (-1)))∧os=orderOs c.modules T1 R) (by rintro r os ⟨k,hk,rfl,rfl⟩;rw [idxQ_none hk hf];exact ⟨rfl,rfl⟩)
    unfold orderOs at hx
    push_cast [iO,tN]
    repeat' (first |  (refine pl_weak (weak_optr 46 (k:=9) (r:=0) rfl) ?_;refine pl_of_pops ?_;push_cast [iO,tN])|(refine plc [5,1,2,3,4,6,7] (hx) ?_ ?_;push_cast [iO,tN];rintro r os ⟨rfl,rfl⟩;push_cast [iO,tN])  | ((first|refine pG ?_|refine pQ ?_|refine pU ?_);push_cast [iO,tN])|(refine pif (fun h=>?_) (fun h=>?_)<;>first|exact pN h|push_cast [iO,tN]))
    exact ⟨1,⟨by omega,fun _=>hf,fun h=>absurd h (by omega)⟩,by (refine weak_fg ?_;push_cast [iO,tN]),by omega⟩
   ·have hx:=hx1.mono (R':=fun r os=>∃ i:Nat,(i < R.length∧R.getD i default=b)∧r = .c (.v (.int .i64 i))∧os=orderOs c.modules T1 R) (by rintro r os ⟨k,hk,rfl,rfl⟩;obtain ⟨i,h1,rfl⟩:=idxQ_some hk hf;exact ⟨i,h1,rfl,rfl⟩)
    unfold orderOs at hx
    have hcb:chooseM c.modules (loaded++out) R=some b:=by rw [hI.choose];unfold chooseM;rw [hf]
    push_cast [iO,tN]
    repeat' (first |  (refine pl_weak (weak_optr 46 (k:=9) (r:=0) rfl) ?_;refine pl_of_pops ?_;push_cast [iO,tN])|(refine plc [5,1,2,3,4,6,7] (hx) ?_ ?_;push_cast [iO,tN];rintro r os ⟨j,⟨hj,hjb⟩,rfl,rfl⟩;push_cast [iO,tN])|(refine pwp_drawn (by kernel_rfl) ?_;simp only [List.length_cons,List.length_nil,Nat.reduceAdd])  | ((first|refine pG ?_|refine pQ ?_|refine pU ?_);push_cast [iO,tN])|(refine pif (fun h=>?_) (fun h=>?_)<;>first|exact pN h|push_cast [iO,tN]))
    refine pa_hoist 2 (by kernel_rfl) ?_
    push_cast [iO,tN]
    refine pa_hoist 5 (by kernel_rfl) ?_
    push_cast [iO,tN]
    refine pa_hoist 7 (by kernel_rfl) ?_
    push_cast [iO,tN]
    refine pa_weak (s':=⟨[(55,.c (.v (.int .i64 j))),(60,.c (.v (.int .i64 j))),(58,.c (.own 8 out.length))]++oT j,oO c T1 (out) R⟩) (by (refine weak_fg ?_;push_cast [iO,tN])) ?_
    refine pa_have 3 #[true,true,true,true,true,true,true,true,true,true,true,true,true,false,false,false] (⟨[(53,.c (.mp 3)),(57,.c (.v (.string (R.getD j default)))),(12,.c (.own 8 (out.length+1)))]++oT j,oO c T1 (out++[R.getD j default]) R⟩:S) (fun hd0_1_4_6_9_10_11_=>?_) ?_
    rotate_left
    ·refine pa_entry 13 14 15 (t:=56) (mi:=53) (d1:=65) (d2:=66) (k:=3) (key:=.s (R.getD j default)) (kk0:=none) (e0:=4) (cs0:=[.v (.bool false)]) rfl rfl rfl (by kernel_rfl) (by kernel_rfl) (by kernel_rfl) ⟨rfl,rfl,rfl⟩ ⟨rfl,rfl,rfl⟩ ⟨rfl,rfl,rfl⟩ (by decide) (by decide) rfl rfl rfl rfl (by push_cast [iO,tN]) (by push_cast [iO,tN]) (fun _ _=>rfl) ?_
     push_cast [iO,tN]
     refine pa_weak (s':=⟨[(12,.c (.own 8 (out.length+1)))]++oT j,oO c (addS T1 (R.getD j default)) (out++[R.getD j default]) R⟩) (by (refine weak_fg ?_;push_cast [iO,tN])) ?_
     refine pa_done (by kernel_rfl) ?_
     push_cast [iO,tN]
     repeat' (first |  (refine plc [5] (delete_pure R j hj (by omega)) ?_ ?_;push_cast [iO,tN];rintro r os ⟨rfl,rfl⟩;push_cast [iO,tN])  | ((first|refine pG ?_|refine pQ ?_|refine pU ?_);push_cast [iO,tN])|(refine pif (fun h=>?_) (fun h=>?_)<;>first|exact pN h|push_cast [iO,tN]))
     have hst:=hI.step (b:=R.getD j default) (by rw [hjb];exact hcb)
     have hfl:=filter_len (b:=R.getD j default) (asc_nodup hI.asc) (by rw [getD_lt R hj];exact List.getElem_mem _)
     have hfr:(R.take j).map strD++(R.drop (j+1)).map strD=(R.filter fun x=>decide (x≠R.getD j default)).map strD:=by rw [← List.map_append,del_eq (asc_nodup hI.asc) hj]
     obtain ⟨R',hR'⟩:∃ R',(R.filter fun x=>decide (x≠R.getD j default))=R':=⟨_,rfl⟩
     rw [hR'] at hst hfl hfr
     have e6:R.length - 1=R'.length:=by omega
     have e5:((R.take j).map strD++((R.drop (j+1)).map strD++[[D.v (.string ⟨#[]⟩)]])).take (R.length - 1)=R'.map strD:=by rw [← List.append_assoc,hfr];exact List.take_left' (by rw [List.length_map];omega)
     rw [e6] at e5
     exact ⟨(out++[R.getD j default],addS T1 (R.getD j default),R'),hst,Weak.trans (weak_trim 5 (R.length - 1) rfl) (by (refine weak_fg ?_;push_cast [iO,tN,e5,e6])),by simp only;omega⟩
    refine pa_have 5 #[true,true,true,true,true,true,true,true,true,true,true,false,false,false,false,false] (⟨[(53,.c (.mp 3)),(57,.c (.v (.string (R.getD j default)))),(63,.c (.full 1 [[.v (.string (R.getD j default))]])),(58,.c (.own 8 out.length))]++oT j,oO c T1 (out) R⟩:S) (fun hd0_1_4_6_9_10_=>?_) (by
     refine pa_step [11] (by kernel_rfl) rfl ?_
     push_cast [iO,tN]
     ·refine pa_hoist 12 (by kernel_rfl) ?_
      push_cast [iO,tN]
      exact pa_weak (by (refine weak_fg ?_;push_cast [iO,tN,h8,h9,mayF])) hd0_1_4_6_9_10_11_)
    refine pa_have 4 #[true,true,true,true,false,true,true,true,true,true,true,true,true,false,false,false] (⟨[(53,.c (.mp 3)),(56,.c (.orow 5 1 j 0)),(12,.c (.own 8 (out.length+1)))]++oT j,oO c T1 (out++[R.getD j default]) R⟩:S) (fun hd0_1_6_9_10_11_=>?_) (by
     refine pa_step [4] (by kernel_rfl) rfl ?_
     push_cast [iO,tN]
     ·exact pa_weak (by (refine weak_fg ?_;push_cast [iO,tN,h8,h9,mayF])) hd0_1_4_6_9_10_11_)
    refine pa_have 4 #[false,true,true,true,true,true,true,true,true,true,true,true,true,false,false,false] (⟨[(57,.c (.v (.string (R.getD j default)))),(12,.c (.own 8 (out.length+1)))]++oT j,oO c T1 (out++[R.getD j default]) R⟩:S) (fun hd1_4_6_9_10_11_=>?_) (by
     refine pa_step [0] (by kernel_rfl) rfl ?_
     push_cast [iO,tN]
     ·exact pa_weak (by (refine weak_fg ?_;push_cast [iO,tN,h8,h9,mayF])) hd0_1_4_6_9_10_11_)
    refine pa_have 6 #[true,true,true,true,true,true,true,true,true,true,false,false,false,false,false,false] (⟨[(53,.c (.mp 3)),(57,.c (.v (.string (R.getD j default)))),(62,.c (.v (.string (R.getD j default)))),(58,.c (.own 8 out.length))]++oT j,oO c T1 (out) R⟩:S) (fun hd0_1_4_6_9_=>?_) (by
     refine pa_step [10] (by kernel_rfl) rfl ?_
     push_cast [iO,tN]
     ·exact pa_weak (by (refine weak_fg ?_;push_cast [iO,tN,h8,h9,mayF])) hd0_1_4_6_9_10_)
    refine pa_have 6 #[true,true,true,true,false,true,true,true,true,true,true,false,false,false,false,false] (⟨[(53,.c (.mp 3)),(56,.c (.orow 5 1 j 0)),(63,.c (.full 1 [[.v (.string (R.getD j default))]])),(58,.c (.own 8 out.length))]++oT j,oO c T1 (out) R⟩:S) (fun hd0_1_6_9_10_=>?_) (by
     refine pa_step [4,11] (by kernel_rfl) rfl ?_
     push_cast [iO,tN]
     refine ⟨?_,?_⟩
     ·exact pa_weak (by (refine weak_fg ?_;push_cast [iO,tN,h8,h9,mayF])) hd0_1_4_6_9_10_
     ·refine pa_hoist 12 (by kernel_rfl) ?_
      push_cast [iO,tN]
      exact pa_weak (by (refine weak_fg ?_;push_cast [iO,tN,h8,h9,mayF])) hd0_1_6_9_10_11_)
    refine pa_have 6 #[true,false,true,false,false,true,true,true,true,true,true,true,true,false,false,false] (⟨[(53,.c (.mp 3)),(55,.c (.v (.int .i64 j))),(12,.c (.own 8 (out.length+1)))]++oT j,oO c T1 (out++[R.getD j default]) R⟩:S) (fun hd0_6_9_10_11_=>?_) (by
     refine pa_step [1] (by kernel_rfl) rfl ?_
     push_cast [iO,tN]
     ·refine pa_hoist 3 (by kernel_rfl) ?_
      push_cast [iO,tN]
      exact pa_weak (by (refine weak_fg ?_;push_cast [iO,tN,h8,h9,mayF])) hd0_1_6_9_10_11_)
    refine pa_have 6 #[false,true,true,true,true,true,true,true,true,true,true,false,false,false,false,false] (⟨[(57,.c (.v (.string (R.getD j default)))),(63,.c (.full 1 [[.v (.string (R.getD j default))]])),(58,.c (.own 8 out.length))]++oT j,oO c T1 (out) R⟩:S) (fun hd1_4_6_9_10_=>?_) (by
     refine pa_step [0,11] (by kernel_rfl) rfl ?_
     push_cast [iO,tN]
     refine ⟨?_,?_⟩
     ·exact pa_weak (by (refine weak_fg ?_;push_cast [iO,tN,h8,h9,mayF])) hd0_1_4_6_9_10_
     ·refine pa_hoist 12 (by kernel_rfl) ?_
      push_cast [iO,tN]
      exact pa_weak (by (refine weak_fg ?_;push_cast [iO,tN,h8,h9,mayF])) hd1_4_6_9_10_11_)
    refine pa_have 5 #[false,true,true,true,false,true,true,true,true,true,true,true,true,false,false,false] (⟨[(56,.c (.orow 5 1 j 0)),(12,.c (.own 8 (out.length+1)))]++oT j,oO c T1 (out++[R.getD j default]) R⟩:S) (fun hd1_6_9_10_11_=>?_) (by
     refine pa_step [0,4] (by kernel_rfl) rfl ?_
     push_cast [iO,tN]
     refine ⟨?_,?_⟩
     ·exact pa_weak (by (refine weak_fg ?_;push_cast [iO,tN,h8,h9,mayF])) hd0_1_6_9_10_11_
     ·exact pa_weak (by (refine weak_fg ?_;push_cast [iO,tN,h8,h9,mayF])) hd1_4_6_9_10_11_)
    refine pa_have 7 #[true,true,true,true,true,true,true,true,true,false,false,false,false,false,false,false] (⟨[(53,.c (.mp 3)),(57,.c (.v (.string (R.getD j default)))),(61,.c (.orow 5 1 j 0)),(58,.c (.own 8 out.length))]++oT j,oO c T1 (out) R⟩:S) (fun hd0_1_4_6_=>?_) (by
     refine pa_step [9] (by kernel_rfl) rfl ?_
     push_cast [iO,tN]
     ·exact pa_weak (by (refine weak_fg ?_;push_cast [iO,tN,h8,h9,mayF])) hd0_1_4_6_9_)
    refine pa_have 7 #[true,true,true,true,false,true,true,true,true,true,false,false,false,false,false,false] (⟨[(53,.c (.mp 3)),(56,.c (.orow 5 1 j 0)),(62,.c (.v (.string (R.getD j default)))),(58,.c (.own 8 out.length))]++oT j,oO c T1 (out) R⟩:S) (fun hd0_1_6_9_=>?_) (by
     refine pa_step [4,10] (by kernel_rfl) rfl ?_
     push_cast [iO,tN]
     refine ⟨?_,?_⟩
     ·exact pa_weak (by (refine weak_fg ?_;push_cast [iO,tN,h8,h9,mayF])) hd0_1_4_6_9_
     ·exact pa_weak (by (refine weak_fg ?_;push_cast [iO,tN,h8,h9,mayF])) hd0_1_6_9_10_)
    refine pa_have 8 #[true,false,true,false,false,true,true,true,true,true,true,false,false,false,false,false] (⟨[(53,.c (.mp 3)),(55,.c (.v (.int .i64 j))),(63,.c (.full 1 [[.v (.string (R.getD j default))]])),(58,.c (.own 8 out.length))]++oT j,oO c T1 (out) R⟩:S) (fun hd0_6_9_10_=>?_) (by
     refine pa_step [1,11] (by kernel_rfl) rfl ?_
     push_cast [iO,tN]
     refine ⟨?_,?_⟩
     ·refine pa_hoist 3 (by kernel_rfl) ?_
      push_cast [iO,tN]
      exact pa_weak (by (refine weak_fg ?_;push_cast [iO,tN,h8,h9,mayF])) hd0_1_6_9_10_
     ·refine pa_hoist 12 (by kernel_rfl) ?_
      push_cast [iO,tN]
      exact pa_weak (by (refine weak_fg ?_;push_cast [iO,tN,h8,h9,mayF])) hd0_6_9_10_11_)
    refine pa_have 7 #[false,true,true,true,true,true,true,true,true,true,false,false,false,false,false,false] (⟨[(57,.c (.v (.string (R.getD j default)))),(62,.c (.v (.string (R.getD j default)))),(58,.c (.own 8 out.length))]++oT j,oO c T1 (out) R⟩:S) (fun hd1_4_6_9_=>?_) (by
     refine pa_step [0,10] (by kernel_rfl) rfl ?_
     push_cast [iO,tN]
     refine ⟨?_,?_⟩
     ·exact pa_weak (by (refine weak_fg ?_;push_cast [iO,tN,h8,h9,mayF])) hd0_1_4_6_9_
     ·exact pa_weak (by (refine weak_fg ?_;push_cast [iO,tN,h8,h9,mayF])) hd1_4_6_9_10_)
    refine pa_have 7 #[false,true,true,true,false,true,true,true,true,true,true,false,false,false,false,false] (⟨[(56,.c (.orow 5 1 j 0)),(63,.c (.full 1 [[.v (.string (R.getD j default))]])),(58,.c (.own 8 out.length))]++oT j,oO c T1 (out) R⟩:S) (fun hd1_6_9_10_=>?_) (by
     refine pa_step [0,4,11] (by kernel_rfl) rfl ?_
     push_cast [iO,tN]
     refine ⟨?_,?_,?_⟩
     ·exact pa_weak (by (refine weak_fg ?_;push_cast [iO,tN,h8,h9,mayF])) hd0_1_6_9_10_
     ·exact pa_weak (by (refine weak_fg ?_;push_cast [iO,tN,h8,h9,mayF])) hd1_4_6_9_10_
     ·refine pa_hoist 12 (by kernel_rfl) ?_
      push_cast [iO,tN]
      exact pa_weak (by (refine weak_fg ?_;push_cast [iO,tN,h8,h9,mayF])) hd1_6_9_10_11_)
    refine pa_have 7 #[false,false,true,false,false,true,true,true,true,true,true,true,true,false,false,false] (⟨[(55,.c (.v (.int .i64 j))),(12,.c (.own 8 (out.length+1)))]++oT j,oO c T1 (out++[R.getD j default]) R⟩:S) (fun hd6_9_10_11_=>?_) (by
     refine pa_step [0,1] (by kernel_rfl) rfl ?_
     push_cast [iO,tN]
     refine ⟨?_,?_⟩
     ·exact pa_weak (by (refine weak_fg ?_;push_cast [iO,tN,h8,h9,mayF])) hd0_6_9_10_11_
     ·refine pa_hoist 3 (by kernel_rfl) ?_
      push_cast [iO,tN]
      exact pa_weak (by (refine weak_fg ?_;push_cast [iO,tN,h8,h9,mayF])) hd1_6_9_10_11_)
    refine pa_have 9 #[true,true,true,true,true,true,false,true,false,false,false,false,false,false,false,false] (⟨[(53,.c (.mp 3)),(57,.c (.v (.string (R.getD j default)))),(60,.c (.v (.int .i64 j))),(58,.c (.own 8 out.length))]++oT j,oO c T1 (out) R⟩:S) (fun hd0_1_4_=>?_) (by
     refine pa_step [6] (by kernel_rfl) rfl ?_
     push_cast [iO,tN]
     ·refine pa_hoist 8 (by kernel_rfl) ?_
      push_cast [iO,tN]
      exact pa_weak (by (refine weak_fg ?_;push_cast [iO,tN,h8,h9,mayF])) hd0_1_4_6_)
    refine pa_have 8 #[true,true,true,true,false,true,true,true,true,false,false,false,false,false,false,false] (⟨[(53,.c (.mp 3)),(56,.c (.orow 5 1 j 0)),(61,.c (.orow 5 1 j 0)),(58,.c (.own 8 out.length))]++oT j,oO c T1 (out) R⟩:S) (fun hd0_1_6_=>?_) (by
     refine pa_step [4,9] (by kernel_rfl) rfl ?_
     push_cast [iO,tN]
     refine ⟨?_,?_⟩
     ·exact pa_weak (by (refine weak_fg ?_;push_cast [iO,tN,h8,h9,mayF])) hd0_1_4_6_
     ·exact pa_weak (by (refine weak_fg ?_;push_cast [iO,tN,h8,h9,mayF])) hd0_1_6_9_)
    refine pa_have 9 #[true,false,true,false,false,true,true,true,true,true,false,false,false,false,false,false] (⟨[(53,.c (.mp 3)),(55,.c (.v (.int .i64 j))),(62,.c (.v (.string (R.getD j default)))),(58,.c (.own 8 out.length))]++oT j,oO c T1 (out) R⟩:S) (fun hd0_6_9_=>?_) (by
     refine pa_step [1,10] (by kernel_rfl) rfl ?_
     push_cast [iO,tN]
     refine ⟨?_,?_⟩
     ·refine pa_hoist 3 (by kernel_rfl) ?_
      push_cast [iO,tN]
      exact pa_weak (by (refine weak_fg ?_;push_cast [iO,tN,h8,h9,mayF])) hd0_1_6_9_
     ·exact pa_weak (by (refine weak_fg ?_;push_cast [iO,tN,h8,h9,mayF])) hd0_6_9_10_)
    refine pa_have 8 #[false,true,true,true,true,true,true,true,true,false,false,false,false,false,false,false] (⟨[(57,.c (.v (.string (R.getD j default)))),(61,.c (.orow 5 1 j 0)),(58,.c (.own 8 out.length))]++oT j,oO c T1 (out) R⟩:S) (fun hd1_4_6_=>?_) (by
     refine pa_step [0,9] (by kernel_rfl) rfl ?_
     push_cast [iO,tN]
     refine ⟨?_,?_⟩
     ·exact pa_weak (by (refine weak_fg ?_;push_cast [iO,tN,h8,h9,mayF])) hd0_1_4_6_
     ·exact pa_weak (by (refine weak_fg ?_;push_cast [iO,tN,h8,h9,mayF])) hd1_4_6_9_)
    refine pa_have 8 #[false,true,true,true,false,true,true,true,true,true,false,false,false,false,false,false] (⟨[(56,.c (.orow 5 1 j 0)),(62,.c (.v (.string (R.getD j default)))),(58,.c (.own 8 out.length))]++oT j,oO c T1 (out) R⟩:S) (fun hd1_6_9_=>?_) (by
     refine pa_step [0,4,10] (by kernel_rfl) rfl ?_
     push_cast [iO,tN]
     refine ⟨?_,?_,?_⟩
     ·exact pa_weak (by (refine weak_fg ?_;push_cast [iO,tN,h8,h9,mayF])) hd0_1_6_9_
     ·exact pa_weak (by (refine weak_fg ?_;push_cast [iO,tN,h8,h9,mayF])) hd1_4_6_9_
     ·exact pa_weak (by (refine weak_fg ?_;push_cast [iO,tN,h8,h9,mayF])) hd1_6_9_10_)
    refine pa_have 9 #[false,false,true,false,false,true,true,true,true,true,true,false,false,false,false,false] (⟨[(55,.c (.v (.int .i64 j))),(63,.c (.full 1 [[.v (.string (R.getD j default))]])),(58,.c (.own 8 out.length))]++oT j,oO c T1 (out) R⟩:S) (fun hd6_9_10_=>?_) (by
     refine pa_step [0,1,11] (by kernel_rfl) rfl ?_
     push_cast [iO,tN]
     refine ⟨?_,?_,?_⟩
     ·exact pa_weak (by (refine weak_fg ?_;push_cast [iO,tN,h8,h9,mayF])) hd0_6_9_10_
     ·refine pa_hoist 3 (by kernel_rfl) ?_
      push_cast [iO,tN]
      exact pa_weak (by (refine weak_fg ?_;push_cast [iO,tN,h8,h9,mayF])) hd1_6_9_10_
     ·refine pa_hoist 12 (by kernel_rfl) ?_
      push_cast [iO,tN]
      exact pa_weak (by (refine weak_fg ?_;push_cast [iO,tN,h8,h9,mayF])) hd6_9_10_11_)
    refine pa_have 10 #[true,true,true,true,false,true,false,true,false,false,false,false,false,false,false,false] (⟨[(53,.c (.mp 3)),(56,.c (.orow 5 1 j 0)),(60,.c (.v (.int .i64 j))),(58,.c (.own 8 out.length))]++oT j,oO c T1 (out) R⟩:S) (fun hd0_1_=>?_) (by
     refine pa_step [4,6] (by kernel_rfl) rfl ?_
     push_cast [iO,tN]
     refine ⟨?_,?_⟩
     ·exact pa_weak (by (refine weak_fg ?_;push_cast [iO,tN,h8,h9,mayF])) hd0_1_4_
     ·refine pa_hoist 8 (by kernel_rfl) ?_
      push_cast [iO,tN]
      exact pa_weak (by (refine weak_fg ?_;push_cast [iO,tN,h8,h9,mayF])) hd0_1_6_)
    refine pa_have 10 #[true,false,true,false,false,true,true,true,true,false,false,false,false,false,false,false] (⟨[(53,.c (.mp 3)),(55,.c (.v (.int .i64 j))),(61,.c (.orow 5 1 j 0)),(58,.c (.own 8 out.length))]++oT j,oO c T1 (out) R⟩:S) (fun hd0_6_=>?_) (by
     refine pa_step [1,9] (by kernel_rfl) rfl ?_
     push_cast [iO,tN]
     refine ⟨?_,?_⟩
     ·refine pa_hoist 3 (by kernel_rfl) ?_
      push_cast [iO,tN]
      exact pa_weak (by (refine weak_fg ?_;push_cast [iO,tN,h8,h9,mayF])) hd0_1_6_
     ·exact pa_weak (by (refine weak_fg ?_;push_cast [iO,tN,h8,h9,mayF])) hd0_6_9_)
    refine pa_have 10 #[false,true,true,true,true,true,false,true,false,false,false,false,false,false,false,false] (⟨[(57,.c (.v (.string (R.getD j default)))),(60,.c (.v (.int .i64 j))),(58,.c (.own 8 out.length))]++oT j,oO c T1 (out) R⟩:S) (fun hd1_4_=>?_) (by
     refine pa_step [0,6] (by kernel_rfl) rfl ?_
     push_cast [iO,tN]
     refine ⟨?_,?_⟩
     ·exact pa_weak (by (refine weak_fg ?_;push_cast [iO,tN,h8,h9,mayF])) hd0_1_4_
     ·refine pa_hoist 8 (by kernel_rfl) ?_
      push_cast [iO,tN]
      exact pa_weak (by (refine weak_fg ?_;push_cast [iO,tN,h8,h9,mayF])) hd1_4_6_)
    refine pa_have 9 #[false,true,true,true,false,true,true,true,true,false,false,false,false,false,false,false] (⟨[(56,.c (.orow 5 1 j 0)),(61,.c (.orow 5 1 j 0)),(58,.c (.own 8 out.length))]++oT j,oO c T1 (out) R⟩:S) (fun hd1_6_=>?_) (by
     refine pa_step [0,4,9] (by kernel_rfl) rfl ?_
     push_cast [iO,tN]
     refine ⟨?_,?_,?_⟩
     ·exact pa_weak (by (refine weak_fg ?_;push_cast [iO,tN,h8,h9,mayF])) hd0_1_6_
     ·exact pa_weak (by (refine weak_fg ?_;push_cast [iO,tN,h8,h9,mayF])) hd1_4_6_
     ·exact pa_weak (by (refine weak_fg ?_;push_cast [iO,tN,h8,h9,mayF])) hd1_6_9_)
    refine pa_have 10 #[false,false,true,false,false,true,true,true,true,true,false,false,false,false,false,false] (⟨[(55,.c (.v (.int .i64 j))),(62,.c (.v (.string (R.getD j default)))),(58,.c (.own 8 out.length))]++oT j,oO c T1 (out) R⟩:S) (fun hd6_9_=>?_) (by
     refine pa_step [0,1,10] (by kernel_rfl) rfl ?_
     push_cast [iO,tN]
     refine ⟨?_,?_,?_⟩
     ·exact pa_weak (by (refine weak_fg ?_;push_cast [iO,tN,h8,h9,mayF])) hd0_6_9_
     ·refine pa_hoist 3 (by kernel_rfl) ?_
      push_cast [iO,tN]
      exact pa_weak (by (refine weak_fg ?_;push_cast [iO,tN,h8,h9,mayF])) hd1_6_9_
     ·exact pa_weak (by (refine weak_fg ?_;push_cast [iO,tN,h8,h9,mayF])) hd6_9_10_)
    refine pa_have 12 #[true,false,true,false,false,true,false,true,false,false,false,false,false,false,false,false] (⟨[(53,.c (.mp 3)),(55,.c (.v (.int .i64 j))),(60,.c (.v (.int .i64 j))),(58,.c (.own 8 out.length))]++oT j,oO c T1 (out) R⟩:S) (fun hd0_=>?_) (by
     refine pa_step [1,6] (by kernel_rfl) rfl ?_
     push_cast [iO,tN]
     refine ⟨?_,?_⟩
     ·refine pa_hoist 3 (by kernel_rfl) ?_
      push_cast [iO,tN]
      exact pa_weak (by (refine weak_fg ?_;push_cast [iO,tN,h8,h9,mayF])) hd0_1_
     ·refine pa_hoist 8 (by kernel_rfl) ?_
      push_cast [iO,tN]
      exact pa_weak (by (refine weak_fg ?_;push_cast [iO,tN,h8,h9,mayF])) hd0_6_)
    refine pa_have 11 #[false,true,true,true,false,true,false,true,false,false,false,false,false,false,false,false] (⟨[(56,.c (.orow 5 1 j 0)),(60,.c (.v (.int .i64 j))),(58,.c (.own 8 out.length))]++oT j,oO c T1 (out) R⟩:S) (fun hd1_=>?_) (by
     refine pa_step [0,4,6] (by kernel_rfl) rfl ?_
     push_cast [iO,tN]
     refine ⟨?_,?_,?_⟩
     ·exact pa_weak (by (refine weak_fg ?_;push_cast [iO,tN,h8,h9,mayF])) hd0_1_
     ·exact pa_weak (by (refine weak_fg ?_;push_cast [iO,tN,h8,h9,mayF])) hd1_4_
     ·refine pa_hoist 8 (by kernel_rfl) ?_
      push_cast [iO,tN]
      exact pa_weak (by (refine weak_fg ?_;push_cast [iO,tN,h8,h9,mayF])) hd1_6_)
    refine pa_have 11 #[false,false,true,false,false,true,true,true,true,false,false,false,false,false,false,false] (⟨[(55,.c (.v (.int .i64 j))),(61,.c (.orow 5 1 j 0)),(58,.c (.own 8 out.length))]++oT j,oO c T1 (out) R⟩:S) (fun hd6_=>?_) (by
     refine pa_step [0,1,9] (by kernel_rfl) rfl ?_
     push_cast [iO,tN]
     refine ⟨?_,?_,?_⟩
     ·exact pa_weak (by (refine weak_fg ?_;push_cast [iO,tN,h8,h9,mayF])) hd0_6_
     ·refine pa_hoist 3 (by kernel_rfl) ?_
      push_cast [iO,tN]
      exact pa_weak (by (refine weak_fg ?_;push_cast [iO,tN,h8,h9,mayF])) hd1_6_
     ·exact pa_weak (by (refine weak_fg ?_;push_cast [iO,tN,h8,h9,mayF])) hd6_9_)
    refine pa_step [0,1,6] (by kernel_rfl) rfl ?_
    push_cast [iO,tN]
    refine ⟨?_,?_,?_⟩
    ·exact pa_weak (by (refine weak_fg ?_;push_cast [iO,tN,h8,h9,mayF])) hd0_
    ·refine pa_hoist 3 (by kernel_rfl) ?_
     push_cast [iO,tN]
     exact pa_weak (by (refine weak_fg ?_;push_cast [iO,tN,h8,h9,mayF])) hd1_
    ·refine pa_hoist 8 (by kernel_rfl) ?_
     push_cast [iO,tN]
     exact pa_weak (by (refine weak_fg ?_;push_cast [iO,tN,h8,h9,mayF])) hd6_
  ·rcases opt_cases (R.find? (mayV c.modules T1)) with hf|⟨b,hf⟩
   ·have hx:=hx2.mono (R':=fun r os=>r = .c (.v (.int .i64 (-1)))∧os=orderOs c.modules T1 R) (by rintro r os ⟨k,hk,rfl,rfl⟩;rw [idxQ_none hk hf];exact ⟨rfl,rfl⟩)
    unfold orderOs at hx
    push_cast [iO,tN]
    repeat' (first |  (refine pl_weak (weak_optr 46 (k:=9) (r:=1) rfl) ?_;refine pl_of_pops ?_;push_cast [iO,tN])|(refine plc [5,1,2,3,4,6,7] (hx) ?_ ?_;push_cast [iO,tN];rintro r os ⟨rfl,rfl⟩;push_cast [iO,tN])  | ((first|refine pG ?_|refine pQ ?_|refine pU ?_);push_cast [iO,tN])|(refine pif (fun h=>?_) (fun h=>?_)<;>first|exact pN h|push_cast [iO,tN]))
    exact ⟨2,⟨by omega,fun _=>hi1 (by omega),fun _=>hf⟩,by (refine weak_fg ?_;push_cast [iO,tN]),by omega⟩
   ·have hx:=hx2.mono (R':=fun r os=>∃ i:Nat,(i < R.length∧R.getD i default=b)∧r = .c (.v (.int .i64 i))∧os=orderOs c.modules T1 R) (by rintro r os ⟨k,hk,rfl,rfl⟩;obtain ⟨i,h1,rfl⟩:=idxQ_some hk hf;exact ⟨i,h1,rfl,rfl⟩)
    unfold orderOs at hx
    have hcb:chooseM c.modules (loaded++out) R=some b:=by rw [hI.choose];unfold chooseM;rw [hi1 (by omega)];exact hf
    push_cast [iO,tN]
    repeat' (first |  (refine pl_weak (weak_optr 46 (k:=9) (r:=1) rfl) ?_;refine pl_of_pops ?_;push_cast [iO,tN])|(refine plc [5,1,2,3,4,6,7] (hx) ?_ ?_;push_cast [iO,tN];rintro r os ⟨j,⟨hj,hjb⟩,rfl,rfl⟩;push_cast [iO,tN])|(refine pwp_drawn (by kernel_rfl) ?_;simp only [List.length_cons,List.length_nil,Nat.reduceAdd])  | ((first|refine pG ?_|refine pQ ?_|refine pU ?_);push_cast [iO,tN])|(refine pif (fun h=>?_) (fun h=>?_)<;>first|exact pN h|push_cast [iO,tN]))
    refine pa_hoist 2 (by kernel_rfl) ?_
    push_cast [iO,tN]
    refine pa_hoist 5 (by kernel_rfl) ?_
    push_cast [iO,tN]
    refine pa_hoist 7 (by kernel_rfl) ?_
    push_cast [iO,tN]
    refine pa_weak (s':=⟨[(55,.c (.v (.int .i64 j))),(60,.c (.v (.int .i64 j))),(58,.c (.own 8 out.length))]++oT j,oO c T1 (out) R⟩) (by (refine weak_fg ?_;push_cast [iO,tN])) ?_
    refine pa_have 3 #[true,true,true,true,true,true,true,true,true,true,true,true,true,false,false,false] (⟨[(53,.c (.mp 3)),(57,.c (.v (.string (R.getD j default)))),(12,.c (.own 8 (out.length+1)))]++oT j,oO c T1 (out++[R.getD j default]) R⟩:S) (fun hd0_1_4_6_9_10_11_=>?_) ?_
    rotate_left
    ·refine pa_entry 13 14 15 (t:=56) (mi:=53) (d1:=65) (d2:=66) (k:=3) (key:=.s (R.getD j default)) (kk0:=none) (e0:=4) (cs0:=[.v (.bool false)]) rfl rfl rfl (by kernel_rfl) (by kernel_rfl) (by kernel_rfl) ⟨rfl,rfl,rfl⟩ ⟨rfl,rfl,rfl⟩ ⟨rfl,rfl,rfl⟩ (by decide) (by decide) rfl rfl rfl rfl (by push_cast [iO,tN]) (by push_cast [iO,tN]) (fun _ _=>rfl) ?_
     push_cast [iO,tN]
     refine pa_weak (s':=⟨[(12,.c (.own 8 (out.length+1)))]++oT j,oO c (addS T1 (R.getD j default)) (out++[R.getD j default]) R⟩) (by (refine weak_fg ?_;push_cast [iO,tN])) ?_
     refine pa_done (by kernel_rfl) ?_
     push_cast [iO,tN]
     repeat' (first |  (refine plc [5] (delete_pure R j hj (by omega)) ?_ ?_;push_cast [iO,tN];rintro r os ⟨rfl,rfl⟩;push_cast [iO,tN])  | ((first|refine pG ?_|refine pQ ?_|refine pU ?_);push_cast [iO,tN])|(refine pif (fun h=>?_) (fun h=>?_)<;>first|exact pN h|push_cast [iO,tN]))
     have hst:=hI.step (b:=R.getD j default) (by rw [hjb];exact hcb)
     have hfl:=filter_len (b:=R.getD j default) (asc_nodup hI.asc) (by rw [getD_lt R hj];exact List.getElem_mem _)
     have hfr:(R.take j).map strD++(R.drop (j+1)).map strD=(R.filter fun x=>decide (x≠R.getD j default)).map strD:=by rw [← List.map_append,del_eq (asc_nodup hI.asc) hj]
     obtain ⟨R',hR'⟩:∃ R',(R.filter fun x=>decide (x≠R.getD j default))=R':=⟨_,rfl⟩
     rw [hR'] at hst hfl hfr
     have e6:R.length - 1=R'.length:=by omega
     have e5:((R.take j).map strD++((R.drop (j+1)).map strD++[[D.v (.string ⟨#[]⟩)]])).take (R.length - 1)=R'.map strD:=by rw [← List.append_assoc,hfr];exact List.take_left' (by rw [List.length_map];omega)
     rw [e6] at e5
     exact ⟨(out++[R.getD j default],addS T1 (R.getD j default),R'),hst,Weak.trans (weak_trim 5 (R.length - 1) rfl) (by (refine weak_fg ?_;push_cast [iO,tN,e5,e6])),by simp only;omega⟩
    refine pa_have 5 #[true,true,true,true,true,true,true,true,true,true,true,false,false,false,false,false] (⟨[(53,.c (.mp 3)),(57,.c (.v (.string (R.getD j default)))),(63,.c (.full 1 [[.v (.string (R.getD j default))]])),(58,.c (.own 8 out.length))]++oT j,oO c T1 (out) R⟩:S) (fun hd0_1_4_6_9_10_=>?_) (by
     refine pa_step [11] (by kernel_rfl) rfl ?_
     push_cast [iO,tN]
     ·refine pa_hoist 12 (by kernel_rfl) ?_
      push_cast [iO,tN]
      exact pa_weak (by (refine weak_fg ?_;push_cast [iO,tN,h8,h9,mayF])) hd0_1_4_6_9_10_11_)
    refine pa_have 4 #[true,true,true,true,false,true,true,true,true,true,true,true,true,false,false,false] (⟨[(53,.c (.mp 3)),(56,.c (.orow 5 1 j 0)),(12,.c (.own 8 (out.length+1)))]++oT j,oO c T1 (out++[R.getD j default]) R⟩:S) (fun hd0_1_6_9_10_11_=>?_) (by
     refine pa_step [4] (by kernel_rfl) rfl ?_
     push_cast [iO,tN]
     ·exact pa_weak (by (refine weak_fg ?_;push_cast [iO,tN,h8,h9,mayF])) hd0_1_4_6_9_10_11_)
    refine pa_have 4 #[false,true,true,true,true,true,true,true,true,true,true,true,true,false,false,false] (⟨[(57,.c (.v (.string (R.getD j default)))),(12,.c (.own 8 (out.length+1)))]++oT j,oO c T1 (out++[R.getD j default]) R⟩:S) (fun hd1_4_6_9_10_11_=>?_) (by
     refine pa_step [0] (by kernel_rfl) rfl ?_
     push_cast [iO,tN]
     ·exact pa_weak (by (refine weak_fg ?_;push_cast [iO,tN,h8,h9,mayF])) hd0_1_4_6_9_10_11_)
    refine pa_have 6 #[true,true,true,true,true,true,true,true,true,true,false,false,false,false,false,false] (⟨[(53,.c (.mp 3)),(57,.c (.v (.string (R.getD j default)))),(62,.c (.v (.string (R.getD j default)))),(58,.c (.own 8 out.length))]++oT j,oO c T1 (out) R⟩:S) (fun hd0_1_4_6_9_=>?_) (by
     refine pa_step [10] (by kernel_rfl) rfl ?_
     push_cast [iO,tN]
     ·exact pa_weak (by (refine weak_fg ?_;push_cast [iO,tN,h8,h9,mayF])) hd0_1_4_6_9_10_)
    refine pa_have 6 #[true,true,true,true,false,true,true,true,true,true,true,false,false,false,false,false] (⟨[(53,.c (.mp 3)),(56,.c (.orow 5 1 j 0)),(63,.c (.full 1 [[.v (.string (R.getD j default))]])),(58,.c (.own 8 out.length))]++oT j,oO c T1 (out) R⟩:S) (fun hd0_1_6_9_10_=>?_) (by
     refine pa_step [4,11] (by kernel_rfl) rfl ?_
     push_cast [iO,tN]
     refine ⟨?_,?_⟩
     ·exact pa_weak (by (refine weak_fg ?_;push_cast [iO,tN,h8,h9,mayF])) hd0_1_4_6_9_10_
     ·refine pa_hoist 12 (by kernel_rfl) ?_
      push_cast [iO,tN]
      exact pa_weak (by (refine weak_fg ?_;push_cast [iO,tN,h8,h9,mayF])) hd0_1_6_9_10_11_)
    refine pa_have 6 #[true,false,true,false,false,true,true,true,true,true,true,true,true,false,false,false] (⟨[(53,.c (.mp 3)),(55,.c (.v (.int .i64 j))),(12,.c (.own 8 (out.length+1)))]++oT j,oO c T1 (out++[R.getD j default]) R⟩:S) (fun hd0_6_9_10_11_=>?_) (by
     refine pa_step [1] (by kernel_rfl) rfl ?_
     push_cast [iO,tN]
     ·refine pa_hoist 3 (by kernel_rfl) ?_
      push_cast [iO,tN]
      exact pa_weak (by (refine weak_fg ?_;push_cast [iO,tN,h8,h9,mayF])) hd0_1_6_9_10_11_)
    refine pa_have 6 #[false,true,true,true,true,true,true,true,true,true,true,false,false,false,false,false] (⟨[(57,.c (.v (.string (R.getD j default)))),(63,.c (.full 1 [[.v (.string (R.getD j default))]])),(58,.c (.own 8 out.length))]++oT j,oO c T1 (out) R⟩:S) (fun hd1_4_6_9_10_=>?_) (by
     refine pa_step [0,11] (by kernel_rfl) rfl ?_
     push_cast [iO,tN]
     refine ⟨?_,?_⟩
     ·exact pa_weak (by (refine weak_fg ?_;push_cast [iO,tN,h8,h9,mayF])) hd0_1_4_6_9_10_
     ·refine pa_hoist 12 (by kernel_rfl) ?_
      push_cast [iO,tN]
      exact pa_weak (by (refine weak_fg ?_;push_cast [iO,tN,h8,h9,mayF])) hd1_4_6_9_10_11_)
    refine pa_have 5 #[false,true,true,true,false,true,true,true,true,true,true,true,true,false,false,false] (⟨[(56,.c (.orow 5 1 j 0)),(12,.c (.own 8 (out.length+1)))]++oT j,oO c T1 (out++[R.getD j default]) R⟩:S) (fun hd1_6_9_10_11_=>?_) (by
     refine pa_step [0,4] (by kernel_rfl) rfl ?_
     push_cast [iO,tN]
     refine ⟨?_,?_⟩
     ·exact pa_weak (by (refine weak_fg ?_;push_cast [iO,tN,h8,h9,mayF])) hd0_1_6_9_10_11_
     ·exact pa_weak (by (refine weak_fg ?_;push_cast [iO,tN,h8,h9,mayF])) hd1_4_6_9_10_11_)
    refine pa_have 7 #[true,true,true,true,true,true,true,true,true,false,false,false,false,false,false,false] (⟨[(53,.c (.mp 3)),(57,.c (.v (.string (R.getD j default)))),(61,.c (.orow 5 1 j 0)),(58,.c (.own 8 out.length))]++oT j,oO c T1 (out) R⟩:S) (fun hd0_1_4_6_=>?_) (by
     refine pa_step [9] (by kernel_rfl) rfl ?_
     push_cast [iO,tN]
     ·exact pa_weak (by (refine weak_fg ?_;push_cast [iO,tN,h8,h9,mayF])) hd0_1_4_6_9_)
    refine pa_have 7 #[true,true,true,true,false,true,true,true,true,true,false,false,false,false,false,false] (⟨[(53,.c (.mp 3)),(56,.c (.orow 5 1 j 0)),(62,.c (.v (.string (R.getD j default)))),(58,.c (.own 8 out.length))]++oT j,oO c T1 (out) R⟩:S) (fun hd0_1_6_9_=>?_) (by
     refine pa_step [4,10] (by kernel_rfl) rfl ?_
     push_cast [iO,tN]
     refine ⟨?_,?_⟩
     ·exact pa_weak (by (refine weak_fg ?_;push_cast [iO,tN,h8,h9,mayF])) hd0_1_4_6_9_
     ·exact pa_weak (by (refine weak_fg ?_;push_cast [iO,tN,h8,h9,mayF])) hd0_1_6_9_10_)
    refine pa_have 8 #[true,false,true,false,false,true,true,true,true,true,true,false,false,false,false,false] (⟨[(53,.c (.mp 3)),(55,.c (.v (.int .i64 j))),(63,.c (.full 1 [[.v (.string (R.getD j default))]])),(58,.c (.own 8 out.length))]++oT j,oO c T1 (out) R⟩:S) (fun hd0_6_9_10_=>?_) (by
     refine pa_step [1,11] (by kernel_rfl) rfl ?_
     push_cast [iO,tN]
     refine ⟨?_,?_⟩
     ·refine pa_hoist 3 (by kernel_rfl) ?_
      push_cast [iO,tN]
      exact pa_weak (by (refine weak_fg ?_;push_cast [iO,tN,h8,h9,mayF])) hd0_1_6_9_10_
     ·refine pa_hoist 12 (by kernel_rfl) ?_
      push_cast [iO,tN]
      exact pa_weak (by (refine weak_fg ?_;push_cast [iO,tN,h8,h9,mayF])) hd0_6_9_10_11_)
    refine pa_have 7 #[false,true,true,true,true,true,true,true,true,true,false,false,false,false,false,false] (⟨[(57,.c (.v (.string (R.getD j default)))),(62,.c (.v (.string (R.getD j default)))),(58,.c (.own 8 out.length))]++oT j,oO c T1 (out) R⟩:S) (fun hd1_4_6_9_=>?_) (by
     refine pa_step [0,10] (by kernel_rfl) rfl ?_
     push_cast [iO,tN]
     refine ⟨?_,?_⟩
     ·exact pa_weak (by (refine weak_fg ?_;push_cast [iO,tN,h8,h9,mayF])) hd0_1_4_6_9_
     ·exact pa_weak (by (refine weak_fg ?_;push_cast [iO,tN,h8,h9,mayF])) hd1_4_6_9_10_)
    refine pa_have 7 #[false,true,true,true,false,true,true,true,true,true,true,false,false,false,false,false] (⟨[(56,.c (.orow 5 1 j 0)),(63,.c (.full 1 [[.v (.string (R.getD j default))]])),(58,.c (.own 8 out.length))]++oT j,oO c T1 (out) R⟩:S) (fun hd1_6_9_10_=>?_) (by
     refine pa_step [0,4,11] (by kernel_rfl) rfl ?_
     push_cast [iO,tN]
     refine ⟨?_,?_,?_⟩
     ·exact pa_weak (by (refine weak_fg ?_;push_cast [iO,tN,h8,h9,mayF])) hd0_1_6_9_10_
     ·exact pa_weak (by (refine weak_fg ?_;push_cast [iO,tN,h8,h9,mayF])) hd1_4_6_9_10_
     ·refine pa_hoist 12 (by kernel_rfl) ?_
      push_cast [iO,tN]
      exact pa_weak (by (refine weak_fg ?_;push_cast [iO,tN,h8,h9,mayF])) hd1_6_9_10_11_)
    refine pa_have 7 #[false,false,true,false,false,true,true,true,true,true,true,true,true,false,false,false] (⟨[(55,.c (.v (.int .i64 j))),(12,.c (.own 8 (out.length+1)))]++oT j,oO c T1 (out++[R.getD j default]) R⟩:S) (fun hd6_9_10_11_=>?_) (by
     refine pa_step [0,1] (by kernel_rfl) rfl ?_
     push_cast [iO,tN]
     refine ⟨?_,?_⟩
     ·exact pa_weak (by (refine weak_fg ?_;push_cast [iO,tN,h8,h9,mayF])) hd0_6_9_10_11_
     ·refine pa_hoist 3 (by kernel_rfl) ?_
      push_cast [iO,tN]
      exact pa_weak (by (refine weak_fg ?_;push_cast [iO,tN,h8,h9,mayF])) hd1_6_9_10_11_)
    refine pa_have 9 #[true,true,true,true,true,true,false,true,false,false,false,false,false,false,false,false] (⟨[(53,.c (.mp 3)),(57,.c (.v (.string (R.getD j default)))),(60,.c (.v (.int .i64 j))),(58,.c (.own 8 out.length))]++oT j,oO c T1 (out) R⟩:S) (fun hd0_1_4_=>?_) (by
     refine pa_step [6] (by kernel_rfl) rfl ?_
     push_cast [iO,tN]
     ·refine pa_hoist 8 (by kernel_rfl) ?_
      push_cast [iO,tN]
      exact pa_weak (by (refine weak_fg ?_;push_cast [iO,tN,h8,h9,mayF])) hd0_1_4_6_)
    refine pa_have 8 #[true,true,true,true,false,true,true,true,true,false,false,false,false,false,false,false] (⟨[(53,.c (.mp 3)),(56,.c (.orow 5 1 j 0)),(61,.c (.orow 5 1 j 0)),(58,.c (.own 8 out.length))]++oT j,oO c T1 (out) R⟩:S) (fun hd0_1_6_=>?_) (by
     refine pa_step [4,9] (by kernel_rfl) rfl ?_
     push_cast [iO,tN]
     refine ⟨?_,?_⟩
     ·exact pa_weak (by (refine weak_fg ?_;push_cast [iO,tN,h8,h9,mayF])) hd0_1_4_6_
     ·exact pa_weak (by (refine weak_fg ?_;push_cast [iO,tN,h8,h9,mayF])) hd0_1_6_9_)
    refine pa_have 9 #[true,false,true,false,false,true,true,true,true,true,false,false,false,false,false,false] (⟨[(53,.c (.mp 3)),(55,.c (.v (.int .i64 j))),(62,.c (.v (.string (R.getD j default)))),(58,.c (.own 8 out.length))]++oT j,oO c T1 (out) R⟩:S) (fun hd0_6_9_=>?_) (by
     refine pa_step [1,10] (by kernel_rfl) rfl ?_
     push_cast [iO,tN]
     refine ⟨?_,?_⟩
     ·refine pa_hoist 3 (by kernel_rfl) ?_
      push_cast [iO,tN]
      exact pa_weak (by (refine weak_fg ?_;push_cast [iO,tN,h8,h9,mayF])) hd0_1_6_9_
     ·exact pa_weak (by (refine weak_fg ?_;push_cast [iO,tN,h8,h9,mayF])) hd0_6_9_10_)
    refine pa_have 8 #[false,true,true,true,true,true,true,true,true,false,false,false,false,false,false,false] (⟨[(57,.c (.v (.string (R.getD j default)))),(61,.c (.orow 5 1 j 0)),(58,.c (.own 8 out.length))]++oT j,oO c T1 (out) R⟩:S) (fun hd1_4_6_=>?_) (by
     refine pa_step [0,9] (by kernel_rfl) rfl ?_
     push_cast [iO,tN]
     refine ⟨?_,?_⟩
     ·exact pa_weak (by (refine weak_fg ?_;push_cast [iO,tN,h8,h9,mayF])) hd0_1_4_6_
     ·exact pa_weak (by (refine weak_fg ?_;push_cast [iO,tN,h8,h9,mayF])) hd1_4_6_9_)
    refine pa_have 8 #[false,true,true,true,false,true,true,true,true,true,false,false,false,false,false,false] (⟨[(56,.c (.orow 5 1 j 0)),(62,.c (.v (.string (R.getD j default)))),(58,.c (.own 8 out.length))]++oT j,oO c T1 (out) R⟩:S) (fun hd1_6_9_=>?_) (by
     refine pa_step [0,4,10] (by kernel_rfl) rfl ?_
     push_cast [iO,tN]
     refine ⟨?_,?_,?_⟩
     ·exact pa_weak (by (refine weak_fg ?_;push_cast [iO,tN,h8,h9,mayF])) hd0_1_6_9_
     ·exact pa_weak (by (refine weak_fg ?_;push_cast [iO,tN,h8,h9,mayF])) hd1_4_6_9_
     ·exact pa_weak (by (refine weak_fg ?_;push_cast [iO,tN,h8,h9,mayF])) hd1_6_9_10_)
    refine pa_have 9 #[false,false,true,false,false,true,true,true,true,true,true,false,false,false,false,false] (⟨[(55,.c (.v (.int .i64 j))),(63,.c (.full 1 [[.v (.string (R.getD j default))]])),(58,.c (.own 8 out.length))]++oT j,oO c T1 (out) R⟩:S) (fun hd6_9_10_=>?_) (by
     refine pa_step [0,1,11] (by kernel_rfl) rfl ?_
     push_cast [iO,tN]
     refine ⟨?_,?_,?_⟩
     ·exact pa_weak (by (refine weak_fg ?_;push_cast [iO,tN,h8,h9,mayF])) hd0_6_9_10_
     ·refine pa_hoist 3 (by kernel_rfl) ?_
      push_cast [iO,tN]
      exact pa_weak (by (refine weak_fg ?_;push_cast [iO,tN,h8,h9,mayF])) hd1_6_9_10_
     ·refine pa_hoist 12 (by kernel_rfl) ?_
      push_cast [iO,tN]
      exact pa_weak (by (refine weak_fg ?_;push_cast [iO,tN,h8,h9,mayF])) hd6_9_10_11_)
    refine pa_have 10 #[true,true,true,true,false,true,false,true,false,false,false,false,false,false,false,false] (⟨[(53,.c (.mp 3)),(56,.c (.orow 5 1 j 0)),(60,.c (.v (.int .i64 j))),(58,.c (.own 8 out.length))]++oT j,oO c T1 (out) R⟩:S) (fun hd0_1_=>?_) (by
     refine pa_step [4,6] (by kernel_rfl) rfl ?_
     push_cast [iO,tN]
     refine ⟨?_,?_⟩
     ·exact pa_weak (by (refine weak_fg ?_;push_cast [iO,tN,h8,h9,mayF])) hd0_1_4_
     ·refine pa_hoist 8 (by kernel_rfl) ?_
      push_cast [iO,tN]
      exact pa_weak (by (refine weak_fg ?_;push_cast [iO,tN,h8,h9,mayF])) hd0_1_6_)
    refine pa_have 10 #[true,false,true,false,false,true,true,true,true,false,false,false,false,false,false,false] (⟨[(53,.c (.mp 3)),(55,.c (.v (.int .i64 j))),(61,.c (.orow 5 1 j 0)),(58,.c (.own 8 out.length))]++oT j,oO c T1 (out) R⟩:S) (fun hd0_6_=>?_) (by
     refine pa_step [1,9] (by kernel_rfl) rfl ?_
     push_cast [iO,tN]
     refine ⟨?_,?_⟩
     ·refine pa_hoist 3 (by kernel_rfl) ?_
      push_cast [iO,tN]
      exact pa_weak (by (refine weak_fg ?_;push_cast [iO,tN,h8,h9,mayF])) hd0_1_6_
     ·exact pa_weak (by (refine weak_fg ?_;push_cast [iO,tN,h8,h9,mayF])) hd0_6_9_)
    refine pa_have 10 #[false,true,true,true,true,true,false,true,false,false,false,false,false,false,false,false] (⟨[(57,.c (.v (.string (R.getD j default)))),(60,.c (.v (.int .i64 j))),(58,.c (.own 8 out.length))]++oT j,oO c T1 (out) R⟩:S) (fun hd1_4_=>?_) (by
     refine pa_step [0,6] (by kernel_rfl) rfl ?_
     push_cast [iO,tN]
     refine ⟨?_,?_⟩
     ·exact pa_weak (by (refine weak_fg ?_;push_cast [iO,tN,h8,h9,mayF])) hd0_1_4_
     ·refine pa_hoist 8 (by kernel_rfl) ?_
      push_cast [iO,tN]
      exact pa_weak (by (refine weak_fg ?_;push_cast [iO,tN,h8,h9,mayF])) hd1_4_6_)
    refine pa_have 9 #[false,true,true,true,false,true,true,true,true,false,false,false,false,false,false,false] (⟨[(56,.c (.orow 5 1 j 0)),(61,.c (.orow 5 1 j 0)),(58,.c (.own 8 out.length))]++oT j,oO c T1 (out) R⟩:S) (fun hd1_6_=>?_) (by
     refine pa_step [0,4,9] (by kernel_rfl) rfl ?_
     push_cast [iO,tN]
     refine ⟨?_,?_,?_⟩
     ·exact pa_weak (by (refine weak_fg ?_;push_cast [iO,tN,h8,h9,mayF])) hd0_1_6_
     ·exact pa_weak (by (refine weak_fg ?_;push_cast [iO,tN,h8,h9,mayF])) hd1_4_6_
     ·exact pa_weak (by (refine weak_fg ?_;push_cast [iO,tN,h8,h9,mayF])) hd1_6_9_)
    refine pa_have 10 #[false,false,true,false,false,true,true,true,true,true,false,false,false,false,false,false] (⟨[(55,.c (.v (.int .i64 j))),(62,.c (.v (.string (R.getD j default)))),(58,.c (.own 8 out.length))]++oT j,oO c T1 (out) R⟩:S) (fun hd6_9_=>?_) (by
     refine pa_step [0,1,10] (by kernel_rfl) rfl ?_
     push_cast [iO,tN]
     refine ⟨?_,?_,?_⟩
     ·exact pa_weak (by (refine weak_fg ?_;push_cast [iO,tN,h8,h9,mayF])) hd0_6_9_
     ·refine pa_hoist 3 (by kernel_rfl) ?_
      push_cast [iO,tN]
      exact pa_weak (by (refine weak_fg ?_;push_cast [iO,tN,h8,h9,mayF])) hd1_6_9_
     ·exact pa_weak (by (refine weak_fg ?_;push_cast [iO,tN,h8,h9,mayF])) hd6_9_10_)
    refine pa_have 12 #[true,false,true,false,false,true,false,true,false,false,false,false,false,false,false,false] (⟨[(53,.c (.mp 3)),(55,.c (.v (.int .i64 j))),(60,.c (.v (.int .i64 j))),(58,.c (.own 8 out.length))]++oT j,oO c T1 (out) R⟩:S) (fun hd0_=>?_) (by
     refine pa_step [1,6] (by kernel_rfl) rfl ?_
     push_cast [iO,tN]
     refine ⟨?_,?_⟩
     ·refine pa_hoist 3 (by kernel_rfl) ?_
      push_cast [iO,tN]
      exact pa_weak (by (refine weak_fg ?_;push_cast [iO,tN,h8,h9,mayF])) hd0_1_
     ·refine pa_hoist 8 (by kernel_rfl) ?_
      push_cast [iO,tN]
      exact pa_weak (by (refine weak_fg ?_;push_cast [iO,tN,h8,h9,mayF])) hd0_6_)
    refine pa_have 11 #[false,true,true,true,false,true,false,true,false,false,false,false,false,false,false,false] (⟨[(56,.c (.orow 5 1 j 0)),(60,.c (.v (.int .i64 j))),(58,.c (.own 8 out.length))]++oT j,oO c T1 (out) R⟩:S) (fun hd1_=>?_) (by
     refine pa_step [0,4,6] (by kernel_rfl) rfl ?_
     push_cast [iO,tN]
     refine ⟨?_,?_,?_⟩
     ·exact pa_weak (by (refine weak_fg ?_;push_cast [iO,tN,h8,h9,mayF])) hd0_1_
     ·exact pa_weak (by (refine weak_fg ?_;push_cast [iO,tN,h8,h9,mayF])) hd1_4_
     ·refine pa_hoist 8 (by kernel_rfl) ?_
      push_cast [iO,tN]
      exact pa_weak (by (refine weak_fg ?_;push_cast [iO,tN,h8,h9,mayF])) hd1_6_)
    refine pa_have 11 #[false,false,true,false,false,true,true,true,true,false,false,false,false,false,false,false] (⟨[(55,.c (.v (.int .i64 j))),(61,.c (.orow 5 1 j 0)),(58,.c (.own 8 out.length))]++oT j,oO c T1 (out) R⟩:S) (fun hd6_=>?_) (by
     refine pa_step [0,1,9] (by kernel_rfl) rfl ?_
     push_cast [iO,tN]
     refine ⟨?_,?_,?_⟩
     ·exact pa_weak (by (refine weak_fg ?_;push_cast [iO,tN,h8,h9,mayF])) hd0_6_
     ·refine pa_hoist 3 (by kernel_rfl) ?_
      push_cast [iO,tN]
      exact pa_weak (by (refine weak_fg ?_;push_cast [iO,tN,h8,h9,mayF])) hd1_6_
     ·exact pa_weak (by (refine weak_fg ?_;push_cast [iO,tN,h8,h9,mayF])) hd6_9_)
    refine pa_step [0,1,6] (by kernel_rfl) rfl ?_
    push_cast [iO,tN]
    refine ⟨?_,?_,?_⟩
    ·exact pa_weak (by (refine weak_fg ?_;push_cast [iO,tN,h8,h9,mayF])) hd0_
    ·refine pa_hoist 3 (by kernel_rfl) ?_
     push_cast [iO,tN]
     exact pa_weak (by (refine weak_fg ?_;push_cast [iO,tN,h8,h9,mayF])) hd1_
    ·refine pa_hoist 8 (by kernel_rfl) ?_
     push_cast [iO,tN]
     exact pa_weak (by (refine weak_fg ?_;push_cast [iO,tN,h8,h9,mayF])) hd6_
  ·have hch:chooseM c.modules (loaded++out) R=none:=by rw [hI.choose];unfold chooseM;rw [hi1 (by omega),hi2 (by omega)]
   push_cast [iO,tN]
   repeat' (first|((first|refine pG ?_|refine pQ ?_|refine pU ?_);push_cast [iO,tN])|(refine pif (fun h=>?_) (fun h=>?_)<;>first|exact pN h|push_cast [iO,tN]))
   (refine retK_of [8] ?_;push_cast [iO,tN])
   have:=hI.stop hch
   rw [this]
   exact ⟨rfl,rfl⟩
end Go.Proofs.YtgijigkfmbiifaaGreatDoor
