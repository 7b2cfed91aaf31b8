/- What the program computes, and the plain laws of it, part 24. -/
import Derived.WideKeyEntry
import Derived.Test.YtmbbkfffcflfcaaGreatDoorS23
namespace Go.Proofs.YtmbbkfffcflfcaaGreatDoor
open Go.RowKit
open IntWalk renaming iteOmega → O, toNatUp → U
set_option linter.unusedVariables false
set_option linter.unusedSimpArgs false
def starAt (l:List El) (i:Nat):Bool:=decide (i < l.length) && (l.getD i default).star
def plN (l:List El) (a:List Bool):Nat → List Bool
 | 0=>a
 | i+1=>if (plN l a i).getD i false && (l.getD i default).star then (plN l a i).set (i+1) true else plN l a i
def placesL (l:List El) (a:List Bool):List Bool:=plN l a l.length
theorem plN_len (l:List El) (a:List Bool):∀ i,(plN l a i).length=a.length
 | 0=>rfl
 | i+1=>by rw [plN];split<;>simp [plN_len l a i]
theorem getD_set {l:List Bool} {i j:Nat} (h:i < l.length):(l.set i true).getD j false=if j=i then true else l.getD j false:=by
 rw [List.getD_eq_getElem?_getD]
 by_cases e:j=i
 ·subst e;rw [List.getElem?_set_self h,if_pos rfl];rfl
 ·rw [List.getElem?_set_ne (Ne.symm e),if_neg e,← List.getD_eq_getElem?_getD]
theorem plN_get (l:List El) (a:List Bool) (ha:a.length=l.length+1):∀ i,i≤l.length → ∀ j,(plN l a i).getD j false=if 0 < j∧j≤i then a.getD j false || ((plN l a (j - 1)).getD (j - 1) false && (l.getD (j - 1) default).star) else a.getD j false
 | 0,_,j=>by rw [if_neg (by omega),plN]
 | i+1,h,j=>by
  have ih:=plN_get l a ha i (by omega)
  rw [plN]
  by_cases hj:j=i+1
  ·subst hj
   have h0:=ih (i+1)
   rw [if_neg (by omega)] at h0
   have hpp:(0 < i+1∧i+1≤i+1)=True:=eq_true ⟨by omega,Nat.le_refl _⟩
   simp only [hpp,if_true,Nat.add_sub_cancel]
   cases hc:((plN l a i).getD i false && (l.getD i default).star)
   ·rw [Bool.or_false];simp only [Bool.false_eq_true,if_false];exact h0
   ·rw [if_pos rfl,getD_set (by rw [plN_len];omega),if_pos rfl,Bool.or_true]
  ·have h1:(if ((plN l a i).getD i false && (l.getD i default).star)=true then (plN l a i).set (i+1) true else plN l a i).getD j false=(plN l a i).getD j false:=by
    split
    ·rw [getD_set (by rw [plN_len];omega),if_neg hj]
    ·rfl
   rw [h1,ih j]
   by_cases h2:0 < j∧j≤i
   ·rw [if_pos h2,if_pos (by omega)]
   ·rw [if_neg h2,if_neg (by omega)]
theorem plN_stay (l:List El) (a:List Bool) (ha:a.length=l.length+1) {i j:Nat} (hi:i≤l.length) (hj:j≤i):(plN l a i).getD j false=(plN l a j).getD j false:=by
 rw [plN_get l a ha i hi j,plN_get l a ha j (by omega) j]
 by_cases h:0 < j
 ·rw [if_pos ⟨h,hj⟩,if_pos ⟨h,Nat.le_refl _⟩]
 ·rw [if_neg (by omega),if_neg (by omega)]
theorem placesL_zero (l:List El) (a:List Bool) (ha:a.length=l.length+1):(placesL l a).getD 0 false=a.getD 0 false:=by
 unfold placesL
 rw [plN_get l a ha _ (Nat.le_refl _) 0,if_neg (by omega)]
theorem placesL_succ (l:List El) (a:List Bool) (ha:a.length=l.length+1) {j:Nat} (hj:j < l.length):(placesL l a).getD (j+1) false=(a.getD (j+1) false || ((placesL l a).getD j false && (l.getD j default).star)):=by
 unfold placesL
 rw [plN_get l a ha _ (Nat.le_refl _) (j+1),if_pos (by omega),Nat.add_sub_cancel,plN_stay l a ha (Nat.le_refl _) (by omega:j≤l.length)]
theorem placesL_len (l:List El) (a:List Bool):(placesL l a).length=a.length:=plN_len _ _ _
def nxN (l:List El) (a:List Bool) (b:UInt8):Nat → List Bool
 | 0=>List.replicate (l.length+1) false
 | i+1 =>
  let u:=if a.getD i false && (l.getD i default).star then (nxN l a b i).set i true else nxN l a b i
  if (a.getD i false && !(l.getD i default).star) && (l.getD i default).has b then u.set (i+1) true else u
theorem nxN_len (l:List El) (a:List Bool) (b:UInt8):∀ i,(nxN l a b i).length=l.length+1
 | 0=>by simp [nxN]
 | i+1=>by
  have ih:=nxN_len l a b i
  rw [nxN]
  split<;>split<;>simp [ih]
theorem nxN_get (l:List El) (a:List Bool) (b:UInt8):∀ i,i≤l.length → ∀ j,(nxN l a b i).getD j false=((decide (j < i) && (a.getD j false && (l.getD j default).star)) || (decide (0 < j∧j≤i) && ((a.getD (j - 1) false && !(l.getD (j - 1) default).star) && (l.getD (j - 1) default).has b)))
 | 0,_,j=>by
  rw [nxN,decide_eq_false (by omega),decide_eq_false (by omega),List.getD_eq_getElem?_getD,List.getElem?_replicate]
  simp only [Bool.false_and,Bool.or_self]
  split<;>rfl
 | i+1,h,j=>by
  have ih:=nxN_get l a b i (by omega) j
  have hl:=nxN_len l a b i
  rw [nxN]
  obtain ⟨c1,hc1⟩:∃ c,(a.getD i false && (l.getD i default).star)=c:=⟨_,rfl⟩
  obtain ⟨c2,hc2⟩:∃ c,((a.getD i false && !(l.getD i default).star) && (l.getD i default).has b)=c:=⟨_,rfl⟩
  rw [hc1,hc2]
  have hu:(if c1=true then (nxN l a b i).set i true else nxN l a b i).getD j false=((decide (j=i) && c1) || (nxN l a b i).getD j false):=by
   cases c1
   ·simp
   ·rw [if_pos rfl,getD_set (by omega)]
    by_cases e:j=i<;>simp [e]
  have hul:(if c1=true then (nxN l a b i).set i true else nxN l a b i).length=l.length+1:=by split<;>simp [hl]
  have hv:(if c2=true then (if c1=true then (nxN l a b i).set i true else nxN l a b i).set (i+1) true else (if c1=true then (nxN l a b i).set i true else nxN l a b i)).getD j false=((decide (j=i+1) && c2) || ((decide (j=i) && c1) || (nxN l a b i).getD j false)):=by
   cases c2
   ·rw [if_neg (by simp),hu];simp
   ·rw [if_pos rfl,getD_set (by omega),hu]
    by_cases e:j=i+1<;>simp [e]
  rw [hv,ih]
  by_cases e1:j=i
  ·subst e1
   rw [hc1,decide_eq_true (by omega:j < j+1),decide_eq_false (by omega:¬ j < j),decide_eq_false (by omega:¬ j=j+1)]
   by_cases h0:0 < j
   ·rw [decide_eq_true (by omega:0 < j∧j≤j),decide_eq_true (by omega:0 < j∧j≤j+1)];simp
   ·rw [decide_eq_false (by omega:¬ (0 < j∧j≤j)),decide_eq_false (by omega:¬ (0 < j∧j≤j+1))];simp
  ·by_cases e2:j=i+1
   ·subst e2
    rw [Nat.add_sub_cancel,hc2,decide_eq_false (by omega:¬ i+1 < i),decide_eq_false (by omega:¬ i+1 < i+1),decide_eq_true (by omega:0 < i+1∧i+1≤i+1),decide_eq_false (by omega:¬ (0 < i+1∧i+1≤i)),decide_eq_false (by omega:¬ i+1=i)]
    simp
   ·have d1:decide (j < i+1)=decide (j < i):=decide_eq_decide.2 (by omega)
    have d2:decide (0 < j∧j≤i+1)=decide (0 < j∧j≤i):=decide_eq_decide.2 (by omega)
    rw [d1,d2,decide_eq_false e1,decide_eq_false e2];simp
def aM (l:List El) (i:Nat) (t:List UInt8):Bool:=if starAt l i then mat (l.take (i+1)) t else mat (l.take i) t
theorem take_snoc {l:List El} {i:Nat} (h:i < l.length):l.take (i+1)=l.take i++[l.getD i default]:=by
 rw [List.take_succ_eq_append_getElem h]
 congr 2
 simp [List.getD,h]
theorem starAt_lt {l:List El} {i:Nat} (h:i < l.length):starAt l i=(l.getD i default).star:=by unfold starAt;rw [decide_eq_true h,Bool.true_and]
def AtOk (l:List El) (a:List Bool) (t:List UInt8):Prop:=a.length=l.length+1∧∀ i,i≤l.length → a.getD i false=aM l i t
theorem aM_nil (l:List El):∀ i,i≤l.length → aM l i []=mat (l.take i) []:=fun i hi=>by
 unfold aM
 by_cases hs:starAt l i=true
 ·rw [if_pos hs]
  have hlt:i < l.length:=by unfold starAt at hs;simp only [Bool.and_eq_true,decide_eq_true_eq] at hs;exact hs.1
  rw [take_snoc hlt,mat_snoc_nil,← starAt_lt hlt,hs,Bool.and_true]
 ·rw [if_neg hs]
theorem AtOk.start (l:List El):AtOk l (placesL l ((List.replicate (l.length+1) false).set 0 true)) []:=by
 have hl:((List.replicate (l.length+1) false).set 0 true).length=l.length+1:=by simp
 refine ⟨by rw [placesL_len,hl],fun i=>?_⟩
 induction i with
 | zero =>
  intro _
  rw [placesL_zero l _ hl,aM_nil l 0 (Nat.zero_le _),List.replicate_succ]
  rfl
 | succ i ih =>
  intro hi
  rw [placesL_succ l _ hl (by omega),ih (by omega),aM_nil l i (by omega),aM_nil l (i+1) hi,take_snoc (by omega),mat_snoc_nil]
  rw [List.getD_eq_getElem?_getD,List.getElem?_set_ne (by omega),List.getElem?_replicate]
  split<;>simp
theorem AtOk.step {l:List El} {a:List Bool} {t:List UInt8} (h:AtOk l a t) (b:UInt8):AtOk l (placesL l (nxN l a b l.length)) (t++[b]):=by
 have hl:=nxN_len l a b l.length
 refine ⟨by rw [placesL_len,hl],fun i=>?_⟩
 induction i with
 | zero =>
  intro _
  rw [placesL_zero l _ hl,nxN_get l a b _ (Nat.le_refl _) 0,decide_eq_false (by omega:¬ (0 < 0∧0≤l.length)),Bool.false_and,Bool.or_false]
  have h0:=h.2 0 (Nat.zero_le _)
  unfold aM at h0 ⊢
  by_cases hlt:0 < l.length
  ·rw [starAt_lt hlt] at *
   rw [decide_eq_true hlt,Bool.true_and,h0]
   cases hs:(l.getD 0 default).star
   ·simp [mat]
   ·simp only [if_true,Bool.and_true]
    have h1:l.take (0+1)=[l.getD 0 default]:=by rw [take_snoc hlt];simp
    rw [h1]
    have hm:∀ u:List UInt8,mat [l.getD 0 default] u=true:=fun u=>(mat_star hs).2 ⟨u.length,Nat.le_refl _,by simp [mat]⟩
    rw [hm,hm]
  ·rw [decide_eq_false hlt,Bool.false_and]
   have hn:starAt l 0=false:=by unfold starAt;rw [decide_eq_false hlt];rfl
   rw [hn]
   simp [mat]
 | succ i ih =>
  intro hi
  have hlt:i < l.length:=by omega
  have hi1:=h.2 i (by omega)
  have hi2:=h.2 (i+1) hi
  rw [placesL_succ l _ hl hlt,ih (by omega),nxN_get l a b _ (Nat.le_refl _) (i+1),decide_eq_true (by omega:0 < i+1∧i+1≤l.length),Bool.true_and,Nat.add_sub_cancel,hi1]
  have hX:mat (l.take (i+1)) (t++[b])=if (l.getD i default).star then (mat (l.take i) (t++[b]) || mat (l.take (i+1)) t) else (mat (l.take i) t && (l.getD i default).has b):=by
   rw [take_snoc hlt]
   cases hs:(l.getD i default).star
   ·rw [mat_snoc_one hs];rfl
   ·rw [mat_snoc_star hs];rfl
  have hprev:(((aM l i t && !(l.getD i default).star) && (l.getD i default).has b) || (aM l i (t++[b]) && (l.getD i default).star))=mat (l.take (i+1)) (t++[b]):=by
   unfold aM
   rw [starAt_lt hlt]
   cases hs:(l.getD i default).star
   ·rw [hX,hs];simp
   ·simp
  have hgo:(decide (i+1 < l.length) && (a.getD (i+1) false && (l.getD (i+1) default).star))=(starAt l (i+1) && mat (l.take (i+1+1)) t):=by
   rw [hi2]
   unfold aM
   cases hs:starAt l (i+1)
   ·unfold starAt at hs
    cases hd:decide (i+1 < l.length)
    ·simp
    ·rw [hd,Bool.true_and] at hs;rw [hs];simp
   ·have hs2:=hs
    unfold starAt at hs2
    simp only [Bool.and_eq_true] at hs2
    rw [hs2.1,hs2.2];simp
  rw [Bool.or_assoc,hprev,hgo]
  show _=aM l (i+1) (t++[b])
  unfold aM
  cases hs:starAt l (i+1)
  ·simp
  ·have hlt2:i+1 < l.length:=by unfold starAt at hs;simp only [Bool.and_eq_true,decide_eq_true_eq] at hs;exact hs.1
   have hs':(l.getD (i+1) default).star=true:=by rw [← starAt_lt hlt2];exact hs
   simp only [Bool.true_and,if_true]
   rw [take_snoc hlt2,mat_snoc_star hs']
   cases mat (List.take (i+1) l) (t++[b])<;>simp
theorem AtOk.fin {l:List El} {a:List Bool} {t:List UInt8} (h:AtOk l a t):a.getD l.length false=mat l t:=by
 rw [h.2 _ (Nat.le_refl _)]
 unfold aM starAt
 rw [decide_eq_false (by omega),Bool.false_and,List.take_length]
 rfl
end Go.Proofs.YtmbbkfffcflfcaaGreatDoor
namespace Go.Proofs.YtmbbkfffcflfcaaGreatDoor
attribute [local irreducible] PL QL PWPr PCalls Weak RetK Kontr PA
open Go.RowKit
open IntWalk renaming iteOmega → O, toNatUp → U
set_option linter.unusedVariables false
set_option linter.unusedSimpArgs false
set_option maxRecDepth 20000
set_option maxRecDepth 20000
set_option maxRecDepth 20000
theorem index_pure (l:List ByteArray) (s:ByteArray) (hl:l.length≤1000000000) :
  PCalls Tryz.prog 94 [.c (.sl 1 (l.map strD)),.c (.v (.string s))] [] fun r os=>∃ k:Int,((k = -1∧s ∉ l)∨∃ i:Nat,k=i∧i < l.length∧l.getD i default=s)∧r = .c (.v (.int .i64 k))∧os=[]:=by
 refine pcalls_of Tryz.func94 rfl (by simp [Tryz.ntmps94]) ?_
 rw [Tryz.ntmps94,Tryz.results94]
 push_cast [O,U]
 repeat' ((first|refine pG ?_|refine pQ ?_|refine pU ?_|refine pif ?_ ?_<;>intro h<;>try exact pN h)<;>push_cast [O,U])
 refine pwp_loop2 (α:=Nat) (fun k=>k≤l.length∧s ∉ l.take k) (fun k=>⟨[(8,.c (.v (.int .i64 k))),(7,.c (.v (.int .i64 l.length))),(6,.c (.sl 1 (l.map strD))),(0,.c (.sl 1 (l.map strD))),(1,.c (.v (.string s)))],[]⟩) (fun k=>l.length - k) 0 ⟨by omega,by simp⟩ (by (refine weak_fg ?_;push_cast [O,U])) ?_
 rintro k ⟨hk,hpre⟩
 by_cases hlt:k < l.length
 ·have e1:=getD_lt l hlt
  repeat' ((first|refine pG ?_|refine pQ ?_|refine pU ?_|refine pif ?_ ?_<;>intro h<;>try exact pN h)<;>push_cast [O,U])
  ·(refine retK_of [] ?_;push_cast [O,U])
   exact ⟨_,_,leP_refl _,leOs_refl _,k,.inr ⟨k,rfl,hlt,h.symm⟩,rfl,rfl⟩
  ·refine ⟨k+1,⟨by omega,?_⟩,by (refine weak_fg ?_;push_cast [O,U]),by omega⟩
   rw [List.take_succ_eq_append_getElem hlt]
   simp only [List.mem_append,List.mem_singleton,not_or]
   exact ⟨hpre,by rw [← e1];exact h⟩
 ·rw [List.take_of_length_le (by omega)] at hpre
  repeat' ((first|refine pG ?_|refine pQ ?_|refine pU ?_|refine pif ?_ ?_<;>intro h<;>try exact pN h)<;>push_cast [O,U])
  (refine retK_of [] ?_;push_cast [O,U])
  exact ⟨_,_,leP_refl _,leOs_refl _,-1,.inl ⟨rfl,hpre⟩,rfl,rfl⟩
theorem containsD_pure (l:List ByteArray) (s:ByteArray) (hl:l.length≤1000000000) :
  PCalls Tryz.prog 92 [.c (.sl 1 (l.map strD)),.c (.v (.string s))] [] fun r os=>r = .c (.v (.bool (inM s l)))∧os=[]:=by
 refine pcalls_of Tryz.func92 rfl (by simp [Tryz.ntmps92]) ?_
 rw [Tryz.ntmps92,Tryz.results92]
 push_cast [O,U]
 repeat' ((first|(refine plc [] (index_pure l s hl) ?_ ?_;push_cast [O,U];rintro r os ⟨k,hk,rfl,rfl⟩)|refine pG ?_|refine pQ ?_|refine pU ?_|refine pif ?_ ?_<;>intro h<;>try exact pN h)<;>push_cast [O,U])
 (refine retK_of [] ?_;push_cast [O,U])
 rcases hk with ⟨rfl,h⟩|⟨i,rfl,hi,rfl⟩
 ·rw [inM_false.2 h];rfl
 ·rw [inM_iff.2 (by rw [getD_lt l hi];exact List.getElem_mem _)];simp
theorem delete_pure (l:List ByteArray) (i:Nat) (hi:i < l.length) (hl:l.length≤1000000000) :
  PCalls Tryz.prog 96 [.c (.own 0 l.length),.c (.v (.int .i64 i)),.c (.v (.int .i64 (i+1)))] [.arr 9 1 (l.map strD)] fun r os=>r = .c (.own 0 (l.length - 1))∧os=[.arr 9 1 ((l.take i++(l.drop (i+1)++[(⟨#[]⟩:ByteArray)])).map strD)]:=by
 refine pcalls_of Tryz.func96 rfl (by simp [Tryz.ntmps96]) ?_
 rw [Tryz.ntmps96,Tryz.results96]
 have e1:i+(l.length - (i+1))=l.length - 1:=by omega
 push_cast [O,U]
 repeat' ((first|(refine pwp_drawn_to ⟨[(7,.c (.v (.int .i64 l.length))),(0,.c (.own 0 (l.length - 1)))],[.arr 9 1 ((l.map strD).take i++((l.map strD).drop (i+1)++(l.map strD).drop (l.length - 1)))]⟩ (by kernel_rfl) ?_ ?_;(focus (simp only [List.length_cons,List.length_nil,Nat.reduceAdd];(repeat' first|((first|refine pah 0 ?_|refine pah 1 ?_|refine pah 2 ?_|refine pah 3 ?_|refine pah 4 ?_|refine pah 5 ?_|refine pah 7 ?_);push_cast [O,U,  e1 ])|(refine pad ?_;refine weak_fg ?_;push_cast [O,U,  e1 ])|((first|refine pas [6] ?_);push_cast [O,U,  e1 ]));done));push_cast [O,U,  e1 ])|refine pG ?_|refine pQ ?_|refine pU ?_|refine pif ?_ ?_<;>intro h<;>try exact pN h)<;>push_cast [O,U,e1])
 (refine retK_of [0] ?_;push_cast [O,U])
 have h1:l.length - (l.length - 1)=1:=by omega
 have h2:((l.map strD).take i++(l.map strD).drop (i+1)).length=l.length - 1:=by simp;omega
 have h3:((l.map strD).take i++((l.map strD).drop (i+1)++(l.map strD).drop (l.length - 1)))=((l.map strD).take i++(l.map strD).drop (i+1))++(l.map strD).drop (l.length - 1):=by rw [List.append_assoc]
 have h4:(((l.map strD).take i++(l.map strD).drop (i+1))++(l.map strD).drop (l.length - 1)).drop (l.length - 1+1)=[]:=List.drop_eq_nil_of_le (by simp only [List.length_append,List.length_take,List.length_drop,List.length_map];omega)
 rw [h1,h3,List.take_left' h2,h4]
 simp [List.map_take,List.map_drop,List.append_assoc,strD]
def Pred (P:Program) (g:FuncId) (ks:List Nat) (os:List Ob) (l:List ByteArray) (q:ByteArray → Bool):Prop:=bodyOk P g=true∧∀ x ∈ l,PCalls P g (.c (.v (.string x)) :: ks.map fun k=>.c (.ptr k 0)) os fun r os'=>r = .c (.v (.bool (q x)))∧os'=os
def idxQ (q:ByteArray → Bool) (l:List ByteArray) (k:Int):Prop:=(k = -1∧∀ x ∈ l,q x=false)∨∃ i:Nat,k=i∧i < l.length∧q (l.getD i default)=true∧∀ x ∈ l.take i,q x=false
theorem allSome_ptr:∀ ks:List Nat,allSome (ks.map fun k=>some (PV.c (.ptr k 0))) (ks.map fun k=>PV.c (.ptr k 0))
 | []=>trivial
 | k :: ks=>⟨leP_refl _,allSome_ptr ks⟩
theorem indexFunc_pure (l:List ByteArray) (hl:l.length≤1000000000) (g:FuncId) (ks:List Nat) (rest:List Ob) (q:ByteArray → Bool) (hp:Pred Tryz.prog g ks (.arr 9 1 (l.map strD) :: rest) l q) :
  PCalls Tryz.prog 123 [.c (.own 0 l.length),.c (.fn (.func g) [] ks)] (.arr 9 1 (l.map strD) :: rest) fun r os=>∃ k,idxQ q l k∧r = .c (.v (.int .i64 k))∧os = .arr 9 1 (l.map strD) :: rest:=by
 refine pcalls_of_all Tryz.func123 rfl (by simp [Tryz.ntmps123]) ?_
 rw [Tryz.ntmps123,Tryz.results123]
 push_cast [O,U]
 repeat' ((first|refine pG ?_|refine pQ ?_|refine pU ?_|refine pif ?_ ?_<;>intro h<;>try exact pN h)<;>push_cast [O,U])
 refine pwp_loop2 (α:=Nat) (fun k=>k≤l.length∧∀ x ∈ l.take k,q x=false) (fun k=>⟨[(8,.c (.v (.int .i64 k))),(7,.c (.v (.int .i64 l.length))),(6,.c (.own 0 l.length)),(0,.c (.own 0 l.length)),(1,.c (.fn (.func g) [] ks))],.arr 9 1 (l.map strD) :: rest⟩) (fun k=>l.length - k) 0 ⟨by omega,by simp⟩ (weak_slots (by push_cast [O,U]) rfl) ?_
 rintro k ⟨hk,hpre⟩
 by_cases hlt:k < l.length
 ·have hm:l.getD k default ∈ l:=by rw [getD_lt l hlt];exact List.getElem_mem _
  have hc:=hp.2 _ hm
  have hpre2:q (l.getD k default)=false → ∀ x ∈ l.take (k+1),q x=false:=fun h x hx=>by
   rw [List.take_succ_eq_append_getElem hlt] at hx
   rcases List.mem_append.1 hx with hx|hx
   ·exact hpre x hx
   ·simp at hx;subst hx;rw [← getD_lt l hlt];exact h
  cases hq:q (l.getD k default)
  all_goals rw [hq] at hc
  all_goals repeat' ((first|(refine pl_call_all rfl (by push_cast [O,U]) rfl hp.1 (by push_cast [O,U]) ?_ hc ?_;(focus (unfold callArgs;push_cast [O,U];exact allSome_ptr ks));rintro r os ⟨rfl,rfl⟩;refine pl_of_pops ?_)|refine pG ?_|refine pQ ?_|refine pU ?_|refine pif ?_ ?_<;>intro h<;>try exact pN h)<;>push_cast [O,U])
  ·exact ⟨k+1,⟨by omega,hpre2 hq⟩,weak_slots (by push_cast [O,U]) rfl,by omega⟩
  ·exact ⟨_,rfl,by push_cast [O,U],k,.inr ⟨k,rfl,hlt,hq,hpre⟩,rfl,rfl⟩
 ·rw [List.take_of_length_le (by omega)] at hpre
  repeat' ((first|refine pG ?_|refine pQ ?_|refine pU ?_|refine pif ?_ ?_<;>intro h<;>try exact pN h)<;>push_cast [O,U])
  exact ⟨_,rfl,by push_cast [O,U],-1,.inl ⟨rfl,hpre⟩,rfl,rfl⟩
theorem containsFunc_pure (l:List ByteArray) (hl:l.length≤1000000000) (g:FuncId) (ks:List Nat) (rest:List Ob) (q:ByteArray → Bool) (hp:Pred Tryz.prog g ks (.arr 9 1 (l.map strD) :: rest) l q) :
  PCalls Tryz.prog 73 [.c (.own 0 l.length),.c (.fn (.func g) [] ks)] (.arr 9 1 (l.map strD) :: rest) fun r os=>r = .c (.v (.bool (l.any q)))∧os = .arr 9 1 (l.map strD) :: rest:=by
 refine pcalls_of_all Tryz.func73 rfl (by simp [Tryz.ntmps73]) ?_
 rw [Tryz.ntmps73,Tryz.results73]
 push_cast [O,U]
 repeat' ((first|(refine pl_call_all rfl (by push_cast [O,U]) rfl (by kernel_rfl) (by push_cast [O,U]) ?_ (indexFunc_pure l hl g ks rest q hp) ?_;(focus (unfold callArgs;push_cast [O,U]));rintro r os ⟨k,hk,rfl,rfl⟩;refine pl_of_pops ?_)|refine pG ?_|refine pQ ?_|refine pU ?_|refine pif ?_ ?_<;>intro h<;>try exact pN h)<;>push_cast [O,U])
 refine ⟨_,rfl,by push_cast [O,U],?_,rfl⟩
 rcases hk with ⟨rfl,h⟩|⟨i,rfl,hi,hq,_⟩
 ·have:l.any q=false:=by rw [List.any_eq_false];intro x hx;simp [h x hx]
  rw [this];rfl
 ·have:l.any q=true:=List.any_eq_true.2 ⟨l.getD i default,by rw [getD_lt l hi];exact List.getElem_mem _,hq⟩
  rw [this];simp
def wmL:List Mod:=[⟨⟨#[104,105,100]⟩,[⟨#[117,115,98,58,118,49,42]⟩],[],[],[],false⟩,⟨⟨#[110,105,99]⟩,[⟨#[112,99,105,58,100,50]⟩,⟨#[117,115,98,58,118,50]⟩],[⟨#[99,111,114,101]⟩],[],[],false⟩,⟨⟨#[99,111,114,101]⟩,[],[],[],[⟨#[101,120,116,114,97]⟩],false⟩,⟨⟨#[101,120,116,114,97]⟩,[],[],[⟨#[104,105,100]⟩],[],false⟩,⟨⟨#[111,116,104,101,114]⟩,[⟨#[117,115,98,58,42]⟩],[],[⟨#[101,120,116,114,97]⟩],[],false⟩,⟨⟨#[98,97,100]⟩,[⟨#[112,99,105,58,42]⟩],[],[],[],true⟩,⟨⟨#[114,105,110,103]⟩,[],[⟨#[114,105,110,103,50]⟩],[],[],false⟩,⟨⟨#[114,105,110,103,50]⟩,[],[⟨#[114,105,110,103]⟩],[],[],false⟩]
set_option maxHeartbeats 2000000 in
theorem wmods_pure (L:List Int) (k:Nat) (hk:k < 2000) (hL:∀ x ∈ L,-9223372036854775808≤x∧x≤9223372036854775807) (hl:L.length≤9223372036854775807) :
  PCalls Tryz.prog 13 [.c (.ptr 0 0)] [tape L k] fun r os=>∃ l:List Mod,l.Sublist wmL∧r = .c (.sl 6 (l.map Mod.d))∧os=[tape L (k+8)]:=by
 refine pcalls_of Tryz.func13 rfl (by simp [Tryz.ntmps13]) ?_
 rw [Tryz.ntmps13,Tryz.results13]
 push_cast [O,U]
 repeat' ((first|refine pG ?_|refine pQ ?_|refine pU ?_|refine pif ?_ ?_<;>intro h<;>try exact pN h)<;>push_cast [O,U])
 refine pwp_weak (weak_rows 3 (wmL.map Mod.d) rfl (by simp [wmL,Mod.d,leRows,leDs,leD,isEmp,strD])) ?_
 refine pwp_weak (weak_adopt 4 33 6 (by omega) (by push_cast [O,U])) ?_
 push_cast [O,U]
 refine pwp_loop2 (α:=Nat × List Mod) (fun x=>x.1≤8∧x.2.Sublist (wmL.take x.1)) (fun x=>⟨[(5,.c (.v (.int .i64 x.1))),(4,.c (.own 1 x.2.length)),(3,.c (.sl 6 (wmL.map Mod.d))),(0,.c (.ptr 0 0))],[tape L (k+x.1),.arr 33 6 (x.2.map Mod.d)]⟩) (fun x=>8 - x.1) (0,[]) ⟨by simp,by simp⟩ (by (refine weak_fg ?_;push_cast [O,U]);try omega) ?_
 rintro ⟨i,l⟩ ⟨hi,hs⟩
 simp only at hi hs
 have h8:wmL.length=8:=rfl
 have hll:=hs.length_le
 rw [List.length_take] at hll
 by_cases hlt:i < 8
 ·obtain ⟨hb,hc⟩:=fold_bds (tapeAt L (k+i)) 4 (by omega)
  obtain ⟨v,hv⟩:∃ v,fold (tapeAt L (k+i)) 4=v:=⟨_,rfl⟩
  rw [hv] at hb hc
  have hst:wmL.take (i+1)=wmL.take i++[wmL[i]]:=List.take_succ_eq_append_getElem (by omega)
  by_cases h0:0 < v
  all_goals repeat' ((first|refine plE [0] (next_pure L (k+i) 4 (by omega) (by omega) hL hl) ?_ ?_|refine pG ?_|refine pQ ?_|refine pU ?_|refine pif ?_ ?_<;>intro h<;>try exact pN h)<;>push_cast [O,U,hv,h8])
  ·refine ⟨(i+1,l++[wmL.getD i default]),⟨by simp only;omega,?_⟩,by (refine weak_fg ?_;push_cast [O,U]);try omega,by simp only;omega⟩
   simp only [hst]
   rw [getD_lt wmL (by omega)]
   exact hs.append (List.Sublist.refl _)
  ·exact ⟨(i+1,l),⟨by simp only;omega,by simp only [hst];exact hs.trans (List.sublist_append_left _ _)⟩,by (refine weak_fg ?_;push_cast [O,U]);try omega,by simp only;omega⟩
 ·have h:i=8:=by omega
  subst h
  have he:=List.take_of_length_le (l:=l.map Mod.d) (i:=l.length) (by simp)
  repeat' ((first|refine pG ?_|refine pQ ?_|refine pU ?_|refine pif ?_ ?_<;>intro h<;>try exact pN h)<;>push_cast [O,U,h8])
  (refine retK_of [0] ?_;push_cast [O,U])
  exact ⟨.c (.sl 6 (l.map Mod.d)),[tape L (k+8)],by first|exact ⟨rfl,rfl⟩|(rw [he];exact ⟨rfl,rfl⟩),by push_cast [O,U],l,hs.trans (List.take_sublist _ _),rfl,rfl⟩
theorem anyAt_all {α:Type} {p:α → Bool} {l:List α} {k:Nat} (hk:k < l.length) [Inhabited α] (h:p (l.getD k default)=true):l.any p=true:=List.any_eq_true.2 ⟨l.getD k default,by rw [getD_lt l hk];exact List.getElem_mem _,h⟩
theorem anyAt_go {α:Type} [Inhabited α] {p:α → Bool} {l:List α} {k:Nat} (hk:k < l.length) (h:(l.take k).any p=false) (h2:p (l.getD k default)=false):(l.take (k+1)).any p=false:=by
 rw [List.take_succ_eq_append_getElem hk,List.any_append,h]
 rw [getD_lt l hk] at h2
 simp [h2]
set_option maxHeartbeats 4000000 in
theorem wsome_ex (L:List Int) (k:Nat) (l:List Dev) (hk:k < 100000) (hll:l.length≤1000) (hL:∀ x ∈ L,-9223372036854775808≤x∧x≤9223372036854775807) (hl:L.length≤9223372036854775807) :
  PCalls Tryz.prog 49 [.c (.ptr 0 0),.agg (trE l)] [tape L k] fun r os=>∃ (v:Int) (k':Nat),k'≤k+2∧r = .c (.v (.int .i64 v))∧os=[tape L k']:=by
 refine pcalls_of Tryz.func49 rfl (by simp [Tryz.ntmps49]) ?_
 rw [Tryz.ntmps49,Tryz.results49]
 push_cast [O,U]
 have cB:CutB 6 [15]:=trivial
 by_cases h0:0 < l.length
 case neg =>
  have h0':¬ (0:Int) < (l.length:Int):=by omega
  have n1:=next_ex L k 40 (by omega) (by decide) (by decide) hL hl
  repeat' ((first|(refine plc [0] (n1) ?_ ?_;push_cast [O,U,h0'];rintro r os ⟨v,⟨va,vb⟩,rfl,rfl⟩)|refine pC ?_|refine pQC ?_|refine pU ?_|refine pif ?_ ?_<;>intro h<;>try exact pN h)<;>push_cast [O,U,h0'])
  (refine retK_of [0] ?_;push_cast [O,U])
  exact ⟨_,_,leP_refl _,leOs_refl _,v - 1,k+1,by omega,rfl,rfl⟩
 have h0':(0:Int) < (l.length:Int):=by omega
 have n1:=next_ex L k 8 (by omega) (by decide) (by decide) hL hl
 have n2:=next_ex L (k+1) 40 (by omega) (by decide) (by decide) hL hl
 have n3:=next_pure L (k+1) l.length (by omega) (by omega) hL hl
 obtain ⟨hb1,hb2⟩:=fold_bds (tapeAt L (k+1)) l.length h0'
 obtain ⟨g,hg⟩:∃ g:Nat,fold (tapeAt L (k+1)) l.length=(g:Int):=⟨(fold (tapeAt L (k+1)) l.length).toNat,by omega⟩
 rw [hg] at n3 hb2
 have hgl:g < l.length:=by omega
 repeat' ((first|(refine plc [0] (n1) ?_ ?_;push_cast [O,U,h0'];rintro r os ⟨v,⟨va,vb⟩,rfl,rfl⟩)|(refine hidR 3 ?_)|(refine plc [0] (n2) ?_ ?_;push_cast [O,U,h0'];rintro r os ⟨v2,⟨va2,vb2⟩,rfl,rfl⟩)|refine pC ?_|refine pQC ?_|refine pU ?_|refine pif ?_ ?_<;>intro h<;>try exact pN h)<;>push_cast [O,U,h0'])
 ·refine unhid ?_
  (refine pwp_cut 6 [15] ?_;refine pwp_drawn (by kernel_rfl) ?_;simp only [List.length_cons,List.length_nil,Nat.reduceAdd];refine pah 0 ?_;push_cast [O,U];refine pah 2 ?_;push_cast [O,U];refine pah 3 ?_;push_cast [O,U];apply pa_hav;intro z4;apply pa_hav;intro z3;apply pa_hav;intro z1;apply pa_hav;intro z2;refine pas [1,4] ?_;push_cast [O,U];refine ⟨?_,?_⟩;(focus (exact z1));(focus ((first|((refine plE [0] n3 ?_ ?_;(focus (push_cast [O,U];done));push_cast [O,U])));exact z2));refine pas [1] ?_;push_cast [O,U];(focus (refine pah 5 ?_;push_cast [O,U];refine pah 6 ?_;push_cast [O,U];exact z3));refine pas [4] ?_;push_cast [O,U];(focus ((first|((refine plE [0] n3 ?_ ?_;(focus (push_cast [O,U];done));push_cast [O,U])));refine pah 5 ?_;push_cast [O,U];refine pah 6 ?_;push_cast [O,U];refine paw z3 ?_;refine weak_fg ?_;push_cast [O,U]));refine pas [7] ?_;push_cast [O,U];(focus (refine pah 8 ?_;push_cast [O,U];exact paw z4 (weak_cutS 6 [15] _)));push_cast [O,U];refine pad ?_;push_cast [O,U])
  repeat' ((first|refine pC ?_|refine pQC ?_|refine pU ?_|refine pif ?_ ?_<;>intro h<;>try exact pN h)<;>push_cast [O,U])
  (refine retK_of [0] ?_;push_cast [O,U])
  exact ⟨_,_,leP_refl _,leOs_refl _,_,k+1+1,by omega,rfl,rfl⟩
 ·(refine retK_of [0] ?_;push_cast [O,U])
  exact ⟨_,_,leP_refl _,leOs_refl _,v2 - 1,k+1+1,by omega,rfl,rfl⟩
end Go.Proofs.YtmbbkfffcflfcaaGreatDoor
