/- What the program computes, and the plain laws of it, part 28. -/
import Derived.Test.YtmjffgienmcabaaGreatDoorR24
import Derived.Test.YtmjffgienmcabaaGreatDoorR27
namespace Go.Proofs.YtmjffgienmcabaaGreatDoor
attribute [local irreducible] PL QL PWPr PCalls Weak RetK Kontr PA
open Go.RowKit
open IntWalk renaming iteOmega → iO, toNatUp → tN
set_option linter.unusedVariables false
set_option linter.unusedSimpArgs false
set_option maxRecDepth 20000
def PredW (P:Program) (g:FuncId) (ks:List Nat) (os:List Ob) (l:List ByteArray) (q:ByteArray → Bool):Prop:=bodyOk P g=true∧∀ x ∈ l,PCalls P g (.c (.v (.string x)) :: ks.map fun k=>.c (.ptr k 0)) os fun r os'=>r = .c (.v (.bool (q x)))∧os'=os
theorem indexFuncW_pure (l:List ByteArray) (hl:l.length≤1000000000) (g:FuncId) (ks:List Nat) (os:List Ob) (q:ByteArray → Bool) (hp:PredW Tryz.prog g ks os l q) :
  PCalls Tryz.prog 59 [.c (.sl 1 (l.map strD)),.c (.fn (.func g) [] ks)] os fun r os'=>∃ k,idxQ q l k∧r = .c (.v (.int .i64 k))∧os'=os:=by
 refine pcalls_of_all Tryz.func59 rfl (by simp [Tryz.ntmps59]) ?_
 rw [Tryz.ntmps59,Tryz.results59]
 push_cast [iO,tN]
 repeat' (first|((first|refine pG ?_|refine pQ ?_|refine pU ?_);push_cast [iO,tN])|(refine pif (fun h=>?_) (fun h=>?_)<;>first|exact pN h|push_cast [iO,tN]))
 refine pwp_loop2 (α:=Nat) (fun k=>k≤l.length∧∀ x ∈ l.take k,q x=false) (fun k=>⟨[(8,.c (.v (.int .i64 k))),(7,.c (.v (.int .i64 l.length))),(6,.c (.sl 1 (l.map strD))),(0,.c (.sl 1 (l.map strD))),(1,.c (.fn (.func g) [] ks))],os⟩) (fun k=>l.length - k) 0 ⟨by omega,by simp⟩ (weak_slots (by push_cast [iO,tN]) rfl) ?_
 rintro k ⟨hk,hpre⟩
 by_cases hlt:k < l.length
 ·have hm:l.getD k default ∈ l:=by rw [getD_lt l hlt];exact List.getElem_mem _
  have hc:=hp.2 _ hm
  have hpre2:q (l.getD k default)=false → ∀ x ∈ l.take (k+1),q x=false:=fun h x hx=>by
   rw [List.take_succ_eq_append_getElem hlt] at hx
   rcases List.mem_append.1 hx with hx|hx
   ·exact hpre x hx
   ·simp at hx;subst hx;rw [← getD_lt l hlt];exact h
  cases hq:q (l.getD k default)
  all_goals rw [hq] at hc
  all_goals repeat' (first |  (refine pl_call_all rfl (by push_cast [iO,tN]) rfl hp.1 (by push_cast [iO,tN]) ?_ hc ?_;(focus (unfold callArgs;push_cast [iO,tN];exact allSome_ptr ks));rintro r os ⟨rfl,rfl⟩;refine pl_of_pops ?_;push_cast [iO,tN])  | ((first|refine pG ?_|refine pQ ?_|refine pU ?_);push_cast [iO,tN])|(refine pif (fun h=>?_) (fun h=>?_)<;>first|exact pN h|push_cast [iO,tN]))
  ·exact ⟨k+1,⟨by omega,hpre2 hq⟩,weak_slots (by push_cast [iO,tN]) rfl,by omega⟩
  ·exact ⟨_,rfl,by push_cast [iO,tN],k,.inr ⟨k,rfl,hlt,hq,hpre⟩,rfl,rfl⟩
 ·rw [List.take_of_length_le (by omega)] at hpre
  repeat' (first|((first|refine pG ?_|refine pQ ?_|refine pU ?_);push_cast [iO,tN])|(refine pif (fun h=>?_) (fun h=>?_)<;>first|exact pN h|push_cast [iO,tN]))
  exact ⟨_,rfl,by push_cast [iO,tN],-1,.inl ⟨rfl,hpre⟩,rfl,rfl⟩
theorem containsFuncW_pure (l:List ByteArray) (hl:l.length≤1000000000) (g:FuncId) (ks:List Nat) (os:List Ob) (q:ByteArray → Bool) (hp:PredW Tryz.prog g ks os l q) :
  PCalls Tryz.prog 61 [.c (.sl 1 (l.map strD)),.c (.fn (.func g) [] ks)] os fun r os'=>r = .c (.v (.bool (l.any q)))∧os'=os:=by
 refine pcalls_of_all Tryz.func61 rfl (by simp [Tryz.ntmps61]) ?_
 rw [Tryz.ntmps61,Tryz.results61]
 push_cast [iO,tN]
 repeat' (first |  (refine pl_call_all rfl (by push_cast [iO,tN]) rfl (by kernel_rfl) (by push_cast [iO,tN]) ?_ (indexFuncW_pure l hl g ks os q hp) ?_;(focus (unfold callArgs;push_cast [iO,tN]));rintro r os ⟨k,hk,rfl,rfl⟩;refine pl_of_pops ?_;push_cast [iO,tN])  | ((first|refine pG ?_|refine pQ ?_|refine pU ?_);push_cast [iO,tN])|(refine pif (fun h=>?_) (fun h=>?_)<;>first|exact pN h|push_cast [iO,tN]))
 refine ⟨_,rfl,by push_cast [iO,tN],?_,rfl⟩
 rcases hk with ⟨rfl,h⟩|⟨i,rfl,hi,hq,_⟩
 ·have:l.any q=false:=by rw [List.any_eq_false];intro x hx;simp [h x hx]
  rw [this];rfl
 ·have:l.any q=true:=List.any_eq_true.2 ⟨l.getD i default,by rw [getD_lt l hi];exact List.getElem_mem _,hq⟩
  rw [this];simp
def mayV (M:List Mod) (T:List ByteArray) (s:ByteArray):Bool:=match modOf M s with
 | none=>false
 | some m=>!(m.needs.any fun x=>!inM x T)
def shouldV (M:List Mod) (T R:List ByteArray) (s:ByteArray):Bool:=mayV M T s && !(((modOf M s).getD noMod).pre.any fun x=>inM x R)
abbrev mayF:E:=.fn (.func 67) [] [2,4]
def orderOs (M:List Mod) (T R:List ByteArray):List Ob:=[.arr 9 1 (R.map strD),.map none true (modsE M),.box 109 [.mp 1],.map none false (setE T),.box 67 [.mp 3],.box 29 [.own 0 R.length],.box 107 [mayF]]
theorem order1_pure (a:Ob) (T:List ByteArray) (s:ByteArray) :
  PCalls Tryz.prog 66 [.c (.v (.string s)),.c (.ptr 2 0)] [a,.map none false (setE T),.box 67 [.mp 1]] fun r os=>r = .c (.v (.bool (inM s T)))∧os=[a,.map none false (setE T),.box 67 [.mp 1]]:=by
 refine pcalls_of_all Tryz.func66 rfl (by simp [Tryz.ntmps66]) ?_
 rw [Tryz.ntmps66,Tryz.results66]
 push_cast [iO,tN]
 repeat' (first|((first|refine pG ?_|refine pQ ?_|refine pU ?_);push_cast [iO,tN])|(refine pif (fun h=>?_) (fun h=>?_)<;>first|exact pN h|push_cast [iO,tN]))
 exact ⟨_,rfl,by push_cast [iO,tN],rfl,rfl⟩
theorem order21_pure (M:List Mod) (T R:List ByteArray) (s:ByteArray) :
  PCalls Tryz.prog 68 [.c (.v (.string s)),.c (.ptr 4 0)] (orderOs M T R) fun r os=>r = .c (.v (.bool (!inM s T)))∧os=orderOs M T R:=by
 unfold orderOs
 refine pcalls_of_all Tryz.func68 rfl (by simp [Tryz.ntmps68]) ?_
 rw [Tryz.ntmps68,Tryz.results68]
 push_cast [iO,tN]
 repeat' (first|((first|refine pG ?_|refine pQ ?_|refine pU ?_);push_cast [iO,tN])|(refine pif (fun h=>?_) (fun h=>?_)<;>first|exact pN h|push_cast [iO,tN]))
 exact ⟨_,rfl,by push_cast [iO,tN],rfl,rfl⟩
theorem order2_pure (M:List Mod) (T R:List ByteArray) (s:ByteArray) (hl:∀ n,(needsOf M n).length≤1000000000) :
  PCalls Tryz.prog 67 [.c (.v (.string s)),.c (.ptr 2 0),.c (.ptr 4 0)] (orderOs M T R) fun r os=>r = .c (.v (.bool (mayV M T s)))∧os=orderOs M T R:=by
 have hcf:∀ l:List ByteArray,l.length≤1000000000 → PCalls Tryz.prog 61 [.c (.sl 1 (l.map strD)),.c (.fn (.func 68) [] [4])] (orderOs M T R) fun r os'=>r = .c (.v (.bool (l.any fun x=>!inM x T)))∧os'=orderOs M T R:=fun l h=>containsFuncW_pure l h _ _ _ _ ⟨by kernel_rfl,fun x _=>order21_pure M T R x⟩
 have hlen:=hl s
 unfold needsOf at hlen
 unfold mayV
 unfold orderOs at hcf ⊢
 refine pcalls_of Tryz.func67 rfl (by simp [Tryz.ntmps67]) ?_
 rw [Tryz.ntmps67,Tryz.results67]
 cases hm:modOf M s with
 | none =>
  push_cast [iO,tN]
  repeat' (first|((first|refine pG ?_|refine pQ ?_|refine pU ?_);push_cast [iO,tN,mget_mods,hm])|(refine pif (fun h=>?_) (fun h=>?_)<;>first|exact pN h|push_cast [iO,tN,mget_mods,hm]))
  (refine retK_of [0,1,2,3,4,5,6] ?_;push_cast [iO,tN])
 | some m =>
  rw [hm] at hlen
  have hc:=hcf m.needs hlen
  push_cast [iO,tN]
  repeat' (first|(refine plc [0,1,2,3,4,5,6] (hc) ?_ ?_;push_cast [iO,tN,mget_mods,hm];rintro r os ⟨rfl,rfl⟩;push_cast [iO,tN,mget_mods,hm])|((first|refine pG ?_|refine pQ ?_|refine pU ?_);push_cast [iO,tN,mget_mods,hm])|(refine pif (fun h=>?_) (fun h=>?_)<;>first|exact pN h|push_cast [iO,tN,mget_mods,hm]))
  (refine retK_of [0,1,2,3,4,5,6] ?_;push_cast [iO,tN])
theorem order31_pure (M:List Mod) (T R:List ByteArray) (s:ByteArray) (hR:R.length≤1000000000) :
  PCalls Tryz.prog 70 [.c (.v (.string s)),.c (.ptr 5 0)] (orderOs M T R) fun r os=>r = .c (.v (.bool (inM s R)))∧os=orderOs M T R:=by
 unfold orderOs
 refine pcalls_of Tryz.func70 rfl (by simp [Tryz.ntmps70]) ?_
 rw [Tryz.ntmps70,Tryz.results70]
 push_cast [iO,tN]
 repeat' (first |  (refine pl_call2 true [] rfl rfl (by kernel_rfl) (containsD_pure R s hR) ?_ ?_ ?_;push_cast [iO,tN];(intro _ r os;rintro ⟨rfl,rfl⟩;push_cast [iO,tN]);rintro r os ⟨rfl,rfl⟩;refine pl_of_pops ?_;push_cast [iO,tN])  | ((first|refine pG ?_|refine pQ ?_|refine pU ?_);push_cast [iO,tN])|(refine pif (fun h=>?_) (fun h=>?_)<;>first|exact pN h|push_cast [iO,tN]))
 (refine retK_of [0,1,2,3,4,5,6] ?_;push_cast [iO,tN])
theorem order3_pure (M:List Mod) (T R:List ByteArray) (s:ByteArray) (hl:∀ n,(needsOf M n).length≤1000000000) (hl2:((modOf M s).getD noMod).pre.length≤1000000000) (hR:R.length≤1000000000) :
  PCalls Tryz.prog 69 [.c (.v (.string s)),.c (.ptr 6 0),.c (.ptr 2 0),.c (.ptr 5 0)] (orderOs M T R) fun r os=>r = .c (.v (.bool (shouldV M T R s)))∧os=orderOs M T R:=by
 have hcf:∀ l:List ByteArray,l.length≤1000000000 → PCalls Tryz.prog 61 [.c (.sl 1 (l.map strD)),.c (.fn (.func 70) [] [5])] (orderOs M T R) fun r os'=>r = .c (.v (.bool (l.any fun x=>inM x R)))∧os'=orderOs M T R:=fun l h=>containsFuncW_pure l h _ _ _ _ ⟨by kernel_rfl,fun x _=>order31_pure M T R x hR⟩
 have hmay:=order2_pure M T R s hl
 unfold shouldV
 cases hv:mayV M T s with
 | false =>
  rw [hv] at hmay
  unfold orderOs at hmay ⊢
  refine pcalls_of Tryz.func69 rfl (by simp [Tryz.ntmps69]) ?_
  rw [Tryz.ntmps69,Tryz.results69]
  push_cast [iO,tN]
  repeat' (first |  (refine plc [0,1,2,3,4,5,6] (hmay) ?_ ?_;push_cast [iO,tN];rintro r os ⟨rfl,rfl⟩;push_cast [iO,tN])  | ((first|refine pG ?_|refine pQ ?_|refine pU ?_);push_cast [iO,tN])|(refine pif (fun h=>?_) (fun h=>?_)<;>first|exact pN h|push_cast [iO,tN]))
  (refine retK_of [0,1,2,3,4,5,6] ?_;push_cast [iO,tN])
 | true =>
  rw [hv] at hmay
  have hm:∃ m,modOf M s=some m:=by
   unfold mayV at hv
   cases h:modOf M s with
   | none=>rw [h] at hv;cases hv
   | some m=>exact ⟨m,rfl⟩
  obtain ⟨m,hm⟩:=hm
  rw [hm] at hl2 ⊢
  have hc:=hcf m.pre hl2
  unfold orderOs at hmay hc ⊢
  refine pcalls_of Tryz.func69 rfl (by simp [Tryz.ntmps69]) ?_
  rw [Tryz.ntmps69,Tryz.results69]
  push_cast [iO,tN]
  repeat' (first|(refine plc [0,1,2,3,4,5,6] (hmay) ?_ ?_;push_cast [iO,tN,mget_mods,hm];rintro r os ⟨rfl,rfl⟩;push_cast [iO,tN,mget_mods,hm])|(refine plc [0,1,2,3,4,5,6] (hc) ?_ ?_;push_cast [iO,tN,mget_mods,hm];rintro r os ⟨rfl,rfl⟩;push_cast [iO,tN,mget_mods,hm])|((first|refine pG ?_|refine pQ ?_|refine pU ?_);push_cast [iO,tN,mget_mods,hm])|(refine pif (fun h=>?_) (fun h=>?_)<;>first|exact pN h|push_cast [iO,tN,mget_mods,hm]))
  (refine retK_of [0,1,2,3,4,5,6] ?_;push_cast [iO,tN])
  rfl
end Go.Proofs.YtmjffgienmcabaaGreatDoor
namespace Go.Proofs.YtmjffgienmcabaaGreatDoor
open Go.RowKit
open IntWalk renaming iteOmega → iO, toNatUp → tN
set_option linter.unusedVariables false
set_option linter.unusedSimpArgs false
theorem inM_congr {T T':List ByteArray} (h:∀ x,x ∈ T ↔ x ∈ T') (x:ByteArray):inM x T=inM x T':=by
 cases h':inM x T'
 ·rw [inM_false] at h' ⊢;rwa [h]
 ·rw [inM_iff] at h' ⊢;rwa [h]
theorem mayV_congr {M:List Mod} {T T':List ByteArray} (h:∀ x,x ∈ T ↔ x ∈ T') (s:ByteArray):mayV M T s=mayV M T' s:=by
 unfold mayV
 cases modOf M s with
 | none=>rfl
 | some m=>simp only [inM_congr h]
theorem shouldV_congr {M:List Mod} {T T' R:List ByteArray} (h:∀ x,x ∈ T ↔ x ∈ T') (s:ByteArray):shouldV M T R s=shouldV M T' R s:=by unfold shouldV;rw [mayV_congr h]
def chooseM (M:List Mod) (T R:List ByteArray):Option ByteArray:=match R.find? (shouldV M T R) with
 | some b=>some b
 | none=>R.find? (mayV M T)
def ordF (M:List Mod):Nat → List ByteArray → List ByteArray → List ByteArray
 | 0,_,_=>[]
 | n+1,T,R=>match chooseM M T R with
  | none=>[]
  | some b=>b :: ordF M n (T++[b]) (R.filter fun x=>decide (x≠b))
def ordM (M:List Mod) (T R:List ByteArray):List ByteArray:=ordF M R.length T R
theorem choose_mem {M:List Mod} {T R:List ByteArray} {b:ByteArray} (h:chooseM M T R=some b):b ∈ R:=by
 unfold chooseM at h
 split at h
 ·rename_i b' h1;cases h;exact List.mem_of_find?_eq_some h1
 ·exact List.mem_of_find?_eq_some h
theorem filter_len:∀ {R:List ByteArray} {b:ByteArray},R.Nodup → b ∈ R → (R.filter fun x=>decide (x≠b)).length+1=R.length
 | [],_,_,h=>by simp at h
 | a :: R,b,hn,h=>by
  obtain ⟨h1,h2⟩:=List.nodup_cons.1 hn
  by_cases e:a=b
  ·subst e
   rw [List.filter_cons_of_neg (by simp),List.filter_eq_self.2 fun x hx=>by simp;rintro rfl;exact h1 hx]
   rfl
  ·rw [List.filter_cons_of_pos (by simpa using e),List.length_cons,List.length_cons,filter_len h2 ((List.mem_cons.1 h).resolve_left fun e'=>e e'.symm)]
theorem del_eq {R:List ByteArray} {i:Nat} (hn:R.Nodup) (hi:i < R.length):R.take i++R.drop (i+1)=R.filter fun x=>decide (x≠R.getD i default):=by
 have h0:R=R.take i++R[i] :: R.drop (i+1):=by rw [← List.drop_eq_getElem_cons hi,List.take_append_drop]
 rw [getD_lt R hi]
 generalize hb:R[i]=b at *
 rw [h0,List.nodup_append] at hn
 obtain ⟨n1,n2,n3⟩:=hn
 obtain ⟨n4,n5⟩:=List.nodup_cons.1 n2
 conv=>rhs;rw [h0]
 rw [List.filter_append,List.filter_cons_of_neg (by simp),List.filter_eq_self.2 fun x hx=>by simp;rintro rfl;exact n3 _ hx _ (by simp) rfl,List.filter_eq_self.2 fun x hx=>by simp;rintro rfl;exact n4 hx]
theorem idx_none {q:ByteArray → Bool} {l:List ByteArray} (h:∀ x ∈ l,q x=false):l.find? q=none:=List.find?_eq_none.2 fun x hx=>by simp [h x hx]
theorem idx_some {q:ByteArray → Bool} {l:List ByteArray} {i:Nat} (hi:i < l.length) (h1:q (l.getD i default)=true) (h2:∀ x ∈ l.take i,q x=false):l.find? q=some (l.getD i default):=by
 rw [getD_lt l hi] at h1 ⊢
 rw [List.find?_eq_some_iff_append]
 refine ⟨h1,l.take i,l.drop (i+1),by rw [← List.drop_eq_getElem_cons hi,List.take_append_drop],fun x hx=>by simp [h2 x hx]⟩
structure OInv (M:List Mod) (ld R0 out T R:List ByteArray):Prop where
 asc:asc R
 there:∀ x,x ∈ T ↔ x ∈ ld++out
 eq:ordM M ld R0=out++ordF M R.length (ld++out) R
 len:R.length+out.length≤R0.length
theorem OInv.start {M:List Mod} {ld R0 T:List ByteArray} (h1:Go.Proofs.YtmjffgienmcabaaGreatDoor.asc R0) (h2:∀ x,x ∈ T ↔ x ∈ ld):OInv M ld R0 [] T R0:=⟨h1,by simpa using h2,by simp [ordM],by simp⟩
theorem OInv.step {M:List Mod} {ld R0 out T R:List ByteArray} {b:ByteArray} (h:OInv M ld R0 out T R) (hc:chooseM M (ld++out) R=some b):OInv M ld R0 (out++[b]) (addS T b) (R.filter fun x=>decide (x≠b)):=by
 have hb:=choose_mem hc
 have hl:=filter_len (asc_nodup h.asc) hb
 refine ⟨h.asc.sublist List.filter_sublist,fun x=>?_,?_,?_⟩
 ·rw [mem_addS,h.there];simp [or_assoc]
 ·rw [h.eq,← hl]
  simp only [ordF,hc,List.append_assoc,List.cons_append,List.nil_append]
 ·have:=h.len;simp only [List.length_append,List.length_cons,List.length_nil];omega
theorem OInv.stop {M:List Mod} {ld R0 out T R:List ByteArray} (h:OInv M ld R0 out T R) (hc:chooseM M (ld++out) R=none):ordM M ld R0=out:=by
 rw [h.eq]
 cases R.length with
 | zero=>simp [ordF]
 | succ n=>simp [ordF,hc]
theorem OInv.choose {M:List Mod} {ld R0 out T R:List ByteArray} (h:OInv M ld R0 out T R):chooseM M (ld++out) R=chooseM M T R:=by
 unfold chooseM
 rw [funext (shouldV_congr h.there),funext (mayV_congr h.there)]
def restM (ld names:List ByteArray):List ByteArray:=ascOf (names.filter fun x=>!inM x ld)
theorem restM_spec (ld names:List ByteArray):asc (restM ld names)∧(∀ x,x ∈ restM ld names ↔ x ∈ names∧x ∉ ld)∧(restM ld names).length≤names.length:=by
 obtain ⟨h1,h2,h3⟩:=ascOf_spec (names.filter fun x=>!inM x ld)
 refine ⟨h1,fun x=>?_,Nat.le_trans h3 (List.length_filter_le _ _)⟩
 rw [restM,h2,List.mem_filter]
 simp only [Bool.not_eq_true',inM_false]
theorem filter_congr_in {T T' names:List ByteArray} (h:∀ x,x ∈ T ↔ x ∈ T'):(names.filter fun x=>!inM x T)=names.filter fun x=>!inM x T':=by simp only [inM_congr h]
def cmpB (l:List ByteArray):List ByteArray:=(Lib.compact (l.map (·.data.toList))).map unB
theorem cmpB_len (l:List ByteArray):(cmpB l).length=(Lib.compact (l.map (·.data.toList))).length:=by rw [cmpB,List.length_map]
end Go.Proofs.YtmjffgienmcabaaGreatDoor
