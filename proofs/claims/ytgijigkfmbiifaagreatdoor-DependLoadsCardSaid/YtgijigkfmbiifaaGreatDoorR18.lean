/- What the program computes, and the plain laws of it, part 18. -/
import Derived.Lib.OwnBridge
import Derived.Test.YtgijigkfmbiifaaGreatDoorR17
namespace Go.Proofs.YtgijigkfmbiifaaGreatDoor
attribute [local irreducible] PL QL PWPr PCalls Weak RetK Kontr PA
open Go.RowKit
open IntWalk renaming iteOmega → iO, toNatUp → tN
set_option linter.unusedVariables false
set_option linter.unusedSimpArgs false
theorem texts_rd {w:World} {I:Nat → Prop}:∀ (l:List ByteArray) (vs:List Value),All2 (RD w I) (l.map strD).flatten vs → vs=l.map Value.string
 | [],vs,h=>by simpa [All2.nil_l] using h
 | a :: l,vs,h=>by
  simp only [List.map_cons,List.flatten_cons,strD,List.cons_append,List.nil_append] at h
  obtain ⟨y,vs',rfl,h5,h6⟩:=All2.cons_l.1 h
  rw [RD] at h5
  rw [h5.1,texts_rd l vs' h6];rfl
theorem rd_texts {w:World} {I:Nat → Prop}:∀ (l:List ByteArray),All2 (RD w I) (l.map strD).flatten (l.map Value.string)
 | []=>trivial
 | a :: l=>⟨by rw [RD];exact ⟨rfl,rfl⟩,rd_texts l⟩
open Go.Sort Go.Lib in
theorem put_texts {Γ:G} {w:World} {l:List ByteArray} {rest:List Ob} (hm:MemOk Γ (.arr 9 1 (l.map strD) :: rest) w) (hc:0 < Γ.cap 0) (hl:0 < l.length) :
  Γ.β 0 < w.heap.size∧Holds encStr w (Γ.β 0) 0 (l.map (·.data.toList)).toArray∧l.length≤Γ.cap 0∧∀ (q:Nat) (gr:Array Obj) (ys:List (List UInt8)),ys.length=l.length →
   MemOk Γ (.arr 9 1 ((ys.map unB).map strD) :: rest) (grow (putRow encStr (Sort.ahead w q) (Γ.β 0) 0 ys.toArray) gr)∧Grow (rest.length+1) Γ w Γ (grow (putRow encStr (Sort.ahead w q) (Γ.β 0) 0 ys.toArray) gr):=by
 have hk:0 < Γ.n:=by rw [hm.n];simp
 obtain ⟨h1,h2,h3,h4⟩:=hm.ob 0 _ rfl
 obtain ⟨cur,hb,hs,hle,hmx,hrd⟩:=h4 hc
 have hcur:cur.toList.take (l.length * 1)=(l.map (·.data.toList)).map Go.Proofs.encStr:=by
  rw [map_encStr]
  have:=texts_rd _ _ hrd
  simpa using this
 have hle':l.length≤Γ.cap 0:=by simpa using hle
 have hown:w.ownsRow 0 9 1 (.slice (some ⟨Γ.β 0,0,none⟩) l.length (Γ.cap 0)) l.length ((l.map (·.data.toList)).map encStr) :=
  ⟨by simp,.inr ⟨Γ.β 0,Γ.cap 0,cur,rfl,Nat.zero_le _,hb,hle',hmx,hs,hcur⟩⟩
 obtain ⟨g,cap,e,_,i2,_,_,_,i6⟩:=holds_of_ownsRow hown (by simp)
 injection e with e1 e2 e3
 injection e1 with e1
 injection e1 with e1
 subst e1
 refine ⟨i2,i6,hle',fun q gr ys hy=>?_⟩
 have ho:=ownsRow_putRow (q:=q) (k:=l.length) hown hy (Nat.le_refl _)
 rw [List.take_of_length_le (by omega)] at ho
 have hsz:(putRow encStr (Sort.ahead w q) (Γ.β 0) 0 ys.toArray).heap.size=w.heap.size:=by simp [Sort.ahead]
 have hog:(grow (putRow encStr (Sort.ahead w q) (Γ.β 0) 0 ys.toArray) gr).ownsRow 0 9 1 (.slice (some ⟨Γ.β 0,0,none⟩) l.length (Γ.cap 0)) l.length (ys.map encStr):=by
  refine ⟨ho.1,?_⟩
  rcases ho.2 with ⟨e,_⟩|⟨g',cap',cur',e,k1,k2,k3,k4,k5,k6⟩
  ·cases e
  ·refine .inr ⟨g',cap',cur',e,k1,?_,k3,k4,k5,k6⟩
   injection e with e1
   injection e1 with e1
   injection e1 with e1
   subst e1
   simp only [grow]
   rw [Array.getElem?_append_left (by rw [hsz];exact i2)]
   exact k2
 obtain ⟨b,c,e,_,_,_,_,_,hro⟩:=arr_of_own (k:=0) (Γ:=Γ) (rows:=(ys.map unB).map strD) hog hl (by omega) (fun r hr=>by obtain ⟨z,_,rfl⟩:=List.mem_map.1 hr;rfl) (by simp [hy])
 injection e with e1 e2 e3
 injection e1 with e1
 injection e1 with e1
 subst e1 e3
 have hE:Ext (· = Γ.β 0) w (grow (putRow encStr (Sort.ahead w q) (Γ.β 0) 0 ys.toArray) gr):=by
  refine ⟨rfl,rfl,rfl,by simp [grow,hsz],fun k hk' hne=>?_⟩
  simp only [grow]
  rw [Array.getElem?_append_left (by rw [hsz];exact hk')]
  simp only [putRow,mapBlock,Sort.ahead,Array.getElem?_modify]
  rw [if_neg (fun h=>hne h.symm)]
 have hro':=hro Γ rfl rfl (by
  have:ys.map encStr=(ys.map unB).map Value.string:=by rw [List.map_map];exact List.map_congr_left fun x _=>by simp [encStr,unB]
  rw [this]
  exact rd_texts _)
 exact ⟨(hm.set_ hk hc hE _ hro').1,grow_set hk hc hE⟩
open Go.Sort Go.Lib in
theorem sort_pure (l:List ByteArray) (rest:List Ob) (hl:l.length≤1000000) :
  PCalls Tryz.prog 25 [.c (.own 0 l.length)] (.arr 9 1 (l.map strD) :: rest) fun r os=>r = .undef∧os = .arr 9 1 (((l.map (·.data.toList)).mergeSort fun x y=>decide (x≤y)).map unB |>.map strD) :: rest:=by
 unfold PCalls
 intro Γ w xs hm hx
 obtain ⟨y,m',rfl,h1,h2⟩:=All2.cons_l.1 hx
 rw [All2.nil_l] at h2
 subst h2
 rcases Nat.eq_zero_or_pos l.length with h0|h0
 ·have:l=[]:=List.eq_nil_of_length_eq_zero h0
  subst this
  have hy:∃ A c,y = .slice A 0 c:=by
   rcases h1.2 with ⟨_,⟨A,e⟩,_⟩|⟨_,e,_⟩
   ·exact ⟨A,0,e⟩
   ·exact ⟨_,_,e⟩
  obtain ⟨A,c,rfl⟩:=hy
  refine (AnyM.slices_Sort_string_none laysSlM6_f25 A c w).mono ?_
  rintro e w' ⟨rfl,rfl⟩
  exact ⟨_,_,Γ,_,rfl,⟨rfl,rfl⟩,rfl,by simp,by simpa using hm,Grow.refl _ _ _⟩
 ·rcases h1.2 with ⟨_,_,h3⟩|⟨hc,rfl,hle⟩
  ·omega
  ·obtain ⟨i1,i2,i3,i4⟩:=put_texts hm hc h0
   have:=AnyM.slices_Sort_string laysSlM6_f25 (Γ.β 0) 0 (Γ.cap 0) (l.map (·.data.toList)) w i2 i1 (by simp;omega)
   rw [List.length_map] at this
   refine this.mono ?_
   rintro e w' ⟨rfl,n,gr,rfl⟩
   obtain ⟨j1,j2⟩:=i4 n gr ((l.map (·.data.toList)).mergeSort fun x y=>decide (x≤y)) (by rw [(List.mergeSort_perm _ _).length_eq,List.length_map])
   exact ⟨_,_,Γ,_,rfl,⟨rfl,rfl⟩,rfl,by simp,j1,j2⟩
open Go.Sort Go.Lib in
theorem compact_pure (l:List ByteArray) (rest:List Ob) (hl:l.length≤1000000) :
  PCalls Tryz.prog 26 [.c (.own 0 l.length)] (.arr 9 1 (l.map strD) :: rest) fun r os=>∃ m:List ByteArray,r = .c (.own 0 (Lib.compact (l.map (·.data.toList))).length)∧os = .arr 9 1 (((Lib.compact (l.map (·.data.toList))).map unB++m).map strD) :: rest:=by
 unfold PCalls
 intro Γ w xs hm hx
 obtain ⟨y,m',rfl,h1,h2⟩:=All2.cons_l.1 hx
 rw [All2.nil_l] at h2
 subst h2
 have hn0:0 < Γ.n:=by rw [hm.n];simp
 rcases Nat.eq_zero_or_pos l.length with h0|h0
 ·have:l=[]:=List.eq_nil_of_length_eq_zero h0
  subst this
  have hy:∃ A c,y = .slice A 0 c:=by
   rcases h1.2 with ⟨_,⟨A,e⟩,_⟩|⟨_,e,_⟩
   ·exact ⟨A,0,e⟩
   ·exact ⟨_,_,e⟩
  obtain ⟨A,c,rfl⟩:=hy
  refine (slices_Compact_string_empty A c w).mono ?_
  rintro e w' ⟨rfl,rfl⟩
  have e0:Lib.compact ([]:List (List UInt8))=[]:=rfl
  exact ⟨_,_,Γ,_,rfl,⟨[],rfl,rfl⟩,by simpa [e0] using h1,by simp,by simpa [e0] using hm,Grow.refl _ _ _⟩
 ·rcases h1.2 with ⟨_,_,h3⟩|⟨hc,rfl,hle⟩
  ·omega
  ·obtain ⟨i1,i2,i3,i4⟩:=put_texts hm hc h0
   have:=slices_Compact_string (Γ.β 0) 0 (Γ.cap 0) (l.map (·.data.toList)) w i2 (by simp;omega) (by simpa using hle)
   rw [List.length_map] at this
   refine this.mono ?_
   rintro e w' ⟨rfl,n,rfl⟩
   have hcl:(Lib.compact (l.map (·.data.toList))).length≤l.length:=by have:=Lib.compact_length_le (l.map (·.data.toList));simpa using this
   obtain ⟨j1,j2⟩:=i4 n #[] (Lib.compact (l.map (·.data.toList))++List.replicate (l.length - (Lib.compact (l.map (·.data.toList))).length) []) (by simp;omega)
   have hg:∀ w:World,grow w #[]=w:=fun w=>by simp [grow]
   rw [hg] at j1 j2
   refine ⟨_,_,Γ,_,rfl,⟨(List.replicate (l.length - (Lib.compact (l.map (·.data.toList))).length) []).map unB,rfl,rfl⟩,⟨hn0,.inr ⟨hc,rfl,by omega⟩⟩,by simp,?_,j2⟩
   rw [← List.map_append]
   exact j1
theorem compactUpTo_spec (zs:List (List UInt8)) (h:zs.Pairwise fun x y=>x≤y):∀ m,m≤zs.length → (Lib.compactUpTo zs.toArray m).Pairwise (· < ·)∧∀ x,x ∈ Lib.compactUpTo zs.toArray m ↔ x ∈ zs.take m
 | 0,_=>by simp [Lib.compactUpTo]
 | m+1,hm=>by
  obtain ⟨i1,i2⟩:=compactUpTo_spec zs h m (by omega)
  have hg:zs.toArray[m]! = zs[m]:=by simp [getElem!_pos,show m < zs.length by omega]
  have hp:=List.pairwise_iff_getElem.1 h
  rw [Lib.compactUpTo_succ,List.take_succ_eq_append_getElem (by omega),hg]
  cases hk:Lib.keeps zs.toArray m with
  | true =>
   rw [if_pos rfl]
   refine ⟨List.pairwise_append.2 ⟨i1,by simp,fun a ha b hb=>?_⟩,fun x=>by rw [List.mem_append,List.mem_append,i2]⟩
   simp only [List.mem_singleton] at hb
   subst hb
   obtain ⟨i,hi,rfl⟩:=List.getElem_of_mem ((i2 a).1 ha)
   rw [List.length_take] at hi
   rw [List.getElem_take]
   have hle:=hp i m (by omega) (by omega) (by omega)
   rcases Decidable.em (zs[i] < zs[m]) with h5|h5
   ·exact h5
   ·exfalso
    have he:=List.le_antisymm hle (List.not_lt.1 h5)
    simp only [Lib.keeps,decide_eq_true_eq] at hk
    rcases hk with hk|hk
    ·omega
    ·rw [hg,show zs.toArray[m - 1]! = zs[m - 1] by simp [getElem!_pos,show m - 1 < zs.length by omega]] at hk
     have h6:=hp (m - 1) m (by omega) (by omega) (by omega)
     rcases Nat.lt_or_ge i (m - 1) with h7|h7
     ·have h8:=hp i (m - 1) (by omega) (by omega) h7
      rw [he] at h8
      exact hk (List.le_antisymm h8 h6)
     ·have:i=m - 1:=by omega
      subst this
      exact hk he.symm
  | false =>
   simp only [Bool.false_eq_true,if_false,List.append_nil]
   refine ⟨i1,fun x=>?_⟩
   rw [i2,List.mem_append,List.mem_singleton]
   refine ⟨.inl,fun hx=>hx.elim id fun hx=>?_⟩
   subst hx
   simp only [Lib.keeps,decide_eq_false_iff_not,not_or,Decidable.not_not] at hk
   obtain ⟨hk0,hk1⟩:=hk
   rw [hg,show zs.toArray[m - 1]! = zs[m - 1] by simp [getElem!_pos,show m - 1 < zs.length by omega]] at hk1
   rw [hk1,List.mem_iff_getElem]
   exact ⟨m - 1,by rw [List.length_take];omega,by rw [List.getElem_take]⟩
def ascOf (l:List ByteArray):List ByteArray:=(Lib.compact ((l.map (·.data.toList)).mergeSort fun x y=>decide (x≤y))).map unB
theorem ascOf_spec (l:List ByteArray):asc (ascOf l)∧(∀ x,x ∈ ascOf l ↔ x ∈ l)∧(ascOf l).length≤l.length:=by
 have h1:((l.map (·.data.toList)).mergeSort fun x y=>decide (x≤y)).Pairwise fun x y=>x≤y :=
  (List.pairwise_mergeSort (le:=fun x y=>decide (x≤y)) (fun a b c h1 h2=>by simp only [decide_eq_true_eq] at *;exact List.le_trans h1 h2) (fun a b=>by simp only [Bool.or_eq_true,decide_eq_true_eq];exact List.le_total a b) _).imp fun h=>by simpa using h
 obtain ⟨i1,i2⟩:=compactUpTo_spec _ h1 _ (Nat.le_refl _)
 rw [List.take_length] at i2
 refine ⟨?_,fun x=>?_,?_⟩
 ·rw [asc,ascOf,List.pairwise_map]
  refine i1.imp fun {a b} h=>?_
  rw [bless_lt,ByteArray.toList_eq,ByteArray.toList_eq,list_unB,list_unB]
  exact h
 ·rw [ascOf,List.mem_map]
  constructor
  ·rintro ⟨y,h,rfl⟩
   have:=(List.mergeSort_perm _ _).mem_iff.1 ((i2 y).1 h)
   obtain ⟨z,hz,rfl⟩:=List.mem_map.1 this
   exact hz
  ·intro h
   exact ⟨x.data.toList,(i2 _).2 ((List.mergeSort_perm _ _).mem_iff.2 (List.mem_map.2 ⟨x,h,rfl⟩)),unB_list x⟩
 ·rw [ascOf,List.length_map]
  refine Nat.le_trans (Lib.compact_length_le _) ?_
  rw [(List.mergeSort_perm _ _).length_eq,List.length_map]
  exact Nat.le_refl _
set_option maxRecDepth 20000
def PredW (P:Program) (g:FuncId) (ks:List Nat) (os:List Ob) (l:List ByteArray) (q:ByteArray → Bool):Prop:=bodyOk P g=true∧∀ x ∈ l,PCalls P g (.c (.v (.string x)) :: ks.map fun k=>.c (.ptr k 0)) os fun r os'=>r = .c (.v (.bool (q x)))∧os'=os
theorem indexFuncW_pure (l:List ByteArray) (hl:l.length≤1000000000) (g:FuncId) (ks:List Nat) (os:List Ob) (q:ByteArray → Bool) (hp:PredW Tryz.prog g ks os l q) :
  PCalls Tryz.prog 33 [.c (.sl 1 (l.map strD)),.c (.fn (.func g) [] ks)] os fun r os'=>∃ k,idxQ q l k∧r = .c (.v (.int .i64 k))∧os'=os:=by
 refine pcalls_of_all Tryz.func33 rfl (by simp [Tryz.ntmps33]) ?_
 rw [Tryz.ntmps33,Tryz.results33]
 push_cast [iO,tN]
 repeat' (first|((first|refine pG ?_|refine pQ ?_|refine pU ?_);push_cast [iO,tN])|(refine pif (fun h=>?_) (fun h=>?_)<;>first|exact pN h|push_cast [iO,tN]))
 refine pwp_loop2 (α:=Nat) (fun k=>k≤l.length∧∀ x ∈ l.take k,q x=false) (fun k=>⟨[(8,.c (.v (.int .i64 k))),(7,.c (.v (.int .i64 l.length))),(6,.c (.sl 1 (l.map strD))),(0,.c (.sl 1 (l.map strD))),(1,.c (.fn (.func g) [] ks))],os⟩) (fun k=>l.length - k) 0 ⟨by omega,by simp⟩ (weak_slots (by push_cast [iO,tN]) rfl) ?_
 rintro k ⟨hk,hpre⟩
 by_cases hlt:k < l.length
 ·have hm:l.getD k default ∈ l:=by rw [getD_lt l hlt];exact List.getElem_mem _
  have hc:=hp.2 _ hm
  have hpre2:q (l.getD k default)=false → ∀ x ∈ l.take (k+1),q x=false:=fun h x hx=>by
   rw [List.take_succ_eq_append_getElem hlt] at hx
   rcases List.mem_append.1 hx with hx|hx
   ·exact hpre x hx
   ·simp at hx;subst hx;rw [← getD_lt l hlt];exact h
  cases hq:q (l.getD k default)
  all_goals rw [hq] at hc
  all_goals repeat' (first |  (refine pl_call_all rfl (by push_cast [iO,tN]) rfl hp.1 (by push_cast [iO,tN]) ?_ hc ?_;(focus (unfold callArgs;push_cast [iO,tN];exact allSome_ptr ks));rintro r os ⟨rfl,rfl⟩;refine pl_of_pops ?_;push_cast [iO,tN])  | ((first|refine pG ?_|refine pQ ?_|refine pU ?_);push_cast [iO,tN])|(refine pif (fun h=>?_) (fun h=>?_)<;>first|exact pN h|push_cast [iO,tN]))
  ·exact ⟨k+1,⟨by omega,hpre2 hq⟩,weak_slots (by push_cast [iO,tN]) rfl,by omega⟩
  ·exact ⟨_,rfl,by push_cast [iO,tN],k,.inr ⟨k,rfl,hlt,hq,hpre⟩,rfl,rfl⟩
 ·rw [List.take_of_length_le (by omega)] at hpre
  repeat' (first|((first|refine pG ?_|refine pQ ?_|refine pU ?_);push_cast [iO,tN])|(refine pif (fun h=>?_) (fun h=>?_)<;>first|exact pN h|push_cast [iO,tN]))
  exact ⟨_,rfl,by push_cast [iO,tN],-1,.inl ⟨rfl,hpre⟩,rfl,rfl⟩
theorem containsFuncW_pure (l:List ByteArray) (hl:l.length≤1000000000) (g:FuncId) (ks:List Nat) (os:List Ob) (q:ByteArray → Bool) (hp:PredW Tryz.prog g ks os l q) :
  PCalls Tryz.prog 28 [.c (.sl 1 (l.map strD)),.c (.fn (.func g) [] ks)] os fun r os'=>r = .c (.v (.bool (l.any q)))∧os'=os:=by
 refine pcalls_of_all Tryz.func28 rfl (by simp [Tryz.ntmps28]) ?_
 rw [Tryz.ntmps28,Tryz.results28]
 push_cast [iO,tN]
 repeat' (first |  (refine pl_call_all rfl (by push_cast [iO,tN]) rfl (by kernel_rfl) (by push_cast [iO,tN]) ?_ (indexFuncW_pure l hl g ks os q hp) ?_;(focus (unfold callArgs;push_cast [iO,tN]));rintro r os ⟨k,hk,rfl,rfl⟩;refine pl_of_pops ?_;push_cast [iO,tN])  | ((first|refine pG ?_|refine pQ ?_|refine pU ?_);push_cast [iO,tN])|(refine pif (fun h=>?_) (fun h=>?_)<;>first|exact pN h|push_cast [iO,tN]))
 refine ⟨_,rfl,by push_cast [iO,tN],?_,rfl⟩
 rcases hk with ⟨rfl,h⟩|⟨i,rfl,hi,hq,_⟩
 ·have:l.any q=false:=by rw [List.any_eq_false];intro x hx;simp [h x hx]
  rw [this];rfl
 ·have:l.any q=true:=List.any_eq_true.2 ⟨l.getD i default,by rw [getD_lt l hi];exact List.getElem_mem _,hq⟩
  rw [this];simp
def mayV (M:List Mod) (T:List ByteArray) (s:ByteArray):Bool:=match modOf M s with
 | none=>false
 | some m=>!(m.needs.any fun x=>!inM x T)
def shouldV (M:List Mod) (T R:List ByteArray) (s:ByteArray):Bool:=mayV M T s && !(((modOf M s).getD noMod).pre.any fun x=>inM x R)
abbrev mayF:E:=.fn (.func 27) [] [2,4]
def orderOs (M:List Mod) (T R:List ByteArray):List Ob:=[.arr 9 1 (R.map strD),.map none true (modsE M),.box 54 [.mp 1],.map none false (setE T),.box 56 [.mp 3],.box 27 [.own 0 R.length],.box 65 [mayF]]
theorem order1_pure (a:Ob) (T:List ByteArray) (s:ByteArray) :
  PCalls Tryz.prog 24 [.c (.v (.string s)),.c (.ptr 2 0)] [a,.map none false (setE T),.box 56 [.mp 1]] fun r os=>r = .c (.v (.bool (inM s T)))∧os=[a,.map none false (setE T),.box 56 [.mp 1]]:=by
 refine pcalls_of_all Tryz.func24 rfl (by simp [Tryz.ntmps24]) ?_
 rw [Tryz.ntmps24,Tryz.results24]
 push_cast [iO,tN]
 repeat' (first|((first|refine pG ?_|refine pQ ?_|refine pU ?_);push_cast [iO,tN])|(refine pif (fun h=>?_) (fun h=>?_)<;>first|exact pN h|push_cast [iO,tN]))
 exact ⟨_,rfl,by push_cast [iO,tN],rfl,rfl⟩
theorem order21_pure (M:List Mod) (T R:List ByteArray) (s:ByteArray) :
  PCalls Tryz.prog 29 [.c (.v (.string s)),.c (.ptr 4 0)] (orderOs M T R) fun r os=>r = .c (.v (.bool (!inM s T)))∧os=orderOs M T R:=by
 unfold orderOs
 refine pcalls_of_all Tryz.func29 rfl (by simp [Tryz.ntmps29]) ?_
 rw [Tryz.ntmps29,Tryz.results29]
 push_cast [iO,tN]
 repeat' (first|((first|refine pG ?_|refine pQ ?_|refine pU ?_);push_cast [iO,tN])|(refine pif (fun h=>?_) (fun h=>?_)<;>first|exact pN h|push_cast [iO,tN]))
 exact ⟨_,rfl,by push_cast [iO,tN],rfl,rfl⟩
theorem order2_pure (M:List Mod) (T R:List ByteArray) (s:ByteArray) (hl:∀ n,(needsOf M n).length≤1000000000) :
  PCalls Tryz.prog 27 [.c (.v (.string s)),.c (.ptr 2 0),.c (.ptr 4 0)] (orderOs M T R) fun r os=>r = .c (.v (.bool (mayV M T s)))∧os=orderOs M T R:=by
 have hcf:∀ l:List ByteArray,l.length≤1000000000 → PCalls Tryz.prog 28 [.c (.sl 1 (l.map strD)),.c (.fn (.func 29) [] [4])] (orderOs M T R) fun r os'=>r = .c (.v (.bool (l.any fun x=>!inM x T)))∧os'=orderOs M T R:=fun l h=>containsFuncW_pure l h _ _ _ _ ⟨by kernel_rfl,fun x _=>order21_pure M T R x⟩
 have hlen:=hl s
 unfold needsOf at hlen
 unfold mayV
 unfold orderOs at hcf ⊢
 refine pcalls_of Tryz.func27 rfl (by simp [Tryz.ntmps27]) ?_
 rw [Tryz.ntmps27,Tryz.results27]
 cases hm:modOf M s with
 | none =>
  push_cast [iO,tN]
  repeat' (first|((first|refine pG ?_|refine pQ ?_|refine pU ?_);push_cast [iO,tN,mget_mods,hm])|(refine pif (fun h=>?_) (fun h=>?_)<;>first|exact pN h|push_cast [iO,tN,mget_mods,hm]))
  (refine retK_of [0,1,2,3,4,5,6] ?_;push_cast [iO,tN])
 | some m =>
  rw [hm] at hlen
  have hc:=hcf m.needs hlen
  push_cast [iO,tN]
  repeat' (first|(refine plc [0,1,2,3,4,5,6] (hc) ?_ ?_;push_cast [iO,tN,mget_mods,hm];rintro r os ⟨rfl,rfl⟩;push_cast [iO,tN,mget_mods,hm])|((first|refine pG ?_|refine pQ ?_|refine pU ?_);push_cast [iO,tN,mget_mods,hm])|(refine pif (fun h=>?_) (fun h=>?_)<;>first|exact pN h|push_cast [iO,tN,mget_mods,hm]))
  (refine retK_of [0,1,2,3,4,5,6] ?_;push_cast [iO,tN])
theorem order31_pure (M:List Mod) (T R:List ByteArray) (s:ByteArray) (hR:R.length≤1000000000) :
  PCalls Tryz.prog 31 [.c (.v (.string s)),.c (.ptr 5 0)] (orderOs M T R) fun r os=>r = .c (.v (.bool (inM s R)))∧os=orderOs M T R:=by
 unfold orderOs
 refine pcalls_of Tryz.func31 rfl (by simp [Tryz.ntmps31]) ?_
 rw [Tryz.ntmps31,Tryz.results31]
 push_cast [iO,tN]
 repeat' (first |  (refine pl_call2 true [] rfl rfl (by kernel_rfl) (containsD_pure R s hR) ?_ ?_ ?_;push_cast [iO,tN];(intro _ r os;rintro ⟨rfl,rfl⟩;push_cast [iO,tN]);rintro r os ⟨rfl,rfl⟩;refine pl_of_pops ?_;push_cast [iO,tN])  | ((first|refine pG ?_|refine pQ ?_|refine pU ?_);push_cast [iO,tN])|(refine pif (fun h=>?_) (fun h=>?_)<;>first|exact pN h|push_cast [iO,tN]))
 (refine retK_of [0,1,2,3,4,5,6] ?_;push_cast [iO,tN])
theorem order3_pure (M:List Mod) (T R:List ByteArray) (s:ByteArray) (hl:∀ n,(needsOf M n).length≤1000000000) (hl2:((modOf M s).getD noMod).pre.length≤1000000000) (hR:R.length≤1000000000) :
  PCalls Tryz.prog 30 [.c (.v (.string s)),.c (.ptr 6 0),.c (.ptr 2 0),.c (.ptr 5 0)] (orderOs M T R) fun r os=>r = .c (.v (.bool (shouldV M T R s)))∧os=orderOs M T R:=by
 have hcf:∀ l:List ByteArray,l.length≤1000000000 → PCalls Tryz.prog 28 [.c (.sl 1 (l.map strD)),.c (.fn (.func 31) [] [5])] (orderOs M T R) fun r os'=>r = .c (.v (.bool (l.any fun x=>inM x R)))∧os'=orderOs M T R:=fun l h=>containsFuncW_pure l h _ _ _ _ ⟨by kernel_rfl,fun x _=>order31_pure M T R x hR⟩
 have hmay:=order2_pure M T R s hl
 unfold shouldV
 cases hv:mayV M T s with
 | false =>
  rw [hv] at hmay
  unfold orderOs at hmay ⊢
  refine pcalls_of Tryz.func30 rfl (by simp [Tryz.ntmps30]) ?_
  rw [Tryz.ntmps30,Tryz.results30]
  push_cast [iO,tN]
  repeat' (first |  (refine plc [0,1,2,3,4,5,6] (hmay) ?_ ?_;push_cast [iO,tN];rintro r os ⟨rfl,rfl⟩;push_cast [iO,tN])  | ((first|refine pG ?_|refine pQ ?_|refine pU ?_);push_cast [iO,tN])|(refine pif (fun h=>?_) (fun h=>?_)<;>first|exact pN h|push_cast [iO,tN]))
  (refine retK_of [0,1,2,3,4,5,6] ?_;push_cast [iO,tN])
 | true =>
  rw [hv] at hmay
  have hm:∃ m,modOf M s=some m:=by
   unfold mayV at hv
   cases h:modOf M s with
   | none=>rw [h] at hv;cases hv
   | some m=>exact ⟨m,rfl⟩
  obtain ⟨m,hm⟩:=hm
  rw [hm] at hl2 ⊢
  have hc:=hcf m.pre hl2
  unfold orderOs at hmay hc ⊢
  refine pcalls_of Tryz.func30 rfl (by simp [Tryz.ntmps30]) ?_
  rw [Tryz.ntmps30,Tryz.results30]
  push_cast [iO,tN]
  repeat' (first|(refine plc [0,1,2,3,4,5,6] (hmay) ?_ ?_;push_cast [iO,tN,mget_mods,hm];rintro r os ⟨rfl,rfl⟩;push_cast [iO,tN,mget_mods,hm])|(refine plc [0,1,2,3,4,5,6] (hc) ?_ ?_;push_cast [iO,tN,mget_mods,hm];rintro r os ⟨rfl,rfl⟩;push_cast [iO,tN,mget_mods,hm])|((first|refine pG ?_|refine pQ ?_|refine pU ?_);push_cast [iO,tN,mget_mods,hm])|(refine pif (fun h=>?_) (fun h=>?_)<;>first|exact pN h|push_cast [iO,tN,mget_mods,hm]))
  (refine retK_of [0,1,2,3,4,5,6] ?_;push_cast [iO,tN])
  rfl
end Go.Proofs.YtgijigkfmbiifaaGreatDoor
namespace Go.Proofs.YtgijigkfmbiifaaGreatDoor
open Go.RowKit
open IntWalk renaming iteOmega → iO, toNatUp → tN
set_option linter.unusedVariables false
set_option linter.unusedSimpArgs false
theorem inM_congr {T T':List ByteArray} (h:∀ x,x ∈ T ↔ x ∈ T') (x:ByteArray):inM x T=inM x T':=by
 cases h':inM x T'
 ·rw [inM_false] at h' ⊢;rwa [h]
 ·rw [inM_iff] at h' ⊢;rwa [h]
theorem mayV_congr {M:List Mod} {T T':List ByteArray} (h:∀ x,x ∈ T ↔ x ∈ T') (s:ByteArray):mayV M T s=mayV M T' s:=by
 unfold mayV
 cases modOf M s with
 | none=>rfl
 | some m=>simp only [inM_congr h]
theorem shouldV_congr {M:List Mod} {T T' R:List ByteArray} (h:∀ x,x ∈ T ↔ x ∈ T') (s:ByteArray):shouldV M T R s=shouldV M T' R s:=by unfold shouldV;rw [mayV_congr h]
def chooseM (M:List Mod) (T R:List ByteArray):Option ByteArray:=match R.find? (shouldV M T R) with
 | some b=>some b
 | none=>R.find? (mayV M T)
def ordF (M:List Mod):Nat → List ByteArray → List ByteArray → List ByteArray
 | 0,_,_=>[]
 | n+1,T,R=>match chooseM M T R with
  | none=>[]
  | some b=>b :: ordF M n (T++[b]) (R.filter fun x=>decide (x≠b))
def ordM (M:List Mod) (T R:List ByteArray):List ByteArray:=ordF M R.length T R
theorem choose_mem {M:List Mod} {T R:List ByteArray} {b:ByteArray} (h:chooseM M T R=some b):b ∈ R:=by
 unfold chooseM at h
 split at h
 ·rename_i b' h1;cases h;exact List.mem_of_find?_eq_some h1
 ·exact List.mem_of_find?_eq_some h
theorem filter_len:∀ {R:List ByteArray} {b:ByteArray},R.Nodup → b ∈ R → (R.filter fun x=>decide (x≠b)).length+1=R.length
 | [],_,_,h=>by simp at h
 | a :: R,b,hn,h=>by
  obtain ⟨h1,h2⟩:=List.nodup_cons.1 hn
  by_cases e:a=b
  ·subst e
   rw [List.filter_cons_of_neg (by simp),List.filter_eq_self.2 fun x hx=>by simp;rintro rfl;exact h1 hx]
   rfl
  ·rw [List.filter_cons_of_pos (by simpa using e),List.length_cons,List.length_cons,filter_len h2 ((List.mem_cons.1 h).resolve_left fun e'=>e e'.symm)]
theorem del_eq {R:List ByteArray} {i:Nat} (hn:R.Nodup) (hi:i < R.length):R.take i++R.drop (i+1)=R.filter fun x=>decide (x≠R.getD i default):=by
 have h0:R=R.take i++R[i] :: R.drop (i+1):=by rw [← List.drop_eq_getElem_cons hi,List.take_append_drop]
 rw [getD_lt R hi]
 generalize hb:R[i]=b at *
 rw [h0,List.nodup_append] at hn
 obtain ⟨n1,n2,n3⟩:=hn
 obtain ⟨n4,n5⟩:=List.nodup_cons.1 n2
 conv=>rhs;rw [h0]
 rw [List.filter_append,List.filter_cons_of_neg (by simp),List.filter_eq_self.2 fun x hx=>by simp;rintro rfl;exact n3 _ hx _ (by simp) rfl,List.filter_eq_self.2 fun x hx=>by simp;rintro rfl;exact n4 hx]
theorem idx_none {q:ByteArray → Bool} {l:List ByteArray} (h:∀ x ∈ l,q x=false):l.find? q=none:=List.find?_eq_none.2 fun x hx=>by simp [h x hx]
theorem idx_some {q:ByteArray → Bool} {l:List ByteArray} {i:Nat} (hi:i < l.length) (h1:q (l.getD i default)=true) (h2:∀ x ∈ l.take i,q x=false):l.find? q=some (l.getD i default):=by
 rw [getD_lt l hi] at h1 ⊢
 rw [List.find?_eq_some_iff_append]
 refine ⟨h1,l.take i,l.drop (i+1),by rw [← List.drop_eq_getElem_cons hi,List.take_append_drop],fun x hx=>by simp [h2 x hx]⟩
structure OInv (M:List Mod) (ld R0 out T R:List ByteArray):Prop where
 asc:asc R
 there:∀ x,x ∈ T ↔ x ∈ ld++out
 eq:ordM M ld R0=out++ordF M R.length (ld++out) R
 len:R.length+out.length≤R0.length
theorem OInv.start {M:List Mod} {ld R0 T:List ByteArray} (h1:Go.Proofs.YtgijigkfmbiifaaGreatDoor.asc R0) (h2:∀ x,x ∈ T ↔ x ∈ ld):OInv M ld R0 [] T R0:=⟨h1,by simpa using h2,by simp [ordM],by simp⟩
theorem OInv.step {M:List Mod} {ld R0 out T R:List ByteArray} {b:ByteArray} (h:OInv M ld R0 out T R) (hc:chooseM M (ld++out) R=some b):OInv M ld R0 (out++[b]) (addS T b) (R.filter fun x=>decide (x≠b)):=by
 have hb:=choose_mem hc
 have hl:=filter_len (asc_nodup h.asc) hb
 refine ⟨h.asc.sublist List.filter_sublist,fun x=>?_,?_,?_⟩
 ·rw [mem_addS,h.there];simp [or_assoc]
 ·rw [h.eq,← hl]
  simp only [ordF,hc,List.append_assoc,List.cons_append,List.nil_append]
 ·have:=h.len;simp only [List.length_append,List.length_cons,List.length_nil];omega
theorem OInv.stop {M:List Mod} {ld R0 out T R:List ByteArray} (h:OInv M ld R0 out T R) (hc:chooseM M (ld++out) R=none):ordM M ld R0=out:=by
 rw [h.eq]
 cases R.length with
 | zero=>simp [ordF]
 | succ n=>simp [ordF,hc]
theorem OInv.choose {M:List Mod} {ld R0 out T R:List ByteArray} (h:OInv M ld R0 out T R):chooseM M (ld++out) R=chooseM M T R:=by
 unfold chooseM
 rw [funext (shouldV_congr h.there),funext (mayV_congr h.there)]
def restM (ld names:List ByteArray):List ByteArray:=ascOf (names.filter fun x=>!inM x ld)
theorem restM_spec (ld names:List ByteArray):asc (restM ld names)∧(∀ x,x ∈ restM ld names ↔ x ∈ names∧x ∉ ld)∧(restM ld names).length≤names.length:=by
 obtain ⟨h1,h2,h3⟩:=ascOf_spec (names.filter fun x=>!inM x ld)
 refine ⟨h1,fun x=>?_,Nat.le_trans h3 (List.length_filter_le _ _)⟩
 rw [restM,h2,List.mem_filter]
 simp only [Bool.not_eq_true',inM_false]
theorem filter_congr_in {T T' names:List ByteArray} (h:∀ x,x ∈ T ↔ x ∈ T'):(names.filter fun x=>!inM x T)=names.filter fun x=>!inM x T':=by simp only [inM_congr h]
def cmpB (l:List ByteArray):List ByteArray:=(Lib.compact (l.map (·.data.toList))).map unB
theorem cmpB_len (l:List ByteArray):(cmpB l).length=(Lib.compact (l.map (·.data.toList))).length:=by rw [cmpB,List.length_map]
end Go.Proofs.YtgijigkfmbiifaaGreatDoor
namespace Go.Proofs.YtgijigkfmbiifaaGreatDoor
attribute [local irreducible] PL QL PWPr PCalls Weak RetK Kontr PA
open Go.RowKit
open IntWalk renaming iteOmega → iO, toNatUp → tN
set_option linter.unusedVariables false
set_option linter.unusedSimpArgs false
set_option maxRecDepth 20000
def PredM (P:Program) (g:FuncId) (ks:List Nat) (os:List Ob) (l:List Mod) (q:Mod → Bool):Prop:=bodyOk P g=true∧∀ x ∈ l,PCalls P g (.agg x.e :: ks.map fun k=>.c (.ptr k 0)) os fun r os'=>r = .c (.v (.bool (q x)))∧os'=os
def idxM (q:Mod → Bool) (l:List Mod) (k:Int):Prop:=(k = -1∧∀ x ∈ l,q x=false)∨∃ i:Nat,k=i∧i < l.length∧q (l.getD i default)=true∧∀ x ∈ l.take i,q x=false
theorem allSomeM:∀ ks:List Nat,allSome (ks.map fun k=>some (PV.c (.ptr k 0))) (ks.map fun k=>PV.c (.ptr k 0))
 | []=>trivial
 | k :: ks=>⟨leP_refl _,allSomeM ks⟩
theorem indexFuncM_pure (l:List Mod) (hl:l.length≤1000000000) (g:FuncId) (ks:List Nat) (os:List Ob) (q:Mod → Bool) (hp:PredM Tryz.prog g ks os l q) :
  PCalls Tryz.prog 52 [.c (.sl 6 (l.map Mod.d)),.c (.fn (.func g) [] ks)] os fun r os'=>∃ k,idxM q l k∧r = .c (.v (.int .i64 k))∧os'=os:=by
 refine pcalls_of_all Tryz.func52 rfl (by simp [Tryz.ntmps52]) ?_
 rw [Tryz.ntmps52,Tryz.results52]
 push_cast [iO,tN]
 repeat' (first|((first|refine pG ?_|refine pQ ?_|refine pU ?_);push_cast [iO,tN])|(refine pif (fun h=>?_) (fun h=>?_)<;>first|exact pN h|push_cast [iO,tN]))
 refine pwp_loop2 (α:=Nat) (fun k=>k≤l.length∧∀ x ∈ l.take k,q x=false) (fun k=>⟨[(8,.c (.v (.int .i64 k))),(7,.c (.v (.int .i64 l.length))),(6,.c (.sl 6 (l.map Mod.d))),(0,.c (.sl 6 (l.map Mod.d))),(1,.c (.fn (.func g) [] ks))],os⟩) (fun k=>l.length - k) 0 ⟨by omega,by simp⟩ (weak_slots (by push_cast [iO,tN]) rfl) ?_
 rintro k ⟨hk,hpre⟩
 by_cases hlt:k < l.length
 ·have hm:l.getD k default ∈ l:=by rw [getD_lt l hlt];exact List.getElem_mem _
  have hc:=hp.2 _ hm
  have hpre2:q (l.getD k default)=false → ∀ x ∈ l.take (k+1),q x=false:=fun h x hx=>by
   rw [List.take_succ_eq_append_getElem hlt] at hx
   rcases List.mem_append.1 hx with hx|hx
   ·exact hpre x hx
   ·simp at hx;subst hx;rw [← getD_lt l hlt];exact h
  cases hq:q (l.getD k default)
  all_goals rw [hq] at hc
  all_goals repeat' (first |  (refine pl_call_all rfl (by push_cast [iO,tN]) rfl hp.1 (by push_cast [iO,tN]) ?_ hc ?_;(focus (unfold callArgs;push_cast [iO,tN];exact allSomeM ks));rintro r os ⟨rfl,rfl⟩;refine pl_of_pops ?_;push_cast [iO,tN])  | ((first|refine pG ?_|refine pQ ?_|refine pU ?_);push_cast [iO,tN])|(refine pif (fun h=>?_) (fun h=>?_)<;>first|exact pN h|push_cast [iO,tN]))
  ·exact ⟨k+1,⟨by omega,hpre2 hq⟩,weak_slots (by push_cast [iO,tN]) rfl,by omega⟩
  ·exact ⟨_,rfl,by push_cast [iO,tN],k,.inr ⟨k,rfl,hlt,hq,hpre⟩,rfl,rfl⟩
 ·rw [List.take_of_length_le (by omega)] at hpre
  repeat' (first|((first|refine pG ?_|refine pQ ?_|refine pU ?_);push_cast [iO,tN])|(refine pif (fun h=>?_) (fun h=>?_)<;>first|exact pN h|push_cast [iO,tN]))
  exact ⟨_,rfl,by push_cast [iO,tN],-1,.inl ⟨rfl,hpre⟩,rfl,rfl⟩
set_option maxRecDepth 20000
def PredS (P:Program) (g:FuncId) (ks:List Nat) (os:List Ob) (l:List ByteArray) (q:ByteArray → Bool):Prop:=bodyOk P g=true∧∀ x ∈ l,PCalls P g (.c (.v (.string x)) :: ks.map fun k=>.c (.ptr k 0)) os fun r os'=>r = .c (.v (.bool (q x)))∧os'=os
def idxS (q:ByteArray → Bool) (l:List ByteArray) (k:Int):Prop:=(k = -1∧∀ x ∈ l,q x=false)∨∃ i:Nat,k=i∧i < l.length∧q (l.getD i default)=true∧∀ x ∈ l.take i,q x=false
theorem allSomeS:∀ ks:List Nat,allSome (ks.map fun k=>some (PV.c (.ptr k 0))) (ks.map fun k=>PV.c (.ptr k 0))
 | []=>trivial
 | k :: ks=>⟨leP_refl _,allSomeS ks⟩
theorem indexFuncS_pure (l:List ByteArray) (hl:l.length≤1000000000) (g:FuncId) (ks:List Nat) (os:List Ob) (q:ByteArray → Bool) (hp:PredS Tryz.prog g ks os l q) :
  PCalls Tryz.prog 33 [.c (.sl 1 (l.map strD)),.c (.fn (.func g) [] ks)] os fun r os'=>∃ k,idxS q l k∧r = .c (.v (.int .i64 k))∧os'=os:=by
 refine pcalls_of_all Tryz.func33 rfl (by simp [Tryz.ntmps33]) ?_
 rw [Tryz.ntmps33,Tryz.results33]
 push_cast [iO,tN]
 repeat' (first|((first|refine pG ?_|refine pQ ?_|refine pU ?_);push_cast [iO,tN])|(refine pif (fun h=>?_) (fun h=>?_)<;>first|exact pN h|push_cast [iO,tN]))
 refine pwp_loop2 (α:=Nat) (fun k=>k≤l.length∧∀ x ∈ l.take k,q x=false) (fun k=>⟨[(8,.c (.v (.int .i64 k))),(7,.c (.v (.int .i64 l.length))),(6,.c (.sl 1 (l.map strD))),(0,.c (.sl 1 (l.map strD))),(1,.c (.fn (.func g) [] ks))],os⟩) (fun k=>l.length - k) 0 ⟨by omega,by simp⟩ (weak_slots (by push_cast [iO,tN]) rfl) ?_
 rintro k ⟨hk,hpre⟩
 by_cases hlt:k < l.length
 ·have hm:l.getD k default ∈ l:=by rw [getD_lt l hlt];exact List.getElem_mem _
  have hc:=hp.2 _ hm
  have hpre2:q (l.getD k default)=false → ∀ x ∈ l.take (k+1),q x=false:=fun h x hx=>by
   rw [List.take_succ_eq_append_getElem hlt] at hx
   rcases List.mem_append.1 hx with hx|hx
   ·exact hpre x hx
   ·simp at hx;subst hx;rw [← getD_lt l hlt];exact h
  cases hq:q (l.getD k default)
  all_goals rw [hq] at hc
  all_goals repeat' (first |  (refine pl_call_all rfl (by push_cast [iO,tN]) rfl hp.1 (by push_cast [iO,tN]) ?_ hc ?_;(focus (unfold callArgs;push_cast [iO,tN];exact allSomeS ks));rintro r os ⟨rfl,rfl⟩;refine pl_of_pops ?_;push_cast [iO,tN])  | ((first|refine pG ?_|refine pQ ?_|refine pU ?_);push_cast [iO,tN])|(refine pif (fun h=>?_) (fun h=>?_)<;>first|exact pN h|push_cast [iO,tN]))
  ·exact ⟨k+1,⟨by omega,hpre2 hq⟩,weak_slots (by push_cast [iO,tN]) rfl,by omega⟩
  ·exact ⟨_,rfl,by push_cast [iO,tN],k,.inr ⟨k,rfl,hlt,hq,hpre⟩,rfl,rfl⟩
 ·rw [List.take_of_length_le (by omega)] at hpre
  repeat' (first|((first|refine pG ?_|refine pQ ?_|refine pU ?_);push_cast [iO,tN])|(refine pif (fun h=>?_) (fun h=>?_)<;>first|exact pN h|push_cast [iO,tN]))
  exact ⟨_,rfl,by push_cast [iO,tN],-1,.inl ⟨rfl,hpre⟩,rfl,rfl⟩
theorem containsFuncS_pure (l:List ByteArray) (hl:l.length≤1000000000) (g:FuncId) (ks:List Nat) (os:List Ob) (q:ByteArray → Bool) (hp:PredS Tryz.prog g ks os l q) :
  PCalls Tryz.prog 28 [.c (.sl 1 (l.map strD)),.c (.fn (.func g) [] ks)] os fun r os'=>r = .c (.v (.bool (l.any q)))∧os'=os:=by
 refine pcalls_of_all Tryz.func28 rfl (by simp [Tryz.ntmps28]) ?_
 rw [Tryz.ntmps28,Tryz.results28]
 push_cast [iO,tN]
 repeat' (first |  (refine pl_call_all rfl (by push_cast [iO,tN]) rfl (by kernel_rfl) (by push_cast [iO,tN]) ?_ (indexFuncS_pure l hl g ks os q hp) ?_;(focus (unfold callArgs;push_cast [iO,tN]));rintro r os ⟨k,hk,rfl,rfl⟩;refine pl_of_pops ?_;push_cast [iO,tN])  | ((first|refine pG ?_|refine pQ ?_|refine pU ?_);push_cast [iO,tN])|(refine pif (fun h=>?_) (fun h=>?_)<;>first|exact pN h|push_cast [iO,tN]))
 refine ⟨_,rfl,by push_cast [iO,tN],?_,rfl⟩
 rcases hk with ⟨rfl,h⟩|⟨i,rfl,hi,hq,_⟩
 ·have:l.any q=false:=by rw [List.any_eq_false];intro x hx;simp [h x hx]
  rw [this];rfl
 ·have:l.any q=true:=List.any_eq_true.2 ⟨l.getD i default,by rw [getD_lt l hi];exact List.getElem_mem _,hq⟩
  rw [this];simp
end Go.Proofs.YtgijigkfmbiifaaGreatDoor
