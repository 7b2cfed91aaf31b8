/- What the program computes, and the plain laws of it, part 37. -/
import Derived.Test.YthconflkbeipoaaGreatDoorS36
namespace Go.Proofs.YthconflkbeipoaaGreatDoor
attribute [local irreducible] PL QL PWPr PCalls Weak RetK Kontr PA
open Go.RowKit
open IntWalk renaming iteOmega → iO, toNatUp → tN
set_option linter.unusedVariables false
set_option linter.unusedSimpArgs false
set_option maxRecDepth 20000
def addC (l:List ByteArray) (s:ByteArray):List ByteArray:=if inM s l then l else l++[s]
theorem addC_len (l:List ByteArray) (s:ByteArray):(addC l s).length≤l.length+1:=by
 unfold addC
 split
 ·omega
 ·rw [List.length_append,List.length_singleton];exact Nat.le_refl _
def stepC (r:Rcd) (l:List ByteArray) (key:ByteArray):List ByteArray:=if (valOf r.props key).isSome && ifaceS ((valOf r.props key).getD ⟨#[]⟩) then addC l ((valOf r.props key).getD ⟨#[]⟩) else l
def candK (r:Rcd) (pol:List ByteArray):List ByteArray:=pol.foldl (stepC r) (if ifaceS r.name then addC [] r.name else [])
def candM (r:Rcd) (pol:List ByteArray) (o:ByteArray):List ByteArray:=addC (candK r pol) o
theorem stepC_len (r:Rcd) (l:List ByteArray) (key:ByteArray):(stepC r l key).length≤l.length+1:=by
 unfold stepC
 split
 ·exact addC_len _ _
 ·omega
end Go.Proofs.YthconflkbeipoaaGreatDoor
namespace Go.Proofs.YthconflkbeipoaaGreatDoor
open Go.RowKit
open IntWalk renaming iteOmega → iO, toNatUp → tN
set_option linter.unusedVariables false
set_option linter.unusedSimpArgs false
theorem valOf_isSome (l:List Atr) (n:ByteArray):(valOf l n).isSome=inM n (keys l):=by
 cases h:valOf l n with
 | none=>rw [inM_false.2 (valOf_none h)];rfl
 | some v=>rw [inM_iff.2 (show n ∈ keys l from List.mem_map.2 ⟨_,valOf_mem h,rfl⟩)];rfl
theorem check_net {d:Dev} (h:checkM d=0) (hk:d.kind=4):ifaceS d.name=true∧ifaceS d.original=true:=by
 have hK:kindM d=true:=by
  cases hc:kindM d with
  | true=>rfl
  | false =>
   have h1:=checkM_nums h
   have h2:=checkM_named h
   unfold checkM at h
   rw [h1,h2,hc] at h
   simp at h
 unfold kindM at hK
 rw [if_pos hk,Bool.and_eq_true] at hK
 exact hK
theorem take_key {names:List Atr} {f:Atr → ByteArray} (h:∀ j,j < names.length → f (names.getD j default) ∉ (names.take j).map f):(names.map f).Nodup:=by
 rw [List.Nodup,List.pairwise_iff_getElem]
 intro i j hi hj hij e
 rw [List.length_map] at hi hj
 rw [List.getElem_map,List.getElem_map] at e
 refine h j hj ?_
 rw [getD_lt names hj,← e]
 exact List.mem_map.2 ⟨_,List.mem_take_iff_getElem.2 ⟨i,by omega,rfl⟩,rfl⟩
theorem net_nodup {l:List Dev} (hn:(l.map Dev.index).Nodup) {f:Dev → ByteArray} (hf:∀ d ∈ l,∀ e ∈ l,d.kind=4 → e.kind=4 → f d=f e → d=e):((l.filter fun d=>decide (d.kind=4)).map f).Nodup:=by
 have h1:l.Pairwise fun a b=>a≠b:=(List.pairwise_map.1 hn).imp fun h e=>h (by rw [e])
 rw [List.Nodup,List.pairwise_map]
 refine (h1.filter _).imp_of_mem fun {a b} ha hb hne e=>?_
 obtain ⟨a1,a2⟩:=List.mem_filter.1 ha
 obtain ⟨b1,b2⟩:=List.mem_filter.1 hb
 exact hne (hf a a1 b b1 (by simpa using a2) (by simpa using b2) e)
theorem now_keys (l:List Dev):keys (nowP l)=(l.filter fun d=>decide (d.kind=4)).map fun d=>placeM l d.index:=by
 unfold keys nowP nowK
 rw [List.take_length,List.map_map]
 rfl
theorem now_vals (l:List Dev):vals (nowP l)=(l.filter fun d=>decide (d.kind=4)).map Dev.name:=by
 unfold vals nowP nowK
 rw [List.take_length,List.map_map]
 rfl
theorem now_kn {l:List Dev} (ht:Okt l):(keys (nowP l)).Nodup:=by
 rw [now_keys]
 exact net_nodup ht.nodup fun d hd e he _ _ h=>place_inj ht hd he h
theorem now_vn {l:List Dev} (ht:Okt l) (hn:NetT l):(vals (nowP l)).Nodup:=by
 rw [now_vals]
 exact net_nodup ht.nodup fun d hd e he h1 h2 h=>hn d hd e he h1 h2 h
theorem fits_planOk {l:List Dev} (ht:Okt l) (hn:NetT l) {names:List Atr} (h:fitsB (nowP l) names=true):PlanOk names (nowP l):=by
 unfold fitsB at h
 rw [Bool.and_eq_true,Bool.not_eq_true'] at h
 obtain ⟨h1,h2⟩:=h
 have hat:∀ i,i < names.length → ((((valOf (nowP l) (names.getD i default).name).isSome=true∧inM (names.getD i default).name (keys (names.take i))=false)∧inM (names.getD i default).value (vals (names.take i))=false)∧ifaceS (names.getD i default).value=true):=fun i hi=>by
  have:=List.all_eq_true.1 h1 i (List.mem_range.2 hi)
  unfold fitAt at this
  rw [Bool.and_eq_true,Bool.and_eq_true,Bool.and_eq_true,Bool.not_eq_true',Bool.not_eq_true'] at this
  exact this
 refine ⟨?_,?_,now_kn ht,now_vn ht hn,fun v hv=>?_,fun n hm=>?_,fun x hx hv hm=>?_⟩
 ·exact take_key fun j hj=>inM_false.1 (hat j hj).1.1.2
 ·exact take_key fun j hj=>inM_false.1 (hat j hj).1.2
 ·obtain ⟨a,ha,rfl⟩:=List.mem_map.1 hv
  obtain ⟨i,hi,rfl⟩:=List.getElem_of_mem ha
  have:=(hat i hi).2
  rw [getD_lt names hi] at this
  exact iface_ne this
 ·obtain ⟨a,ha,rfl⟩:=List.mem_map.1 hm
  obtain ⟨i,hi,rfl⟩:=List.getElem_of_mem ha
  have:=(hat i hi).1.1.1
  rw [getD_lt names hi,Option.isSome_iff_exists] at this
  obtain ⟨v,hv⟩:=this
  exact List.mem_map.2 ⟨_,valOf_mem hv,rfl⟩
 ·have h3:=List.any_eq_false.1 h2 x hx
  rw [inM_iff.2 hm,inM_false.2 (valOf_none hv)] at h3
  exact h3 rfl
def addI (l:List ByteArray) (s:ByteArray):List ByteArray:=if ifaceS s=true then addC l s else l
def candR (r:Rcd) (pol:List ByteArray) (o:ByteArray):List ByteArray:=((r.name :: pol.map fun k=>(valOf r.props k).getD ⟨#[]⟩)++[o]).foldl addI []
theorem iface_nil:ifaceS ⟨#[]⟩=false:=by decide +kernel
theorem addI_opt (r:Rcd) (l:List ByteArray) (key:ByteArray):addI l ((valOf r.props key).getD ⟨#[]⟩)=stepC r l key:=by
 unfold addI stepC
 cases hv:valOf r.props key with
 | none=>simp [iface_nil]
 | some v=>simp
theorem candR_eq {r:Rcd} {pol:List ByteArray} {o:ByteArray} (h:ifaceS o=true):candR r pol o=candM r pol o:=by
 unfold candR candM candK
 rw [List.foldl_append,List.foldl_cons,List.foldl_nil,List.foldl_cons,List.foldl_map]
 have he:(fun l key=>addI l ((valOf r.props key).getD ⟨#[]⟩))=stepC r:=by funext l key;exact addI_opt r l key
 rw [he]
 simp only [addI,h,if_true]
theorem addI_len (l:List ByteArray) (s:ByteArray):(addI l s).length≤l.length+1:=by
 unfold addI
 split
 ·exact addC_len l s
 ·omega
theorem foldI_snoc (all:List ByteArray) {k:Nat} (hk:k < all.length):(all.take (k+1)).foldl addI []=addI ((all.take k).foldl addI []) (all.getD k default):=by
 rw [List.take_succ_eq_append_getElem hk,List.foldl_append,getD_lt all hk]
 rfl
theorem foldI_len (all:List ByteArray):∀ k,k≤all.length → ((all.take k).foldl addI []).length≤k
 | 0,_=>by simp
 | k+1,h=>by
  rw [foldI_snoc all h]
  have:=foldI_len all k (by omega)
  have:=addI_len ((all.take k).foldl addI []) (all.getD k default)
  omega
section
variable {P:Program} {N p:Nat} {ops:Array Oper} {rest:List Oper} {o:Oper} {s:S} {K:S → Prop}
theorem pl_makeR {t e:TypeId} {x z:Operand} {by' n sz:Nat} {kx kz:IntKind} {zs:List E} {ds:List D} (ho:o.op = .makeSlice t x z) (hg:gd ops s o.guard=some true) (hd:dstOk N o.dst)
  (hel:elOf P t=some (e,sz)) (hby:bytOf P e=some by') (hz:zerOf P e=some zs) (hzd:toDs zs=some ds) (hzl:ds.length=sz) (h1:0 < sz) (hx:s.ev x=some (.c (.v (.int kx (n:Int))))) (hzz:s.ev z=some (.c (.v (.int kz (n:Int)))))
  (hb1:(by':Int) * n≤281474976710656) (hb2:(n:Int)≤9223372036854775807)
  (hK:PL P N p ops rest (S.put ⟨s.t,s.o++[.arr e sz (List.replicate n ds)]⟩ o.dst (.c (.own s.o.length n))) K):PL P N p ops (o :: rest) s K:=by
 refine pl_heap (q:=.c (.own s.o.length n)) (os:=s.o++[.arr e sz (List.replicate n ds)]) hg (fun Γ a w hA=>?_) (by simp) hd hK
 have hI:=hA.inv
 have hn:=hI.m.n
 obtain ⟨hu,hsz'⟩:=el_run hel
 obtain ⟨ie,zv,hie,hzv,hzr⟩:=zer_ok hz
 have hies:ie.size=sz:=by obtain ⟨i',hi',e'⟩:=Option.map_eq_some_iff.1 hsz';rw [hie] at hi';cases hi';exact e'
 have hieb:ie.bytes=by':=by
  obtain ⟨i',hi',e'⟩:=Option.map_eq_some_iff.1 (show (P.info? e).map (·.bytes)=some by' from hby);rw [hie] at hi';cases hi';exact e'
 have hrow:All2 (RD w Γ.I) ds zv.cells.toList:=(toDs_ok hzd (hzr w Γ)).1
 have hzsz:zv.cells.size=sz:=by rw [← Array.length_toList,← hrow.length,hzl]
 have hxv:a.eval x = .int kx (n:Int):=(S.ev_ok hx hI).1
 have hzv2:a.eval z = .int kz (n:Int):=(S.ev_ok hzz hI).1
 have hr:=run_make (P:=P) w t e ie zv hu hie hzv kx kz n n (by omega) (Int.le_refl _) (by rw [hieb];exact hb1) hb2
 simp only [Int.toNat_natCast,hies] at hr
 obtain ⟨xs,hxs⟩:∃ xs,madeCells zv.cells (n * sz)=xs:=⟨_,rfl⟩
 have hxl:xs.toList=(List.replicate n zv.cells.toList).flatten:=by
  rw [← zero_cells (z:=zv.cells.toList) n,← hxs,Array.toArray_toList]
  unfold madeCells Builtin.zeroCells
  rw [hzsz]
 have hfl:∀ m:Nat,(List.replicate m ds).flatten.length=m * sz:=fun m=>by
  induction m with
  | zero=>simp
  | succ m ih=>rw [List.replicate_succ,List.flatten_cons,List.length_append,ih,hzl,Nat.succ_mul];omega
 have hall:∀ m:Nat,All2 (RD w Γ.I) (List.replicate m ds).flatten (List.replicate m zv.cells.toList).flatten:=fun m=>by
  induction m with
  | zero=>trivial
  | succ m ih=>rw [List.replicate_succ,List.replicate_succ,List.flatten_cons,List.flatten_cons];exact hrow.append ih
 have hxz:xs.size=n * sz:=by rw [← Array.length_toList,hxl,← (hall n).length,hfl]
 rw [hxs] at hr
 have hE:Ext No w (w.alloc (.cells xs e)):=(Ext.refl No w).alloc _
 have hS:=Same.of_ext hE
 have hag:=push_agree Γ w.heap.size n
 have hrun:(execOp a.eval o).run P w = .ok (.value (.slice (some ⟨w.heap.size,0,none⟩) n n)) (w.alloc (.cells xs e)):=by
  simp only [execOp,ho,hxv,hzv2,Sem.run_bind,hr,Result.andThen_ok,Sem.run_pure]
 have hm:MemOk (Γ.push w.heap.size n) (s.o++[.arr e sz (List.replicate n ds)]) (w.alloc (.cells xs e)):=by
  refine hI.m.push hS _ _ _ ⟨fun r hr=>by rw [List.mem_replicate] at hr;rw [hr.2];exact hzl,h1,fun h=>?_,fun _=>⟨xs,?_,?_,?_,?_,?_⟩⟩ (fun _=>Nat.le_refl _)
  ·simp only [G.push,upd_same] at h;subst h;rfl
  ·simp only [G.push,upd_same];exact Blk.new w e xs
  ·simp only [G.push,upd_same];exact hxz
  ·simp only [G.push,upd_same,List.length_replicate];exact Nat.le_refl _
  ·simp only [G.push,upd_same,maxLen];omega
  ·rw [List.length_replicate,hxl,List.take_of_length_le (by rw [← (hall n).length,hfl];exact Nat.le_refl _)]
   exact (hall n).mono fun _ _=>RD.stay (hS.stay Γ.I) _ _
 refine ⟨_,_,Γ.push w.heap.size n,.inl hrun,⟨by simp [G.push,hn],?_⟩,hI.heap hm (hS.stay Γ.I) hag,grow_push hI.m hE _ _ (fun _=>Nat.le_refl _) hA.le⟩
 unfold OwnRep
 by_cases h0:n=0
 ·subst h0
  exact .inl ⟨by simp only [G.push,← hn,upd_same],⟨_,rfl⟩,rfl⟩
 ·refine .inr ⟨?_,?_,?_⟩
  ·simp only [G.push,← hn,upd_same];omega
  ·simp only [G.push,← hn,upd_same]
  ·simp only [G.push,← hn,upd_same];exact Nat.le_refl _
end
end Go.Proofs.YthconflkbeipoaaGreatDoor
namespace Go.Proofs.YthconflkbeipoaaGreatDoor
attribute [local irreducible] PL QL PWPr PCalls Weak RetK Kontr PA
open Go.RowKit
open IntWalk renaming iteOmega → iO, toNatUp → tN
set_option linter.unusedVariables false
set_option linter.unusedSimpArgs false
set_option maxRecDepth 20000
def nmK (l:List Wsh) (k:Nat) (vs:List ByteArray):List Atr:=(List.range vs.length).map fun j=>⟨if j < k then (l.getD j default).path else ⟨#[]⟩,vs.getD j default⟩
theorem nmK_len (l:List Wsh) (k:Nat) (vs:List ByteArray):(nmK l k vs).length=vs.length:=by unfold nmK;simp
theorem nmK_get (l:List Wsh) (k:Nat) {vs:List ByteArray} {j:Nat} (h:j < vs.length):(nmK l k vs).getD j default=⟨if j < k then (l.getD j default).path else ⟨#[]⟩,vs.getD j default⟩:=by
 unfold nmK
 rw [List.getD_eq_getElem?_getD,List.getElem?_map,List.getElem?_range h]
 rfl
theorem ext_getD {α:Type} [Inhabited α] {l m:List α} (h:l.length=m.length) (h2:∀ j,j < l.length → l.getD j default=m.getD j default):l=m:=List.ext_getElem h fun j h3 h4=>by
 have:=h2 j h3
 rwa [getD_lt l h3,getD_lt m h4] at this
theorem nmK_setv (l:List Wsh) (k:Nat) {vs:List ByteArray} {i:Nat} (h:i < vs.length) (v:ByteArray):(nmK l k vs).set i ⟨((nmK l k vs).getD i default).name,v⟩=nmK l k (vs.set i v):=by
 have hil:i < (nmK l k vs).length:=by rw [nmK_len];exact h
 refine ext_getD (by rw [List.length_set,nmK_len,nmK_len,List.length_set]) fun j hj=>?_
 rw [List.length_set,nmK_len] at hj
 have hr:=nmK_get l k (vs:=vs.set i v) (j:=j) (by rw [List.length_set];exact hj)
 by_cases e:i=j
 ·subst e
  rw [hr,getD_set_eq hil,nmK_get l k h,getD_set_eq h]
 ·rw [hr,getD_set_ne e,getD_set_ne e,nmK_get l k hj]
theorem nmK_setn (l:List Wsh) {k:Nat} {vs:List ByteArray} (h:k < vs.length):(nmK l k vs).set k ⟨(l.getD k default).path,((nmK l k vs).getD k default).value⟩=nmK l (k+1) vs:=by
 have hil:k < (nmK l k vs).length:=by rw [nmK_len];exact h
 refine ext_getD (by rw [List.length_set,nmK_len,nmK_len]) fun j hj=>?_
 rw [List.length_set,nmK_len] at hj
 rw [nmK_get l (k+1) hj]
 by_cases e:k=j
 ·subst e
  rw [getD_set_eq hil,nmK_get l k h,if_pos (Nat.lt_succ_self k)]
 ·rw [getD_set_ne e,nmK_get l k hj]
  congr 1
  by_cases hk:j < k
  ·rw [if_pos hk,if_pos (by omega)]
  ·rw [if_neg hk,if_neg (by omega)]
theorem nmK_end (l:List Wsh):nmK l l.length (namedA l)=assignA l∨(namedA l).length≠l.length:=by
 by_cases h:(namedA l).length=l.length
 ·refine .inl ?_
  unfold nmK assignA
  rw [h]
  refine List.map_congr_left fun j hj=>?_
  rw [if_pos (List.mem_range.1 hj)]
 ·exact .inr h
theorem replicate_nm (l:List Wsh) (n:Nat):List.replicate n [D.v (.string ⟨#[]⟩),D.v (.string ⟨#[]⟩)]=(nmK l 0 (List.replicate n ⟨#[]⟩)).map Atr.d:=by
 unfold nmK
 rw [List.map_map,List.length_replicate]
 refine List.ext_getElem (by simp) fun j h1 h2=>?_
 rw [List.getElem_replicate,List.getElem_map,List.getElem_range]
 simp only [Function.comp,Nat.not_lt_zero,if_false]
 rw [List.length_replicate] at h1
 rw [getD_lt _ (by rw [List.length_replicate];exact h1),List.getElem_replicate]
 rfl
theorem foldl_max_le (l:List Wsh) {B:Nat} (h:∀ w ∈ l,w.names.length≤B):∀ a,a≤B → l.foldl (fun a w=>max a w.names.length) a≤B:=by
 induction l with
 | nil=>intro a ha;exact ha
 | cons x l ih=>intro a ha;exact ih (fun w hw=>h w (by simp [hw])) _ (Nat.max_le.2 ⟨ha,h x (by simp)⟩)
theorem maxR_le {l:List Wsh} {B:Nat} (h:∀ w ∈ l,w.names.length≤B):maxR l≤B:=foldl_max_le l h 0 (Nat.zero_le _)
theorem maxR_of {l:List Wsh} {r:Nat} (h:∀ i,i < l.length → ¬ r < (l.getD i default).names.length):maxR l≤r:=maxR_le fun w hw=>by
 obtain ⟨i,hi,rfl⟩:=List.getElem_of_mem hw
 have:=h i hi
 rw [getD_lt l hi] at this
 omega
theorem rankK_none {l:List Wsh} {r:Nat}:∀ {k:Nat},k≤l.length → maxR l≤r → rankK l r k=[]
 | 0,_,_=>rankK_zero l r
 | k+1,hk,h=>by
  have:l.getD k default ∈ l:=by rw [getD_lt l (by omega)];exact List.getElem_mem _
  have:=maxR_ge this
  rw [rankK_f (by omega),rankK_none (by omega) h]
theorem prsL_end {l:List Wsh}:∀ {n:Nat},maxR l≤n → prsL l n=prsL l (maxR l)
 | 0,h=>by rw [Nat.le_zero.1 h]
 | n+1,h=>by
  by_cases e:maxR l=n+1
  ·rw [e]
  ·rw [prsL_succ,rankK_none (Nat.le_refl _) (by omega),List.append_nil,prsL_end (by omega)]
theorem stepW_yes {st:AsgS} {i:Nat} {s:ByteArray} (h1:st.1.getD i default=⟨#[]⟩) (h2:inM s st.2=false):stepW st (i,s)=(st.1.set i s,addS st.2 s):=by unfold stepW;rw [if_pos ⟨h1,h2⟩]
theorem stepW_no {st:AsgS} {i:Nat} {s:ByteArray} (h:¬ (st.1.getD i default=⟨#[]⟩∧inM s st.2=false)):stepW st (i,s)=st:=by unfold stepW;rw [if_neg h]
theorem runA_len (l:List Wsh) (ps:List (Nat × ByteArray)):(runA l ps).1.length=l.length:=by
 have key:∀ (ps:List (Nat × ByteArray)) (st:AsgS),(ps.foldl stepW st).1.length=st.1.length:=by
  intro ps
  induction ps with
  | nil=>intro st;rfl
  | cons p ps ih =>
   intro st
   rw [List.foldl_cons,ih]
   unfold stepW
   split
   ·rw [List.length_set]
   ·rfl
 unfold runA
 rw [key]
 unfold startA
 simp
theorem pairs_pure (l:List Wsh):PCalls Tryz.prog 34 [.c (.sl 2 (l.map Wsh.d))] [] fun r os=>r = .c (.fn (.func 69) [] [0])∧os=[.box 26 [.sl 2 (l.map Wsh.d)]]:=by
 refine pcalls_of Tryz.func34 rfl (by simp [Tryz.ntmps34]) ?_
 rw [Tryz.ntmps34,Tryz.results34]
 push_cast [iO,tN]
 repeat' (first|((first|refine pG ?_|refine pQ ?_|refine pU ?_);push_cast [iO,tN])|(refine pif (fun h=>?_) (fun h=>?_)<;>first|exact pN h|push_cast [iO,tN]))
 (refine retK_of [0] ?_;push_cast [iO,tN])
theorem digN_size (n:Nat):(digN n).size≤n+1:=by
 have h:(digN n).size=(Lib.decDigits n).length:=by unfold digN;simp [ByteArray.size]
 rw [h]
 clear h
 induction n using Nat.strongRecOn with
 | ind n ih =>
  rw [Lib.decDigits]
  split
  ·simp
  ·have:=ih (n / 10) (by omega)
   rw [List.length_append,List.length_singleton]
   omega
theorem ifN_ne (n:Nat):ifN n≠⟨#[]⟩:=fun e=>by
 have h:=congrArg ByteArray.size e
 unfold ifN at h
 rw [ByteArray.size_append] at h
 have:(⟨#[105,102]⟩:ByteArray).size=2:=rfl
 have h2:(⟨#[]⟩:ByteArray).size=0:=rfl
 omega
theorem fillW_ne {W:List ByteArray} {b:List ByteArray × Nat} {k:Nat} (hk:k < b.1.length):(fillW W b k).1.getD k default≠⟨#[]⟩:=by
 unfold fillW
 split
 ·simp only
  rw [getD_set_eq hk]
  exact ifN_ne _
 ·rename_i h
  exact h
def FewW (l:List Wsh):Prop:=∀ k,k < l.length → freshN (wantA2 l) (fillWK (wantA2 l) (valsA l) k).2≤98
theorem few_mul {l:List Wsh} (h:l.length * ((wantA2 l).length+2)≤99):FewW l:=fun k hk=>by
 have h1:=(fill_all (wantA2 l) (valsA l) k (by unfold valsA;rw [runA_len];omega)).top
 have h2:=fresh_le (wantA2 l) (fillWK (wantA2 l) (valsA l) k).2
 have h3:(k+1) * ((wantA2 l).length+2)≤l.length * ((wantA2 l).length+2):=Nat.mul_le_mul_right _ hk
 rw [Nat.succ_mul] at h3
 omega
abbrev asgO (l:List Wsh) (st:AsgS) (W:List ByteArray):List Ob:=[.arr 33 2 ((nmK l 0 st.1).map Atr.d),.box 28 [.own 0 l.length],.map none false (setE st.2),.map none false (setE W),.box 75 [.mp 2],.box 75 [.mp 3],.box 26 [.sl 2 (l.map Wsh.d)]]
set_option maxHeartbeats 16000000 in
theorem assign_ok (l:List Wsh) (h:WshFit l) (hok:wshOk l=true) (hfew:FewW l) :
  PCalls Tryz.prog 10 [.c (.sl 2 (l.map Wsh.d))] [] fun r os=>r = .two (.c (.sl 2 ((assignA l).map Atr.d))) (.c (.v (.int .i64 0)))∧os=[]:=by
 have hlen:=h.len
 have hv:=valid23_pure l h
 rw [hok] at hv
 have hp:=pairs_pure l
 have hrep:=replicate_nm l l.length
 have hmx:=maxR_le h.cnt
 refine pcalls_of Tryz.func10 rfl (by simp [Tryz.ntmps10]) ?_
 rw [Tryz.ntmps10,Tryz.results10]
 push_cast [iO,tN]
 have cB:CutB 13 [22,46,47,48]:=trivial
 repeat' (first |  ((refine plc [] (hv) ?_ ?_;push_cast [iO,tN];rintro r os ⟨rfl,rfl⟩;push_cast [iO,tN]))|(refine pl_makeR (n:=l.length) (kx:=.i64) (kz:=.i64) (by':=32) (e:=33) (sz:=2) (zs:=[.v (.string ⟨#[]⟩),.v (.string ⟨#[]⟩)]) (ds:=[.v (.string ⟨#[]⟩),.v (.string ⟨#[]⟩)]) rfl rfl (by push_cast [iO,tN]) rfl (by kernel_rfl) (by kernel_rfl) rfl rfl (by omega) (by push_cast [iO,tN]) (by push_cast [iO,tN]) (by omega) (by omega) ?_;push_cast [iO,tN,hrep];refine pl_of_pops ?_;push_cast [iO,tN,hrep])|((refine plc [] (hp) ?_ ?_;push_cast [iO,tN];rintro r os ⟨rfl,rfl⟩;push_cast [iO,tN]))|(refine pwp_seq fun K hK=>?_)|(refine pwp_block ?_)  | ((first|refine pC ?_|refine pQC ?_|refine pU ?_);push_cast [iO,tN])|(refine pif (fun h=>?_) (fun h=>?_)<;>first|exact pN h|push_cast [iO,tN]))
 refine pwp_range (R:=fun lo r os'=>∃ L2 t2,os'=asgO l (runA l (prsL l (maxR l))) (wantedA (prsL l (maxR l)))++[.loop lo L2 t2]∧L2.st = .ready∧L2.pd=none) rfl (by kernel_rfl) (fun lo D fn=>?_) (fun lo r os' hR=>?_)
 ·refine pcalls_of_all Tryz.func69 rfl (by simp [Tryz.ntmps69]) ?_
  rw [Tryz.ntmps69,Tryz.results69]
  push_cast [iO,tN]
  have cB:CutB 7 [10,11,12]:=trivial
  repeat' (first|((first|refine pC ?_|refine pQC ?_|refine pU ?_);push_cast [iO,tN])|(refine pif (fun h=>?_) (fun h=>?_)<;>first|exact pN h|push_cast [iO,tN]))
  (apply pwp_loop3 (α:=Nat × Bool) 7 [10,11,12] (fun x=>[(3,.c (.v (.int .i64 x.1))),(4,.c (.v (.bool x.2)))]) (fun x=>[(0,.arr 33 2 ((nmK l 0 (runA l (prsL l x.1)).1).map Atr.d)),(2,.map none false (setE (runA l (prsL l x.1)).2)),(3,.map none false (setE (wantedA (prsL l x.1))))]) (fun x=>(x.2=true → x.1≤maxR l)∧(x.2=false → maxR l≤x.1)∧x.1≤maxR l+1) (fun x=>maxR l+1 - x.1) ((0,true));(focus ((try push_cast [iO,tN]);rfl));(focus exact ⟨fun _=>Nat.zero_le _,(fun h=>by cases h),(by simp only;omega)⟩);(focus ((refine weak_fg ?_;try push_cast [iO,tN]);(try (exact ⟨rfl,rfl,rfl⟩)))))
  rintro ⟨r,y⟩ ⟨hy1,hy2,hr⟩
  simp only at hy1 hy2 hr
  push_cast [iO,tN]
  cases y with
  | false =>
   have hend:=prsL_end (hy2 rfl)
   repeat' (first|((first|refine pC ?_|refine pQC ?_|refine pU ?_);push_cast [iO,tN])|(refine pif (fun h=>?_) (fun h=>?_)<;>first|exact pN h|push_cast [iO,tN]))
   exact ⟨_,rfl,by push_cast [iO,tN,hend],_,_,by rw [hend],rfl,rfl⟩
  | true =>
   have hrm:=hy1 rfl
   repeat' (first|((first|refine pC ?_|refine pQC ?_|refine pU ?_);push_cast [iO,tN])|(refine pif (fun h=>?_) (fun h=>?_)<;>first|exact pN h|push_cast [iO,tN]))
   (apply pwp_loop3 (α:=Nat × Bool) 7 [10,11,12] (fun x=>[(12,.c (.v (.int .i64 x.1))),(4,.c (.v (.bool x.2)))]) (fun x=>[(0,.arr 33 2 ((nmK l 0 (runA l (prsL l r++rankK l r x.1)).1).map Atr.d)),(2,.map none false (setE (runA l (prsL l r++rankK l r x.1)).2)),(3,.map none false (setE (wantedA (prsL l r++rankK l r x.1))))]) (fun x=>x.1≤l.length∧(x.2=true → r+1≤maxR l)∧(x.2=false → ∀ i,i < x.1 → ¬ r < (l.getD i default).names.length)) (fun x=>l.length - x.1) ((0,false));(focus ((try push_cast [iO,tN]);rfl));(focus exact ⟨Nat.zero_le _,(fun h=>by cases h),(fun _ i hi=>by simp only at hi;omega)⟩);(focus ((refine weak_fg ?_;try push_cast [iO,tN]);(try ((simp only [rankK_zero,List.append_nil];exact ⟨trivial,trivial,trivial⟩))))))
   rintro ⟨k,y⟩ ⟨hk,h1,h2⟩
   simp only at hk h1 h2
   push_cast [iO,tN]
   by_cases hlt:k < l.length
   case neg =>
    have hk2:k=l.length:=by omega
    subst hk2
    rw [← prsL_succ]
    repeat' (first|((first|refine pC ?_|refine pQC ?_|refine pU ?_);push_cast [iO,tN])|(refine pif (fun h=>?_) (fun h=>?_)<;>first|exact pN h|push_cast [iO,tN]))
    refine ⟨(r+1,y),⟨fun hy=>h1 hy,fun hy=>Nat.le_succ_of_le (maxR_of fun i hi=>h2 hy i hi),by simp only;omega⟩,by (refine weak_fg ?_;push_cast [iO,tN]),by simp only;omega⟩
   obtain ⟨w,hw⟩:∃ w,l.getD k default=w:=⟨_,rfl⟩
   have hm:w ∈ l:=by rw [← hw,getD_lt l hlt];exact List.getElem_mem _
   have hcn:=h.cnt w hm
   by_cases hrk:r < w.names.length
   case neg =>
    have hskip:rankK l r (k+1)=rankK l r k:=rankK_f (by rw [hw];exact hrk)
    repeat' (first|((first|refine pC ?_|refine pQC ?_|refine pU ?_);push_cast [iO,tN,hw,hrk])|(refine pif (fun h=>?_) (fun h=>?_)<;>first|exact pN h|push_cast [iO,tN,hw,hrk]))
    refine ⟨(k+1,y),⟨by simp only;omega,fun hy=>h1 hy,fun hy i hi=>?_⟩,by (refine weak_fg ?_;push_cast [iO,tN,hskip]),by simp only;omega⟩
    simp only at hi
    by_cases e:i=k
    ·rw [e,hw];exact hrk
    ·exact h2 hy i (by omega)
   have hrk2:=maxR_ge hm
   have hsr:=rankK_t (l:=l) (r:=r) (k:=k) (by rw [hw];exact hrk)
   rw [hw] at hsr
   obtain ⟨s,hs⟩:∃ s,w.names.getD r default=s:=⟨_,rfl⟩
   rw [hs] at hsr
   have hR2:runA l (prsL l r++rankK l r (k+1))=stepW (runA l (prsL l r++rankK l r k)) (k,s):=by rw [hsr,← List.append_assoc,runA_snoc]
   have hW2:wantedA (prsL l r++rankK l r (k+1))=addS (wantedA (prsL l r++rankK l r k)) s:=by rw [hsr,← List.append_assoc,wantedA_snoc]
   have hsl:=runA_len l (prsL l r++rankK l r k)
   obtain ⟨st,hst⟩:∃ st,runA l (prsL l r++rankK l r k)=st:=⟨_,rfl⟩
   obtain ⟨W,hWW⟩:∃ W,wantedA (prsL l r++rankK l r k)=W:=⟨_,rfl⟩
   rw [hst] at hR2 hsl ⊢
   rw [hWW] at hW2 ⊢
   have hks:k < st.1.length:=by omega
   have hg:=nmK_get l 0 hks
   simp only [Nat.not_lt_zero,if_false] at hg
   have hnl:=nmK_len l 0 st.1
   have hmw:=mput_set s W
   have hmt:=mput_set s st.2
   have hlk:=lk_set st.2 s
   have hgv:nmK l 0 (st.1.set k s)=(nmK l 0 st.1).set k ⟨⟨#[]⟩,s⟩:=by rw [← nmK_setv l 0 hks,hg]
   have hX:((nmK l 0 st.1).map Atr.d).set k [.v (.string ⟨#[]⟩),.v (.string s)]=(nmK l 0 (st.1.set k s)).map Atr.d:=by rw [hgv,List.map_set];rfl
   repeat' (first|((first|refine pC ?_|refine pQC ?_|refine pU ?_);push_cast [iO,tN,hw,hrk,hs])|(refine pif (fun h=>?_) (fun h=>?_)<;>first|exact pN h|push_cast [iO,tN,hw,hrk,hs]))
   refine pl_yield 7 (qs:=[.c (.v (.int .i64 k)),.c (.v (.string s))]) rfl rfl rfl (by push_cast [iO,tN]) rfl rfl (by push_cast [iO,tN,hw,hs]) rfl rfl ?_
   try dsimp only
   push_cast [iO,tN]
   have cB:CutB 13 [22,23,24]:=trivial
   repeat' (first|((first|refine pC ?_|refine pQC ?_|refine pU ?_);push_cast [iO,tN])|(refine pif (fun h=>?_) (fun h=>?_)<;>first|exact pN h|push_cast [iO,tN]))
   simp only [asgQ]
   refine ⟨_,_,rfl,rfl,?_⟩
   try dsimp only
   by_cases hv1:st.1.getD k default=⟨#[]⟩
   ·cases hv2:inM s st.2 with
    | false =>
     have hY:=stepW_yes hv1 hv2
     rw [hY] at hR2
     have hl2:(st.1.set k s).length=l.length:=by rw [List.length_set];exact hsl
     rw [hv2] at hlk
     repeat' (first|((first|refine pC ?_|refine pQC ?_|refine pU ?_);push_cast [iO,tN,hmw,hg,hnl,hsl,hv1,hlk,hmt,hX])|(refine pif (fun h=>?_) (fun h=>?_)<;>first|exact pN h|push_cast [iO,tN,hmw,hg,hnl,hsl,hv1,hlk,hmt,hX]))
     simp only [yldQ]
     refine ⟨_,_,rfl,?_⟩
     refine pl_of_pops ?_
     push_cast [iO,tN]
     have cB:CutB 7 [10,11,12]:=trivial
     repeat' (first|((first|refine pC ?_|refine pQC ?_|refine pU ?_);push_cast [iO,tN])|(refine pif (fun h=>?_) (fun h=>?_)<;>first|exact pN h|push_cast [iO,tN]))
     refine ⟨(k+1,true),⟨by simp only;omega,(fun _=>by omega),(fun hy=>by cases hy)⟩,by (refine weak_fg ?_;push_cast [iO,tN,hR2,hW2,hX]),by simp only;omega⟩
    | true =>
     have hN:=stepW_no (st:=st) (i:=k) (s:=s) (by rw [hv2];exact fun h=>by cases h.2)
     rw [hN] at hR2
     rw [hv2] at hlk
     repeat' (first|((first|refine pC ?_|refine pQC ?_|refine pU ?_);push_cast [iO,tN,hmw,hg,hnl,hsl,hv1,hlk])|(refine pif (fun h=>?_) (fun h=>?_)<;>first|exact pN h|push_cast [iO,tN,hmw,hg,hnl,hsl,hv1,hlk]))
     simp only [yldQ]
     refine ⟨_,_,rfl,?_⟩
     refine pl_of_pops ?_
     push_cast [iO,tN]
     have cB:CutB 7 [10,11,12]:=trivial
     repeat' (first|((first|refine pC ?_|refine pQC ?_|refine pU ?_);push_cast [iO,tN])|(refine pif (fun h=>?_) (fun h=>?_)<;>first|exact pN h|push_cast [iO,tN]))
     refine ⟨(k+1,true),⟨by simp only;omega,(fun _=>by omega),(fun hy=>by cases hy)⟩,by (refine weak_fg ?_;push_cast [iO,tN,hR2,hW2]),by simp only;omega⟩
   ·have hN:=stepW_no (st:=st) (i:=k) (s:=s) (fun h=>hv1 h.1)
    rw [hN] at hR2
    repeat' (first|((first|refine pC ?_|refine pQC ?_|refine pU ?_);push_cast [iO,tN,hmw,hg,hnl,hsl,hv1])|(refine pif (fun h=>?_) (fun h=>?_)<;>first|exact pN h|push_cast [iO,tN,hmw,hg,hnl,hsl,hv1]))
    simp only [yldQ]
    refine ⟨_,_,rfl,?_⟩
    refine pl_of_pops ?_
    push_cast [iO,tN]
    have cB:CutB 7 [10,11,12]:=trivial
    repeat' (first|((first|refine pC ?_|refine pQC ?_|refine pU ?_);push_cast [iO,tN])|(refine pif (fun h=>?_) (fun h=>?_)<;>first|exact pN h|push_cast [iO,tN]))
    refine ⟨(k+1,true),⟨by simp only;omega,(fun _=>by omega),(fun hy=>by cases hy)⟩,by (refine weak_fg ?_;push_cast [iO,tN,hR2,hW2]),by simp only;omega⟩
 ·obtain ⟨L2,t2,rfl,h1,h2⟩:=hR
  refine ⟨L2,t2,rfl,by rw [h1];simp,?_⟩
  rw [h2]
  simp only [rngfQ]
  have cB:CutB 13 [46,47,48]:=trivial
  push_cast [iO,tN]
  refine pU ?_
  obtain ⟨W,hW⟩:∃ W,wantedA (prsL l (maxR l))=W:=⟨_,rfl⟩
  have hvs:(runA l (prsL l (maxR l))).1=valsA l:=rfl
  obtain ⟨TK,hTK⟩:∃ TK,(runA l (prsL l (maxR l))).2=TK:=⟨_,rfl⟩
  have hvl:(valsA l).length=l.length:=runA_len l _
  rw [hvs,hW,hTK]
  have hW2:wantA2 l=W:=hW
  have hbl:∀ k,k≤l.length → (fillWK W (valsA l) k).1.length=l.length:=fun k hk=>(fill_all W (valsA l) k (by omega)).len.trans hvl
  have hfw:=fun k (hk:k < l.length)=>hfew k hk
  rw [hW2] at hfw
  refine pwp_weak (s':=⟨[(0,.c (.sl 2 (l.map Wsh.d))),(4,.c (.ptr 1 0)),(5,.c (.ptr 4 0)),(6,.c (.ptr 5 0))],asgO l (valsA l,TK) W⟩) (by (refine weak_fg ?_;push_cast [iO,tN])) ?_
  repeat' (first|((first|refine pC ?_|refine pQC ?_|refine pU ?_);push_cast [iO,tN])|(refine pif (fun h=>?_) (fun h=>?_)<;>first|exact pN h|push_cast [iO,tN]))
  (apply pwp_loop3 (α:=Nat) 13 [46,47,48] (fun k=>[(9,.c (.v (.int .i64 ((fillWK W (valsA l) k).2)))),(48,.c (.v (.int .i64 k)))]) (fun k=>[(0,.arr 33 2 ((nmK l k (fillWK W (valsA l) k).1).map Atr.d))]) (fun k=>k≤l.length) (fun k=>l.length - k) (0);(focus ((try push_cast [iO,tN]);rfl));(focus exact (Nat.zero_le _));(focus ((refine weak_fg ?_;try push_cast [iO,tN]);(try (exact ⟨rfl,rfl⟩)))))
  intro k hk
  push_cast [iO,tN]
  by_cases hlt:k < l.length
  case neg =>
   have hk2:k=l.length:=by omega
   subst hk2
   have hbn:=hbl l.length (Nat.le_refl _)
   have hfin:nmK l l.length (fillWK W (valsA l) l.length).1=assignA l:=by
    rcases nmK_end l with h1|h1
    ·rw [← h1,← hW2];rfl
    ·exact absurd (by rw [← hW2] at hbn;exact hbn) h1
   have hal:(assignA l).length=l.length:=by unfold assignA;simp
   rw [hfin]
   refine pwp_weak (weak_frz 0 (by omega)) ?_
   push_cast [iO,tN,hal]
   have htk:List.take l.length ((assignA l).map Atr.d)=(assignA l).map Atr.d:=List.take_of_length_le (by rw [List.length_map,hal];exact Nat.le_refl _)
   repeat' (first|((first|refine pC ?_|refine pQC ?_|refine pU ?_);push_cast [iO,tN,htk])|(refine pif (fun h=>?_) (fun h=>?_)<;>first|exact pN h|push_cast [iO,tN,htk]))
   (refine retK_of [] ?_;push_cast [iO,tN,htk])
  obtain ⟨w,hw⟩:∃ w,l.getD k default=w:=⟨_,rfl⟩
  have hb1:=hbl k (by omega)
  have hfk:=hfw k hlt
  have hnx:=fillWK_succ W (valsA l) k
  obtain ⟨b,hb⟩:∃ b,fillWK W (valsA l) k=b:=⟨_,rfl⟩
  rw [hb] at hb1 hfk hnx ⊢
  have hkb:k < b.1.length:=by omega
  have hnl:=nmK_len l k b.1
  have hg:=nmK_get l k hkb
  have hsn:=nmK_setn l hkb
  rw [hw] at hsn
  have hX:((nmK l k b.1).map Atr.d).set k [.v (.string w.path),.v (.string ((nmK l k b.1).getD k default).value)]=(nmK l (k+1) b.1).map Atr.d:=by rw [← hsn,List.map_set];rfl
  have hini:nmK l (k+1) (if (!decide (b.1.getD k default=⟨#[]⟩))=true then (fillW W b k).1 else b.1)=nmK l (k+1) b.1:=by
   by_cases hc:b.1.getD k default=⟨#[]⟩
   ·rw [decide_eq_true hc];rfl
   ·rw [decide_eq_false hc]
    unfold fillW
    rw [if_neg hc]
    rfl
  repeat' (first|((first|refine pC ?_|refine pQC ?_|refine pU ?_);push_cast [iO,tN,hw,hnl,hb1,hX])|(refine pif (fun h=>?_) (fun h=>?_)<;>first|exact pN h|push_cast [iO,tN,hw,hnl,hb1,hX]))
  (apply pwp_loop3 (α:=Nat × Bool) 13 [46,47,48] (fun x=>[(9,.c (.v (.int .i64 x.1)))]) (fun x=>[(0,.arr 33 2 ((nmK l (k+1) (if x.2 then (fillW W b k).1 else b.1)).map Atr.d))]) (fun x=>(x.2=false → b.1.getD k default=⟨#[]⟩∧b.2≤x.1∧x.1≤freshN W b.2)∧(x.2=true → x.1=(fillW W b k).2)) (fun x=>(if x.2 then 0 else freshN W b.2+1 - x.1)) ((b.2,!decide (b.1.getD k default=⟨#[]⟩)));(focus ((try push_cast [iO,tN]);rfl));(focus exact ⟨(fun hx=>by simp only [Bool.not_eq_false',decide_eq_true_eq] at hx;exact ⟨hx,Nat.le_refl _,fresh_ge W b.2⟩),(fun hx=>by simp only [Bool.not_eq_true',decide_eq_false_iff_not] at hx;unfold fillW;rw [if_neg hx])⟩);(focus ((refine weak_fg ?_;try push_cast [iO,tN]);(try (rw [hini])))))
  rintro ⟨n,y⟩ ⟨hy1,hy2⟩
  simp only at hy1 hy2
  have hg1:=nmK_get l (k+1) hkb
  simp only [Nat.lt_succ_self,if_true,hw] at hg1
  have hnl1:=nmK_len l (k+1) b.1
  cases y with
  | true =>
   have hn:=hy2 rfl
   have hfl:(fillW W b k).1.length=l.length:=by rw [← hnx];exact hbl (k+1) (by omega)
   have hne:=fillW_ne (W:=W) (b:=b) hkb
   rw [hn]
   obtain ⟨b2,hb2⟩:∃ b2,fillW W b k=b2:=⟨_,rfl⟩
   rw [hb2] at hfl hne hnx ⊢
   have hg2:=nmK_get l (k+1) (vs:=b2.1) (j:=k) (by omega)
   simp only [Nat.lt_succ_self,if_true,hw] at hg2
   have hnl2:=nmK_len l (k+1) b2.1
   simp only [if_true]
   push_cast [iO,tN]
   repeat' (first|((first|refine pC ?_|refine pQC ?_|refine pU ?_);push_cast [iO,tN,hg2,hne,hnl2,hfl])|(refine pif (fun h=>?_) (fun h=>?_)<;>first|exact pN h|push_cast [iO,tN,hg2,hne,hnl2,hfl]))
   exact ⟨k+1,by omega,by (refine weak_fg ?_;push_cast [iO,tN,hnx]),by omega⟩
  | false =>
   obtain ⟨hv0,hn1,hn2⟩:=hy1 rfl
   have hit:=itoaN_pure n (by omega)
   have hds:=digN_size n
   have hsz:(⟨#[105,102]⟩:ByteArray).size=2:=rfl
   have hif:(⟨#[105,102]⟩:ByteArray)++digN n=ifN n:=rfl
   have hlk:=lk_set W (ifN n)
   simp only [Bool.false_eq_true,if_false]
   push_cast [iO,tN]
   by_cases hnf:n=freshN W b.2
   ·have hin:=fresh_not W b.2
    rw [← hnf] at hin
    rw [hin] at hlk
    have hfW:fillW W b k=(b.1.set k (ifN n),n+1):=by unfold fillW;rw [if_pos hv0,← hnf]
    have hY:((nmK l (k+1) b.1).map Atr.d).set k [.v (.string w.path),.v (.string (ifN n))]=(nmK l (k+1) (b.1.set k (ifN n))).map Atr.d:=by
     rw [← nmK_setv l (k+1) hkb,hg1,List.map_set];rfl
    repeat' (first|((refine plc [] (hit) ?_ ?_;push_cast [iO,tN,hg1,hv0,hnl1,hb1,hsz,hds,hif,hlk,hY];rintro r os ⟨rfl,rfl⟩;push_cast [iO,tN,hg1,hv0,hnl1,hb1,hsz,hds,hif,hlk,hY]))|((first|refine pC ?_|refine pQC ?_|refine pU ?_);push_cast [iO,tN,hg1,hv0,hnl1,hb1,hsz,hds,hif,hlk,hY])|(refine pif (fun h=>?_) (fun h=>?_)<;>first|exact pN h|push_cast [iO,tN,hg1,hv0,hnl1,hb1,hsz,hds,hif,hlk,hY]))
    exact ⟨(n+1,true),⟨(fun h=>by cases h),(fun _=>by rw [hfW])⟩,by (refine weak_fg ?_;push_cast [iO,tN,hfW,hY]),by simp only [if_true,Bool.false_eq_true,if_false];omega⟩
   ·have hin:=fresh_mid W hn1 (by omega)
    rw [hin] at hlk
    repeat' (first|((refine plc [] (hit) ?_ ?_;push_cast [iO,tN,hg1,hv0,hnl1,hb1,hsz,hds,hif,hlk];rintro r os ⟨rfl,rfl⟩;push_cast [iO,tN,hg1,hv0,hnl1,hb1,hsz,hds,hif,hlk]))|((first|refine pC ?_|refine pQC ?_|refine pU ?_);push_cast [iO,tN,hg1,hv0,hnl1,hb1,hsz,hds,hif,hlk])|(refine pif (fun h=>?_) (fun h=>?_)<;>first|exact pN h|push_cast [iO,tN,hg1,hv0,hnl1,hb1,hsz,hds,hif,hlk]))
    exact ⟨(n+1,false),⟨(fun _=>by refine ⟨?_,?_⟩<;>(simp only;omega)),(fun h=>by cases h)⟩,by (refine weak_fg ?_;push_cast [iO,tN]),by simp only [Bool.false_eq_true,if_false];omega⟩
end Go.Proofs.YthconflkbeipoaaGreatDoor
