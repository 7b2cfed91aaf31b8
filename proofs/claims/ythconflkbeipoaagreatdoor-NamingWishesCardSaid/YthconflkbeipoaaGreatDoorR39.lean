/- What the program computes, and the plain laws of it, part 39. -/
import Derived.Laws.IdiomRangeMap
import Derived.Test.YthconflkbeipoaaGreatDoorR38
namespace Go.Proofs.YthconflkbeipoaaGreatDoor
attribute [local irreducible] PL QL PWPr PCalls Weak RetK Kontr PA
open Go.RowKit
open IntWalk renaming iteOmega → iO, toNatUp → tN
set_option linter.unusedVariables false
set_option linter.unusedSimpArgs false
set_option maxRecDepth 20000
def nmK (l:List Wsh) (k:Nat) (vs:List ByteArray):List Atr:=(List.range vs.length).map fun j=>⟨if j < k then (l.getD j default).path else ⟨#[]⟩,vs.getD j default⟩
theorem nmK_len (l:List Wsh) (k:Nat) (vs:List ByteArray):(nmK l k vs).length=vs.length:=by unfold nmK;simp
theorem nmK_get (l:List Wsh) (k:Nat) {vs:List ByteArray} {j:Nat} (h:j < vs.length):(nmK l k vs).getD j default=⟨if j < k then (l.getD j default).path else ⟨#[]⟩,vs.getD j default⟩:=by
 unfold nmK
 rw [List.getD_eq_getElem?_getD,List.getElem?_map,List.getElem?_range h]
 rfl
theorem ext_getD {α:Type} [Inhabited α] {l m:List α} (h:l.length=m.length) (h2:∀ j,j < l.length → l.getD j default=m.getD j default):l=m:=List.ext_getElem h fun j h3 h4=>by
 have:=h2 j h3
 rwa [getD_lt l h3,getD_lt m h4] at this
theorem nmK_setv (l:List Wsh) (k:Nat) {vs:List ByteArray} {i:Nat} (h:i < vs.length) (v:ByteArray):(nmK l k vs).set i ⟨((nmK l k vs).getD i default).name,v⟩=nmK l k (vs.set i v):=by
 have hil:i < (nmK l k vs).length:=by rw [nmK_len];exact h
 refine ext_getD (by rw [List.length_set,nmK_len,nmK_len,List.length_set]) fun j hj=>?_
 rw [List.length_set,nmK_len] at hj
 have hr:=nmK_get l k (vs:=vs.set i v) (j:=j) (by rw [List.length_set];exact hj)
 by_cases e:i=j
 ·subst e
  rw [hr,getD_set_eq hil,nmK_get l k h,getD_set_eq h]
 ·rw [hr,getD_set_ne e,getD_set_ne e,nmK_get l k hj]
theorem nmK_setn (l:List Wsh) {k:Nat} {vs:List ByteArray} (h:k < vs.length):(nmK l k vs).set k ⟨(l.getD k default).path,((nmK l k vs).getD k default).value⟩=nmK l (k+1) vs:=by
 have hil:k < (nmK l k vs).length:=by rw [nmK_len];exact h
 refine ext_getD (by rw [List.length_set,nmK_len,nmK_len]) fun j hj=>?_
 rw [List.length_set,nmK_len] at hj
 rw [nmK_get l (k+1) hj]
 by_cases e:k=j
 ·subst e
  rw [getD_set_eq hil,nmK_get l k h,if_pos (Nat.lt_succ_self k)]
 ·rw [getD_set_ne e,nmK_get l k hj]
  congr 1
  by_cases hk:j < k
  ·rw [if_pos hk,if_pos (by omega)]
  ·rw [if_neg hk,if_neg (by omega)]
theorem nmK_end (l:List Wsh):nmK l l.length (namedA l)=assignA l∨(namedA l).length≠l.length:=by
 by_cases h:(namedA l).length=l.length
 ·refine .inl ?_
  unfold nmK assignA
  rw [h]
  refine List.map_congr_left fun j hj=>?_
  rw [if_pos (List.mem_range.1 hj)]
 ·exact .inr h
theorem replicate_nm (l:List Wsh) (n:Nat):List.replicate n [D.v (.string ⟨#[]⟩),D.v (.string ⟨#[]⟩)]=(nmK l 0 (List.replicate n ⟨#[]⟩)).map Atr.d:=by
 unfold nmK
 rw [List.map_map,List.length_replicate]
 refine List.ext_getElem (by simp) fun j h1 h2=>?_
 rw [List.getElem_replicate,List.getElem_map,List.getElem_range]
 simp only [Function.comp,Nat.not_lt_zero,if_false]
 rw [List.length_replicate] at h1
 rw [getD_lt _ (by rw [List.length_replicate];exact h1),List.getElem_replicate]
 rfl
theorem foldl_max_le (l:List Wsh) {B:Nat} (h:∀ w ∈ l,w.names.length≤B):∀ a,a≤B → l.foldl (fun a w=>max a w.names.length) a≤B:=by
 induction l with
 | nil=>intro a ha;exact ha
 | cons x l ih=>intro a ha;exact ih (fun w hw=>h w (by simp [hw])) _ (Nat.max_le.2 ⟨ha,h x (by simp)⟩)
theorem maxR_le {l:List Wsh} {B:Nat} (h:∀ w ∈ l,w.names.length≤B):maxR l≤B:=foldl_max_le l h 0 (Nat.zero_le _)
theorem maxR_of {l:List Wsh} {r:Nat} (h:∀ i,i < l.length → ¬ r < (l.getD i default).names.length):maxR l≤r:=maxR_le fun w hw=>by
 obtain ⟨i,hi,rfl⟩:=List.getElem_of_mem hw
 have:=h i hi
 rw [getD_lt l hi] at this
 omega
theorem rankK_none {l:List Wsh} {r:Nat}:∀ {k:Nat},k≤l.length → maxR l≤r → rankK l r k=[]
 | 0,_,_=>rankK_zero l r
 | k+1,hk,h=>by
  have:l.getD k default ∈ l:=by rw [getD_lt l (by omega)];exact List.getElem_mem _
  have:=maxR_ge this
  rw [rankK_f (by omega),rankK_none (by omega) h]
theorem prsL_end {l:List Wsh}:∀ {n:Nat},maxR l≤n → prsL l n=prsL l (maxR l)
 | 0,h=>by rw [Nat.le_zero.1 h]
 | n+1,h=>by
  by_cases e:maxR l=n+1
  ·rw [e]
  ·rw [prsL_succ,rankK_none (Nat.le_refl _) (by omega),List.append_nil,prsL_end (by omega)]
theorem stepW_yes {st:AsgS} {i:Nat} {s:ByteArray} (h1:st.1.getD i default=⟨#[]⟩) (h2:inM s st.2=false):stepW st (i,s)=(st.1.set i s,addS st.2 s):=by unfold stepW;rw [if_pos ⟨h1,h2⟩]
theorem stepW_no {st:AsgS} {i:Nat} {s:ByteArray} (h:¬ (st.1.getD i default=⟨#[]⟩∧inM s st.2=false)):stepW st (i,s)=st:=by unfold stepW;rw [if_neg h]
theorem runA_len (l:List Wsh) (ps:List (Nat × ByteArray)):(runA l ps).1.length=l.length:=by
 have key:∀ (ps:List (Nat × ByteArray)) (st:AsgS),(ps.foldl stepW st).1.length=st.1.length:=by
  intro ps
  induction ps with
  | nil=>intro st;rfl
  | cons p ps ih =>
   intro st
   rw [List.foldl_cons,ih]
   unfold stepW
   split
   ·rw [List.length_set]
   ·rfl
 unfold runA
 rw [key]
 unfold startA
 simp
theorem pairs_pure (l:List Wsh):PCalls Tryz.prog 34 [.c (.sl 2 (l.map Wsh.d))] [] fun r os=>r = .c (.fn (.func 69) [] [0])∧os=[.box 26 [.sl 2 (l.map Wsh.d)]]:=by
 refine pcalls_of Tryz.func34 rfl (by simp [Tryz.ntmps34]) ?_
 rw [Tryz.ntmps34,Tryz.results34]
 push_cast [iO,tN]
 repeat' (first|((first|refine pG ?_|refine pQ ?_|refine pU ?_);push_cast [iO,tN])|(refine pif (fun h=>?_) (fun h=>?_)<;>first|exact pN h|push_cast [iO,tN]))
 (refine retK_of [0] ?_;push_cast [iO,tN])
theorem digN_size (n:Nat):(digN n).size≤n+1:=by
 have h:(digN n).size=(Lib.decDigits n).length:=by unfold digN;simp [ByteArray.size]
 rw [h]
 clear h
 induction n using Nat.strongRecOn with
 | ind n ih =>
  rw [Lib.decDigits]
  split
  ·simp
  ·have:=ih (n / 10) (by omega)
   rw [List.length_append,List.length_singleton]
   omega
theorem ifN_ne (n:Nat):ifN n≠⟨#[]⟩:=fun e=>by
 have h:=congrArg ByteArray.size e
 unfold ifN at h
 rw [ByteArray.size_append] at h
 have:(⟨#[105,102]⟩:ByteArray).size=2:=rfl
 have h2:(⟨#[]⟩:ByteArray).size=0:=rfl
 omega
theorem fillW_ne {W:List ByteArray} {b:List ByteArray × Nat} {k:Nat} (hk:k < b.1.length):(fillW W b k).1.getD k default≠⟨#[]⟩:=by
 unfold fillW
 split
 ·simp only
  rw [getD_set_eq hk]
  exact ifN_ne _
 ·rename_i h
  exact h
def FewW (l:List Wsh):Prop:=∀ k,k < l.length → freshN (wantA2 l) (fillWK (wantA2 l) (valsA l) k).2≤98
theorem few_mul {l:List Wsh} (h:l.length * ((wantA2 l).length+2)≤99):FewW l:=fun k hk=>by
 have h1:=(fill_all (wantA2 l) (valsA l) k (by unfold valsA;rw [runA_len];omega)).top
 have h2:=fresh_le (wantA2 l) (fillWK (wantA2 l) (valsA l) k).2
 have h3:(k+1) * ((wantA2 l).length+2)≤l.length * ((wantA2 l).length+2):=Nat.mul_le_mul_right _ hk
 rw [Nat.succ_mul] at h3
 omega
abbrev asgO (l:List Wsh) (st:AsgS) (W:List ByteArray):List Ob:=[.arr 33 2 ((nmK l 0 st.1).map Atr.d),.box 28 [.own 0 l.length],.map none false (setE st.2),.map none false (setE W),.box 75 [.mp 2],.box 75 [.mp 3],.box 26 [.sl 2 (l.map Wsh.d)]]
set_option maxHeartbeats 16000000 in
theorem assign_ok (l:List Wsh) (h:WshFit l) (hok:wshOk l=true) (hfew:FewW l) :
  PCalls Tryz.prog 10 [.c (.sl 2 (l.map Wsh.d))] [] fun r os=>r = .two (.c (.sl 2 ((assignA l).map Atr.d))) (.c (.v (.int .i64 0)))∧os=[]:=by
 have hlen:=h.len
 have hv:=valid23_pure l h
 rw [hok] at hv
 have hp:=pairs_pure l
 have hrep:=replicate_nm l l.length
 have hmx:=maxR_le h.cnt
 refine pcalls_of Tryz.func10 rfl (by simp [Tryz.ntmps10]) ?_
 rw [Tryz.ntmps10,Tryz.results10]
 push_cast [iO,tN]
 have cB:CutB 13 [22,46,47,48]:=trivial
 repeat' (first |  ((refine plc [] (hv) ?_ ?_;push_cast [iO,tN];rintro r os ⟨rfl,rfl⟩;push_cast [iO,tN]))|(refine pl_makeR (n:=l.length) (kx:=.i64) (kz:=.i64) (by':=32) (e:=33) (sz:=2) (zs:=[.v (.string ⟨#[]⟩),.v (.string ⟨#[]⟩)]) (ds:=[.v (.string ⟨#[]⟩),.v (.string ⟨#[]⟩)]) rfl rfl (by push_cast [iO,tN]) rfl (by kernel_rfl) (by kernel_rfl) rfl rfl (by omega) (by push_cast [iO,tN]) (by push_cast [iO,tN]) (by omega) (by omega) ?_;push_cast [iO,tN,hrep];refine pl_of_pops ?_;push_cast [iO,tN,hrep])|((refine plc [] (hp) ?_ ?_;push_cast [iO,tN];rintro r os ⟨rfl,rfl⟩;push_cast [iO,tN]))|(refine pwp_seq fun K hK=>?_)|(refine pwp_block ?_)  | ((first|refine pC ?_|refine pQC ?_|refine pU ?_);push_cast [iO,tN])|(refine pif (fun h=>?_) (fun h=>?_)<;>first|exact pN h|push_cast [iO,tN]))
 refine pwp_range (R:=fun lo r os'=>∃ L2 t2,os'=asgO l (runA l (prsL l (maxR l))) (wantedA (prsL l (maxR l)))++[.loop lo L2 t2]∧L2.st = .ready∧L2.pd=none) rfl (by kernel_rfl) (fun lo D fn=>?_) (fun lo r os' hR=>?_)
 ·refine pcalls_of_all Tryz.func69 rfl (by simp [Tryz.ntmps69]) ?_
  rw [Tryz.ntmps69,Tryz.results69]
  push_cast [iO,tN]
  have cB:CutB 7 [10,11,12]:=trivial
  repeat' (first|((first|refine pC ?_|refine pQC ?_|refine pU ?_);push_cast [iO,tN])|(refine pif (fun h=>?_) (fun h=>?_)<;>first|exact pN h|push_cast [iO,tN]))
  (apply pwp_loop3 (α:=Nat × Bool) 7 [10,11,12] (fun x=>[(3,.c (.v (.int .i64 x.1))),(4,.c (.v (.bool x.2)))]) (fun x=>[(0,.arr 33 2 ((nmK l 0 (runA l (prsL l x.1)).1).map Atr.d)),(2,.map none false (setE (runA l (prsL l x.1)).2)),(3,.map none false (setE (wantedA (prsL l x.1))))]) (fun x=>(x.2=true → x.1≤maxR l)∧(x.2=false → maxR l≤x.1)∧x.1≤maxR l+1) (fun x=>maxR l+1 - x.1) ((0,true));(focus ((try push_cast [iO,tN]);rfl));(focus exact ⟨fun _=>Nat.zero_le _,(fun h=>by cases h),(by simp only;omega)⟩);(focus ((refine weak_fg ?_;try push_cast [iO,tN]);(try (exact ⟨rfl,rfl,rfl⟩)))))
  rintro ⟨r,y⟩ ⟨hy1,hy2,hr⟩
  simp only at hy1 hy2 hr
  push_cast [iO,tN]
  cases y with
  | false =>
   have hend:=prsL_end (hy2 rfl)
   repeat' (first|((first|refine pC ?_|refine pQC ?_|refine pU ?_);push_cast [iO,tN])|(refine pif (fun h=>?_) (fun h=>?_)<;>first|exact pN h|push_cast [iO,tN]))
   exact ⟨_,rfl,by push_cast [iO,tN,hend],_,_,by rw [hend],rfl,rfl⟩
  | true =>
   have hrm:=hy1 rfl
   repeat' (first|((first|refine pC ?_|refine pQC ?_|refine pU ?_);push_cast [iO,tN])|(refine pif (fun h=>?_) (fun h=>?_)<;>first|exact pN h|push_cast [iO,tN]))
   (apply pwp_loop3 (α:=Nat × Bool) 7 [10,11,12] (fun x=>[(12,.c (.v (.int .i64 x.1))),(4,.c (.v (.bool x.2)))]) (fun x=>[(0,.arr 33 2 ((nmK l 0 (runA l (prsL l r++rankK l r x.1)).1).map Atr.d)),(2,.map none false (setE (runA l (prsL l r++rankK l r x.1)).2)),(3,.map none false (setE (wantedA (prsL l r++rankK l r x.1))))]) (fun x=>x.1≤l.length∧(x.2=true → r+1≤maxR l)∧(x.2=false → ∀ i,i < x.1 → ¬ r < (l.getD i default).names.length)) (fun x=>l.length - x.1) ((0,false));(focus ((try push_cast [iO,tN]);rfl));(focus exact ⟨Nat.zero_le _,(fun h=>by cases h),(fun _ i hi=>by simp only at hi;omega)⟩);(focus ((refine weak_fg ?_;try push_cast [iO,tN]);(try ((simp only [rankK_zero,List.append_nil];exact ⟨trivial,trivial,trivial⟩))))))
   rintro ⟨k,y⟩ ⟨hk,h1,h2⟩
   simp only at hk h1 h2
   push_cast [iO,tN]
   by_cases hlt:k < l.length
   case neg =>
    have hk2:k=l.length:=by omega
    subst hk2
    rw [← prsL_succ]
    repeat' (first|((first|refine pC ?_|refine pQC ?_|refine pU ?_);push_cast [iO,tN])|(refine pif (fun h=>?_) (fun h=>?_)<;>first|exact pN h|push_cast [iO,tN]))
    refine ⟨(r+1,y),⟨fun hy=>h1 hy,fun hy=>Nat.le_succ_of_le (maxR_of fun i hi=>h2 hy i hi),by simp only;omega⟩,by (refine weak_fg ?_;push_cast [iO,tN]),by simp only;omega⟩
   obtain ⟨w,hw⟩:∃ w,l.getD k default=w:=⟨_,rfl⟩
   have hm:w ∈ l:=by rw [← hw,getD_lt l hlt];exact List.getElem_mem _
   have hcn:=h.cnt w hm
   by_cases hrk:r < w.names.length
   case neg =>
    have hskip:rankK l r (k+1)=rankK l r k:=rankK_f (by rw [hw];exact hrk)
    repeat' (first|((first|refine pC ?_|refine pQC ?_|refine pU ?_);push_cast [iO,tN,hw,hrk])|(refine pif (fun h=>?_) (fun h=>?_)<;>first|exact pN h|push_cast [iO,tN,hw,hrk]))
    refine ⟨(k+1,y),⟨by simp only;omega,fun hy=>h1 hy,fun hy i hi=>?_⟩,by (refine weak_fg ?_;push_cast [iO,tN,hskip]),by simp only;omega⟩
    simp only at hi
    by_cases e:i=k
    ·rw [e,hw];exact hrk
    ·exact h2 hy i (by omega)
   have hrk2:=maxR_ge hm
   have hsr:=rankK_t (l:=l) (r:=r) (k:=k) (by rw [hw];exact hrk)
   rw [hw] at hsr
   obtain ⟨s,hs⟩:∃ s,w.names.getD r default=s:=⟨_,rfl⟩
   rw [hs] at hsr
   have hR2:runA l (prsL l r++rankK l r (k+1))=stepW (runA l (prsL l r++rankK l r k)) (k,s):=by rw [hsr,← List.append_assoc,runA_snoc]
   have hW2:wantedA (prsL l r++rankK l r (k+1))=addS (wantedA (prsL l r++rankK l r k)) s:=by rw [hsr,← List.append_assoc,wantedA_snoc]
   have hsl:=runA_len l (prsL l r++rankK l r k)
   obtain ⟨st,hst⟩:∃ st,runA l (prsL l r++rankK l r k)=st:=⟨_,rfl⟩
   obtain ⟨W,hWW⟩:∃ W,wantedA (prsL l r++rankK l r k)=W:=⟨_,rfl⟩
   rw [hst] at hR2 hsl ⊢
   rw [hWW] at hW2 ⊢
   have hks:k < st.1.length:=by omega
   have hg:=nmK_get l 0 hks
   simp only [Nat.not_lt_zero,if_false] at hg
   have hnl:=nmK_len l 0 st.1
   have hmw:=mput_set s W
   have hmt:=mput_set s st.2
   have hlk:=lk_set st.2 s
   have hgv:nmK l 0 (st.1.set k s)=(nmK l 0 st.1).set k ⟨⟨#[]⟩,s⟩:=by rw [← nmK_setv l 0 hks,hg]
   have hX:((nmK l 0 st.1).map Atr.d).set k [.v (.string ⟨#[]⟩),.v (.string s)]=(nmK l 0 (st.1.set k s)).map Atr.d:=by rw [hgv,List.map_set];rfl
   repeat' (first|((first|refine pC ?_|refine pQC ?_|refine pU ?_);push_cast [iO,tN,hw,hrk,hs])|(refine pif (fun h=>?_) (fun h=>?_)<;>first|exact pN h|push_cast [iO,tN,hw,hrk,hs]))
   refine pl_yield 7 (qs:=[.c (.v (.int .i64 k)),.c (.v (.string s))]) rfl rfl rfl (by push_cast [iO,tN]) rfl rfl (by push_cast [iO,tN,hw,hs]) rfl rfl ?_
   try dsimp only
   push_cast [iO,tN]
   have cB:CutB 13 [22,23,24]:=trivial
   repeat' (first|((first|refine pC ?_|refine pQC ?_|refine pU ?_);push_cast [iO,tN])|(refine pif (fun h=>?_) (fun h=>?_)<;>first|exact pN h|push_cast [iO,tN]))
   simp only [asgQ]
   refine ⟨_,_,rfl,rfl,?_⟩
   try dsimp only
   by_cases hv1:st.1.getD k default=⟨#[]⟩
   ·cases hv2:inM s st.2 with
    | false =>
     have hY:=stepW_yes hv1 hv2
     rw [hY] at hR2
     have hl2:(st.1.set k s).length=l.length:=by rw [List.length_set];exact hsl
     rw [hv2] at hlk
     repeat' (first|((first|refine pC ?_|refine pQC ?_|refine pU ?_);push_cast [iO,tN,hmw,hg,hnl,hsl,hv1,hlk,hmt,hX])|(refine pif (fun h=>?_) (fun h=>?_)<;>first|exact pN h|push_cast [iO,tN,hmw,hg,hnl,hsl,hv1,hlk,hmt,hX]))
     simp only [yldQ]
     refine ⟨_,_,rfl,?_⟩
     refine pl_of_pops ?_
     push_cast [iO,tN]
     have cB:CutB 7 [10,11,12]:=trivial
     repeat' (first|((first|refine pC ?_|refine pQC ?_|refine pU ?_);push_cast [iO,tN])|(refine pif (fun h=>?_) (fun h=>?_)<;>first|exact pN h|push_cast [iO,tN]))
     refine ⟨(k+1,true),⟨by simp only;omega,(fun _=>by omega),(fun hy=>by cases hy)⟩,by (refine weak_fg ?_;push_cast [iO,tN,hR2,hW2,hX]),by simp only;omega⟩
    | true =>
     have hN:=stepW_no (st:=st) (i:=k) (s:=s) (by rw [hv2];exact fun h=>by cases h.2)
     rw [hN] at hR2
     rw [hv2] at hlk
     repeat' (first|((first|refine pC ?_|refine pQC ?_|refine pU ?_);push_cast [iO,tN,hmw,hg,hnl,hsl,hv1,hlk])|(refine pif (fun h=>?_) (fun h=>?_)<;>first|exact pN h|push_cast [iO,tN,hmw,hg,hnl,hsl,hv1,hlk]))
     simp only [yldQ]
     refine ⟨_,_,rfl,?_⟩
     refine pl_of_pops ?_
     push_cast [iO,tN]
     have cB:CutB 7 [10,11,12]:=trivial
     repeat' (first|((first|refine pC ?_|refine pQC ?_|refine pU ?_);push_cast [iO,tN])|(refine pif (fun h=>?_) (fun h=>?_)<;>first|exact pN h|push_cast [iO,tN]))
     refine ⟨(k+1,true),⟨by simp only;omega,(fun _=>by omega),(fun hy=>by cases hy)⟩,by (refine weak_fg ?_;push_cast [iO,tN,hR2,hW2]),by simp only;omega⟩
   ·have hN:=stepW_no (st:=st) (i:=k) (s:=s) (fun h=>hv1 h.1)
    rw [hN] at hR2
    repeat' (first|((first|refine pC ?_|refine pQC ?_|refine pU ?_);push_cast [iO,tN,hmw,hg,hnl,hsl,hv1])|(refine pif (fun h=>?_) (fun h=>?_)<;>first|exact pN h|push_cast [iO,tN,hmw,hg,hnl,hsl,hv1]))
    simp only [yldQ]
    refine ⟨_,_,rfl,?_⟩
    refine pl_of_pops ?_
    push_cast [iO,tN]
    have cB:CutB 7 [10,11,12]:=trivial
    repeat' (first|((first|refine pC ?_|refine pQC ?_|refine pU ?_);push_cast [iO,tN])|(refine pif (fun h=>?_) (fun h=>?_)<;>first|exact pN h|push_cast [iO,tN]))
    refine ⟨(k+1,true),⟨by simp only;omega,(fun _=>by omega),(fun hy=>by cases hy)⟩,by (refine weak_fg ?_;push_cast [iO,tN,hR2,hW2]),by simp only;omega⟩
 ·obtain ⟨L2,t2,rfl,h1,h2⟩:=hR
  refine ⟨L2,t2,rfl,by rw [h1];simp,?_⟩
  rw [h2]
  simp only [rngfQ]
  have cB:CutB 13 [46,47,48]:=trivial
  push_cast [iO,tN]
  refine pU ?_
  obtain ⟨W,hW⟩:∃ W,wantedA (prsL l (maxR l))=W:=⟨_,rfl⟩
  have hvs:(runA l (prsL l (maxR l))).1=valsA l:=rfl
  obtain ⟨TK,hTK⟩:∃ TK,(runA l (prsL l (maxR l))).2=TK:=⟨_,rfl⟩
  have hvl:(valsA l).length=l.length:=runA_len l _
  rw [hvs,hW,hTK]
  have hW2:wantA2 l=W:=hW
  have hbl:∀ k,k≤l.length → (fillWK W (valsA l) k).1.length=l.length:=fun k hk=>(fill_all W (valsA l) k (by omega)).len.trans hvl
  have hfw:=fun k (hk:k < l.length)=>hfew k hk
  rw [hW2] at hfw
  refine pwp_weak (s':=⟨[(0,.c (.sl 2 (l.map Wsh.d))),(4,.c (.ptr 1 0)),(5,.c (.ptr 4 0)),(6,.c (.ptr 5 0))],asgO l (valsA l,TK) W⟩) (by (refine weak_fg ?_;push_cast [iO,tN])) ?_
  repeat' (first|((first|refine pC ?_|refine pQC ?_|refine pU ?_);push_cast [iO,tN])|(refine pif (fun h=>?_) (fun h=>?_)<;>first|exact pN h|push_cast [iO,tN]))
  (apply pwp_loop3 (α:=Nat) 13 [46,47,48] (fun k=>[(9,.c (.v (.int .i64 ((fillWK W (valsA l) k).2)))),(48,.c (.v (.int .i64 k)))]) (fun k=>[(0,.arr 33 2 ((nmK l k (fillWK W (valsA l) k).1).map Atr.d))]) (fun k=>k≤l.length) (fun k=>l.length - k) (0);(focus ((try push_cast [iO,tN]);rfl));(focus exact (Nat.zero_le _));(focus ((refine weak_fg ?_;try push_cast [iO,tN]);(try (exact ⟨rfl,rfl⟩)))))
  intro k hk
  push_cast [iO,tN]
  by_cases hlt:k < l.length
  case neg =>
   have hk2:k=l.length:=by omega
   subst hk2
   have hbn:=hbl l.length (Nat.le_refl _)
   have hfin:nmK l l.length (fillWK W (valsA l) l.length).1=assignA l:=by
    rcases nmK_end l with h1|h1
    ·rw [← h1,← hW2];rfl
    ·exact absurd (by rw [← hW2] at hbn;exact hbn) h1
   have hal:(assignA l).length=l.length:=by unfold assignA;simp
   rw [hfin]
   refine pwp_weak (weak_frz 0 (by omega)) ?_
   push_cast [iO,tN,hal]
   have htk:List.take l.length ((assignA l).map Atr.d)=(assignA l).map Atr.d:=List.take_of_length_le (by rw [List.length_map,hal];exact Nat.le_refl _)
   repeat' (first|((first|refine pC ?_|refine pQC ?_|refine pU ?_);push_cast [iO,tN,htk])|(refine pif (fun h=>?_) (fun h=>?_)<;>first|exact pN h|push_cast [iO,tN,htk]))
   (refine retK_of [] ?_;push_cast [iO,tN,htk])
  obtain ⟨w,hw⟩:∃ w,l.getD k default=w:=⟨_,rfl⟩
  have hb1:=hbl k (by omega)
  have hfk:=hfw k hlt
  have hnx:=fillWK_succ W (valsA l) k
  obtain ⟨b,hb⟩:∃ b,fillWK W (valsA l) k=b:=⟨_,rfl⟩
  rw [hb] at hb1 hfk hnx ⊢
  have hkb:k < b.1.length:=by omega
  have hnl:=nmK_len l k b.1
  have hg:=nmK_get l k hkb
  have hsn:=nmK_setn l hkb
  rw [hw] at hsn
  have hX:((nmK l k b.1).map Atr.d).set k [.v (.string w.path),.v (.string ((nmK l k b.1).getD k default).value)]=(nmK l (k+1) b.1).map Atr.d:=by rw [← hsn,List.map_set];rfl
  have hini:nmK l (k+1) (if (!decide (b.1.getD k default=⟨#[]⟩))=true then (fillW W b k).1 else b.1)=nmK l (k+1) b.1:=by
   by_cases hc:b.1.getD k default=⟨#[]⟩
   ·rw [decide_eq_true hc];rfl
   ·rw [decide_eq_false hc]
    unfold fillW
    rw [if_neg hc]
    rfl
  repeat' (first|((first|refine pC ?_|refine pQC ?_|refine pU ?_);push_cast [iO,tN,hw,hnl,hb1,hX])|(refine pif (fun h=>?_) (fun h=>?_)<;>first|exact pN h|push_cast [iO,tN,hw,hnl,hb1,hX]))
  (apply pwp_loop3 (α:=Nat × Bool) 13 [46,47,48] (fun x=>[(9,.c (.v (.int .i64 x.1)))]) (fun x=>[(0,.arr 33 2 ((nmK l (k+1) (if x.2 then (fillW W b k).1 else b.1)).map Atr.d))]) (fun x=>(x.2=false → b.1.getD k default=⟨#[]⟩∧b.2≤x.1∧x.1≤freshN W b.2)∧(x.2=true → x.1=(fillW W b k).2)) (fun x=>(if x.2 then 0 else freshN W b.2+1 - x.1)) ((b.2,!decide (b.1.getD k default=⟨#[]⟩)));(focus ((try push_cast [iO,tN]);rfl));(focus exact ⟨(fun hx=>by simp only [Bool.not_eq_false',decide_eq_true_eq] at hx;exact ⟨hx,Nat.le_refl _,fresh_ge W b.2⟩),(fun hx=>by simp only [Bool.not_eq_true',decide_eq_false_iff_not] at hx;unfold fillW;rw [if_neg hx])⟩);(focus ((refine weak_fg ?_;try push_cast [iO,tN]);(try (rw [hini])))))
  rintro ⟨n,y⟩ ⟨hy1,hy2⟩
  simp only at hy1 hy2
  have hg1:=nmK_get l (k+1) hkb
  simp only [Nat.lt_succ_self,if_true,hw] at hg1
  have hnl1:=nmK_len l (k+1) b.1
  cases y with
  | true =>
   have hn:=hy2 rfl
   have hfl:(fillW W b k).1.length=l.length:=by rw [← hnx];exact hbl (k+1) (by omega)
   have hne:=fillW_ne (W:=W) (b:=b) hkb
   rw [hn]
   obtain ⟨b2,hb2⟩:∃ b2,fillW W b k=b2:=⟨_,rfl⟩
   rw [hb2] at hfl hne hnx ⊢
   have hg2:=nmK_get l (k+1) (vs:=b2.1) (j:=k) (by omega)
   simp only [Nat.lt_succ_self,if_true,hw] at hg2
   have hnl2:=nmK_len l (k+1) b2.1
   simp only [if_true]
   push_cast [iO,tN]
   repeat' (first|((first|refine pC ?_|refine pQC ?_|refine pU ?_);push_cast [iO,tN,hg2,hne,hnl2,hfl])|(refine pif (fun h=>?_) (fun h=>?_)<;>first|exact pN h|push_cast [iO,tN,hg2,hne,hnl2,hfl]))
   exact ⟨k+1,by omega,by (refine weak_fg ?_;push_cast [iO,tN,hnx]),by omega⟩
  | false =>
   obtain ⟨hv0,hn1,hn2⟩:=hy1 rfl
   have hit:=itoaN_pure n (by omega)
   have hds:=digN_size n
   have hsz:(⟨#[105,102]⟩:ByteArray).size=2:=rfl
   have hif:(⟨#[105,102]⟩:ByteArray)++digN n=ifN n:=rfl
   have hlk:=lk_set W (ifN n)
   simp only [Bool.false_eq_true,if_false]
   push_cast [iO,tN]
   by_cases hnf:n=freshN W b.2
   ·have hin:=fresh_not W b.2
    rw [← hnf] at hin
    rw [hin] at hlk
    have hfW:fillW W b k=(b.1.set k (ifN n),n+1):=by unfold fillW;rw [if_pos hv0,← hnf]
    have hY:((nmK l (k+1) b.1).map Atr.d).set k [.v (.string w.path),.v (.string (ifN n))]=(nmK l (k+1) (b.1.set k (ifN n))).map Atr.d:=by
     rw [← nmK_setv l (k+1) hkb,hg1,List.map_set];rfl
    repeat' (first|((refine plc [] (hit) ?_ ?_;push_cast [iO,tN,hg1,hv0,hnl1,hb1,hsz,hds,hif,hlk,hY];rintro r os ⟨rfl,rfl⟩;push_cast [iO,tN,hg1,hv0,hnl1,hb1,hsz,hds,hif,hlk,hY]))|((first|refine pC ?_|refine pQC ?_|refine pU ?_);push_cast [iO,tN,hg1,hv0,hnl1,hb1,hsz,hds,hif,hlk,hY])|(refine pif (fun h=>?_) (fun h=>?_)<;>first|exact pN h|push_cast [iO,tN,hg1,hv0,hnl1,hb1,hsz,hds,hif,hlk,hY]))
    exact ⟨(n+1,true),⟨(fun h=>by cases h),(fun _=>by rw [hfW])⟩,by (refine weak_fg ?_;push_cast [iO,tN,hfW,hY]),by simp only [if_true,Bool.false_eq_true,if_false];omega⟩
   ·have hin:=fresh_mid W hn1 (by omega)
    rw [hin] at hlk
    repeat' (first|((refine plc [] (hit) ?_ ?_;push_cast [iO,tN,hg1,hv0,hnl1,hb1,hsz,hds,hif,hlk];rintro r os ⟨rfl,rfl⟩;push_cast [iO,tN,hg1,hv0,hnl1,hb1,hsz,hds,hif,hlk]))|((first|refine pC ?_|refine pQC ?_|refine pU ?_);push_cast [iO,tN,hg1,hv0,hnl1,hb1,hsz,hds,hif,hlk])|(refine pif (fun h=>?_) (fun h=>?_)<;>first|exact pN h|push_cast [iO,tN,hg1,hv0,hnl1,hb1,hsz,hds,hif,hlk]))
    exact ⟨(n+1,false),⟨(fun _=>by refine ⟨?_,?_⟩<;>(simp only;omega)),(fun h=>by cases h)⟩,by (refine weak_fg ?_;push_cast [iO,tN]),by simp only [Bool.false_eq_true,if_false];omega⟩
end Go.Proofs.YthconflkbeipoaaGreatDoor
namespace Go.Proofs.YthconflkbeipoaaGreatDoor
open Go.RowKit
open IntWalk renaming iteOmega → iO, toNatUp → tN
set_option linter.unusedVariables false
set_option linter.unusedSimpArgs false
def rgo (P:Program) (N:Nat) (ops:Array Oper):List Oper → S → (S → Prop) → Prop
 | [],s,K=>K s
 | o :: rest,s,K=>match gd ops s o.guard,pval P s o.op with
  | some true,some q=>dstOk N o.dst∧rgo P N ops rest (s.put o.dst q) K
  | some false,_=>dstOk N o.dst∧rgo P N ops rest (s.put o.dst .undef) K
  | _,_=>False
theorem eval_put_ne {a:Act} {d e:Nat} {y:Value} (h:d≠e):(a.put (some d) y).eval (.tmp e)=a.eval (.tmp e):=by
 simp only [Act.put,Act.eval]
 rw [Array.getD_eq_getD_getElem?,Array.getD_eq_getD_getElem?,Array.getElem?_setIfInBounds_ne h]
theorem put_other {a:Act} {d:Option Nat} {i:Nat} {y:Value} (h:d≠some i):(a.put d y).eval (.tmp i)=a.eval (.tmp i):=by
 cases d with
 | none=>rfl
 | some d=>exact eval_put_ne fun e=>h (by rw [e])
def keepsT (l:List Oper) (a a':Act):Prop:=∀ i,(∀ o ∈ l,o.dst≠some i) → a'.eval (.tmp i)=a.eval (.tmp i)
theorem rgo_ok {P:Program} {N p:Nat} {ops:Array Oper} {Q:Exit → Act → World → Prop} {tail:List Oper}:∀ {l:List Oper} {s:S} {K:S → Prop} {Γ:G} {a:Act} {w w':World},rgo P N ops l s K → Stands N p Γ s a w → Same w w' → (∀ s' a',K s' → Stands N p Γ s' a' w → a'.defers=a.defers → keepsT l a a' → wpListIn (Fw none) 0 P ops Q tail a' w') → wpListIn (Fw none) 0 P ops Q (l++tail) a w'
 | [],s,K,Γ,a,w,w',h,hA,_,hK=>hK s a h hA rfl fun _ _=>rfl
 | o :: rest,s,K,Γ,a,w,w',h,hA,hw,hK=>by
  rw [rgo] at h
  split at h
  ·rename_i q hg hv
   obtain ⟨y,h1,h2⟩:=pval_ok hv hA.inv
   rw [List.cons_append]
   unfold wpListIn
   rw [if_pos (gd_ok hg hA.inv)]
   exact wpIn_run (h2 w' hw) (rgo_ok h.2 ⟨hA.inv.put (dst_lt h.1) h1,hA.le⟩ hw fun s' a' hk ha hd ht=>hK s' a' hk ha (hd.trans (put_defers _ _ _)) fun i hi=>(ht i fun o' ho'=>hi o' (by simp [ho'])).trans (put_other (hi o (by simp))))
  ·rename_i hg
   rw [List.cons_append]
   unfold wpListIn
   rw [if_neg (by rw [gd_ok hg hA.inv];simp)]
   exact ⟨fun _ _=>trivial,rgo_ok h.2 ⟨hA.inv.put (dst_lt h.1) rfl,hA.le⟩ hw fun s' a' hk ha hd ht=>hK s' a' hk ha (hd.trans (put_defers _ _ _)) fun i hi=>(ht i fun o' ho'=>hi o' (by simp [ho'])).trans (put_other (hi o (by simp)))⟩
  ·exact h.elim
def Forgets (s1 s2:S):Prop:=s2.o=s1.o∧∀ i q,s2.get i=some q → s1.get i=some q
theorem Forgets.ok {N p:Nat} {Γ:G} {s1 s2:S} {a:Act} {w:World} (h:Forgets s1 s2) (hA:Stands N p Γ s1 a w):Stands N p Γ s2 a w :=
 ⟨⟨hA.inv.size,hA.inv.defers,fun i q hi=>hA.inv.t i q (h.2 i q hi),by rw [h.1];exact hA.inv.m⟩,hA.le⟩
theorem next_map {P:Program} (w:World) (ty:TypeId) (bm since c0:Nat) (seen:Array Nat) (es:Array MapEntry) (clock:Nat) (hb:w.heap[bm]? = some (.map es clock)) (hold:∀ x ∈ es.toList,x.born < since) (hsc:since≤c0) :
  ((leftOf es seen).size=0∧(Instr.next (.pointer (some ⟨w.heap.size,0,none⟩)) false ty).run P (w.alloc (.mapIter (some bm) since seen c0)) = .ok (.tuple #[.bool false]) (w.alloc (.mapIter (some bm) since seen c0))) ∨
  ∃ e ∈ (leftOf es seen).toList,∃ w1:World,(w1=w∨w1=w.drew)∧(Instr.next (.pointer (some ⟨w.heap.size,0,none⟩)) false ty).run P (w.alloc (.mapIter (some bm) since seen c0)) = .ok (.tuple #[.bool true,e.key,e.val]) (w1.alloc (.mapIter (some bm) since (seen.push e.born) clock)):=by
 have hlt:bm < w.heap.size:=by
  rcases Nat.lt_or_ge bm w.heap.size with h|h
  ·exact h
  ·simp [Array.getElem?_eq_none h] at hb
 have hb':(w.alloc (.mapIter (some bm) since seen c0)).heap[bm]? = some (.map es clock):=by rw [(MapKept.heap_alloc w _).2 _ hlt,hb]
 simp only [Instr.next,getObj,Sem.run_bind,Sem.run,heap_alloc_new,hb',Result.andThen,next_test_false seen es since c0 hold hsc,Bool.false_eq_true,if_false]
 unfold leftOf
 have hmem:∀ x ∈ (Array.filter (fun e=>!seen.contains e.born) es).toList,x.born < since:=fun x hx=>hold x (by simp at hx ⊢;exact hx.1)
 generalize Array.filter (fun e=>!seen.contains e.born) es=L at hmem ⊢
 have e1:L.filter (fun x=>decide (x.born < since))=L:=Array.filter_eq_self.2 (fun x hx=>by simpa using hmem x (by simpa using hx))
 have e2:L.filter (fun x=>decide (x.born ≥ since)) = #[]:=by
  rw [Array.filter_eq_empty_iff]
  intro x hx
  have:=hmem x (by simpa using hx)
  simp
  omega
 simp only [e1,e2,Array.append_empty]
 by_cases h0:L.size=0
 ·left
  have:L = #[]:=Array.eq_empty_of_size_eq_zero h0
  subst this
  refine ⟨rfl,?_⟩
  simp [choose,Sem.run,Question.forced]
 ·right
  have hne:L.isEmpty=false:=by simp [Array.isEmpty,h0]
  simp only [hne,Bool.false_eq_true,if_false,Array.empty_append,Array.size_map]
  have hch:∃ (j:Nat) (w1:World),j < L.size∧(w1=w∨w1=w.drew)∧(choose (Question.mapNext L.size)).run P (w.alloc (.mapIter (some bm) since seen c0)) = .ok j (w1.alloc (.mapIter (some bm) since seen c0)):=by
   by_cases hf:L.size≤1
   ·exact ⟨0,w,by omega,.inl rfl,by simp [choose,Sem.run,Question.forced,hf]⟩
   ·exact ⟨_,w.drew,Nat.mod_lt _ (by omega),.inr rfl,by
     simp only [choose,Sem.run,Question.forced,decide_eq_true_eq,hf,if_false,Question.cut]
     rfl⟩
  obtain ⟨j,w1,hj,hal,hrun⟩:=hch
  refine ⟨L[j],by simp,w1,hal,?_⟩
  have hsz:w1.heap.size=w.heap.size:=by rcases hal with rfl|rfl<;>rfl
  have hp:∀ (h:Array Obj) (x y:Obj),(h.push x).setIfInBounds h.size y=h.push y:=by
   intro h x y
   apply Array.toList_inj.1
   simp
  have hset:∀ (a:Option Nat) (b:Nat) (c:Array Nat) (d:Nat) (o':Obj),(setObj w.heap.size o').run P (w1.alloc (.mapIter a b c d)) = .ok () (w1.alloc o'):=fun a b c d o'=>by
   simp only [setObj,Sem.run]
   rw [← hsz,heap_alloc_new]
   show Result.ok () ({ w1.alloc (.mapIter a b c d) with heap:=(w1.heap.push (.mapIter a b c d)).setIfInBounds w1.heap.size o' }:World)=_
   rw [hp]
   rfl
  simp only [hrun,Array.getElem?_map,Array.getElem?_eq_getElem hj,Option.map_some,Sem.run_bind,hset,Result.andThen]
  rfl
theorem leftOf_list (ms:Array MapEntry) (seen:Array Nat):(leftOf ms seen).toList=ms.toList.filter fun e=>!seen.contains e.born:=by unfold leftOf;simp
theorem leftOf_push {ms:Array MapEntry} {seen:Array Nat} {e:MapEntry} (h:e ∈ (leftOf ms seen).toList):(leftOf ms (seen.push e.born)).size < (leftOf ms seen).size:=by
 rw [← Array.length_toList,← Array.length_toList,leftOf_list,leftOf_list]
 rw [leftOf_list,List.mem_filter] at h
 refine filter_lt (fun x=>!seen.contains x.born) (fun x=>!(seen.push e.born).contains x.born) (fun x hx=>?_) e h.2 (by simp) ms.toList h.1
 simp only [Bool.not_eq_true',Array.contains_eq_mem,decide_eq_false_iff_not,Array.mem_push,not_or] at hx ⊢
 exact hx.1
theorem run_next_op {P:Program} {o:Oper} {x:Operand} {a:Act} {w w':World} {v y:Value} (ho:o.op = .next x false) (hv:a.eval x=v) (h:(Instr.next v false o.type).run P w = .ok y w'):(execOp a.eval o).run P w = .ok (.value y) w':=by
 simp only [execOp,ho,hv,Sem.run_bind,h,Result.andThen]
 rfl
theorem run_entry_op {P:Program} {o:Oper} {x:Operand} {a:Act} {w w':World} {v y:Value} (ho:o.op = .entry x) (hv:a.eval x=v) (h:(Instr.entry v).run P w = .ok y w'):(execOp a.eval o).run P w = .ok (.value y) w':=by
 simp only [execOp,ho,hv,Sem.run_bind,h,Result.andThen]
 rfl
theorem run_range_op {P:Program} {o:Oper} {t:TypeId} {x:Operand} {a:Act} {w w':World} {v y:Value} (ho:o.op = .range t x) (hv:a.eval x=v) (h:(Instr.range t v).run P w = .ok y w'):(execOp a.eval o).run P w = .ok (.value y) w':=by
 simp only [execOp,ho,hv,Sem.run_bind,h,Result.andThen]
 rfl
theorem run_extract_op {P:Program} {o:Oper} {x:Operand} {a:Act} {w:World} {vs:Array Value} {n:Nat} {y:Value} (ho:o.op = .extract x n) (hv:a.eval x = .tuple vs) (h:vs[n]? = some y):(execOp a.eval o).run P w = .ok (.value y) w:=by
 simp [execOp,ho,hv,Instr.extract,h]
theorem run_assign_op {P:Program} {o:Oper} {x:Operand} {a:Act} {w:World} {y:Value} (ho:o.op = .assign x) (hv:a.eval x=y):(execOp a.eval o).run P w = .ok (.value y) w:=by
 simp [execOp,ho,hv]
theorem Grow.of_no {p:Nat} {Γ:G} {w w':World} (h:Ext No w w'):Grow p Γ w Γ w':=⟨h.mono fun _ hk=>hk.elim,fun _ hb=>hb,fun k hk hc=>.inl ⟨k,hk,hc,rfl⟩,fun _ hb=>.inl hb,fun _ _=>⟨rfl,rfl⟩⟩
theorem wanted_none {o:Oper} {f:Nat → Option Bool} (h:o.guard=none):Region.wanted o f=true:=by simp [Region.wanted,h]
theorem list_one {P:Program} {ops:Array Oper} {Q:Exit → Act → World → Prop} {o:Oper} {rest:List Oper} {a:Act} {w w':World} {y:Value} (hg:o.guard=none) (h:(execOp a.eval o).run P w = .ok (.value y) w') (hK:wpListIn (Fw none) 0 P ops Q rest (a.put o.dst y) w'):wpListIn (Fw none) 0 P ops Q (o :: rest) a w:=by
 unfold wpListIn
 rw [if_pos (wanted_none hg)]
 exact wpIn_run h hK
def mrLoop (b2 b3 r6 r7 r8:Nat) (t19:Nat) (nx fl en ex asg:Oper) (ops8:List Oper):Code :=
 .loop (.seq (.region r6 [nx,fl].toArray false) (.seq (.cond (.tmp t19) .skip (.exit b2)) (.block b3 (.seq (.region r7 [en,ex,asg].toArray false) (.region r8 ops8.toArray false)))))
structure MrOps (N it tb t19 te tv v:Nat) (nx fl en ex asg:Oper):Prop where
 nx:nx.op = .next (.tmp it) false∧nx.guard=none∧nx.dst=some tb
 fl:fl.op = .extract (.tmp tb) 0∧fl.guard=none∧fl.dst=some t19
 en:en.op = .entry (.tmp it)∧en.guard=none∧en.dst=some te
 ex:ex.op = .extract (.tmp te) 1∧ex.guard=none∧ex.dst=some tv
 asg:asg.op = .assign (.tmp tv)∧asg.guard=none∧asg.dst=some v
 lt:(it < N∧tb < N)∧(t19 < N∧te < N)∧(tv < N∧v < N)
 ne:(it≠tb∧it≠t19)∧(it≠te∧it≠tv)∧it≠v
def freshAt (s:S) (it tb t19 te tv:Nat):Prop:=(s.get it=none∧s.get tb=none)∧(s.get t19=none∧s.get te=none)∧s.get tv=none
theorem act_size {a:Act} {d:Option Nat} {y:Value}:(a.put d y).tmps.size=a.tmps.size:=by cases d<;>simp [Act.put]
theorem eval_put_self {a:Act} {d N:Nat} {y:Value} (hs:a.tmps.size=N) (h:d < N):(a.put (some d) y).eval (.tmp d)=y:=by
 have:d < a.tmps.size:=by omega
 simp [Act.eval,Act.put,this]
end Go.Proofs.YthconflkbeipoaaGreatDoor
