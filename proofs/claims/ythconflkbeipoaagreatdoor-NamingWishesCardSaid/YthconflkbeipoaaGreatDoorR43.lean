/- What the program computes, and the plain laws of it, part 43. -/
import Derived.Test.YthconflkbeipoaaGreatDoorR42
namespace Go.Proofs.YthconflkbeipoaaGreatDoor
open Go.RowKit
open IntWalk renaming iteOmega → iO, toNatUp → tN
set_option linter.unusedVariables false
set_option linter.unusedSimpArgs false
theorem addC_nodup {l:List ByteArray} (h:l.Nodup) (s:ByteArray):(addC l s).Nodup:=nodup_addS h
theorem addC_mem {l:List ByteArray} {s x:ByteArray} (h:x ∈ addC l s):x ∈ l∨x=s:=by
 unfold addC at h
 split at h
 ·exact .inl h
 ·rcases List.mem_append.1 h with h|h
  ·exact .inl h
  ·rw [List.mem_singleton] at h;exact .inr h
structure NmsOk (l:List ByteArray):Prop where
 nd:l.Nodup
 ifc:∀ s ∈ l,ifaceS s=true
theorem NmsOk.nil:NmsOk []:=⟨List.nodup_nil,fun s hs=>by cases hs⟩
theorem NmsOk.add {l:List ByteArray} (h:NmsOk l) {s:ByteArray} (hs:ifaceS s=true):NmsOk (addC l s):=⟨addC_nodup h.nd s,fun x hx=>(addC_mem hx).elim (h.ifc x) fun e=>by rw [e];exact hs⟩
theorem NmsOk.step {l:List ByteArray} (h:NmsOk l) (r:Rcd) (key:ByteArray):NmsOk (stepC r l key):=by
 unfold stepC
 split
 ·rename_i hc
  rw [Bool.and_eq_true] at hc
  exact h.add hc.2
 ·exact h
theorem NmsOk.cand (r:Rcd) (pol:List ByteArray) {o:ByteArray} (ho:ifaceS o=true):NmsOk (candM r pol o):=by
 unfold candM candK
 refine NmsOk.add ?_ ho
 have key:∀ (pol l:List ByteArray),NmsOk l → NmsOk (pol.foldl (stepC r) l):=by
  intro pol
  induction pol with
  | nil=>intro l h;exact h
  | cons p pol ih=>intro l h;exact ih _ (h.step r p)
 refine key _ _ ?_
 split
 ·rename_i hn
  exact NmsOk.nil.add hn
 ·exact NmsOk.nil
theorem NmsOk.ok {l:List ByteArray} (h:NmsOk l):namesOk l=true:=by
 unfold namesOk
 rw [List.all_eq_true]
 intro k hk
 have hk:=List.mem_range.1 hk
 rw [Bool.and_eq_true,Bool.not_eq_true',inM_false]
 refine ⟨h.ifc _ (by rw [getD_lt l hk];exact List.getElem_mem _),fun hm=>?_⟩
 obtain ⟨j,hj,he⟩:=List.mem_take_iff_getElem.1 hm
 rw [getD_lt l hk] at he
 have:=List.pairwise_iff_getElem.1 h.nd j k (by omega) hk (by omega)
 exact this he
theorem wishM_eq (l:List Dev) (rs:List Rcd) (pol:List ByteArray):wishM l rs pol=(l.filter fun d=>decide (d.kind=4)).map (wishD l rs pol):=by
 unfold wishM wishK
 rw [List.take_length]
theorem wishD_nms {l:List Dev} (rs:List Rcd) (pol:List ByteArray) {d:Dev} (hc:checkM d=0) (hk:d.kind=4):NmsOk (wishD l rs pol d).names:=by
 obtain ⟨h1,h2⟩:=check_net hc hk
 unfold wishD
 cases recO rs d.index with
 | none=>exact ⟨by simp,fun s hs=>by rw [List.mem_singleton] at hs;rw [hs];exact h1⟩
 | some r=>exact NmsOk.cand r pol h2
theorem wishM_ok {l:List Dev} (ht:Okt l) (ho:OrdT l) (hc:∀ d ∈ l,checkM d=0) (rs:List Rcd) (pol:List ByteArray):wshOk (wishM l rs pol)=true:=by
 have hp:(wishM l rs pol).Pairwise fun a b=>cmpP a.path b.path < 0:=by
  rw [wishM_eq,List.pairwise_map]
  refine (ho.filter _).imp_of_mem fun {a b} ha hb h=>?_
  show cmpP (placeM l a.index) (placeM l b.index) < 0
  unfold cmpP
  rw [place_split ht (List.mem_filter.1 ha).1,place_split ht (List.mem_filter.1 hb).1]
  exact h
 unfold wshOk
 rw [List.all_eq_true]
 intro i hi
 have hi:=List.mem_range.1 hi
 have hm:(wishM l rs pol).getD i default ∈ wishM l rs pol:=by rw [getD_lt _ hi];exact List.getElem_mem _
 have hm2:=hm
 rw [wishM_eq] at hm2
 obtain ⟨d,hd,he⟩:=List.mem_map.1 hm2
 obtain ⟨hd1,hd2⟩:=List.mem_filter.1 hd
 unfold wshAt
 rw [Bool.and_eq_true,Bool.and_eq_true]
 have he2:(wishM l rs pol).getD i default=wishD l rs pol d:=by rw [wishM_eq];exact he.symm
 rw [he2]
 refine ⟨⟨?_,?_⟩,(wishD_nms rs pol (hc d hd1) (by simpa using hd2)).ok⟩
 ·show (splitP (placeM l d.index)).isSome=true
  rw [place_split ht hd1];rfl
 ·by_cases h0:i=0
  ·rw [decide_eq_true h0];rfl
  ·rw [decide_eq_false h0,Bool.false_or,decide_eq_true_eq,← he2]
   have:=List.pairwise_iff_getElem.1 hp (i - 1) i (by omega) hi (by omega)
   rw [getD_lt _ (show i - 1 < (wishM l rs pol).length by omega),getD_lt _ hi]
   exact this
theorem wishM_len (l:List Dev) (rs:List Rcd) (pol:List ByteArray):(wishM l rs pol).length≤l.length:=wishK_len l rs pol l.length
theorem candK_len (r:Rcd) (pol:List ByteArray):(candK r pol).length≤pol.length+1:=by
 unfold candK
 have key:∀ (pol l:List ByteArray),(pol.foldl (stepC r) l).length≤l.length+pol.length:=by
  intro pol
  induction pol with
  | nil=>intro l;exact Nat.le_refl _
  | cons p pol ih =>
   intro l
   have h1:=ih (stepC r l p)
   have h2:=stepC_len r l p
   rw [List.foldl_cons,List.length_cons]
   omega
 have h:=key pol (if ifaceS r.name then addC [] r.name else [])
 have h2:(if ifaceS r.name then addC [] r.name else ([]:List ByteArray)).length≤1:=by
  split
  ·have:=addC_len [] r.name;simpa using this
  ·exact Nat.zero_le _
 omega
theorem wishM_names (l:List Dev) (rs:List Rcd) (pol:List ByteArray):∀ w ∈ wishM l rs pol,w.names.length≤pol.length+2:=fun w hw=>by
 rw [wishM_eq] at hw
 obtain ⟨d,_,rfl⟩:=List.mem_map.1 hw
 unfold wishD
 cases recO rs d.index with
 | none=>simp
 | some r =>
  have h1:=candK_len r pol
  have h2:=addC_len (candK r pol) d.original
  show (addC (candK r pol) d.original).length≤_
  omega
theorem wishM_few {l:List Dev} (hl:l.length≤9) (rs:List Rcd) {pol:List ByteArray} (hp:pol.length≤2):FewW (wishM l rs pol):=by
 have h1:=wishM_len l rs pol
 have h2:=wantA2_len (n:=4) fun w hw=>(show w.names.length≤4 by have:=wishM_names l rs pol w hw;omega)
 refine few_add ?_
 omega
theorem wishM_fit {l:List Dev} (hl:l.length≤1000) (hz:∀ d ∈ l,d.original.size≤1000) (hc:∀ d ∈ l,checkM d=0) (rs:List Rcd) {pol:List ByteArray} (hp:pol.length≤1000):WshFit (wishM l rs pol):=by
 refine ⟨by have:=wishM_len l rs pol;omega,fun w hw=>?_,fun w hw=>by have:=wishM_names l rs pol w hw;omega,fun w hw s hs=>?_⟩
 ·rw [wishM_eq] at hw
  obtain ⟨d,hd,rfl⟩:=List.mem_map.1 hw
  have:=place_size hl hz d.index
  show (placeM l d.index).size≤_
  omega
 ·rw [wishM_eq] at hw
  obtain ⟨d,hd,rfl⟩:=List.mem_map.1 hw
  obtain ⟨hd1,hd2⟩:=List.mem_filter.1 hd
  have:=iface_size ((wishD_nms rs pol (hc d hd1) (by simpa using hd2)).ifc s hs)
  omega
theorem asg_keys (w:List Wsh):keys (assignA w)=w.map Wsh.path:=by
 unfold keys assignA
 rw [List.map_map]
 refine List.ext_getElem (by simp) fun i h1 h2=>?_
 rw [List.length_map] at h2
 simp only [List.getElem_map,List.getElem_range,Function.comp]
 rw [getD_lt w h2]
theorem asg_vals {w:List Wsh} (h:wshOk w=true):vals (assignA w)=namedA w:=by
 unfold vals assignA
 rw [List.map_map]
 refine List.ext_getElem (by simp [(named_spec h).len]) fun i h1 h2=>?_
 simp only [List.getElem_map,List.getElem_range,Function.comp]
 rw [getD_lt _ h2]
theorem ifN_iface:((List.range 350).all fun m=>ifaceS (ifN m))=true:=by decide +kernel
theorem named_iface {w:List Wsh} (h:wshOk w=true) (hb:w.length * ((wantA2 w).length+2)≤350) {s:ByteArray} (hs:s ∈ namedA w):ifaceS s=true:=by
 have hN:=named_spec h
 obtain ⟨i,hi,rfl⟩:=List.getElem_of_mem hs
 have hi2:i < w.length:=by rw [← hN.len];exact hi
 have h1:=hN.one i hi2
 rw [getD_lt _ hi] at h1
 rcases h1 with ⟨q,hq,he⟩|⟨m,hm,he,_⟩
 ·rw [he];exact nmAt_ok h hi2 hq
 ·rw [he];exact List.all_eq_true.1 ifN_iface m (List.mem_range.2 (by omega))
theorem named_nodup {w:List Wsh} (h:wshOk w=true):(namedA w).Nodup:=by
 have hN:=named_spec h
 rw [List.Nodup,List.pairwise_iff_getElem]
 intro i j hi hj hij e
 have:=hN.inj i j hij (by rw [← hN.len];exact hj)
 rw [getD_lt _ hi,getD_lt _ hj] at this
 exact this e
theorem nodup_take {l:List Atr} {f:Atr → ByteArray} (h:(l.map f).Nodup) {i:Nat} (hi:i < l.length):f (l.getD i default) ∉ (l.take i).map f:=fun hm=>by
 obtain ⟨x,hx,he⟩:=List.mem_map.1 hm
 obtain ⟨j,hj,rfl⟩:=List.mem_take_iff_getElem.1 hx
 have:=key_inj (f:=f) h (i:=j) (j:=i) (by omega) hi (by rw [getD_lt l (by omega)];exact he)
 omega
theorem asg_fits {l:List Dev} (ht:Okt l) (ho:OrdT l) (hc:∀ d ∈ l,checkM d=0) (rs:List Rcd) (pol:List ByteArray) (hb:(wishM l rs pol).length * ((wantA2 (wishM l rs pol)).length+2)≤350):fitsB (nowP l) (assignA (wishM l rs pol))=true∧keys (assignA (wishM l rs pol))=keys (nowP l):=by
 have hok:=wishM_ok ht ho hc rs pol
 have hk:keys (assignA (wishM l rs pol))=keys (nowP l):=by
  rw [asg_keys,now_keys,wishM_eq,List.map_map]
  rfl
 have hkn:(keys (assignA (wishM l rs pol))).Nodup:=by rw [hk];exact now_kn ht
 have hvn:(vals (assignA (wishM l rs pol))).Nodup:=by rw [asg_vals hok];exact named_nodup hok
 have hvi:∀ s ∈ vals (assignA (wishM l rs pol)),ifaceS s=true:=fun s hs=>by rw [asg_vals hok] at hs;exact named_iface hok hb hs
 refine ⟨?_,hk⟩
 generalize assignA (wishM l rs pol)=names at hk hkn hvn hvi
 unfold fitsB
 rw [Bool.and_eq_true,Bool.not_eq_true',List.all_eq_true,List.any_eq_false]
 refine ⟨fun i hi=>?_,fun x hx hx2=>?_⟩
 ·have hi:=List.mem_range.1 hi
  have hm:names.getD i default ∈ names:=by rw [getD_lt _ hi];exact List.getElem_mem _
  unfold fitAt
  rw [Bool.and_eq_true,Bool.and_eq_true,Bool.and_eq_true,Bool.not_eq_true',Bool.not_eq_true',valOf_isSome,inM_iff,inM_false,inM_false]
  refine ⟨⟨⟨?_,nodup_take hkn hi⟩,nodup_take hvn hi⟩,hvi _ (List.mem_map.2 ⟨_,hm,rfl⟩)⟩
  rw [← hk]
  exact List.mem_map.2 ⟨_,hm,rfl⟩
 ·rw [Bool.and_eq_true,Bool.not_eq_true',inM_false,hk] at hx2
  exact hx2.2 (List.mem_map.2 ⟨x,hx,rfl⟩)
end Go.Proofs.YthconflkbeipoaaGreatDoor
namespace Go.Proofs.YthconflkbeipoaaGreatDoor
attribute [local irreducible] PL QL PWPr PCalls Weak RetK Kontr PA
open Go.RowKit
open IntWalk renaming iteOmega → iO, toNatUp → tN
set_option linter.unusedVariables false
set_option linter.unusedSimpArgs false
set_option maxRecDepth 20000
set_option maxHeartbeats 16000000 in
theorem nwishes_pure (L:List Int) (raw:List ByteArray) (hL:∀ x ∈ L,-9223372036854775808≤x∧x≤9223372036854775807) (hLl:L.length≤9223372036854775807) (hR:raw.length≤9223372036854775807) :
  PCalls Tryz.prog 7 [.c (.sl 1 (L.map fun x=>[D.v (.int .i64 x)])),.c (.sl 1 (raw.map strD))] [] fun r os=>r = .c (.v (.bool true))∧os=[]:=by
 have hnx:=nets_ex L hL hLl
 refine pcalls_of Tryz.func7 rfl (by simp [Tryz.ntmps7]) ?_
 rw [Tryz.ntmps7,Tryz.results7]
 push_cast [iO,tN]
 have cB:CutB 9 []:=trivial
 by_cases hr:30 < raw.length
 ·have h30:(30:Int) < (raw.length:Int):=by omega
  repeat' (first|((refine plc [] (known23_pure) ?_ ?_;push_cast [iO,tN,h30];rintro r os ⟨rfl,rfl⟩;push_cast [iO,tN,h30]))|((first|refine pC ?_|refine pQC ?_|refine pU ?_);push_cast [iO,tN,h30])|(refine pif (fun h=>?_) (fun h=>?_)<;>first|exact pN h|push_cast [iO,tN,h30]))
  (refine retK_of [] ?_;push_cast [iO,tN])
 have h30:¬ (30:Int) < (raw.length:Int):=by omega
 repeat' (first|((refine plc [0] (hnx) ?_ ?_;push_cast [iO,tN,h30];rintro r os ⟨l,q1,hw,hq1,rfl,rfl⟩;push_cast [iO,tN,h30]))|((refine plc [0] ((records_ex L q1 l 9 (by omega) hw (by omega) hL hLl)) ?_ ?_;push_cast [iO,tN,h30];rintro r os ⟨rs,q2,⟨hrl,hro⟩,hq2,rfl,rfl⟩;push_cast [iO,tN,h30]))|((refine plc [0] ((policy_ex L q2 (by omega) hL hLl)) ?_ ?_;push_cast [iO,tN,h30];rintro r os ⟨pol,q3,hpl,hq3,rfl,rfl⟩;push_cast [iO,tN,h30]))|(refine hidR 7 ?_)|((first|refine pC ?_|refine pQC ?_|refine pU ?_);push_cast [iO,tN,h30])|(refine pif (fun h=>?_) (fun h=>?_)<;>first|exact pN h|push_cast [iO,tN,h30]))
 have hwl:=hw.len
 have hzl:∀ d ∈ l,d.original.size≤1000:=fun d hd=>by have:=(hw.dev d hd).1.orig;omega
 have hnet:∀ d ∈ l,d.kind=4 → ifaceS d.original=true:=fun d hd hk=>(check_net (hw.chk d hd) hk).2
 obtain ⟨P,hP⟩:∃ P,pol++raw=P:=⟨_,rfl⟩
 have hPm:List.map strD pol++List.map strD raw=P.map strD:=by rw [← hP,List.map_append]
 have hPl:P.length≤40:=by rw [← hP,List.length_append];omega
 have h1:=wishes_okN l rs P hw.okt.p (by omega) hzl hro.ok hro.nodup (by omega) (by omega)
 have h2:=rwishes_pure l rs P (by omega) hzl hro.ok (by omega) (by omega) hnet (fun d hd=>by have:=hzl d hd;show d.original.size≤_;omega)
 have hwn:=wishM_names l rs P
 have hwk:=wishK_len l rs P l.length
 have h3:=samewish_pure (wishM l rs P) (wishM l rs P) (by unfold wishM;omega) (by unfold wishM;omega) (fun w hw=>by have:=hwn w hw;omega) (fun w hw=>by have:=hwn w hw;omega)
 rw [decide_eq_true rfl] at h3
 have hns:=nowP_size l
 have h4:=present_pure l hw.okt.p (by omega) hzl
 have h5:=rpresent_pure l (by omega) hzl
 have h6:=sameattrs_pure (nowP l) (nowP l) (by omega) (by omega)
 rw [decide_eq_true rfl] at h6
 refine unhid ?_
 refine pwp_weak (weak_frz 2 (by omega)) ?_
 push_cast [iO,tN]
 rw [hPm]
 (refine pwp_cut 9 [] ?_;apply pwp_drawn_to;(focus kernel_rfl);(focus (simp only [List.length_cons,List.length_nil,Nat.reduceAdd];(repeat' first|((refine plc [] (h1) ?_ ?_;push_cast [iO,tN];rintro r os ⟨rfl,rfl⟩;push_cast [iO,tN]))|((refine plc [] (h2) ?_ ?_;push_cast [iO,tN];rintro r os ⟨rfl,rfl⟩;push_cast [iO,tN]))|((refine plc [] (h3) ?_ ?_;push_cast [iO,tN];rintro r os ⟨rfl,rfl⟩;push_cast [iO,tN]))|((refine plc [] (h4) ?_ ?_;push_cast [iO,tN];rintro r os ⟨rfl,rfl⟩;push_cast [iO,tN]))|((refine plc [] (h5) ?_ ?_;push_cast [iO,tN];rintro r os ⟨rfl,rfl⟩;push_cast [iO,tN]))|((refine pl_call2 true [] rfl rfl (by kernel_rfl) (h6) ?_ ?_ ?_;push_cast [iO,tN];(intro _ r os;rintro ⟨rfl,rfl⟩;push_cast [iO,tN]);rintro r os ⟨rfl,rfl⟩;refine pl_of_pops ?_;push_cast [iO,tN]))|((refine plc [] (known23_pure) ?_ ?_;push_cast [iO,tN];rintro r os ⟨rfl,rfl⟩;push_cast [iO,tN]))|((first|refine pah 1 ?_|refine pah 2 ?_|refine pah 5 ?_|refine pah 6 ?_|refine pah 9 ?_|refine pah 15 ?_|refine pah 16 ?_|refine pah 18 ?_|refine pah 19 ?_);push_cast [iO,tN])|(refine pad ?_;first|with_reducible exact weak_cutS 9 [] _|(refine weak_fg ?_;push_cast [iO,tN]))|((first|refine pas [0] ?_|refine pas [3] ?_|refine pas [4] ?_|refine pas [7] ?_|refine pas [8] ?_|refine pas [10] ?_|refine pas [11] ?_|refine pas [12] ?_|refine pas [13] ?_|refine pas [14] ?_|refine pas [17] ?_);push_cast [iO,tN])|((first|refine pas [0,3] ?_|refine pas [0,4] ?_|refine pas [0,7] ?_|refine pas [0,8] ?_|refine pas [0,10] ?_|refine pas [0,11] ?_|refine pas [0,12] ?_|refine pas [0,13] ?_|refine pas [0,14] ?_|refine pas [0,17] ?_|refine pas [3,4] ?_|refine pas [3,7] ?_|refine pas [3,8] ?_|refine pas [3,10] ?_|refine pas [3,11] ?_|refine pas [3,12] ?_|refine pas [3,13] ?_|refine pas [3,14] ?_|refine pas [3,17] ?_|refine pas [4,7] ?_|refine pas [4,8] ?_|refine pas [4,10] ?_|refine pas [4,11] ?_|refine pas [4,12] ?_|refine pas [4,13] ?_|refine pas [4,14] ?_|refine pas [4,17] ?_|refine pas [7,8] ?_|refine pas [7,10] ?_|refine pas [7,11] ?_|refine pas [7,12] ?_|refine pas [7,13] ?_|refine pas [7,14] ?_|refine pas [7,17] ?_|refine pas [8,10] ?_|refine pas [8,11] ?_|refine pas [8,12] ?_|refine pas [8,13] ?_|refine pas [8,14] ?_|refine pas [8,17] ?_|refine pas [10,11] ?_|refine pas [10,12] ?_|refine pas [10,13] ?_|refine pas [10,14] ?_|refine pas [10,17] ?_|refine pas [11,12] ?_|refine pas [11,13] ?_|refine pas [11,14] ?_|refine pas [11,17] ?_|refine pas [12,13] ?_|refine pas [12,14] ?_|refine pas [12,17] ?_|refine pas [13,14] ?_|refine pas [13,17] ?_|refine pas [14,17] ?_);push_cast [iO,tN];refine ⟨?_,?_⟩)|((first|refine pas [0,3,4] ?_|refine pas [0,3,7] ?_|refine pas [0,3,8] ?_|refine pas [0,3,10] ?_|refine pas [0,3,11] ?_|refine pas [0,3,12] ?_|refine pas [0,3,13] ?_|refine pas [0,3,14] ?_|refine pas [0,3,17] ?_|refine pas [0,4,7] ?_|refine pas [0,4,8] ?_|refine pas [0,4,10] ?_|refine pas [0,4,11] ?_|refine pas [0,4,12] ?_|refine pas [0,4,13] ?_|refine pas [0,4,14] ?_|refine pas [0,4,17] ?_|refine pas [0,7,8] ?_|refine pas [0,7,10] ?_|refine pas [0,7,11] ?_|refine pas [0,7,12] ?_|refine pas [0,7,13] ?_|refine pas [0,7,14] ?_|refine pas [0,7,17] ?_|refine pas [0,8,10] ?_|refine pas [0,8,11] ?_|refine pas [0,8,12] ?_|refine pas [0,8,13] ?_|refine pas [0,8,14] ?_|refine pas [0,8,17] ?_|refine pas [0,10,11] ?_|refine pas [0,10,12] ?_|refine pas [0,10,13] ?_|refine pas [0,10,14] ?_|refine pas [0,10,17] ?_|refine pas [0,11,12] ?_|refine pas [0,11,13] ?_|refine pas [0,11,14] ?_|refine pas [0,11,17] ?_|refine pas [0,12,13] ?_|refine pas [0,12,14] ?_|refine pas [0,12,17] ?_|refine pas [0,13,14] ?_|refine pas [0,13,17] ?_|refine pas [0,14,17] ?_|refine pas [3,4,7] ?_|refine pas [3,4,8] ?_|refine pas [3,4,10] ?_|refine pas [3,4,11] ?_|refine pas [3,4,12] ?_|refine pas [3,4,13] ?_|refine pas [3,4,14] ?_|refine pas [3,4,17] ?_|refine pas [3,7,8] ?_|refine pas [3,7,10] ?_|refine pas [3,7,11] ?_|refine pas [3,7,12] ?_|refine pas [3,7,13] ?_|refine pas [3,7,14] ?_|refine pas [3,7,17] ?_|refine pas [3,8,10] ?_|refine pas [3,8,11] ?_|refine pas [3,8,12] ?_|refine pas [3,8,13] ?_|refine pas [3,8,14] ?_|refine pas [3,8,17] ?_|refine pas [3,10,11] ?_|refine pas [3,10,12] ?_|refine pas [3,10,13] ?_|refine pas [3,10,14] ?_|refine pas [3,10,17] ?_|refine pas [3,11,12] ?_|refine pas [3,11,13] ?_|refine pas [3,11,14] ?_|refine pas [3,11,17] ?_|refine pas [3,12,13] ?_|refine pas [3,12,14] ?_|refine pas [3,12,17] ?_|refine pas [3,13,14] ?_|refine pas [3,13,17] ?_|refine pas [3,14,17] ?_|refine pas [4,7,8] ?_|refine pas [4,7,10] ?_|refine pas [4,7,11] ?_|refine pas [4,7,12] ?_|refine pas [4,7,13] ?_|refine pas [4,7,14] ?_|refine pas [4,7,17] ?_|refine pas [4,8,10] ?_|refine pas [4,8,11] ?_|refine pas [4,8,12] ?_|refine pas [4,8,13] ?_|refine pas [4,8,14] ?_|refine pas [4,8,17] ?_|refine pas [4,10,11] ?_|refine pas [4,10,12] ?_|refine pas [4,10,13] ?_|refine pas [4,10,14] ?_|refine pas [4,10,17] ?_|refine pas [4,11,12] ?_|refine pas [4,11,13] ?_|refine pas [4,11,14] ?_|refine pas [4,11,17] ?_|refine pas [4,12,13] ?_|refine pas [4,12,14] ?_|refine pas [4,12,17] ?_|refine pas [4,13,14] ?_|refine pas [4,13,17] ?_|refine pas [4,14,17] ?_|refine pas [7,8,10] ?_|refine pas [7,8,11] ?_|refine pas [7,8,12] ?_|refine pas [7,8,13] ?_|refine pas [7,8,14] ?_|refine pas [7,8,17] ?_|refine pas [7,10,11] ?_|refine pas [7,10,12] ?_|refine pas [7,10,13] ?_|refine pas [7,10,14] ?_|refine pas [7,10,17] ?_|refine pas [7,11,12] ?_|refine pas [7,11,13] ?_|refine pas [7,11,14] ?_|refine pas [7,11,17] ?_|refine pas [7,12,13] ?_|refine pas [7,12,14] ?_|refine pas [7,12,17] ?_|refine pas [7,13,14] ?_|refine pas [7,13,17] ?_|refine pas [7,14,17] ?_|refine pas [8,10,11] ?_|refine pas [8,10,12] ?_|refine pas [8,10,13] ?_|refine pas [8,10,14] ?_|refine pas [8,10,17] ?_|refine pas [8,11,12] ?_|refine pas [8,11,13] ?_|refine pas [8,11,14] ?_|refine pas [8,11,17] ?_|refine pas [8,12,13] ?_|refine pas [8,12,14] ?_|refine pas [8,12,17] ?_|refine pas [8,13,14] ?_|refine pas [8,13,17] ?_|refine pas [8,14,17] ?_|refine pas [10,11,12] ?_|refine pas [10,11,13] ?_|refine pas [10,11,14] ?_|refine pas [10,11,17] ?_|refine pas [10,12,13] ?_|refine pas [10,12,14] ?_|refine pas [10,12,17] ?_|refine pas [10,13,14] ?_|refine pas [10,13,17] ?_|refine pas [10,14,17] ?_|refine pas [11,12,13] ?_|refine pas [11,12,14] ?_|refine pas [11,12,17] ?_|refine pas [11,13,14] ?_|refine pas [11,13,17] ?_|refine pas [11,14,17] ?_|refine pas [12,13,14] ?_|refine pas [12,13,17] ?_|refine pas [12,14,17] ?_|refine pas [13,14,17] ?_);push_cast [iO,tN];refine ⟨?_,?_,?_⟩)|((first|refine pas [0,3,4,7] ?_|refine pas [0,3,4,8] ?_|refine pas [0,3,4,10] ?_|refine pas [0,3,4,11] ?_|refine pas [0,3,4,12] ?_|refine pas [0,3,4,13] ?_|refine pas [0,3,4,14] ?_|refine pas [0,3,4,17] ?_|refine pas [0,3,7,8] ?_|refine pas [0,3,7,10] ?_|refine pas [0,3,7,11] ?_|refine pas [0,3,7,12] ?_|refine pas [0,3,7,13] ?_|refine pas [0,3,7,14] ?_|refine pas [0,3,7,17] ?_|refine pas [0,3,8,10] ?_|refine pas [0,3,8,11] ?_|refine pas [0,3,8,12] ?_|refine pas [0,3,8,13] ?_|refine pas [0,3,8,14] ?_|refine pas [0,3,8,17] ?_|refine pas [0,3,10,11] ?_|refine pas [0,3,10,12] ?_|refine pas [0,3,10,13] ?_|refine pas [0,3,10,14] ?_|refine pas [0,3,10,17] ?_|refine pas [0,3,11,12] ?_|refine pas [0,3,11,13] ?_|refine pas [0,3,11,14] ?_|refine pas [0,3,11,17] ?_|refine pas [0,3,12,13] ?_|refine pas [0,3,12,14] ?_|refine pas [0,3,12,17] ?_|refine pas [0,3,13,14] ?_|refine pas [0,3,13,17] ?_|refine pas [0,3,14,17] ?_|refine pas [0,4,7,8] ?_|refine pas [0,4,7,10] ?_|refine pas [0,4,7,11] ?_|refine pas [0,4,7,12] ?_|refine pas [0,4,7,13] ?_|refine pas [0,4,7,14] ?_|refine pas [0,4,7,17] ?_|refine pas [0,4,8,10] ?_|refine pas [0,4,8,11] ?_|refine pas [0,4,8,12] ?_|refine pas [0,4,8,13] ?_|refine pas [0,4,8,14] ?_|refine pas [0,4,8,17] ?_|refine pas [0,4,10,11] ?_|refine pas [0,4,10,12] ?_|refine pas [0,4,10,13] ?_|refine pas [0,4,10,14] ?_|refine pas [0,4,10,17] ?_|refine pas [0,4,11,12] ?_|refine pas [0,4,11,13] ?_|refine pas [0,4,11,14] ?_|refine pas [0,4,11,17] ?_|refine pas [0,4,12,13] ?_|refine pas [0,4,12,14] ?_|refine pas [0,4,12,17] ?_|refine pas [0,4,13,14] ?_|refine pas [0,4,13,17] ?_|refine pas [0,4,14,17] ?_|refine pas [0,7,8,10] ?_|refine pas [0,7,8,11] ?_|refine pas [0,7,8,12] ?_|refine pas [0,7,8,13] ?_|refine pas [0,7,8,14] ?_|refine pas [0,7,8,17] ?_|refine pas [0,7,10,11] ?_|refine pas [0,7,10,12] ?_|refine pas [0,7,10,13] ?_|refine pas [0,7,10,14] ?_|refine pas [0,7,10,17] ?_|refine pas [0,7,11,12] ?_|refine pas [0,7,11,13] ?_|refine pas [0,7,11,14] ?_|refine pas [0,7,11,17] ?_|refine pas [0,7,12,13] ?_|refine pas [0,7,12,14] ?_|refine pas [0,7,12,17] ?_|refine pas [0,7,13,14] ?_|refine pas [0,7,13,17] ?_|refine pas [0,7,14,17] ?_|refine pas [0,8,10,11] ?_|refine pas [0,8,10,12] ?_|refine pas [0,8,10,13] ?_|refine pas [0,8,10,14] ?_|refine pas [0,8,10,17] ?_|refine pas [0,8,11,12] ?_|refine pas [0,8,11,13] ?_|refine pas [0,8,11,14] ?_|refine pas [0,8,11,17] ?_|refine pas [0,8,12,13] ?_|refine pas [0,8,12,14] ?_|refine pas [0,8,12,17] ?_|refine pas [0,8,13,14] ?_|refine pas [0,8,13,17] ?_|refine pas [0,8,14,17] ?_|refine pas [0,10,11,12] ?_|refine pas [0,10,11,13] ?_|refine pas [0,10,11,14] ?_|refine pas [0,10,11,17] ?_|refine pas [0,10,12,13] ?_|refine pas [0,10,12,14] ?_|refine pas [0,10,12,17] ?_|refine pas [0,10,13,14] ?_|refine pas [0,10,13,17] ?_|refine pas [0,10,14,17] ?_|refine pas [0,11,12,13] ?_|refine pas [0,11,12,14] ?_|refine pas [0,11,12,17] ?_|refine pas [0,11,13,14] ?_|refine pas [0,11,13,17] ?_|refine pas [0,11,14,17] ?_|refine pas [0,12,13,14] ?_|refine pas [0,12,13,17] ?_|refine pas [0,12,14,17] ?_|refine pas [0,13,14,17] ?_|refine pas [3,4,7,8] ?_|refine pas [3,4,7,10] ?_|refine pas [3,4,7,11] ?_|refine pas [3,4,7,12] ?_|refine pas [3,4,7,13] ?_|refine pas [3,4,7,14] ?_|refine pas [3,4,7,17] ?_|refine pas [3,4,8,10] ?_|refine pas [3,4,8,11] ?_|refine pas [3,4,8,12] ?_|refine pas [3,4,8,13] ?_|refine pas [3,4,8,14] ?_|refine pas [3,4,8,17] ?_|refine pas [3,4,10,11] ?_|refine pas [3,4,10,12] ?_|refine pas [3,4,10,13] ?_|refine pas [3,4,10,14] ?_|refine pas [3,4,10,17] ?_|refine pas [3,4,11,12] ?_|refine pas [3,4,11,13] ?_|refine pas [3,4,11,14] ?_|refine pas [3,4,11,17] ?_|refine pas [3,4,12,13] ?_|refine pas [3,4,12,14] ?_|refine pas [3,4,12,17] ?_|refine pas [3,4,13,14] ?_|refine pas [3,4,13,17] ?_|refine pas [3,4,14,17] ?_|refine pas [3,7,8,10] ?_|refine pas [3,7,8,11] ?_|refine pas [3,7,8,12] ?_|refine pas [3,7,8,13] ?_|refine pas [3,7,8,14] ?_|refine pas [3,7,8,17] ?_|refine pas [3,7,10,11] ?_|refine pas [3,7,10,12] ?_|refine pas [3,7,10,13] ?_|refine pas [3,7,10,14] ?_|refine pas [3,7,10,17] ?_|refine pas [3,7,11,12] ?_|refine pas [3,7,11,13] ?_|refine pas [3,7,11,14] ?_|refine pas [3,7,11,17] ?_|refine pas [3,7,12,13] ?_|refine pas [3,7,12,14] ?_|refine pas [3,7,12,17] ?_|refine pas [3,7,13,14] ?_|refine pas [3,7,13,17] ?_|refine pas [3,7,14,17] ?_|refine pas [3,8,10,11] ?_|refine pas [3,8,10,12] ?_|refine pas [3,8,10,13] ?_|refine pas [3,8,10,14] ?_|refine pas [3,8,10,17] ?_|refine pas [3,8,11,12] ?_|refine pas [3,8,11,13] ?_|refine pas [3,8,11,14] ?_|refine pas [3,8,11,17] ?_|refine pas [3,8,12,13] ?_|refine pas [3,8,12,14] ?_|refine pas [3,8,12,17] ?_|refine pas [3,8,13,14] ?_|refine pas [3,8,13,17] ?_|refine pas [3,8,14,17] ?_|refine pas [3,10,11,12] ?_|refine pas [3,10,11,13] ?_|refine pas [3,10,11,14] ?_|refine pas [3,10,11,17] ?_|refine pas [3,10,12,13] ?_|refine pas [3,10,12,14] ?_|refine pas [3,10,12,17] ?_|refine pas [3,10,13,14] ?_|refine pas [3,10,13,17] ?_|refine pas [3,10,14,17] ?_|refine pas [3,11,12,13] ?_|refine pas [3,11,12,14] ?_|refine pas [3,11,12,17] ?_|refine pas [3,11,13,14] ?_|refine pas [3,11,13,17] ?_|refine pas [3,11,14,17] ?_|refine pas [3,12,13,14] ?_|refine pas [3,12,13,17] ?_|refine pas [3,12,14,17] ?_|refine pas [3,13,14,17] ?_|refine pas [4,7,8,10] ?_|refine pas [4,7,8,11] ?_|refine pas [4,7,8,12] ?_|refine pas [4,7,8,13] ?_|refine pas [4,7,8,14] ?_|refine pas [4,7,8,17] ?_|refine pas [4,7,10,11] ?_|refine pas [4,7,10,12] ?_|refine pas [4,7,10,13] ?_|refine pas [4,7,10,14] ?_|refine pas [4,7,10,17] ?_|refine pas [4,7,11,12] ?_|refine pas [4,7,11,13] ?_|refine pas [4,7,11,14] ?_|refine pas [4,7,11,17] ?_|refine pas [4,7,12,13] ?_|refine pas [4,7,12,14] ?_|refine pas [4,7,12,17] ?_|refine pas [4,7,13,14] ?_|refine pas [4,7,13,17] ?_|refine pas [4,7,14,17] ?_|refine pas [4,8,10,11] ?_|refine pas [4,8,10,12] ?_|refine pas [4,8,10,13] ?_|refine pas [4,8,10,14] ?_|refine pas [4,8,10,17] ?_|refine pas [4,8,11,12] ?_|refine pas [4,8,11,13] ?_|refine pas [4,8,11,14] ?_|refine pas [4,8,11,17] ?_|refine pas [4,8,12,13] ?_|refine pas [4,8,12,14] ?_|refine pas [4,8,12,17] ?_|refine pas [4,8,13,14] ?_|refine pas [4,8,13,17] ?_|refine pas [4,8,14,17] ?_|refine pas [4,10,11,12] ?_|refine pas [4,10,11,13] ?_|refine pas [4,10,11,14] ?_|refine pas [4,10,11,17] ?_|refine pas [4,10,12,13] ?_|refine pas [4,10,12,14] ?_|refine pas [4,10,12,17] ?_|refine pas [4,10,13,14] ?_|refine pas [4,10,13,17] ?_|refine pas [4,10,14,17] ?_|refine pas [4,11,12,13] ?_|refine pas [4,11,12,14] ?_|refine pas [4,11,12,17] ?_|refine pas [4,11,13,14] ?_|refine pas [4,11,13,17] ?_|refine pas [4,11,14,17] ?_|refine pas [4,12,13,14] ?_|refine pas [4,12,13,17] ?_|refine pas [4,12,14,17] ?_|refine pas [4,13,14,17] ?_|refine pas [7,8,10,11] ?_|refine pas [7,8,10,12] ?_|refine pas [7,8,10,13] ?_|refine pas [7,8,10,14] ?_|refine pas [7,8,10,17] ?_|refine pas [7,8,11,12] ?_|refine pas [7,8,11,13] ?_|refine pas [7,8,11,14] ?_|refine pas [7,8,11,17] ?_|refine pas [7,8,12,13] ?_|refine pas [7,8,12,14] ?_|refine pas [7,8,12,17] ?_|refine pas [7,8,13,14] ?_|refine pas [7,8,13,17] ?_|refine pas [7,8,14,17] ?_|refine pas [7,10,11,12] ?_|refine pas [7,10,11,13] ?_|refine pas [7,10,11,14] ?_|refine pas [7,10,11,17] ?_|refine pas [7,10,12,13] ?_|refine pas [7,10,12,14] ?_|refine pas [7,10,12,17] ?_|refine pas [7,10,13,14] ?_|refine pas [7,10,13,17] ?_|refine pas [7,10,14,17] ?_|refine pas [7,11,12,13] ?_|refine pas [7,11,12,14] ?_|refine pas [7,11,12,17] ?_|refine pas [7,11,13,14] ?_|refine pas [7,11,13,17] ?_|refine pas [7,11,14,17] ?_|refine pas [7,12,13,14] ?_|refine pas [7,12,13,17] ?_|refine pas [7,12,14,17] ?_|refine pas [7,13,14,17] ?_|refine pas [8,10,11,12] ?_|refine pas [8,10,11,13] ?_|refine pas [8,10,11,14] ?_|refine pas [8,10,11,17] ?_|refine pas [8,10,12,13] ?_|refine pas [8,10,12,14] ?_|refine pas [8,10,12,17] ?_|refine pas [8,10,13,14] ?_|refine pas [8,10,13,17] ?_|refine pas [8,10,14,17] ?_|refine pas [8,11,12,13] ?_|refine pas [8,11,12,14] ?_|refine pas [8,11,12,17] ?_|refine pas [8,11,13,14] ?_|refine pas [8,11,13,17] ?_|refine pas [8,11,14,17] ?_|refine pas [8,12,13,14] ?_|refine pas [8,12,13,17] ?_|refine pas [8,12,14,17] ?_|refine pas [8,13,14,17] ?_|refine pas [10,11,12,13] ?_|refine pas [10,11,12,14] ?_|refine pas [10,11,12,17] ?_|refine pas [10,11,13,14] ?_|refine pas [10,11,13,17] ?_|refine pas [10,11,14,17] ?_|refine pas [10,12,13,14] ?_|refine pas [10,12,13,17] ?_|refine pas [10,12,14,17] ?_|refine pas [10,13,14,17] ?_|refine pas [11,12,13,14] ?_|refine pas [11,12,13,17] ?_|refine pas [11,12,14,17] ?_|refine pas [11,13,14,17] ?_|refine pas [12,13,14,17] ?_);push_cast [iO,tN];refine ⟨?_,?_,?_,?_⟩));done));push_cast [iO,tN])
 repeat' (first|((first|refine pC ?_|refine pQC ?_|refine pU ?_);push_cast [iO,tN])|(refine pif (fun h=>?_) (fun h=>?_)<;>first|exact pN h|push_cast [iO,tN]))
 (refine retK_of [] ?_;push_cast [iO,tN])
end Go.Proofs.YthconflkbeipoaaGreatDoor
