/- What the program computes, and the plain laws of it, part 44. -/
import Derived.Test.YthconflkbeipoaaGreatDoorR43
namespace Go.Proofs.YthconflkbeipoaaGreatDoor
attribute [local irreducible] PL QL PWPr PCalls Weak RetK Kontr PA
open Go.RowKit
open IntWalk renaming iteOmega → iO, toNatUp → tN
set_option linter.unusedVariables false
set_option linter.unusedSimpArgs false
set_option maxRecDepth 20000
def ifaceP (nm:ByteArray) (d:Dev):Bool:=decide (d.kind=4) && decide (d.name=nm)
def ifaceD (l:List Dev) (nm:ByteArray):Option Dev:=l.find? (ifaceP nm)
theorem iface1_pure (nm:ByteArray) (d:Dev):PCalls Tryz.prog 58 [.agg d.e,.c (.ptr 0 0)] [.box 9 [.v (.string nm)]] fun r os=>r = .c (.v (.bool (ifaceP nm d)))∧os=[.box 9 [.v (.string nm)]]:=by
 unfold ifaceP
 by_cases h:d.kind=4
 all_goals refine pcalls_of Tryz.func58 rfl (by simp [Tryz.ntmps58]) ?_
 all_goals rw [Tryz.ntmps58,Tryz.results58]
 all_goals push_cast [iO,tN]
 all_goals repeat' (first|((first|refine pG ?_|refine pQ ?_|refine pU ?_);push_cast [iO,tN,h])|(refine pif (fun h=>?_) (fun h=>?_)<;>first|exact pN h|push_cast [iO,tN,h]))
 all_goals (refine retK_of [0] ?_;push_cast [iO,tN,h])
theorem firstF_pure (l:List Dev) (nm:ByteArray) (hl:l.length≤1000) (ha:∀ d ∈ l,d.attrs.length≤1000000000):PCalls Tryz.prog 56 [.agg (trE l),.c (.fn (.func 58) [] [0])] [.box 9 [.v (.string nm)]] fun r os=>r = .two (.agg ((ifaceD l nm).getD default).e) (.c (.v (.bool ((ifaceD l nm).isSome))))∧os=[.box 9 [.v (.string nm)]]:=by
 have hi:=indexFuncD_pure l (by omega) 58 [0] [.box 9 [.v (.string nm)]] (ifaceP nm) ⟨by kernel_rfl,fun x _=>iface1_pure nm x⟩
 refine pcalls_of Tryz.func56 rfl (by simp [Tryz.ntmps56]) ?_
 rw [Tryz.ntmps56,Tryz.results56]
 push_cast [iO,tN]
 repeat' (first|((first|refine pG ?_|refine pQ ?_|refine pU ?_);push_cast [iO,tN])|(refine pif (fun h=>?_) (fun h=>?_)<;>first|exact pN h|push_cast [iO,tN]))
 (refine plc [0] (hi) ?_ ?_;push_cast [iO,tN];rintro r os ⟨k,hk,rfl,rfl⟩;push_cast [iO,tN])
 rcases hk with ⟨rfl,hn⟩|⟨i,rfl,hi2,hq,hpre⟩
 ·have hR:ifaceD l nm=none:=by
   unfold ifaceD
   rw [List.find?_eq_none]
   intro x hx
   simpa using hn x hx
  repeat' (first|((first|refine pG ?_|refine pQ ?_|refine pU ?_);push_cast [iO,tN])|(refine pif (fun h=>?_) (fun h=>?_)<;>first|exact pN h|push_cast [iO,tN]))
  (refine retK_of [0] ?_;push_cast [iO,tN,hR,Option.getD_none,Option.isSome_none])
  repeat' (first|exact rfl|exact leOs_refl _|exact trivial|refine ⟨?_,?_⟩)
 ·have hR:ifaceD l nm=some (l.getD i default):=by
   unfold ifaceD
   rw [List.find?_eq_some_iff_append]
   refine ⟨hq,l.take i,l.drop (i+1),?_,fun a ha=>by simpa using hpre a ha⟩
   rw [getD_lt l hi2]
   conv=>lhs;rw [← List.take_append_drop i l,List.drop_eq_getElem_cons hi2]
  have hcp:=copied_pure (l.getD i default) (ha _ (by rw [getD_lt l hi2];exact List.getElem_mem _))
  repeat' (first |  (refine plc [] (hcp) ?_ ?_;push_cast [iO,tN];rintro r os ⟨rfl,rfl⟩;push_cast [iO,tN])  | ((first|refine pG ?_|refine pQ ?_|refine pU ?_);push_cast [iO,tN])|(refine pif (fun h=>?_) (fun h=>?_)<;>first|exact pN h|push_cast [iO,tN]))
  (refine retK_of [0] ?_;push_cast [iO,tN,hR,Option.getD_some,Option.isSome_some])
  all_goals exact ⟨_,_,leP_refl _,leOs_refl _,rfl,rfl⟩
theorem interface_pure (l:List Dev) (nm:ByteArray) (hl:l.length≤1000) (ha:∀ d ∈ l,d.attrs.length≤1000000000) :
  PCalls Tryz.prog 31 [.agg (trE l),.c (.v (.string nm))] [] fun r os=>r = .two (.agg ((ifaceD l nm).getD default).e) (.c (.v (.bool ((ifaceD l nm).isSome))))∧os=[]:=by
 have hf:=firstF_pure l nm hl ha
 refine pcalls_of Tryz.func31 rfl (by simp [Tryz.ntmps31]) ?_
 rw [Tryz.ntmps31,Tryz.results31]
 push_cast [iO,tN]
 repeat' (first |  (refine plc [1] (hf) ?_ ?_;push_cast [iO,tN];rintro r os ⟨rfl,rfl⟩;push_cast [iO,tN])  | ((first|refine pG ?_|refine pQ ?_|refine pU ?_);push_cast [iO,tN])|(refine pif (fun h=>?_) (fun h=>?_)<;>first|exact pN h|push_cast [iO,tN]))
 (refine retK_of [] ?_;push_cast [iO,tN])
def chgT (l:List Dev) (d:Dev):List Dev:=l.map fun x=>if x.index=d.index then d else x
def chgErr (l:List Dev) (d:Dev):Int:=match findD l d.index with
 | none=>45
 | some o=>if checkM d≠0 then 41 else if d.parent≠o.parent∨d.original≠o.original∨d.kind≠o.kind then 42 else if clashesM l d=true then 44 else 0
theorem chgT_set {l:List Dev} {d:Dev} (hn:(l.map Dev.index).Nodup) {i:Nat} (hi:i < l.length) (he:(l.getD i default).index=d.index):chgT l d=l.set i d:=by
 unfold chgT
 refine List.ext_getElem (by simp) fun j h1 h2=>?_
 rw [List.getElem_map,List.getElem_set]
 rw [List.length_map] at h1
 rw [getD_lt l hi] at he
 by_cases e:i=j
 ·subst e;rw [if_pos he,if_pos rfl]
 ·rw [if_neg e]
  rw [if_neg]
  intro e2
  apply e
  have h3:=List.pairwise_iff_getElem.1 hn
  rcases Nat.lt_trichotomy i j with h|h|h
  ·exact absurd (by rw [List.getElem_map,List.getElem_map,he,e2]) (h3 i j (by simpa using hi) (by simpa using h1) h)
  ·exact h
  ·exact absurd (by rw [List.getElem_map,List.getElem_map,he,e2]) (h3 j i (by simpa using h1) (by simpa using hi) h)
theorem change1_pure (d x:Dev):PCalls Tryz.prog 60 [.agg x.e,.c (.ptr 0 0)] (cshO d) fun r os=>r = .c (.v (.bool (decide (x.index=d.index))))∧os=cshO d:=by
 refine pcalls_of Tryz.func60 rfl (by simp [Tryz.ntmps60]) ?_
 rw [Tryz.ntmps60,Tryz.results60]
 push_cast [iO,tN]
 repeat' (first|((first|refine pG ?_|refine pQ ?_|refine pU ?_);push_cast [iO,tN])|(refine pif (fun h=>?_) (fun h=>?_)<;>first|exact pN h|push_cast [iO,tN]))
 (refine retK_of [0] ?_;push_cast [iO,tN])
set_option maxHeartbeats 8000000 in
theorem change_pure (l:List Dev) (d:Dev) (hn:(l.map Dev.index).Nodup) (hl:l.length≤1000) (hz:∀ x ∈ l,x.original.size≤100000) (ha:∀ x ∈ l,x.attrs.length≤1000000000) (hk:d.ok) (hd:d.original.size≤100000) (hda:d.attrs.length≤1000000000) :
  PCalls Tryz.prog 32 [.agg (trE l),.agg d.e] [] fun r os=>r = .two (.agg (trE (if chgErr l d=0 then chgT l d else []))) (.c (.v (.int .i64 (chgErr l d))))∧os=[]:=by
 have hix:=indexFuncD_pure l (by omega) 60 [0] (cshO d) (fun x=>decide (x.index=d.index)) ⟨by kernel_rfl,fun x _=>change1_pure d x⟩
 have hck:=check_pure d hk
 have hcl:=clashes_pure l d (by omega) hz hd
 have hcs:=copies_pure l (by omega) ha
 have hcp:=copied_pure d hda
 refine pcalls_of Tryz.func32 rfl (by simp [Tryz.ntmps32]) ?_
 rw [Tryz.ntmps32,Tryz.results32]
 push_cast [iO,tN]
 have cB:CutB 9 []:=trivial
 repeat' (first|((first|refine pC ?_|refine pQC ?_|refine pU ?_);push_cast [iO,tN])|(refine pif (fun h=>?_) (fun h=>?_)<;>first|exact pN h|push_cast [iO,tN]))
 (refine plc [1] (hix) ?_ ?_;push_cast [iO,tN];rintro r os ⟨k,hix2,rfl,rfl⟩;push_cast [iO,tN])
 rcases hix2 with ⟨rfl,hno⟩|⟨i,rfl,hi,hq,hpre⟩
 ·have hf:findD l d.index=none:=findD_none.2 fun x hx=>by simpa using hno x hx
  have he:chgErr l d=45:=by unfold chgErr;rw [hf]
  repeat' (first|((first|refine pC ?_|refine pQC ?_|refine pU ?_);push_cast [iO,tN])|(refine pif (fun h=>?_) (fun h=>?_)<;>first|exact pN h|push_cast [iO,tN]))
  (refine retK_of [] ?_;push_cast [iO,tN,he])
 have hq:(l.getD i default).index=d.index:=by simpa using hq
 have hm:l.getD i default ∈ l:=by rw [getD_lt l hi];exact List.getElem_mem _
 have hf:findD l d.index=some (l.getD i default):=by rw [← hq];exact findD_mem hn hm
 have hT:=chgT_set hn hi hq
 obtain ⟨o,ho⟩:∃ o,l.getD i default=o:=⟨_,rfl⟩
 rw [ho] at hf
 have he:chgErr l d=if checkM d≠0 then 41 else if d.parent≠o.parent∨d.original≠o.original∨d.kind≠o.kind then 42 else if clashesM l d=true then 44 else 0:=by unfold chgErr;rw [hf]
 by_cases hc:checkM d=0
 case neg =>
  rw [if_pos hc] at he
  repeat' (first|((refine plc [] (hck) ?_ ?_;push_cast [iO,tN,ho,hi,hc];rintro r os ⟨rfl,rfl⟩;push_cast [iO,tN,ho,hi,hc]))|((first|refine pC ?_|refine pQC ?_|refine pU ?_);push_cast [iO,tN,ho,hi,hc])|(refine pif (fun h=>?_) (fun h=>?_)<;>first|exact pN h|push_cast [iO,tN,ho,hi,hc]))
  (refine retK_of [] ?_;push_cast [iO,tN,he])
 rw [if_neg (fun h=>h hc)] at he
 rw [hc] at hck
 by_cases h1:d.parent=o.parent
 case neg =>
  rw [if_pos (.inl h1)] at he
  repeat' (first|((refine plc [] (hck) ?_ ?_;push_cast [iO,tN,ho,hi,h1];rintro r os ⟨rfl,rfl⟩;push_cast [iO,tN,ho,hi,h1]))|((first|refine pC ?_|refine pQC ?_|refine pU ?_);push_cast [iO,tN,ho,hi,h1])|(refine pif (fun h=>?_) (fun h=>?_)<;>first|exact pN h|push_cast [iO,tN,ho,hi,h1]))
  (refine retK_of [] ?_;push_cast [iO,tN,he])
 by_cases h2:d.original=o.original
 case neg =>
  rw [if_pos (.inr (.inl h2))] at he
  have h1':(o.parent≠o.parent)=False:=by simp
  have h2n:(d.original≠o.original)=True:=eq_true h2
  repeat' (first|((refine plc [] (hck) ?_ ?_;push_cast [iO,tN,ho,hi,h1,h1',h2n];rintro r os ⟨rfl,rfl⟩;push_cast [iO,tN,ho,hi,h1,h1',h2n]))|((first|refine pC ?_|refine pQC ?_|refine pU ?_);push_cast [iO,tN,ho,hi,h1,h1',h2n])|(refine pif (fun h=>?_) (fun h=>?_)<;>first|exact pN h|push_cast [iO,tN,ho,hi,h1,h1',h2n]))
  (refine retK_of [] ?_;push_cast [iO,tN,he])
 have h1':(o.parent≠o.parent)=False:=by simp
 have h2':(o.original≠o.original)=False:=by simp
 have h3':(o.kind≠o.kind)=False:=by simp
 by_cases h3:d.kind=o.kind
 case neg =>
  rw [if_pos (.inr (.inr h3))] at he
  repeat' (first|((refine plc [] (hck) ?_ ?_;push_cast [iO,tN,ho,hi,h1,h1',h2,h2',h3];rintro r os ⟨rfl,rfl⟩;push_cast [iO,tN,ho,hi,h1,h1',h2,h2',h3]))|((first|refine pC ?_|refine pQC ?_|refine pU ?_);push_cast [iO,tN,ho,hi,h1,h1',h2,h2',h3])|(refine pif (fun h=>?_) (fun h=>?_)<;>first|exact pN h|push_cast [iO,tN,ho,hi,h1,h1',h2,h2',h3]))
  (refine retK_of [] ?_;push_cast [iO,tN,he])
 rw [if_neg (fun h=>h.elim (fun h=>h h1) fun h=>h.elim (fun h=>h h2) fun h=>h h3)] at he
 cases hcc:clashesM l d with
 | true =>
  rw [hcc] at hcl he
  rw [if_pos rfl] at he
  repeat' (first|((refine plc [] (hck) ?_ ?_;push_cast [iO,tN,ho,hi,h1,h1',h2,h2',h3,h3'];rintro r os ⟨rfl,rfl⟩;push_cast [iO,tN,ho,hi,h1,h1',h2,h2',h3,h3']))|((refine plc [] (hcl) ?_ ?_;push_cast [iO,tN,ho,hi,h1,h1',h2,h2',h3,h3'];rintro r os ⟨rfl,rfl⟩;push_cast [iO,tN,ho,hi,h1,h1',h2,h2',h3,h3']))|((first|refine pC ?_|refine pQC ?_|refine pU ?_);push_cast [iO,tN,ho,hi,h1,h1',h2,h2',h3,h3'])|(refine pif (fun h=>?_) (fun h=>?_)<;>first|exact pN h|push_cast [iO,tN,ho,hi,h1,h1',h2,h2',h3,h3']))
  (refine retK_of [] ?_;push_cast [iO,tN,he])
 | false =>
  rw [hcc] at hcl he
  rw [if_neg Bool.false_ne_true] at he
  have hset:(l.map Dev.d).set i d.d=(l.set i d).map Dev.d:=by rw [List.map_set]
  repeat' (first|((refine plc [] (hck) ?_ ?_;push_cast [iO,tN,ho,hi,h1,h1',h2,h2',h3,h3'];rintro r os ⟨rfl,rfl⟩;push_cast [iO,tN,ho,hi,h1,h1',h2,h2',h3,h3']))|((refine plc [] (hcl) ?_ ?_;push_cast [iO,tN,ho,hi,h1,h1',h2,h2',h3,h3'];rintro r os ⟨rfl,rfl⟩;push_cast [iO,tN,ho,hi,h1,h1',h2,h2',h3,h3']))|((refine plc [] (hcs) ?_ ?_;push_cast [iO,tN,ho,hi,h1,h1',h2,h2',h3,h3'];rintro r os ⟨rfl,rfl⟩;push_cast [iO,tN,ho,hi,h1,h1',h2,h2',h3,h3']))|((refine plc [] (hcp) ?_ ?_;push_cast [iO,tN,ho,hi,h1,h1',h2,h2',h3,h3'];rintro r os ⟨rfl,rfl⟩;push_cast [iO,tN,ho,hi,h1,h1',h2,h2',h3,h3']))|((first|refine pC ?_|refine pQC ?_|refine pU ?_);push_cast [iO,tN,ho,hi,h1,h1',h2,h2',h3,h3'])|(refine pif (fun h=>?_) (fun h=>?_)<;>first|exact pN h|push_cast [iO,tN,ho,hi,h1,h1',h2,h2',h3,h3']))
  (refine retK_of [] ?_;push_cast [iO,tN,he,hT])
  rw [h1,h2,h3]
end Go.Proofs.YthconflkbeipoaaGreatDoor
namespace Go.Proofs.YthconflkbeipoaaGreatDoor
open Go.RowKit
open IntWalk renaming iteOmega → iO, toNatUp → tN
set_option linter.unusedVariables false
set_option linter.unusedSimpArgs false
structure Keeps (f:Dev → Dev):Prop where
 ix:∀ x,(f x).index=x.index
 pa:∀ x,(f x).parent=x.parent
 orig:∀ x,(f x).original=x.original
theorem Keeps.find {f:Dev → Dev} (h:Keeps f) (l:List Dev) (n:Int):findD (l.map f) n=(findD l n).map f:=by
 unfold findD
 rw [List.find?_map]
 congr 1
 show List.find? (fun x=>decide ((f x).index=n)) l=_
 simp only [h.ix]
theorem Keeps.chain {f:Dev → Dev} (h:Keeps f) (l:List Dev):∀ (k:Nat) (n:Int),chainGo (l.map f) k n=(chainGo l k n).map f
 | 0,n=>rfl
 | k+1,n=>by
  cases hf:findD l n with
  | none =>
   have hf2:findD (l.map f) n=none:=by rw [h.find,hf];rfl
   rw [chainGo_none hf,chainGo_none hf2];rfl
  | some d =>
   have hf2:findD (l.map f) n=some (f d):=by rw [h.find,hf];rfl
   rw [chainGo_some hf,chainGo_some hf2,h.pa,Keeps.chain h l k];rfl
theorem Keeps.orig' {f:Dev → Dev} (h:Keeps f) (l:List Dev) (n:Int):origM (l.map f) n=origM l n:=by
 unfold origM chainM
 rw [h.chain,List.length_map,List.map_map]
 congr 2
 funext x
 exact h.orig x
theorem Keeps.place {f:Dev → Dev} (h:Keeps f) (l:List Dev) (n:Int):placeM (l.map f) n=placeM l n:=by
 unfold placeM
 rw [h.orig']
theorem Keeps.ixs {f:Dev → Dev} (h:Keeps f) (l:List Dev):(l.map f).map Dev.index=l.map Dev.index:=by
 rw [List.map_map]
 exact List.map_congr_left fun x _=>h.ix x
theorem Keeps.okt {f:Dev → Dev} (h:Keeps f) {l:List Dev} (ht:Okt l):Okt (l.map f):=by
 refine ⟨fun d hd=>?_,by rw [h.ixs];exact ht.nodup,fun i hi=>?_,fun d hd=>?_,fun d hd e he hde=>?_⟩
 ·obtain ⟨x,hx,rfl⟩:=List.mem_map.1 hd
  rw [h.ix];exact ht.pos x hx
 ·rw [List.length_map] at hi
  rw [List.getElem_map,h.pa]
  rcases ht.par i hi with h1|⟨j,hj,h1⟩
  ·exact .inl h1
  ·exact .inr ⟨j,hj,by rw [List.getElem_map,h.ix];exact h1⟩
 ·obtain ⟨x,hx,rfl⟩:=List.mem_map.1 hd
  rw [h.orig];exact ht.val x hx
 ·obtain ⟨x,hx,rfl⟩:=List.mem_map.1 hd
  obtain ⟨y,hy,rfl⟩:=List.mem_map.1 he
  rw [h.orig',h.orig',h.ix,h.ix] at hde
  rw [ht.dist x hx y hy hde]
theorem Keeps.ord {f:Dev → Dev} (h:Keeps f) {l:List Dev} (ho:OrdT l):OrdT (l.map f):=by
 unfold OrdT
 rw [List.pairwise_map]
 refine ho.imp fun {a b} hab=>?_
 rw [h.orig',h.orig',h.ix,h.ix]
 exact hab
def nameD (d:Dev) (u:ByteArray):Dev:=⟨d.index,d.parent,u,d.original,d.subsystem,d.driver,d.alias_,d.kind,d.number,d.attrs⟩
def renF (d:Dev) (u:ByteArray) (x:Dev):Dev:=if x.index=d.index then nameD x u else x
theorem renF_keeps (d:Dev) (u:ByteArray):Keeps (renF d u):=by
 refine ⟨fun x=>?_,fun x=>?_,fun x=>?_⟩
 all_goals unfold renF;split<;>rfl
theorem chg_ren {l:List Dev} (hn:(l.map Dev.index).Nodup) {d:Dev} (hd:d ∈ l) (u:ByteArray):chgT l (nameD d u)=l.map (renF d u):=by
 unfold chgT
 refine List.map_congr_left fun x hx=>?_
 unfold renF
 by_cases e:x.index=d.index
 ·have h1:=findD_mem hn hx
  rw [e,findD_mem hn hd] at h1
  injection h1 with h1
  rw [if_pos (show x.index=(nameD d u).index from e),if_pos e,h1]
 ·rw [if_neg (show ¬ x.index=(nameD d u).index from e),if_neg e]
theorem check_ren {d:Dev} (h:checkM d=0) (hk:d.kind=4) {u:ByteArray} (hu:ifaceS u=true):checkM (nameD d u)=0:=by
 have hv:validS u=true:=by
  unfold ifaceS at hu
  rw [Bool.and_eq_true,Bool.and_eq_true] at hu
  exact hu.1.1
 have h1:=checkM_nums h
 have h2:=checkM_named h
 obtain ⟨h3,h4⟩:=check_net h hk
 have hN:numsM (nameD d u)=numsM d:=rfl
 have hM:namedM (nameD d u)=true:=by
  unfold namedM at h2 ⊢
  simp only [Bool.and_eq_true] at h2 ⊢
  exact ⟨⟨⟨⟨hv,h2.1.1.1.2⟩,h2.1.1.2⟩,h2.1.2⟩,h2.2⟩
 have hK:kindM (nameD d u)=true:=by
  unfold kindM
  rw [if_pos (show (nameD d u).kind=4 from hk),Bool.and_eq_true]
  exact ⟨hu,h4⟩
 have hK0:kindM d=true:=by
  unfold kindM
  rw [if_pos hk,Bool.and_eq_true]
  exact ⟨h3,h4⟩
 unfold checkM at h ⊢
 rw [h1,h2,hK0] at h
 rw [hN,h1,hM,hK]
 exact h
theorem chgErr_ren {l:List Dev} (ht:Okt l) {d:Dev} (hd:d ∈ l) (hc:checkM d=0) (hk:d.kind=4) {u:ByteArray} (hu:ifaceS u=true) (hno:∀ x ∈ l,x.kind=4 → x.name≠u):chgErr l (nameD d u)=0:=by
 have hf:findD l (nameD d u).index=some d:=findD_mem ht.nodup hd
 unfold chgErr
 rw [hf]
 simp only
 rw [if_neg (by rw [check_ren hc hk hu];simp),if_neg (by rintro (h|h|h)<;>exact h rfl),if_neg]
 intro h
 unfold clashesM at h
 obtain ⟨x,hx,h2⟩:=List.any_eq_true.1 h
 rw [Bool.and_eq_true] at h2
 have h3:=h2.2
 have hnn:hasN (nameD d u)=false:=by unfold hasN;rw [show (nameD d u).kind=4 from hk];rfl
 unfold clashM at h3
 rw [hnn,Bool.and_false,Bool.false_and,Bool.or_false,Bool.and_eq_true,Bool.and_eq_true,decide_eq_true_eq,decide_eq_true_eq] at h3
 exact hno x hx h3.1.1 (of_decide_eq_true (show decide (x.name=u)=true from h3.2))
theorem WT.ren {l:List Dev} {n:Nat} (h:WT l n) {d:Dev} (hd:d ∈ l) (hk:d.kind=4) {u:ByteArray} (hu:ifaceS u=true) (hno:∀ x ∈ l,x.kind=4 → x.name≠u):WT (l.map (renF d u)) n:=by
 have hK:=renF_keeps d u
 have hus:=iface_size hu
 have hsame:∀ x ∈ l,x.index=d.index → x=d:=fun x hx e=>by
  have h1:=findD_mem h.okt.nodup hx
  rw [e,findD_mem h.okt.nodup hd] at h1
  exact (Option.some.inj h1).symm
 refine ⟨hK.okt h.okt,by rw [List.length_map];exact h.len,fun x hx=>?_,hK.ord h.ord,fun a ha b hb h1 h2 e=>?_,fun x hx=>?_,fun a ha b hb h1 h2 e=>?_⟩
 ·obtain ⟨y,hy,rfl⟩:=List.mem_map.1 hx
  obtain ⟨h1,h2,h3⟩:=h.dev y hy
  refine ⟨?_,by rw [hK.ix];exact h2,by rw [hK.ix];exact h3⟩
  unfold renF
  split
  ·exact ⟨⟨show u.size≤_ by omega,h1.ok.original,h1.ok.subsystem,h1.ok.driver,h1.ok.alias_,h1.ok.attrs,h1.ok.len,h1.ok.orig⟩,h1.orig,h1.att,h1.num⟩
  ·exact h1
 ·obtain ⟨x,hx,rfl⟩:=List.mem_map.1 ha
  obtain ⟨y,hy,rfl⟩:=List.mem_map.1 hb
  have hN:∀ z,hasN (renF d u z)=hasN z:=fun z=>by unfold renF;split<;>rfl
  have hM:∀ z,nodeM (renF d u z)=nodeM z:=fun z=>by unfold renF;split<;>rfl
  rw [hN] at h1 h2
  rw [hM,hM] at e
  rw [h.nod x hx y hy h1 h2 e]
 ·obtain ⟨y,hy,rfl⟩:=List.mem_map.1 hx
  unfold renF
  split
  ·rename_i e
   rw [hsame y hy e]
   exact check_ren (h.chk d hd) hk hu
  ·exact h.chk y hy
 ·obtain ⟨x,hx,rfl⟩:=List.mem_map.1 ha
  obtain ⟨y,hy,rfl⟩:=List.mem_map.1 hb
  have hKk:∀ z,(renF d u z).kind=z.kind:=fun z=>by unfold renF;split<;>rfl
  rw [hKk] at h1 h2
  unfold renF at e
  by_cases e1:x.index=d.index<;>by_cases e2:y.index=d.index
  ·rw [hsame x hx e1,hsame y hy e2]
  ·rw [if_pos e1,if_neg e2] at e
   exact absurd e.symm (hno y hy h2)
  ·rw [if_neg e1,if_pos e2] at e
   exact absurd e (hno x hx h1)
  ·rw [if_neg e1,if_neg e2] at e
   rw [h.net x hx y hy h1 h2 e]
theorem now_ren {l:List Dev} (ht:Okt l) {d:Dev} (hd:d ∈ l) (u:ByteArray) {i:Nat} (hi:i < (nowP l).length) (he:(nowP l).getD i default=nowA l d):nowP (l.map (renF d u))=renP (nowP l) i u:=by
 have hK:=renF_keeps d u
 have hKk:∀ z,(renF d u z).kind=z.kind:=fun z=>by unfold renF;split<;>rfl
 have hE:∀ m:List Dev,nowP m=(m.filter fun d=>decide (d.kind=4)).map (nowA m):=fun m=>by unfold nowP nowK;rw [List.take_length]
 have h1:nowP (l.map (renF d u))=(l.filter fun d=>decide (d.kind=4)).map fun x=>(⟨placeM l x.index,(renF d u x).name⟩:Atr):=by
  rw [hE,List.filter_map,List.map_map]
  have:((fun d=>decide (d.kind=4)) ∘ renF d u)=fun x=>decide (x.kind=4):=by funext x;show decide ((renF d u x).kind=4)=_;rw [hKk]
  rw [this]
  refine List.map_congr_left fun x _=>?_
  show nowA (l.map (renF d u)) (renF d u x)=_
  unfold nowA
  rw [hK.place,hK.ix]
 rw [h1]
 unfold renP
 rw [he]
 rw [hE] at hi he ⊢
 refine List.ext_getElem (by simp) fun j h2 h3=>?_
 rw [List.length_map] at h2 hi
 rw [getD_lt _ (by rw [List.length_map];exact hi),List.getElem_map] at he
 rw [List.getElem_map,List.getElem_set,List.getElem_map]
 have hmem:∀ k (h:k < (l.filter fun d=>decide (d.kind=4)).length),(l.filter fun d=>decide (d.kind=4))[k] ∈ l:=fun k h=>(List.mem_filter.1 (List.getElem_mem h)).1
 have hxd:(l.filter fun d=>decide (d.kind=4))[i]=d:=by
  unfold nowA at he
  injection he with he _
  exact place_inj ht (hmem i hi) hd he
 by_cases e:i=j
 ·subst e
  rw [if_pos rfl,hxd]
  unfold renF nowA
  rw [if_pos rfl]
  rfl
 ·rw [if_neg e]
  unfold renF nowA
  rw [if_neg]
  intro e2
  apply e
  have hx2:(l.filter fun d=>decide (d.kind=4))[j]=d:=by
   have h4:=findD_mem ht.nodup (hmem j h2)
   rw [e2,findD_mem ht.nodup hd] at h4
   exact (Option.some.inj h4).symm
  have hn:(l.filter fun d=>decide (d.kind=4)).Pairwise fun a b=>a≠b:=((List.pairwise_map.1 ht.nodup).imp fun h e=>h (by rw [e])).filter _
  rcases Nat.lt_trichotomy i j with h|h|h
  ·exact absurd (hxd.trans hx2.symm) (List.pairwise_iff_getElem.1 hn i j hi h2 h)
  ·exact h
  ·exact absurd (hx2.trans hxd.symm) (List.pairwise_iff_getElem.1 hn j i h2 hi h)
theorem renN_iface:((List.range 100).all fun m=>ifaceS (renN m))=true:=by decide +kernel
theorem next_iface {names now:List Atr} (hi:∀ s ∈ vals names,ifaceS s=true) (hfew:names.length+now.length≤90) {i:Nat} {u:ByteArray} (hn:nextP names now=some (i,u)):ifaceS u=true:=by
 unfold nextP at hn
 cases h1:firstI now (freeP names now) with
 | some j =>
  rw [h1] at hn
  injection hn with hn
  injection hn with hn1 hn2
  subst hn1
  obtain ⟨g1,g2,_⟩:=firstI_some h1
  unfold freeP at g2
  rw [Bool.and_eq_true] at g2
  obtain ⟨v,h2,_⟩:=wrongP_iff.1 g2.1
  rw [goalP_some h2] at hn2
  rw [← hn2]
  exact hi v (List.mem_map.2 ⟨_,valOf_mem h2,rfl⟩)
 | none =>
  rw [h1] at hn
  cases h2:firstI now (wrongP names) with
  | none=>rw [h2] at hn;cases hn
  | some j =>
   rw [h2] at hn
   injection hn with hn
   injection hn with hn1 hn2
   rw [← hn2]
   have hT:=temp_le (vals names++vals now)
   have hl:(vals names++vals now).length=names.length+now.length:=by unfold vals;rw [List.length_append,List.length_map,List.length_map]
   exact List.all_eq_true.1 renN_iface _ (List.mem_range.2 (by omega))
theorem plan_nil {names now:List Atr} (h:PlanOk names now) (he:planOf names now=[]):∀ x ∈ now,wrongP names x=false:=by
 cases hn:nextP names now with
 | none=>exact nextP_none hn
 | some p =>
  obtain ⟨i,u⟩:=p
  rw [(planOf_some h hn).1] at he
  cases he
theorem plan_cons {names now:List Atr} (h:PlanOk names now) {x:Ren} {p:List Ren} (he:planOf names now=x :: p):∃ i u,nextP names now=some (i,u)∧x=⟨(now.getD i default).name,(now.getD i default).value,u⟩∧p=planOf names (renP now i u):=by
 cases hn:nextP names now with
 | none=>rw [(planOf_none hn).1] at he;cases he
 | some q =>
  obtain ⟨i,u⟩:=q
  rw [(planOf_some h hn).1] at he
  injection he with h1 h2
  exact ⟨i,u,rfl,h1.symm,h2.symm⟩
theorem plan_done {names now:List Atr} (h:PlanOk names now) (hk:keys names=keys now) (hw:∀ x ∈ now,wrongP names x=false):now=names:=by
 have hl:names.length=now.length:=by
  have:=congrArg List.length hk
  unfold keys at this
  rwa [List.length_map,List.length_map] at this
 refine List.ext_getElem hl.symm fun j h1 h2=>?_
 have hn:names[j].name=now[j].name:=by
  have h3:(keys names)[j]'(by unfold keys;rw [List.length_map];exact h2)=(keys now)[j]'(by unfold keys;rw [List.length_map];exact h1):=by simp only [hk]
  unfold keys at h3
  simpa using h3
 have hv:=valOf_of h.nk (List.getElem_mem h2)
 have hw2:=hw _ (List.getElem_mem h1)
 unfold wrongP at hw2
 rw [← hn,hv] at hw2
 have h5:names[j].value=now[j].value:=by simpa using hw2
 exact atr_eq hn.symm h5.symm
theorem atD_mem {l:List Dev} (ht:Okt l) {d:Dev} (hd:d ∈ l):atD l (placeM l d.index)=some d:=by
 cases h:atD l (placeM l d.index) with
 | none =>
  unfold atD at h
  have:=List.find?_eq_none.1 h d hd
  simp at this
 | some e =>
  unfold atD at h
  have h1:=List.mem_of_find?_eq_some h
  have h2:=List.find?_some h
  simp only [decide_eq_true_eq] at h2
  rw [place_inj ht h1 hd h2]
theorem ifaceD_none {l:List Dev} {u:ByteArray} (h:u ∉ vals (nowP l)):ifaceD l u=none:=by
 unfold ifaceD
 rw [List.find?_eq_none]
 intro x hx hp
 unfold ifaceP at hp
 rw [Bool.and_eq_true,decide_eq_true_eq,decide_eq_true_eq] at hp
 exact h (List.mem_map.2 ⟨nowA l x,now_mem.2 ⟨x,hx,hp.1,rfl⟩,hp.2⟩)
theorem asg_len2 (w:List Wsh):(assignA w).length=w.length:=by unfold assignA;simp
structure StepT (names:List Atr) (l:List Dev) (x:Ren) (p:List Ren) (d:Dev):Prop where
 mem:d ∈ l
 at_:atD l x.path=some d
 free:ifaceD l x.new=none
 old:d.name=x.old
 kind:d.kind=4
 ifc:ifaceS x.new=true
 err:chgErr l (nameD d x.new)=0
 tree:chgT l (nameD d x.new)=l.map (renF d x.new)
 wt:WT (l.map (renF d x.new)) 9
 pok:PlanOk names (nowP (l.map (renF d x.new)))
 rest:planOf names (nowP (l.map (renF d x.new)))=p
 keys:keys (nowP (l.map (renF d x.new)))=Go.Proofs.YthconflkbeipoaaGreatDoor.keys (nowP l)
theorem step_tree {names:List Atr} {l:List Dev} (hw:WT l 9) (hP:PlanOk names (nowP l)) (hi:∀ s ∈ vals names,ifaceS s=true) (hfew:names.length+(nowP l).length≤90) {x:Ren} {p:List Ren} (he:planOf names (nowP l)=x :: p):∃ d,StepT names l x p d:=by
 obtain ⟨i,u,hn,rfl,rfl⟩:=plan_cons hP he
 have hs:=nextP_spec hP hn
 have hm:(nowP l).getD i default ∈ nowP l:=by rw [getD_lt _ hs.lt];exact List.getElem_mem _
 obtain ⟨d,hd,hk,hx⟩:=now_mem.1 hm
 have hu:=next_iface hi hfew hn
 have hno:∀ y ∈ l,y.kind=4 → y.name≠u:=fun y hy hyk e=>hs.no (List.mem_map.2 ⟨nowA l y,now_mem.2 ⟨y,hy,hyk,rfl⟩,e⟩)
 have hr:=now_ren hw.okt hd u hs.lt hx
 refine ⟨d,hd,?_,ifaceD_none hs.no,by rw [hx];rfl,hk,hu,chgErr_ren hw.okt hd (hw.chk d hd) hk hu hno,chg_ren hw.okt.nodup hd u,hw.ren hd hk hu hno,by rw [hr];exact hs.ok,by rw [hr],?_⟩
 ·rw [hx]
  exact atD_mem hw.okt hd
 ·show keys (nowP (l.map (renF d u)))=_
  rw [hr,keys_renP u hs.lt]
section
variable {P:Program} {N p:Nat} {s:S}
theorem pwp_drawn_ex {rd:Option Nat} {Q:Exit → S → Prop} {id:Nat} {l:List Oper} {α:Type} (B:Nat) (ex:List Nat) (f:α → List (Nat × PV)) (g:α → List (Nat × Ob)) (Φ:α → Prop) (x0:α) {t0:List (Nat × PV)} (ht:cutT B ex ((f x0).map Prod.fst) s.t=t0) (hmp:(P.follows .mixedOrders && plains l)=true)
  (h:PA P N p l.toArray l.length (Array.replicate l.length false) s (fun s'=>∃ x,Φ x∧Weak N p s' ⟨f x++t0,setM s.o (g x)⟩)) (hq:∀ x,Φ x → Q .normal ⟨f x++t0,setM s.o (g x)⟩):PWPr rd P N p (.region id l.toArray true) Q s:=fun z Γ a w hA hD=>by
 simp only [Bool.and_eq_true] at hmp
 refine wpIn_region_any hmp.1 (any_rd (by simpa using hmp.2) ?_)
 have hX:Ext No w { w with drawn:=w.drawn+1 }:=(Ext.refl No w).drew
 refine h Γ a _ _ ⟨hA.inv.same (Same.of_ext hX),hA.le⟩ fun s' Γ' a' w' hk hA' hg hd=>?_
 obtain ⟨x,hx,hw⟩:=hk
 obtain ⟨Γ2,hA2,hg2⟩:=hw Γ' a' w' hA'
 exact ⟨_,Γ2,hq x hx,hA2,(ext_grow hX).trans (hg.trans hg2),hD.grow ((ext_grow (p:=p) hX).trans (hg.trans hg2)) hd⟩
end
end Go.Proofs.YthconflkbeipoaaGreatDoor
