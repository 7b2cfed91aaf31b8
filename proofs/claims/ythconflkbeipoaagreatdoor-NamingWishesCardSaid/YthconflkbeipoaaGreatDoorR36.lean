/- What the program computes, and the plain laws of it, part 36. -/
import Derived.Test.YthconflkbeipoaaGreatDoorR35
namespace Go.Proofs.YthconflkbeipoaaGreatDoor
attribute [local irreducible] PL QL PWPr PCalls Weak RetK Kontr PA
open Go.RowKit
open IntWalk renaming iteOmega → iO, toNatUp → tN
set_option linter.unusedVariables false
set_option linter.unusedSimpArgs false
set_option maxRecDepth 20000
def nowA (l:List Dev) (d:Dev):Atr:=⟨placeM l d.index,d.name⟩
def nowK (l:List Dev) (k:Nat):List Atr:=((l.take k).filter fun d=>decide (d.kind=4)).map (nowA l)
def nowP (l:List Dev):List Atr:=nowK l l.length
theorem nowK_t {l:List Dev} {k:Nat} (hk:k < l.length) (h:(l.getD k default).kind=4):nowK l (k+1)=nowK l k++[nowA l (l.getD k default)]:=by
 unfold nowK
 rw [List.take_succ_eq_append_getElem hk,List.filter_append,List.map_append,← getD_lt l hk,List.filter_cons_of_pos (by simpa using h),List.filter_nil,List.map_singleton]
theorem nowK_f {l:List Dev} {k:Nat} (hk:k < l.length) (h:(l.getD k default).kind≠4):nowK l (k+1)=nowK l k:=by
 unfold nowK
 rw [List.take_succ_eq_append_getElem hk,List.filter_append,List.map_append,← getD_lt l hk,List.filter_cons_of_neg (by simpa using h),List.filter_nil,List.map_nil,List.append_nil]
theorem nowK_len (l:List Dev) (k:Nat):(nowK l k).length≤l.length:=by
 unfold nowK
 rw [List.length_map]
 exact Nat.le_trans (List.length_filter_le _ _) (by rw [List.length_take];omega)
theorem interf_pure (l:List Dev):PCalls Tryz.prog 53 [.agg (trE l)] [] fun r os=>r = .c (.fn (.func 100) [] [0])∧os=[.box 47 (trE l)]:=by
 refine pcalls_of Tryz.func53 rfl (by simp [Tryz.ntmps53]) ?_
 rw [Tryz.ntmps53,Tryz.results53]
 push_cast [iO,tN]
 repeat' (first|((first|refine pG ?_|refine pQ ?_|refine pU ?_);push_cast [iO,tN])|(refine pif (fun h=>?_) (fun h=>?_)<;>first|exact pN h|push_cast [iO,tN]))
 (refine retK_of [0] ?_;push_cast [iO,tN])
set_option maxHeartbeats 8000000 in
theorem present_pure (l:List Dev) (h:Okp l) (hl:l.length≤1000) (hz:∀ d ∈ l,d.original.size≤1000) :
  PCalls Tryz.prog 28 [.agg (trE l)] [] fun r os=>r = .c (.own 0 (nowP l).length)∧os=[.arr 33 2 ((nowP l).map Atr.d)]:=by
 have hi:=interf_pure l
 refine pcalls_of Tryz.func28 rfl (by simp [Tryz.ntmps28]) ?_
 rw [Tryz.ntmps28,Tryz.results28]
 push_cast [iO,tN]
 have cB:CutB 6 [7]:=trivial
 repeat' (first |  ((refine plc [] (hi) ?_ ?_;push_cast [iO,tN];rintro r os ⟨rfl,rfl⟩;push_cast [iO,tN]))|(refine pwp_seq fun K hK=>?_)|(refine pwp_block ?_)  | ((first|refine pC ?_|refine pQC ?_|refine pU ?_);push_cast [iO,tN])|(refine pif (fun h=>?_) (fun h=>?_)<;>first|exact pN h|push_cast [iO,tN]))
 refine pwp_range (R:=fun lo r os'=>∃ L2 t2,os'=[.box 47 (trE l),.box 28 [.own 4 (nowP l).length],.box 47 (trE l),.loop lo L2 t2,.arr 33 2 ((nowP l).map Atr.d)]∧L2.st = .ready∧L2.pd=none) rfl (by kernel_rfl) (fun lo D fn=>?_) (fun lo r os' hR=>?_)
 ·refine pcalls_of_all Tryz.func100 rfl (by simp [Tryz.ntmps100]) ?_
  rw [Tryz.ntmps100,Tryz.results100]
  push_cast [iO,tN]
  refine pwp_weak (weak_adopt_box 1 0 33 2 (by omega) 28 [.v (.slice none 0 0)] rfl rfl) ?_
  push_cast [iO,tN]
  have cB:CutB 7 [8,9,10]:=trivial
  repeat' (first|((first|refine pC ?_|refine pQC ?_|refine pU ?_);push_cast [iO,tN])|(refine pif (fun h=>?_) (fun h=>?_)<;>first|exact pN h|push_cast [iO,tN]))
  (apply pwp_loop3 (α:=Nat) 7 [8,9,10] (fun k=>[(10,.c (.v (.int .i64 k)))]) (fun k=>[(1,.box 28 [.own 4 (nowK l k).length]),(4,.arr 33 2 ((nowK l k).map Atr.d))]) (fun k=>k≤l.length) (fun k=>l.length - k) (0);(focus ((try push_cast [iO,tN]);rfl));(focus exact (Nat.zero_le _));(focus ((refine weak_fg ?_;try push_cast [iO,tN]);(try (exact ⟨rfl,rfl⟩)))))
  intro k hk
  push_cast [iO,tN]
  by_cases hlt:k < l.length
  case neg =>
   have hk2:k=l.length:=by omega
   subst hk2
   repeat' (first|((first|refine pC ?_|refine pQC ?_|refine pU ?_);push_cast [iO,tN])|(refine pif (fun h=>?_) (fun h=>?_)<;>first|exact pN h|push_cast [iO,tN]))
   exact ⟨_,rfl,by push_cast [iO,tN],_,_,rfl,rfl,rfl⟩
  obtain ⟨d,hd⟩:∃ d,l.getD k default=d:=⟨_,rfl⟩
  have hor:=origin_pure l d.index h hl hz
  have hnl:=nowK_len l k
  by_cases hkind:d.kind=4
  case neg =>
   have hsk:=nowK_f hlt (by rw [hd];exact hkind)
   repeat' (first|((first|refine pC ?_|refine pQC ?_|refine pU ?_);push_cast [iO,tN,hd,hkind])|(refine pif (fun h=>?_) (fun h=>?_)<;>first|exact pN h|push_cast [iO,tN,hd,hkind]))
   exact ⟨k+1,by omega,by (refine weak_fg ?_;push_cast [iO,tN,hsk]),by omega⟩
  have hst:=nowK_t hlt (by rw [hd];exact hkind)
  rw [hd] at hst
  replace hst:nowK l (k+1)=nowK l k++[⟨placeM l d.index,d.name⟩]:=hst
  have hsl:(nowK l (k+1)).length=(nowK l k).length+1:=by rw [hst,List.length_append,List.length_singleton]
  obtain ⟨u,hu⟩:∃ u,nowK l k=u:=⟨_,rfl⟩
  rw [hu] at hst hnl hsl ⊢
  repeat' (first|((refine plc [] (hor) ?_ ?_;push_cast [iO,tN,hd,hkind];rintro r os ⟨rfl,rfl⟩;push_cast [iO,tN,hd,hkind]))|((first|refine pC ?_|refine pQC ?_|refine pU ?_);push_cast [iO,tN,hd,hkind])|(refine pif (fun h=>?_) (fun h=>?_)<;>first|exact pN h|push_cast [iO,tN,hd,hkind]))
  refine pl_yield 3 (qs:=[.c (.v (.string (placeM l d.index))),.agg d.e]) rfl rfl rfl (by push_cast [iO,tN]) rfl rfl (by push_cast [iO,tN,hd,hkind]) rfl rfl ?_
  try dsimp only
  push_cast [iO,tN]
  have cB:CutB 6 [7,8,9]:=trivial
  repeat' (first|((first|refine pC ?_|refine pQC ?_|refine pU ?_);push_cast [iO,tN])|(refine pif (fun h=>?_) (fun h=>?_)<;>first|exact pN h|push_cast [iO,tN]))
  simp only [asgQ]
  refine ⟨_,_,rfl,rfl,?_⟩
  try dsimp only
  repeat' (first |  (refine pl_app2 (e:=33) (sz:=2) (by':=32) (rows:=u.map Atr.d) (ys:=[[.v (.string (placeM l d.index)),.v (.string d.name)]]) 4 rfl (by push_cast [iO,tN]) (by push_cast [iO,tN]) (by push_cast [iO,tN]) (by push_cast [iO,tN]) (by omega) (by push_cast [iO,tN]) (by push_cast [iO,tN]) (by push_cast [iO,tN]) (by push_cast [iO,tN]) (by simp) (by push_cast [iO,tN];omega) (by push_cast [iO,tN];omega) ?_ ?_<;>(refine pl_of_pops ?_;push_cast [iO,tN]))  | ((first|refine pC ?_|refine pQC ?_|refine pU ?_);push_cast [iO,tN])|(refine pif (fun h=>?_) (fun h=>?_)<;>first|exact pN h|push_cast [iO,tN]))
  all_goals simp only [yldQ]
  all_goals refine ⟨_,_,rfl,?_⟩
  all_goals push_cast [iO,tN]
  have cB:CutB 7 [8,9,10]:=trivial
  all_goals have cB6:CutB 7 [8,9,10]:=trivial
  all_goals first
   | (refine pl_of_pops ?_;push_cast [iO,tN];(repeat' (first|((first|refine pC ?_|refine pQC ?_|refine pU ?_);push_cast [iO,tN])|(refine pif (fun h=>?_) (fun h=>?_)<;>first|exact pN h|push_cast [iO,tN])));refine ⟨k+1,by omega,?_,by omega⟩;(refine weak_fg ?_;push_cast [iO,tN,hst,hsl]);done)
   | (refine pl_weak (weak_sw 6 (by omega)) ?_;push_cast [iO,tN];refine pl_weak (weak_sw 5 (by omega)) ?_;push_cast [iO,tN];refine pl_weak (weak_sw 4 (by omega)) ?_;push_cast [iO,tN];refine pl_of_pops ?_;push_cast [iO,tN];(repeat' (first|((first|refine pC ?_|refine pQC ?_|refine pU ?_);push_cast [iO,tN])|(refine pif (fun h=>?_) (fun h=>?_)<;>first|exact pN h|push_cast [iO,tN])));refine ⟨k+1,by omega,?_,by omega⟩;(refine weak_fg ?_;push_cast [iO,tN,hst,hsl]);done)
 ·obtain ⟨L2,t2,rfl,h1,h2⟩:=hR
  refine ⟨L2,t2,rfl,by rw [h1];simp,?_⟩
  rw [h2]
  simp only [rngfQ]
  have cB:CutB 6 []:=trivial
  push_cast [iO,tN]
  refine pU ?_
  repeat' (first|((first|refine pC ?_|refine pQC ?_|refine pU ?_);push_cast [iO,tN])|(refine pif (fun h=>?_) (fun h=>?_)<;>first|exact pN h|push_cast [iO,tN]))
  (refine retK_of [4] ?_;push_cast [iO,tN])
set_option maxRecDepth 20000
theorem hidS (id:Nat) {rd:Option Nat} {P:Program} {N p:Nat} {Q:Exit → S → Prop} {s:S} {ops:Array Oper} {b:Bool} {y:Code} (h:HidR (PWPr rd P N p (.seq (.region id ops b) y) Q s)):PWPr rd P N p (.seq (.region id ops b) y) Q s:=by
 unfold HidR at h
 exact h
structure RcdsOk (l:List Dev) (rs:List Rcd):Prop where
 ok:∀ r ∈ rs,r.ok
 of:∀ r ∈ rs,∃ d ∈ l,d.index=r.index
 nodup:(rs.map Rcd.index).Nodup
theorem RcdsOk.nil (l:List Dev):RcdsOk l []:=⟨(fun r hr=>by cases hr),(fun r hr=>by cases hr),(by simp)⟩
theorem RcdsOk.ins {l m:List Dev} {rs:List Rcd} (h:RcdsOk l rs) {r:Rcd} {d:Dev} (hr:r.ok) (hi:r.index=d.index) (hd:d ∈ m) (hl:∀ x ∈ l,x ∈ m) (hn:∀ x ∈ l,x.index≠d.index) (k:Nat):RcdsOk m (rs.take k++r :: rs.drop k):=by
 have hp:(rs.take k++r :: rs.drop k).Perm (r :: rs):=by
  have:=List.perm_middle (a:=r) (l₁:=rs.take k) (l₂:=rs.drop k)
  rwa [List.take_append_drop] at this
 refine ⟨fun x hx=>?_,fun x hx=>?_,?_⟩
 ·rcases List.mem_cons.1 (hp.mem_iff.1 hx) with rfl|hx
  ·exact hr
  ·exact h.ok x hx
 ·rcases List.mem_cons.1 (hp.mem_iff.1 hx) with rfl|hx
  ·exact ⟨d,hd,hi.symm⟩
  ·obtain ⟨e,he,h2⟩:=h.of x hx
   exact ⟨e,hl e he,h2⟩
 ·rw [(hp.map Rcd.index).nodup_iff,List.map_cons,List.nodup_cons]
  refine ⟨fun hm=>?_,h.nodup⟩
  obtain ⟨x,hx,h2⟩:=List.mem_map.1 hm
  obtain ⟨e,he,h3⟩:=h.of x hx
  exact hn e he (by rw [h3,h2,hi])
theorem RcdsOk.more {l m:List Dev} {rs:List Rcd} (h:RcdsOk l rs) (hl:∀ x ∈ l,x ∈ m):RcdsOk m rs:=⟨h.ok,(fun r hr=>by obtain ⟨e,he,h2⟩:=h.of r hr;exact ⟨e,hl e he,h2⟩),h.nodup⟩
set_option maxHeartbeats 8000000 in
theorem records_ex (L:List Int) (k:Nat) (l:List Dev) (N:Nat) (hk:k < 50000) (hw:WT l N) (hN:N≤100) (hL:∀ x ∈ L,-9223372036854775808≤x∧x≤9223372036854775807) (hLl:L.length≤9223372036854775807) :
  PCalls Tryz.prog 21 [.c (.ptr 0 0),.agg (trE l)] [tape L k] fun r os=>∃ (rs:List Rcd) (k':Nat),(rs.length≤l.length∧RcdsOk l rs)∧k'≤k+22 * N∧r = .c (.sl 12 (rs.map Rcd.d))∧os=[tape L k']:=by
 have hll:=hw.len
 refine pcalls_of Tryz.func21 rfl (by simp [Tryz.ntmps21]) ?_
 rw [Tryz.ntmps21,Tryz.results21]
 push_cast [iO,tN]
 have cB:CutB 9 []:=trivial
 repeat' (first|((first|refine pC ?_|refine pQC ?_|refine pU ?_);push_cast [iO,tN])|(refine pif (fun h=>?_) (fun h=>?_)<;>first|exact pN h|push_cast [iO,tN]))
 (apply pwp_loop3 (α:=Nat × List Rcd × Nat) 9 [] (fun x=>[(6,.c (.v (.int .i64 x.1))),(5,.c (.sl 12 (x.2.1.map Rcd.d)))]) (fun x=>[(0,tape L x.2.2)]) (fun x=>x.1≤l.length∧x.2.1.length≤x.1∧RcdsOk (l.take x.1) x.2.1∧x.2.2≤k+22 * x.1) (fun x=>l.length - x.1) ((0,[],k));(focus ((try push_cast [iO,tN]);rfl));(focus exact ⟨Nat.zero_le _,Nat.le_refl _,RcdsOk.nil _,Nat.le_refl _⟩);(focus ((refine weak_fg ?_;try push_cast [iO,tN]))))
 rintro ⟨i,rs,q⟩ ⟨h1,h2,h3,h4⟩
 simp only at h1 h2 h3 h4
 push_cast [iO,tN]
 by_cases hlt:i < l.length
 case neg =>
  have hi:i=l.length:=by omega
  subst hi
  rw [List.take_length] at h3
  repeat' (first|((first|refine pC ?_|refine pQC ?_|refine pU ?_);push_cast [iO,tN])|(refine pif (fun h=>?_) (fun h=>?_)<;>first|exact pN h|push_cast [iO,tN]))
  (refine retK_of [0] ?_;push_cast [iO,tN])
  exact ⟨_,_,leP_refl _,leOs_refl _,rs,q,⟨h2,h3⟩,by omega,rfl,rfl⟩
 have hm:=getD_mem hlt
 have htk:l.take (i+1)=l.take i++[l.getD i default]:=by rw [List.take_succ_eq_append_getElem hlt,← getD_lt l hlt]
 have hsub:∀ x ∈ l.take i,x ∈ l.take (i+1):=fun x hx=>by rw [htk];exact List.mem_append_left _ hx
 have hnew:∀ x ∈ l.take i,x.index≠(l.getD i default).index:=fun x hx e=>by
  have hnd:((l.take (i+1)).map Dev.index).Nodup:=hw.okt.nodup.sublist ((List.take_sublist _ _).map _)
  rw [htk,List.map_append,List.nodup_append] at hnd
  exact hnd.2.2 x.index (List.mem_map.2 ⟨x,hx,rfl⟩) (l.getD i default).index (by simp) e
 have hin:l.getD i default ∈ l.take (i+1):=by rw [htk];simp
 generalize hdd:l.getD i default=d at hm hnew hin
 have hr:=record_ex L (q+1) l N d (by omega) hw hN hm hL hLl
 repeat' (first|(refine hidS 6 ?_)|(refine pwp_seq fun K hK=>?_)|(refine pwp_block ?_)|((refine plc [0] (next_ex L q 6 (by omega) (by decide) (by decide) hL hLl) ?_ ?_;push_cast [iO,tN,hlt];rintro r os ⟨v,⟨v0,v1⟩,rfl,rfl⟩;push_cast [iO,tN,hlt]))|((first|refine pC ?_|refine pQC ?_|refine pU ?_);push_cast [iO,tN,hlt])|(refine pif (fun h=>?_) (fun h=>?_)<;>first|exact pN h|push_cast [iO,tN,hlt]))
 ·exact ⟨(i+1,rs,q+1),⟨by simp only;omega,by simp only;omega,h3.more hsub,by simp only;omega⟩,by (refine weak_fg ?_;push_cast [iO,tN]),by simp only;omega⟩
 refine unhid ?_
 (apply pwp_mid4 (α:=Rcd × Nat) 9 [] (fun x=>[(7,.c (.ptr 2 0))]) (fun x=>[(0,tape L x.2)]) (fun x=>[.box 92 (Rcd.e x.1)]) (fun x=>(x.1.index=d.index∧x.1.ok)∧x.2≤q+21) ((default,0));(focus ((try push_cast [iO,tN]);rfl)))
 ·(refine pwp_drawn (by kernel_rfl) ?_;try simp only [List.length_cons,List.length_nil,Nat.reduceAdd];repeat' first|((refine plc [0] (hr) ?_ ?_;push_cast [iO,tN,  hlt,hdd];rintro r os ⟨x,q2,⟨e1,e2⟩,e3,rfl,rfl⟩;push_cast [iO,tN,  hlt,hdd]))|((first|refine pah 0 ?_|refine pah 2 ?_|refine pah 4 ?_|refine pah 5 ?_);push_cast [iO,tN,  hlt,hdd])|(refine pad ?_;try push_cast [iO,tN,  hlt,hdd])|((first|refine pas [1] ?_|refine pas [3] ?_|refine pas [6] ?_|refine pas [7] ?_|refine pas [8] ?_|refine pas [9] ?_);push_cast [iO,tN,  hlt,hdd])|((first|refine pas [1,3] ?_|refine pas [1,6] ?_|refine pas [1,7] ?_|refine pas [1,8] ?_|refine pas [1,9] ?_|refine pas [3,6] ?_|refine pas [3,7] ?_|refine pas [3,8] ?_|refine pas [3,9] ?_|refine pas [6,7] ?_|refine pas [6,8] ?_|refine pas [6,9] ?_|refine pas [7,8] ?_|refine pas [7,9] ?_|refine pas [8,9] ?_);push_cast [iO,tN,  hlt,hdd];refine ⟨?_,?_⟩)|((first|refine pas [1,3,6] ?_|refine pas [1,3,7] ?_|refine pas [1,3,8] ?_|refine pas [1,3,9] ?_|refine pas [1,6,7] ?_|refine pas [1,6,8] ?_|refine pas [1,6,9] ?_|refine pas [1,7,8] ?_|refine pas [1,7,9] ?_|refine pas [1,8,9] ?_|refine pas [3,6,7] ?_|refine pas [3,6,8] ?_|refine pas [3,6,9] ?_|refine pas [3,7,8] ?_|refine pas [3,7,9] ?_|refine pas [3,8,9] ?_|refine pas [6,7,8] ?_|refine pas [6,7,9] ?_|refine pas [6,8,9] ?_|refine pas [7,8,9] ?_);push_cast [iO,tN,  hlt,hdd];refine ⟨?_,?_,?_⟩))
  all_goals exact ⟨(x,q2),⟨⟨e1,e2⟩,by simp only;omega⟩,by (refine weak_fg ?_;push_cast [iO,tN])⟩
 rintro ⟨x,q2⟩ ⟨⟨e1,e2⟩,e3⟩
 simp only at e1 e2 e3
 push_cast [iO,tN]
 have hnx:=next_ex L q2 ((rs.length:Int)+1) (by omega) (by omega) (by omega) hL hLl
 repeat' (first |  (refine hidR 8 ?_)|((refine plc [0] (hnx) ?_ ?_;push_cast [iO,tN];rintro r os ⟨v2,⟨v20,v21⟩,rfl,rfl⟩;push_cast [iO,tN]))  | ((first|refine pC ?_|refine pQC ?_|refine pU ?_);push_cast [iO,tN])|(refine pif (fun h=>?_) (fun h=>?_)<;>first|exact pN h|push_cast [iO,tN]))
 obtain ⟨m,rfl⟩:∃ m:Nat,v2=(m:Int):=⟨v2.toNat,by omega⟩
 have hml:m≤rs.length:=by omega
 refine unhid ?_
 push_cast [iO,tN]
 repeat' (first |  ((refine pwp_drawn (by kernel_rfl) ?_;simp only [List.length_cons,List.length_nil,Nat.reduceAdd];repeat' first|((first|refine pah 0 ?_|refine pah 1 ?_|refine pah 2 ?_|refine pah 3 ?_|refine pah 4 ?_|refine pah 5 ?_|refine pah 6 ?_|refine pah 7 ?_|refine pah 8 ?_|refine pah 9 ?_|refine pah 10 ?_|refine pah 11 ?_);push_cast [iO,tN])|(refine pad ?_;try push_cast [iO,tN])|((first|refine pas [0] ?_|refine pas [1] ?_|refine pas [2] ?_|refine pas [3] ?_|refine pas [4] ?_|refine pas [5] ?_|refine pas [6] ?_|refine pas [7] ?_|refine pas [8] ?_|refine pas [9] ?_|refine pas [10] ?_|refine pas [11] ?_);push_cast [iO,tN])|((first|refine pas [0,1] ?_|refine pas [0,2] ?_|refine pas [0,3] ?_|refine pas [0,4] ?_|refine pas [0,5] ?_|refine pas [0,6] ?_|refine pas [0,7] ?_|refine pas [0,8] ?_|refine pas [0,9] ?_|refine pas [0,10] ?_|refine pas [0,11] ?_|refine pas [1,2] ?_|refine pas [1,3] ?_|refine pas [1,4] ?_|refine pas [1,5] ?_|refine pas [1,6] ?_|refine pas [1,7] ?_|refine pas [1,8] ?_|refine pas [1,9] ?_|refine pas [1,10] ?_|refine pas [1,11] ?_|refine pas [2,3] ?_|refine pas [2,4] ?_|refine pas [2,5] ?_|refine pas [2,6] ?_|refine pas [2,7] ?_|refine pas [2,8] ?_|refine pas [2,9] ?_|refine pas [2,10] ?_|refine pas [2,11] ?_|refine pas [3,4] ?_|refine pas [3,5] ?_|refine pas [3,6] ?_|refine pas [3,7] ?_|refine pas [3,8] ?_|refine pas [3,9] ?_|refine pas [3,10] ?_|refine pas [3,11] ?_|refine pas [4,5] ?_|refine pas [4,6] ?_|refine pas [4,7] ?_|refine pas [4,8] ?_|refine pas [4,9] ?_|refine pas [4,10] ?_|refine pas [4,11] ?_|refine pas [5,6] ?_|refine pas [5,7] ?_|refine pas [5,8] ?_|refine pas [5,9] ?_|refine pas [5,10] ?_|refine pas [5,11] ?_|refine pas [6,7] ?_|refine pas [6,8] ?_|refine pas [6,9] ?_|refine pas [6,10] ?_|refine pas [6,11] ?_|refine pas [7,8] ?_|refine pas [7,9] ?_|refine pas [7,10] ?_|refine pas [7,11] ?_|refine pas [8,9] ?_|refine pas [8,10] ?_|refine pas [8,11] ?_|refine pas [9,10] ?_|refine pas [9,11] ?_|refine pas [10,11] ?_);push_cast [iO,tN];refine ⟨?_,?_⟩)))  | ((first|refine pC ?_|refine pQC ?_|refine pU ?_);push_cast [iO,tN])|(refine pif (fun h=>?_) (fun h=>?_)<;>first|exact pN h|push_cast [iO,tN]))
 all_goals refine ⟨(i+1,rs.take m++x :: rs.drop m,q2+1),⟨by simp only;omega,by simp only [List.length_append,List.length_cons,List.length_take,List.length_drop];omega,h3.ins e2 e1 hin hsub hnew m,by simp only;omega⟩,?_,by simp only;omega⟩
 all_goals try simp only
 all_goals (first|(refine Weak.trans (weak_frz 3 (by omega)) ?_;push_cast [iO,tN];(refine weak_fg ?_;push_cast [iO,tN]))|(refine Weak.trans (weak_frz 4 (by omega)) ?_;push_cast [iO,tN];(refine weak_fg ?_;push_cast [iO,tN]))|(refine Weak.trans (weak_frz 5 (by omega)) ?_;push_cast [iO,tN];(refine weak_fg ?_;push_cast [iO,tN]))|skip)
 all_goals (rw [List.map_take,List.map_drop];exact List.take_of_length_le (by simp;omega))
set_option maxRecDepth 20000
theorem hidN (id:Nat) {rd:Option Nat} {P:Program} {N p:Nat} {Q:Exit → S → Prop} {s:S} {ops:Array Oper} {b:Bool} (h:HidR (PWPr rd P N p (.region id ops b) Q s)):PWPr rd P N p (.region id ops b) Q s:=by
 unfold HidR at h
 exact h
def fE (rs:List Rcd):List (MK × List D):=rs.map fun r=>(MK.i .i64 r.index,r.d)
def recO (rs:List Rcd) (n:Int):Option Rcd:=rs.find? fun r=>decide (r.index=n)
theorem fE_put:∀ (rs:List Rcd) (x:Rcd),(∀ r ∈ rs,r.index≠x.index) → mput (fE rs) (.i .i64 x.index) x.d=fE (rs++[x])
 | [],x,_=>rfl
 | r :: rs,x,h=>by
  have h1:¬ (MK.i .i64 r.index=MK.i .i64 x.index):=fun e=>h r (List.mem_cons_self ..) (by injection e)
  show mput ((MK.i .i64 r.index,r.d) :: fE rs) _ _=_
  rw [mput,if_neg h1,fE_put rs x (fun y hy=>h y (List.mem_cons_of_mem _ hy))]
  rfl
theorem fE_get (n:Int):∀ rs:List Rcd,mget (fE rs) (.i .i64 n)=(recO rs n).map Rcd.d
 | []=>rfl
 | r :: rs=>by
  show mget ((MK.i .i64 r.index,r.d) :: fE rs) _=_
  unfold recO
  by_cases h:r.index=n
  ·rw [mget,if_pos (by rw [h]),List.find?_cons_of_pos (by simpa using h)]
   rfl
  ·rw [mget,if_neg (fun e=>h (by injection e)),List.find?_cons_of_neg (by simpa using h)]
   exact fE_get n rs
theorem lk_some {rs:List Rcd} {n:Int} {r:Rcd} (z:PV) (h:recO rs n=some r):lkP true z true (mget (fE rs) (.i .i64 n))=some (.two (.agg r.e) (.c (.v (.bool true)))):=by rw [fE_get,h];rfl
theorem lk_none {rs:List Rcd} {n:Int} (z:PV) (h:recO rs n=none):lkP true z true (mget (fE rs) (.i .i64 n))=some (.two z (.c (.v (.bool false)))):=by rw [fE_get,h];rfl
def wishD (l:List Dev) (rs:List Rcd) (pol:List ByteArray) (d:Dev):Wsh:=⟨placeM l d.index,match recO rs d.index with
 | some r=>candM r pol d.original
 | none=>[d.name]⟩
def wishK (l:List Dev) (rs:List Rcd) (pol:List ByteArray) (k:Nat):List Wsh:=((l.take k).filter fun d=>decide (d.kind=4)).map (wishD l rs pol)
def wishM (l:List Dev) (rs:List Rcd) (pol:List ByteArray):List Wsh:=wishK l rs pol l.length
theorem wishK_t {l:List Dev} {rs:List Rcd} {pol:List ByteArray} {k:Nat} (hk:k < l.length) (h:(l.getD k default).kind=4):wishK l rs pol (k+1)=wishK l rs pol k++[wishD l rs pol (l.getD k default)]:=by
 unfold wishK
 rw [List.take_succ_eq_append_getElem hk,List.filter_append,List.map_append,← getD_lt l hk,List.filter_cons_of_pos (by simpa using h),List.filter_nil,List.map_singleton]
theorem wishK_f {l:List Dev} {rs:List Rcd} {pol:List ByteArray} {k:Nat} (hk:k < l.length) (h:(l.getD k default).kind≠4):wishK l rs pol (k+1)=wishK l rs pol k:=by
 unfold wishK
 rw [List.take_succ_eq_append_getElem hk,List.filter_append,List.map_append,← getD_lt l hk,List.filter_cons_of_neg (by simpa using h),List.filter_nil,List.map_nil,List.append_nil]
theorem wishK_len (l:List Dev) (rs:List Rcd) (pol:List ByteArray) (k:Nat):(wishK l rs pol k).length≤l.length:=by
 unfold wishK
 rw [List.length_map]
 exact Nat.le_trans (List.length_filter_le _ _) (by rw [List.length_take];omega)
set_option maxHeartbeats 8000000 in
theorem wishes_okN (l:List Dev) (rs:List Rcd) (pol:List ByteArray) (h:Okp l) (hl:l.length≤1000) (hz:∀ d ∈ l,d.original.size≤1000) (hr:∀ r ∈ rs,r.ok) (hn:(rs.map Rcd.index).Nodup) (hrl:rs.length≤1000) (hp:pol.length≤900000) :
  PCalls Tryz.prog 27 [.agg (trE l),.c (.sl 12 (rs.map Rcd.d)),.c (.sl 1 (pol.map strD))] [] fun r os=>r = .c (.sl 2 ((wishM l rs pol).map Wsh.d))∧os=[]:=by
 have hi:=interf_pure l
 refine pcalls_of Tryz.func27 rfl (by simp [Tryz.ntmps27]) ?_
 rw [Tryz.ntmps27,Tryz.results27]
 push_cast [iO,tN]
 have cB:CutB 16 [17,18,19]:=trivial
 repeat' (first|((first|refine pC ?_|refine pQC ?_|refine pU ?_);push_cast [iO,tN])|(refine pif (fun h=>?_) (fun h=>?_)<;>first|exact pN h|push_cast [iO,tN]))
 (apply pwp_loop3 (α:=Nat) 16 [17,18,19] (fun k=>[(19,.c (.v (.int .i64 k)))]) (fun k=>[(2,.map (some .i64) true (fE (rs.take k)))]) (fun k=>k≤rs.length) (fun k=>rs.length - k) (0);(focus ((try push_cast [iO,tN]);rfl));(focus exact (Nat.zero_le _));(focus ((refine weak_fg ?_;try push_cast [iO,tN]);(try (rfl)))))
 intro k hk
 push_cast [iO,tN]
 by_cases hlt:k < rs.length
 ·have hne:∀ r ∈ rs.take k,r.index≠(rs.getD k default).index:=fun r hr e=>by
   have hnd:((rs.take (k+1)).map Rcd.index).Nodup:=hn.sublist ((List.take_sublist _ _).map _)
   rw [List.take_succ_eq_append_getElem hlt,← getD_lt rs hlt,List.map_append,List.nodup_append] at hnd
   exact hnd.2.2 r.index (List.mem_map.2 ⟨r,hr,rfl⟩) (rs.getD k default).index (by simp) e
  have hput:=fE_put (rs.take k) (rs.getD k default) hne
  have htk:rs.take (k+1)=rs.take k++[rs.getD k default]:=by rw [List.take_succ_eq_append_getElem hlt,← getD_lt rs hlt]
  rw [← htk] at hput
  repeat' (first|((first|refine pC ?_|refine pQC ?_|refine pU ?_);push_cast [iO,tN,hlt])|(refine pif (fun h=>?_) (fun h=>?_)<;>first|exact pN h|push_cast [iO,tN,hlt]))
  exact ⟨k+1,by omega,by ((refine weak_fg ?_;push_cast [iO,tN]);exact hput),by omega⟩
 have hk2:k=rs.length:=by omega
 subst hk2
 rw [List.take_length]
 repeat' (first |  ((refine plc [] (hi) ?_ ?_;push_cast [iO,tN];rintro r os ⟨rfl,rfl⟩;push_cast [iO,tN]))|(refine pwp_seq fun K hK=>?_)|(refine pwp_block ?_)  | ((first|refine pC ?_|refine pQC ?_|refine pU ?_);push_cast [iO,tN])|(refine pif (fun h=>?_) (fun h=>?_)<;>first|exact pN h|push_cast [iO,tN]))
 refine pwp_range (R:=fun lo r os'=>∃ L2 t2,os'=[.box 47 (trE l),.box 34 [.sl 1 (pol.map strD)],.map (some .i64) true (fE rs),.box 100 [.mp 2],.box 26 [.own 7 (wishM l rs pol).length],.box 47 (trE l),.loop lo L2 t2,.arr 36 2 ((wishM l rs pol).map Wsh.d)]∧L2.st = .ready∧L2.pd=none) rfl (by kernel_rfl) (fun lo D fn=>?_) (fun lo r os' hR=>?_)
 ·refine pcalls_of_all Tryz.func100 rfl (by simp [Tryz.ntmps100]) ?_
  rw [Tryz.ntmps100,Tryz.results100]
  push_cast [iO,tN]
  refine pwp_weak (weak_adopt_box 4 0 36 2 (by omega) 26 [.v (.slice none 0 0)] rfl rfl) ?_
  push_cast [iO,tN]
  have cB:CutB 7 [8,9,10]:=trivial
  repeat' (first|((first|refine pC ?_|refine pQC ?_|refine pU ?_);push_cast [iO,tN])|(refine pif (fun h=>?_) (fun h=>?_)<;>first|exact pN h|push_cast [iO,tN]))
  (apply pwp_loop3 (α:=Nat) 7 [8,9,10] (fun k=>[(10,.c (.v (.int .i64 k)))]) (fun k=>[(4,.box 26 [.own 7 (wishK l rs pol k).length]),(7,.arr 36 2 ((wishK l rs pol k).map Wsh.d))]) (fun k=>k≤l.length) (fun k=>l.length - k) (0);(focus ((try push_cast [iO,tN]);rfl));(focus exact (Nat.zero_le _));(focus ((refine weak_fg ?_;try push_cast [iO,tN]);(try (exact ⟨rfl,rfl⟩)))))
  intro k hk
  push_cast [iO,tN]
  by_cases hlt:k < l.length
  case neg =>
   have hk2:k=l.length:=by omega
   subst hk2
   repeat' (first|((first|refine pC ?_|refine pQC ?_|refine pU ?_);push_cast [iO,tN])|(refine pif (fun h=>?_) (fun h=>?_)<;>first|exact pN h|push_cast [iO,tN]))
   exact ⟨_,rfl,by push_cast [iO,tN],_,_,rfl,rfl,rfl⟩
  obtain ⟨d,hd⟩:∃ d,l.getD k default=d:=⟨_,rfl⟩
  have hor:=origin_pure l d.index h hl hz
  have hnl:=wishK_len l rs pol k
  by_cases hkind:d.kind=4
  case neg =>
   have hsk:=wishK_f (rs:=rs) (pol:=pol) hlt (by rw [hd];exact hkind)
   repeat' (first|((first|refine pC ?_|refine pQC ?_|refine pU ?_);push_cast [iO,tN,hd,hkind])|(refine pif (fun h=>?_) (fun h=>?_)<;>first|exact pN h|push_cast [iO,tN,hd,hkind]))
   exact ⟨k+1,by omega,by (refine weak_fg ?_;push_cast [iO,tN,hsk]),by omega⟩
  have hst:=wishK_t (rs:=rs) (pol:=pol) hlt (by rw [hd];exact hkind)
  rw [hd] at hst
  have hsl:(wishK l rs pol (k+1)).length=(wishK l rs pol k).length+1:=by rw [hst,List.length_append,List.length_singleton]
  obtain ⟨u,hu⟩:∃ u,wishK l rs pol k=u:=⟨_,rfl⟩
  rw [hu] at hst hnl hsl ⊢
  repeat' (first|((refine plc [] (hor) ?_ ?_;push_cast [iO,tN,hd,hkind];rintro r os ⟨rfl,rfl⟩;push_cast [iO,tN,hd,hkind]))|((first|refine pC ?_|refine pQC ?_|refine pU ?_);push_cast [iO,tN,hd,hkind])|(refine pif (fun h=>?_) (fun h=>?_)<;>first|exact pN h|push_cast [iO,tN,hd,hkind]))
  refine pl_yield 6 (qs:=[.c (.v (.string (placeM l d.index))),.agg d.e]) rfl rfl rfl (by push_cast [iO,tN]) rfl rfl (by push_cast [iO,tN,hd,hkind]) rfl rfl ?_
  try dsimp only
  push_cast [iO,tN]
  have cB:CutB 16 [29,30,31]:=trivial
  repeat' (first|((first|refine pC ?_|refine pQC ?_|refine pU ?_);push_cast [iO,tN])|(refine pif (fun h=>?_) (fun h=>?_)<;>first|exact pN h|push_cast [iO,tN]))
  simp only [asgQ]
  refine ⟨_,_,rfl,rfl,?_⟩
  try dsimp only
  cases hrec:recO rs d.index with
  | none =>
   have hlk:=fun z=>lk_none z hrec
   have hw:wishD l rs pol d=⟨placeM l d.index,[d.name]⟩:=by unfold wishD;rw [hrec]
   rw [hw] at hst
   repeat' (first|(refine pl_app2 (e:=36) (sz:=2) (by':=40) (rows:=u.map Wsh.d) (ys:=[Wsh.d ⟨placeM l d.index,[d.name]⟩]) 7 rfl (by push_cast [iO,tN,hlk]) (by push_cast [iO,tN,hlk]) (by push_cast [iO,tN,hlk]) (by push_cast [iO,tN,hlk]) (by omega) (by push_cast [iO,tN,hlk]) (by push_cast [iO,tN,hlk]) (by push_cast [iO,tN,hlk]) (by push_cast [iO,tN,hlk]) (by simp) (by push_cast [iO,tN,hlk];omega) (by push_cast [iO,tN,hlk];omega) ?_ ?_<;>(refine pl_of_pops ?_;push_cast [iO,tN,hlk]))|((first|refine pC ?_|refine pQC ?_|refine pU ?_);push_cast [iO,tN,hlk])|(refine pif (fun h=>?_) (fun h=>?_)<;>first|exact pN h|push_cast [iO,tN,hlk]))
   all_goals simp only [yldQ]
   all_goals refine ⟨_,_,rfl,?_⟩
   all_goals push_cast [iO,tN]
   have cB:CutB 7 [8,9,10]:=trivial
   all_goals have cB6:CutB 7 [8,9,10]:=trivial
   all_goals first
    | (refine pl_of_pops ?_;push_cast [iO,tN];(repeat' (first|((first|refine pC ?_|refine pQC ?_|refine pU ?_);push_cast [iO,tN])|(refine pif (fun h=>?_) (fun h=>?_)<;>first|exact pN h|push_cast [iO,tN])));refine ⟨k+1,by omega,?_,by omega⟩;(refine weak_fg ?_;push_cast [iO,tN,hst,hsl]);done)
    | (refine pl_weak (weak_sw 12 (by omega)) ?_;push_cast [iO,tN];refine pl_weak (weak_sw 11 (by omega)) ?_;push_cast [iO,tN];refine pl_weak (weak_sw 10 (by omega)) ?_;push_cast [iO,tN];refine pl_weak (weak_sw 9 (by omega)) ?_;push_cast [iO,tN];refine pl_weak (weak_sw 8 (by omega)) ?_;push_cast [iO,tN];refine pl_weak (weak_sw 7 (by omega)) ?_;push_cast [iO,tN];refine pl_of_pops ?_;push_cast [iO,tN];(repeat' (first|((first|refine pC ?_|refine pQC ?_|refine pU ?_);push_cast [iO,tN])|(refine pif (fun h=>?_) (fun h=>?_)<;>first|exact pN h|push_cast [iO,tN])));refine ⟨k+1,by omega,?_,by omega⟩;(refine weak_fg ?_;push_cast [iO,tN,hst,hsl]);done)
  | some rc =>
   have hlk:=fun z=>lk_some z hrec
   have hrm:rc ∈ rs:=List.mem_of_find?_eq_some hrec
   have hcd:=cand_pure d rc (hr rc hrm) pol hp
   have hw:wishD l rs pol d=⟨placeM l d.index,candM rc pol d.original⟩:=by unfold wishD;rw [hrec]
   rw [hw] at hst
   repeat' (first|((refine plc [] (hcd) ?_ ?_;push_cast [iO,tN,hlk];rintro r os ⟨rfl,rfl⟩;push_cast [iO,tN,hlk]))|(refine pl_app2 (e:=36) (sz:=2) (by':=40) (rows:=u.map Wsh.d) (ys:=[Wsh.d ⟨placeM l d.index,candM rc pol d.original⟩]) 7 rfl (by push_cast [iO,tN,hlk]) (by push_cast [iO,tN,hlk]) (by push_cast [iO,tN,hlk]) (by push_cast [iO,tN,hlk]) (by omega) (by push_cast [iO,tN,hlk]) (by push_cast [iO,tN,hlk]) (by push_cast [iO,tN,hlk]) (by push_cast [iO,tN,hlk]) (by simp) (by push_cast [iO,tN,hlk];omega) (by push_cast [iO,tN,hlk];omega) ?_ ?_<;>(refine pl_of_pops ?_;push_cast [iO,tN,hlk]))|((first|refine pC ?_|refine pQC ?_|refine pU ?_);push_cast [iO,tN,hlk])|(refine pif (fun h=>?_) (fun h=>?_)<;>first|exact pN h|push_cast [iO,tN,hlk]))
   all_goals simp only [yldQ]
   all_goals refine ⟨_,_,rfl,?_⟩
   all_goals push_cast [iO,tN]
   have cB:CutB 7 [8,9,10]:=trivial
   all_goals have cB6:CutB 7 [8,9,10]:=trivial
   all_goals first
    | (refine pl_of_pops ?_;push_cast [iO,tN];(repeat' (first|((first|refine pC ?_|refine pQC ?_|refine pU ?_);push_cast [iO,tN])|(refine pif (fun h=>?_) (fun h=>?_)<;>first|exact pN h|push_cast [iO,tN])));refine ⟨k+1,by omega,?_,by omega⟩;(refine weak_fg ?_;push_cast [iO,tN,hst,hsl]);done)
    | (refine pl_weak (weak_sw 12 (by omega)) ?_;push_cast [iO,tN];refine pl_weak (weak_sw 11 (by omega)) ?_;push_cast [iO,tN];refine pl_weak (weak_sw 10 (by omega)) ?_;push_cast [iO,tN];refine pl_weak (weak_sw 9 (by omega)) ?_;push_cast [iO,tN];refine pl_weak (weak_sw 8 (by omega)) ?_;push_cast [iO,tN];refine pl_weak (weak_sw 7 (by omega)) ?_;push_cast [iO,tN];refine pl_of_pops ?_;push_cast [iO,tN];(repeat' (first|((first|refine pC ?_|refine pQC ?_|refine pU ?_);push_cast [iO,tN])|(refine pif (fun h=>?_) (fun h=>?_)<;>first|exact pN h|push_cast [iO,tN])));refine ⟨k+1,by omega,?_,by omega⟩;(refine weak_fg ?_;push_cast [iO,tN,hst,hsl]);done)
 ·obtain ⟨L2,t2,rfl,h1,h2⟩:=hR
  refine ⟨L2,t2,rfl,by rw [h1];simp,?_⟩
  rw [h2]
  simp only [rngfQ]
  have cB:CutB 16 []:=trivial
  push_cast [iO,tN]
  (refine retK_of [] ?_;push_cast [iO,tN])
set_option maxRecDepth 20000
def Rcd.zero:Rcd:=⟨⟨#[]⟩,0,[],[],[],⟨#[]⟩,0,⟨#[]⟩,⟨#[]⟩,0⟩
theorem rof_some (rs:List Rcd) (n:Int) (rc:Rcd) (h:recO rs n=some rc) (hl:rs.length≤1000000) :
  PCalls Tryz.prog 46 [.c (.sl 12 (rs.map Rcd.d)),.c (.v (.int .i64 n))] [] fun r os=>r = .two (.agg rc.e) (.c (.v (.bool true)))∧os=[]:=by
 refine pcalls_of Tryz.func46 rfl (by simp [Tryz.ntmps46]) ?_
 rw [Tryz.ntmps46,Tryz.results46]
 push_cast [iO,tN]
 have cB:CutB 7 []:=trivial
 repeat' (first|((first|refine pC ?_|refine pQC ?_|refine pU ?_);push_cast [iO,tN])|(refine pif (fun h=>?_) (fun h=>?_)<;>first|exact pN h|push_cast [iO,tN]))
 (apply pwp_loop3 (α:=Nat) 7 [] (fun k=>[(6,.c (.v (.int .i64 k)))]) (fun k=>[]) (fun k=>k≤rs.length∧∀ x ∈ rs.take k,x.index≠n) (fun k=>rs.length - k) (0);(focus ((try push_cast [iO,tN]);rfl));(focus exact ⟨Nat.zero_le _,by simp⟩);(focus ((refine weak_fg ?_;try push_cast [iO,tN]))))
 rintro k ⟨hk,hpre⟩
 push_cast [iO,tN]
 by_cases hlt:k < rs.length
 ·by_cases hq:(rs.getD k default).index=n
  ·have he:rs.getD k default=rc:=by
    unfold recO at h
    rw [← List.take_append_drop k rs,List.find?_append,List.find?_eq_none.2 (fun x hx=>by simpa using hpre x hx),Option.none_or,List.drop_eq_getElem_cons hlt,← getD_lt rs hlt,List.find?_cons_of_pos (by simpa using hq)] at h
    exact Option.some.inj h
   rw [he] at hq
   repeat' (first|((first|refine pC ?_|refine pQC ?_|refine pU ?_);push_cast [iO,tN,he,hq])|(refine pif (fun h=>?_) (fun h=>?_)<;>first|exact pN h|push_cast [iO,tN,he,hq]))
   (refine retK_of [] ?_;push_cast [iO,tN])
  ·repeat' (first|((first|refine pC ?_|refine pQC ?_|refine pU ?_);push_cast [iO,tN,hq])|(refine pif (fun h=>?_) (fun h=>?_)<;>first|exact pN h|push_cast [iO,tN,hq]))
   refine ⟨k+1,⟨by omega,?_⟩,by (refine weak_fg ?_;push_cast [iO,tN]),by omega⟩
   intro x hx
   rw [List.take_succ_eq_append_getElem hlt,List.mem_append,List.mem_singleton] at hx
   rcases hx with hx|hx
   ·exact hpre x hx
   ·rw [hx,← getD_lt rs hlt];exact hq
 ·rw [List.take_of_length_le (by omega)] at hpre
  exfalso
  unfold recO at h
  exact hpre rc (List.mem_of_find?_eq_some h) (by simpa using List.find?_some h)
theorem rof_none (rs:List Rcd) (n:Int) (h:recO rs n=none) (hl:rs.length≤1000000) :
  PCalls Tryz.prog 46 [.c (.sl 12 (rs.map Rcd.d)),.c (.v (.int .i64 n))] [] fun r os=>r = .two (.agg Rcd.zero.e) (.c (.v (.bool false)))∧os=[]:=by
 have hall:∀ x ∈ rs,x.index≠n:=fun x hx=>by
  have:=List.find?_eq_none.1 h x hx
  simpa using this
 refine pcalls_of Tryz.func46 rfl (by simp [Tryz.ntmps46]) ?_
 rw [Tryz.ntmps46,Tryz.results46]
 unfold Rcd.zero
 push_cast [iO,tN]
 have cB:CutB 7 []:=trivial
 repeat' (first|((first|refine pC ?_|refine pQC ?_|refine pU ?_);push_cast [iO,tN])|(refine pif (fun h=>?_) (fun h=>?_)<;>first|exact pN h|push_cast [iO,tN]))
 (apply pwp_loop3 (α:=Nat) 7 [] (fun k=>[(6,.c (.v (.int .i64 k)))]) (fun k=>[]) (fun k=>k≤rs.length) (fun k=>rs.length - k) (0);(focus ((try push_cast [iO,tN]);rfl));(focus exact (Nat.zero_le _));(focus ((refine weak_fg ?_;try push_cast [iO,tN]))))
 rintro k hk
 push_cast [iO,tN]
 by_cases hlt:k < rs.length
 ·have hq:¬ (rs.getD k default).index=n:=hall _ (getD_mem hlt)
  repeat' (first|((first|refine pC ?_|refine pQC ?_|refine pU ?_);push_cast [iO,tN,hq])|(refine pif (fun h=>?_) (fun h=>?_)<;>first|exact pN h|push_cast [iO,tN,hq]))
  exact ⟨k+1,by omega,by (refine weak_fg ?_;push_cast [iO,tN]),by omega⟩
 ·repeat' (first|((first|refine pC ?_|refine pQC ?_|refine pU ?_);push_cast [iO,tN])|(refine pif (fun h=>?_) (fun h=>?_)<;>first|exact pN h|push_cast [iO,tN]))
  (refine retK_of [] ?_;push_cast [iO,tN])
end Go.Proofs.YthconflkbeipoaaGreatDoor
